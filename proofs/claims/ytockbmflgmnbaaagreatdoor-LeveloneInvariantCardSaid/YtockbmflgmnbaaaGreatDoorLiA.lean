/- Polynomials in j: degrees, Horner's rule, sums of powers, told by coefficients. Plain arithmetic. -/
import Derived.Test.YtockbmflgmnbaaaGreatDoorLiM
set_option linter.all false
namespace Ab
open Go Go.RowKit Go.Proofs Hp
set_option maxRecDepth 100000
def pdg (l : List Rat) : Nat := l.length - lead l.reverse
theorem pdg_le (l : List Rat) : pdg l ≤ l.length := Nat.sub_le _ _
theorem rev_len (l : List Rat) : lead l.reverse ≤ l.length := by
 have := Zbt l.reverse
 rwa [List.length_reverse] at this
theorem rev_at {l : List Rat} {i : Nat} (h : i < l.length) : l.reverse[i]? = l[l.length - 1 - i]? := by
 rw [List.getElem?_reverse h]
theorem pdg_zero {l : List Rat} {k : Nat} (h : k < lead l.reverse) : l[l.length - 1 - k]? = some 0 := by
 have h1 := rev_len l
 rw [← rev_at (by omega)]
 exact Zg1 _ _ h
theorem pdg_ne {l : List Rat} {q : Rat} (h : lead l.reverse < l.length) (hq : l[l.length - 1 - lead l.reverse]? = some q) : q ≠ 0 := by
 rw [← rev_at h] at hq
 exact Zdq _ _ hq
theorem pdg_top {l : List Rat} {d : Nat} (h : pdg l = d + 1) : l.getD d 0 ≠ 0 := by
 have h1 := rev_len l
 unfold pdg at h
 have hd : l.length - 1 - lead l.reverse = d := by omega
 rw [List.getD_eq_getElem?_getD]
 cases e : l[d]? with
 | none => rw [List.getElem?_eq_none_iff] at e; omega
 | some q => exact pdg_ne (l := l) (by omega) (by rw [hd, e]; rfl)
theorem ht_su {f : Nat → Rat} {H : Nat} (hH : 1 ≤ H) : ∀ {m : Nat}, (∀ i, i < m → Ht (f i) H) → Ht (su f m) (1 + m * (H + 1))
  | 0, _ => ht0 (by omega)
  | m + 1, h => by
    have h1 := ht_su hH (m := m) (fun i hi => h i (by omega))
    have h2 := h m (by omega)
    rw [su]
    exact (Zg4 h1 h2).mono (by rw [Nat.add_mul]; omega)
theorem jpw_0 (n : Int) : jpw 0 n = if n = 0 then 1 else 0 := by
 unfold jpw
 show (if n + ((0 : Nat) : Int) < 0 then (0 : Rat) else one' (n + ((0 : Nat) : Int)).toNat) = _
 unfold one'
 by_cases h1 : n < 0
 ·rw [if_pos (by omega), if_neg (by omega)]
 ·rw [if_neg (by omega)]
  by_cases h2 : n = 0
  ·rw [if_pos (by omega), if_pos h2]
  ·rw [if_neg (by omega), if_neg h2]
theorem jpw_low {i : Nat} {n : Int} (h : n < -(i : Int)) : jpw i n = 0 := by
 unfold jpw
 rw [if_pos (by omega)]
theorem jpw_top (i : Nat) : jpw i (-(i : Int)) ≠ 0 := by
 unfold jpw
 rw [if_neg (by omega), show (-(i : Int) + (i : Int)).toNat = 0 by omega]
 exact pq_ne jV_ne i
theorem jpw_cf {i N : Nat} {n : Int} (h : n < (N : Int) - i) : cf (-(i : Int)) (tk (pq jV i) N) n = jpw i n := by
 unfold jpw
 by_cases c : n + (i : Int) < 0
 ·rw [if_pos c, Zc9 (by omega)]
 ·rw [if_neg c, cf_tk (by omega) (by omega)]
  congr 1
  omega
theorem one_nc (f : Nat → Rat) (k : Nat) : nc one' f k = f k := by
 unfold nc
 rw [Zf2]
 have e : su (fun j => one' (j + 1) * f (k - (j + 1))) k = 0 := Zc4 fun j _ => by
  unfold one'
  rw [if_neg (by omega), Rat.zero_mul]
 rw [e]
 unfold one'
 rw [if_pos rfl, Rat.one_mul, Rat.add_zero]
 rfl
theorem pq_1 : pq jV 1 = jV := funext fun k => one_nc jV k
theorem jV_cf {N : Nat} {n : Int} (h : n < (N : Int) - 1) : cf (-1) (tk jV N) n = jpw 1 n := by
 have := jpw_cf (i := 1) (N := N) (n := n) h
 rwa [pq_1] at this
theorem cv_jp {i : Nat} (hi : i ≤ 50) (n : Int) : cv (jpw i) (jpw 1) n = jpw (i + 1) n := by
 by_cases hn : n < -200
 ·rw [cv_low hn, jpw_low (by omega)]
 obtain ⟨N, hN⟩ : ∃ N : Nat, (N : Int) = n + 300 := ⟨(n + 300).toNat, by omega⟩
 have e1 : cv (jpw i) (jpw 1) n = cv (cf (-(i : Int)) (tk (pq jV i) N)) (jpw 1) n := cv_left fun a => by
  by_cases h : a < (N : Int) - i
  ·exact .inl (jpw_cf h).symm
  ·exact .inr (jpw_low (by omega))
 have e2 : cv (cf (-(i : Int)) (tk (pq jV i) N)) (jpw 1) n = cv (cf (-(i : Int)) (tk (pq jV i) N)) (cf (-1) (tk jV N)) n := cv_right fun b => by
  by_cases h : b < (N : Int) - 1
  ·exact .inl (jV_cf h).symm
  ·exact .inr (Zc9 (by omega))
 rw [e1, e2, cv_eq (by omega) (by omega)]
 by_cases h : n < -(i : Int) + -1
 ·rw [if_pos h, jpw_low (by omega)]
 ·rw [if_neg h, conv_tk (by omega) (by omega)]
  unfold jpw
  rw [if_neg (by omega), show (n - -(i : Int) - -1).toNat = (n + ((i + 1 : Nat) : Int)).toNat by omega]
  rfl
theorem cv_smull (c : Rat) (A B : Int → Rat) (n : Int) : cv (fun i => c * A i) B n = c * cv A B n := by
 unfold cv
 rw [← su_mul]
 exact Za8 fun j _ => by grind
theorem cv_addl (A B C : Int → Rat) (n : Int) : cv (fun i => A i + B i) C n = cv A C n + cv B C n := by
 rw [cv_comm, cv_add, cv_comm C A, cv_comm C B]
theorem cv_zerol (B : Int → Rat) (n : Int) : cv (fun _ => 0) B n = 0 := Zc4 fun j _ => by rw [Rat.zero_mul]
theorem cv_su (F : Nat → Int → Rat) (B : Int → Rat) (n : Int) : ∀ m, cv (fun a => su (fun i => F i a) m) B n = su (fun i => cv (F i) B n) m
  | 0 => cv_zerol B n
  | m + 1 => by
    show cv (fun a => su (fun i => F i a) m + F m a) B n = _
    rw [cv_addl, cv_su F B n m, su]
def hjn (c : Nat → Rat) (k : Nat) (n : Int) : Rat := su (fun i => c (k - i) * jpw i n) (k + 1)
theorem hjn_0 (c : Nat → Rat) (n : Int) : hjn c 0 n = c 0 * jpw 0 n := by
 unfold hjn
 rw [su, su, Rat.zero_add]
theorem hjn_s {c : Nat → Rat} {k : Nat} (hk : k ≤ 30) (n : Int) : hjn c (k + 1) n = cv (hjn c k) (jpw 1) n + c (k + 1) * jpw 0 n := by
 have e : cv (hjn c k) (jpw 1) n = su (fun i => c (k - i) * jpw (i + 1) n) (k + 1) := by
  show cv (fun a => su (fun i => c (k - i) * jpw i a) (k + 1)) (jpw 1) n = _
  rw [cv_su (fun i a => c (k - i) * jpw i a)]
  exact Za8 fun i hi => by rw [cv_smull, cv_jp (by omega)]
 rw [e]
 unfold hjn
 rw [Zf2, Rat.add_comm]
 congr 1
 exact Za8 fun i hi => by rw [show k + 1 - (i + 1) = k - i by omega]
theorem hjn_low {c : Nat → Rat} {k : Nat} {n : Int} (h : n < -(k : Int)) : hjn c k n = 0 := Zc4 fun i hi => by rw [jpw_low (by omega), Rat.mul_zero]
theorem hjn_top (c : Nat → Rat) (k : Nat) : hjn c k (-(k : Int)) = c 0 * jpw k (-(k : Int)) := by
 unfold hjn
 rw [su, Zc4 fun i hi => by rw [jpw_low (by omega), Rat.mul_zero], Rat.zero_add, Nat.sub_self]
theorem hjn_ht {c : Nat → Rat} {k : Nat} {n : Int} (hk : k ≤ 20) (hn : n + k < 40) (hc : ∀ i, i ≤ k → Ht (c i) 12) : Ht (hjn c k n) 1000 :=
 (ht_su (H := 44) (by decide) fun i hi => (Zbl (hc (k - i) (by omega)) (jpw_ht (i := i) (n := n) (by omega) (by omega)) (by decide)).mono (by decide)).mono (by have := Nat.mul_le_mul_right (44 + 1) (show k + 1 ≤ 21 by omega); omega)
theorem hjn0_ht {c : Nat → Rat} {n : Int} (hc : Ht (c 0) 12) : Ht (hjn c 0 n) 1000 := by
 rw [hjn_0, jpw_0]
 by_cases h : n = 0
 ·rw [if_pos h, Rat.mul_one]; exact hc.mono (by decide)
 ·rw [if_neg h, Rat.mul_zero]; exact ht0 (by decide)
def hpr (P : Nat) (k : Nat) : Int := if k = 0 then 1000 else (P : Int) + 1 - k
def hX (c : Nat → Rat) (P k : Nat) : Option (Int × List Rat) := mkO (hpr P k) (-(k : Int)) (hjn c k)
def hM (c : Nat → Rat) (P k : Nat) : Option (Int × List Rat) := mulR (sF (hX c P k)) (sL (hX c P k)) (-1) (tk jV (P + 1))
def hN (c : Nat → Rat) (k : Nat) : Option (Int × List Rat) := monR (c k) 0 1000
theorem hN_out {c : Nat → Rat} {k : Nat} {K : Nat} (hK : 1 ≤ K) (hc : Ht (c k) K) : Out (hN c k) 1000 (fun n => c k * jpw 0 n) 0 K := by
 unfold hN monR
 rw [if_pos (show MV 0 1000 = true from rfl), if_neg (by decide), show ((1000 : Int) - 0).toNat - 1 = 999 from rfl]
 have hl : (c k :: List.replicate 999 (0 : Rat)).length = 1000 := by rw [List.length_cons, List.length_replicate]
 have o := nrm_out (s := 0) (l := c k :: List.replicate 999 0) (K := K) (by decide) (by rw [hl]; decide) (fun q hq => by
  rcases List.mem_cons.1 hq with h | h
  ·rw [h]; exact hc
  ·rw [(List.mem_replicate.1 h).2]; exact ht0 hK)
 refine o.congr (by rw [hl]; rfl) (fun n hn => ?_) (Int.le_refl _) (Nat.le_refl _)
 rw [jpw_0]
 unfold cf
 by_cases h1 : n < 0
 ·rw [if_pos h1, if_neg (by omega), Rat.mul_zero]
 ·rw [if_neg h1]
  by_cases h2 : n = 0
  ·subst h2
   rw [if_pos rfl, Rat.mul_one]
   rfl
  ·rw [if_neg h2, Rat.mul_zero]
   obtain ⟨i, hi⟩ : ∃ i, (n - 0).toNat = i + 1 := ⟨(n - 0).toNat - 1, by omega⟩
   rw [hi, List.getD_eq_getElem?_getD, List.getElem?_cons_succ, List.getElem?_replicate, if_pos (by omega)]
   rfl
theorem hX_0 {c : Nat → Rat} {P : Nat} (hc : Ht (c 0) 12) : hX c P 0 = hN c 0 := by
 have o := hN_out (c := c) (k := 0) (K := 12) (by decide) hc
 refine (out_mkO (p := 1000) (b' := 0) (f := hjn c 0) (o.congr rfl (fun n _ => (hjn_0 c n).symm) (Int.le_refl _) (Nat.le_refl _)) (by decide) (by decide) (Int.le_refl _)).symm
theorem hX_out {c : Nat → Rat} {P k : Nat} (hP : P ≤ 30) (hk : k ≤ 20) (hc : ∀ i, i ≤ k → Ht (c i) 12) : Out (hX c P k) (hpr P k) (hjn c k) (-(k : Int)) 1000 := by
 unfold hX hpr
 by_cases h0 : k = 0
 ·subst h0
  rw [if_pos rfl]
  exact mkO_out (by omega) (by omega) (by omega) (fun n hn => hjn_low hn) fun n _ _ => hjn0_ht (hc 0 (by omega))
 ·rw [if_neg h0]
  exact mkO_out (by omega) (by omega) (by omega) (fun n hn => hjn_low hn) fun n _ hn => hjn_ht hk (by omega) hc
theorem out_start {x : Option (Int × List Rat)} {p b : Int} {f : Int → Rat} {K : Nat} (h : Out x p f b K) (hb : b < p) (h0 : f b ≠ 0) : sF x = b ∧ x = some (b, sL x) ∧ b + (sL x).length = p ∧ (∀ n, n < p → cf b (sL x) n = f n) ∧ (∀ q, q ∈ sL x → Ht q K) ∧ lead (sL x) = 0 := by
 obtain ⟨s, l, rfl, h2, h3, h4, h5, h6, h7, h8⟩ := h
 have e : s = b := by
  by_cases hs : s ≤ b
  ·omega
  ·exact absurd (by rw [← h6 b hb, Zc9 (by omega)]) h0
 subst e
 exact ⟨rfl, rfl, h3, h6, h7, h8⟩
theorem hM_out {c : Nat → Rat} {P k : Nat} (hP : P ≤ 30) (hk : k < 20) (h0 : c 0 ≠ 0) (hc : ∀ i, i ≤ k → Ht (c i) 12) : Out (hM c P k) ((P : Int) - k) (cv (hjn c k) (jpw 1)) (-((k : Int) + 1)) 3000000 := by
 have o := hX_out hP (by omega) hc
 have hp : -(k : Int) < hpr P k := by unfold hpr; split <;> omega
 have hp2 : (P : Int) - k + 1 ≤ hpr P k ∧ hpr P k ≤ 1000 := by unfold hpr; split <;> omega
 obtain ⟨e1, e2, e3, e4, e5, e6⟩ := out_start o hp (by rw [hjn_top]; exact mul_ne h0 (jpw_top k))
 unfold hM
 rw [e1]
 have v1 : Zai (-(k : Int)) (sL (hX c P k)).length = true := Zan.2 ⟨by omega, by omega, by omega⟩
 have hj : lead (tk jV (P + 1)) = 0 := Zem jV_ne
 have om := mul_out (s := -(k : Int)) (t := -1) (l := sL (hX c P k)) (m := tk jV (P + 1)) (K := 1000) (N := 1100) v1 (Zci (by decide) (by omega)) (by decide) e5 (fun q hq => (Zee (fun i hi => jV_h (by omega)) q hq).mono (by decide)) (by omega)
  (by rw [e6, hj]; omega) (by rw [e6, hj, tk_len]; omega)
 rw [e6, hj, tk_len] at om
 have hmin : min (-(k : Int) + ((0 : Nat) : Int) + (-1 + ((P + 1 : Nat) : Int))) (-1 + ((0 : Nat) : Int) + (-(k : Int) + ((sL (hX c P k)).length : Int))) = (P : Int) - k := by omega
 refine om.congr hmin (fun n hn => ?_) (by omega) (by decide)
 have a1 : cv (cf (-(k : Int)) (sL (hX c P k))) (cf (-1) (tk jV (P + 1))) n = cv (hjn c k) (cf (-1) (tk jV (P + 1))) n := cv_left fun a => by
  by_cases h : a < hpr P k
  ·exact .inl (e4 a h)
  ·exact .inr (Zc9 (by omega))
 have a2 : cv (hjn c k) (cf (-1) (tk jV (P + 1))) n = cv (hjn c k) (jpw 1) n := cv_right fun b => by
  by_cases h : b < (P : Int)
  ·exact .inl (jV_cf (by omega))
  ·exact .inr (hjn_low (by omega))
 rw [a1, a2]
theorem hA_out {c : Nat → Rat} {P k : Nat} (hP : P ≤ 30) (hk : k < 20) (h0 : c 0 ≠ 0) (hc : ∀ i, i ≤ k + 1 → Ht (c i) 12) : Zdt (sF (hM c P k)) (sL (hM c P k)) (sF (hN c (k + 1))) (sL (hN c (k + 1))) 1 = hX c P (k + 1) := by
 have o1 := hM_out hP hk h0 (fun i hi => hc i (by omega))
 have o2 := hN_out (c := c) (k := k + 1) (K := 12) (by decide) (hc _ (Nat.le_refl _))
 obtain ⟨s, l, e1, e2, e3, e4, e5, e6, e7, e8⟩ := o1
 obtain ⟨t, m, k1, k2, k3, k4, k5, k6, k7, k8⟩ := o2
 rw [e1, k1]
 show Zdt s l t m 1 = _
 have o3 := Ze6 (s := s) (t := t) (c := 1) (l := l) (m := m) (K := 3000000) (Zan.2 ⟨e2, by omega, by omega⟩) (Zan.2 ⟨k2, by omega, by omega⟩) (by decide) (by decide) e7 (fun q hq => (k7 q hq).mono (by decide))
 unfold hX
 have hp : hpr P (k + 1) = (P : Int) - k := by unfold hpr; rw [if_neg (by omega)]; omega
 rw [hp]
 refine out_mkO (o3.congr (p' := (P : Int) - k) (f' := hjn c (k + 1)) (b' := -((k + 1 : Nat) : Int)) (K' := 2 * 3000000 + 2) (by omega) (fun n hn => ?_) (by omega) (Nat.le_refl _)) (by omega) (by omega) (Int.le_refl _)
 rw [e6 n hn, k6 n (by omega), hjn_s (by omega)]
 rw [show ((1 : Int) : Rat) = 1 from rfl, Rat.one_mul]
end Ab
