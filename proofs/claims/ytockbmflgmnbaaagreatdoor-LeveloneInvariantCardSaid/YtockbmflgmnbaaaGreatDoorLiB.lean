/- Sums of powers of j, cuts, and the peeling of a series, told by coefficients. Plain arithmetic. -/
import Derived.Test.YtockbmflgmnbaaaGreatDoorLiA
set_option linter.all false
namespace Ab
open Go Go.RowKit Go.Proofs Hp
set_option maxRecDepth 100000
def dsm (l : List Rat) (k : Nat) (n : Int) : Rat := su (fun i => l.getD i 0 * jpw i n) k
def dX (l : List Rat) (p : Int) (k : Nat) : Option (Int × List Rat) := mkO p (-20) (dsm l k)
theorem dsm_low {l : List Rat} {k : Nat} (hk : k ≤ 21) {n : Int} (h : n < -20) : dsm l k n = 0 := Zc4 fun i hi => by rw [jpw_low (by omega), Rat.mul_zero]
theorem dsm_ht {l : List Rat} {k : Nat} {n : Int} (hk : k ≤ 21) (hn : n ≤ 8) (hl : ∀ q, q ∈ l → Ht q 12) : Ht (dsm l k n) 1000 :=
 (ht_su (H := 44) (by decide) fun i hi => (Zbl (Zca (by decide) hl i) (jpw_ht (i := i) (n := n) (by omega) (by omega)) (by decide)).mono (by decide)).mono (by have := Nat.mul_le_mul_right (44 + 1) hk; omega)
theorem dX_out {l : List Rat} {p : Int} {k : Nat} (hp : 1 ≤ p ∧ p ≤ 8) (hk : k ≤ 21) (hl : ∀ q, q ∈ l → Ht q 12) : Out (dX l p k) p (dsm l k) (-20) 1000 :=
 mkO_out (by omega) (by omega) (by omega) (fun n hn => dsm_low hk hn) fun n _ hn => dsm_ht hk (by omega) hl
theorem dX_0 {l : List Rat} {p : Int} (hp : 1 ≤ p ∧ p ≤ 8) : dX l p 0 = some (p, []) := by
 have o : Out (some (p, ([] : List Rat))) p (dsm l 0) p 1 := ⟨p, [], rfl, by omega, by simp, by omega, by omega, fun n hn => by rw [Zc9 hn]; rfl, fun q hq => (by cases hq), rfl⟩
 exact (out_mkO o (by decide) (by omega) (by omega)).symm
def dT (l : List Rat) (N i : Nat) : Option (Int × List Rat) := sclR (l.getD i 0) (-(i : Int)) (tk (pq jV i) N)
theorem dT_out {l : List Rat} {N i : Nat} (hN : N ≤ 39) (hi : i ≤ 20) (hl : ∀ q, q ∈ l → Ht q 12) : Out (dT l N i) ((N : Int) - i) (fun n => l.getD i 0 * jpw i n) (-(i : Int)) 44 := by
 have o := scl_out (c := l.getD i 0) (s := -(i : Int)) (l := tk (pq jV i) N) (k := 12) (K := 32) (Zci (by omega) (by omega)) (Zca (by decide) hl i) (by decide) (by decide) (Zee fun a ha => jp_ht hi (by omega))
 refine o.congr (by rw [tk_len]; omega) (fun n hn => ?_) (Int.le_refl _) (by decide)
 show l.getD i 0 * cf _ _ n = _
 rw [jpw_cf hn]
theorem dA_out {l : List Rat} {p : Int} {N k : Nat} (hp : 1 ≤ p ∧ p ≤ 8) (hk : k ≤ 20) (hN : N ≤ 39) (hpN : p + k ≤ N) (hl : ∀ q, q ∈ l → Ht q 12) : Zdt (sF (dX l p k)) (sL (dX l p k)) (sF (dT l N k)) (sL (dT l N k)) 1 = dX l p (k + 1) := by
 obtain ⟨s, u, e1, e2, e3, e4, e5, e6, e7, e8⟩ := dX_out hp (show k ≤ 21 by omega) hl
 obtain ⟨t, m, k1, k2, k3, k4, k5, k6, k7, k8⟩ := dT_out hN hk hl (l := l)
 rw [e1, k1]
 show Zdt s u t m 1 = _
 have o3 := Ze6 (s := s) (t := t) (c := 1) (l := u) (m := m) (K := 1000) (Zan.2 ⟨e2, by omega, by omega⟩) (Zan.2 ⟨k2, by omega, by omega⟩) (by decide) (by decide) e7 (fun q hq => (k7 q hq).mono (by decide))
 refine out_mkO (o3.congr (p' := p) (f' := dsm l (k + 1)) (b' := -20) (K' := 2 * 1000 + 2) (by omega) (fun n hn => ?_) (by omega) (Nat.le_refl _)) (by omega) (by omega) (Int.le_refl _)
 rw [e6 n hn, k6 n (by omega), show ((1 : Int) : Rat) = 1 from rfl, Rat.one_mul]
 rfl
theorem dsm_hjn (l : List Rat) (d : Nat) (n : Int) : dsm l (d + 1) n = hjn (fun k => l.getD (d - k) 0) d n :=
 Za8 fun i hi => by
  show _ = l.getD (d - (d - i)) 0 * _
  rw [show d - (d - i) = i by omega]
theorem cut_out {s p : Int} {l : List Rat} {P b : Int} {f : Int → Rat} {K : Nat} (h : Out (some (s, l)) P f b K) (h1 : p ≤ P) (h0 : -100 ≤ p) : Out (cutR s l p) p f (min b p) K := by
  obtain ⟨s', l', e, h2, h3, h4, h5, h6, h7, h8⟩ := h
  injection e with e
  injection e with e1 e2
  subst e1 e2
  unfold cutR
  rw [show Zai s l.length = true from Zan.2 ⟨h2, by omega, by omega⟩, decide_eq_true h0, if_pos (show (true && true) = true from rfl)]
  unfold cutS
  by_cases c1 : s + (l.length : Int) ≤ p
  · rw [if_pos c1]
    unfold tdy
    rw [h8, List.drop_zero]
    exact ⟨_, _, rfl, by omega, by omega, by omega, by omega, fun n hn => by rw [show s + ((0 : Nat) : Int) = s by omega]; exact h6 n (by omega), h7, h8⟩
  · rw [if_neg c1]
    by_cases c2 : p ≤ s
    · rw [if_pos c2]
      refine ⟨_, _, rfl, h0, by simp, by omega, by omega, fun n hn => ?_, fun q hq => (by cases hq), rfl⟩
      rw [Zc9 hn, ← h6 n (by omega), Zc9 (by omega)]
    · rw [if_neg c2]
      have hl : lead (l.take (p - s).toNat) = 0 := by
        cases l with
        | nil => simp at c1; omega
        | cons q r =>
          obtain ⟨j, hj⟩ : ∃ j, (p - s).toNat = j + 1 := ⟨(p - s).toNat - 1, by omega⟩
          rw [hj, List.take_succ_cons]
          unfold lead at h8 ⊢
          by_cases hq : q = 0
          · rw [if_pos hq] at h8; omega
          · rw [if_neg hq]
      unfold tdy
      rw [hl, List.drop_zero]
      refine ⟨_, _, rfl, by omega, by rw [List.length_take]; omega, by omega, by omega, fun n hn => ?_, fun q hq => h7 q (List.mem_of_mem_take hq), hl⟩
      rw [show s + ((0 : Nat) : Int) = s by omega, ← h6 n (by omega)]
      unfold cf
      by_cases c3 : n < s
      · rw [if_pos c3, if_pos c3]
      · rw [if_neg c3, if_neg c3, List.getD_eq_getElem?_getD, List.getD_eq_getElem?_getD, List.getElem?_take, if_pos (by omega)]
theorem hd_cut {l : List Rat} {P d : Nat} {p : Int} (hd : d ≤ 20) (hP : P ≤ 30) (hp : -100 ≤ p) (h8 : p ≤ 8) (h1 : p + d ≤ P) (hl : ∀ q, q ∈ l → Ht q 12) :
  cutR (sF (hX (fun k => l.getD (d - k) 0) P d)) (sL (hX (fun k => l.getD (d - k) 0) P d)) p = cutR (sF (dX l (max p 1) (d + 1))) (sL (dX l (max p 1) (d + 1))) p ∧ ∃ b, Out (cutR (sF (dX l (max p 1) (d + 1))) (sL (dX l (max p 1) (d + 1))) p) p (dsm l (d + 1)) b 1000 := by
 have o1 := hX_out (c := fun k => l.getD (d - k) 0) hP hd fun i _ => Zca (by decide) hl _
 have o2 := dX_out (l := l) (p := max p 1) (k := d + 1) (by omega) (by omega) hl
 have hp1 : p ≤ hpr P d := by unfold hpr; split <;> omega
 obtain ⟨s, u, e1, -⟩ := id o1
 obtain ⟨t, v, e2, -⟩ := id o2
 rw [e1] at o1 ⊢
 rw [e2] at o2 ⊢
 have a1 := cut_out o1 hp1 hp
 have a2 := cut_out o2 (by omega) hp
 exact ⟨Out.eq (a1.congr rfl (fun n _ => (dsm_hjn l d n).symm) (Int.le_refl _) (Nat.le_refl _)) a2, _, a2⟩
theorem out_mkX {x : Option (Int × List Rat)} {p b b' : Int} {f : Int → Rat} {K : Nat} (h : Out x p f b K) (h0 : -100 ≤ b') (h1 : b' ≤ p) (hz : ∀ n, n < b' → f n = 0) : x = mkO p b' f := by
 obtain ⟨s, l, e1, e2, e3, e4, e5, e6, e7, e8⟩ := id h
 exact Out.eq h (mkO_out (K := K + 1) h0 h1 e4 hz fun n _ hp => by
  rw [← e6 n hp]
  exact ht_cf (by omega) (fun q hq => (e7 q hq).mono (by omega)) n)
theorem xk_go {α : Int → Rat} {m N : Nat} {p : Int} (hm : m ≤ 20) (hp : p + m ≤ 38) (hp0 : 1 ≤ p) (h0 : ∀ n, n < -(m : Int) → α n = 0) {k : Nat} (hk : k ≤ m) (hN0 : p + m ≤ N) (hN1 : N ≤ 39)
  {s t : Int} {l r : List Rat} (f2 : -100 ≤ s) (f3 : s + l.length = p) (f6 : ∀ n, n < p → cf s l n = rk α m k n) (f7 : ∀ q, q ∈ l → Ht q (rkH k)) (hc : Ht (ck α m k) (rkH k))
  (e2 : sclR (ck α m k) (-((m : Int) - k)) (tk (pq jV (m - k)) N) = some (t, r)) : Zdt s l t r (-1) = xk α m p (k + 1) ∧ (∀ q, q ∈ r → Ht q (rkH k + 32)) ∧ Zai t r.length = true ∧ -100 ≤ t ∧ t + r.length ≤ 1000 := by
 have hpos := Zc8 k
 have o2 := scl_out (c := ck α m k) (s := -((m : Int) - k)) (l := tk (pq jV (m - k)) N) (k := rkH k) (K := 32) (Zci (by omega) (by omega)) hc (by omega) (by decide) (Zee fun i hi => jp_ht (by omega) (by omega))
 rw [e2, tk_len] at o2
 obtain ⟨t', r', k1, k2, k3, k4, k5, k6, k7, k8⟩ := o2
 injection k1 with k1
 injection k1 with g1 g2
 subst g1 g2
 have v1 : Zai s l.length = true := Zan.2 ⟨f2, by omega, by omega⟩
 have v2 : Zai t r.length = true := Zan.2 ⟨k2, by omega, by omega⟩
 have o3 := Ze6 (s := s) (t := t) (c := -1) (l := l) (m := r) (K := rkH k + 32) v1 v2 (by decide) (by omega) (fun q hq => (f7 q hq).mono (by omega)) k7
 refine ⟨?_, k7, v2, k2, by omega⟩
 refine out_mkX (o3.congr (p' := p) (f' := rk α m (k + 1)) (b' := min s t) (K' := 2 * (rkH k + 32) + 2) (by omega) (fun n hn => ?_) (Int.le_refl _) (Nat.le_refl _)) (by omega) (by omega) (rk_low h0 _ (by omega))
 show _ = rk α m k n - rk α m k (-((m : Int) - k)) * jpw (m - k) n
 rw [f6 n hn, k6 n (by omega)]
 have e3 : cf (-((m : Int) - k)) (tk (pq jV (m - k)) N) n = jpw (m - k) n := by
  have := jpw_cf (i := m - k) (N := N) (n := n) (by omega)
  rwa [show ((m - k : Nat) : Int) = (m : Int) - k by omega] at this
 show rk α m k n + ((-1 : Int) : Rat) * (ck α m k * cf (-((m : Int) - k)) (tk (pq jV (m - k)) N) n) = _
 rw [e3, neg1Q]
 unfold ck
 grind
theorem mon_some {c : Rat} (h : c ≠ 0) : monR c 0 1000 = some (0, c :: List.replicate 999 0) := by
 unfold monR
 rw [if_pos (show MV 0 1000 = true from rfl), if_neg (by decide), show ((1000 : Int) - 0).toNat - 1 = 999 from rfl, Zd9 (by decide) (by decide) (by simp), lead00 (by show c ≠ 0; exact h)]
 rfl
theorem xk_end {α : Int → Rat} {m : Nat} {p : Int} (hm : m ≤ 20) (hp : p + m ≤ 38) (hp0 : 1 ≤ p) (h0 : ∀ n, n < -(m : Int) → α n = 0)
  {s : Int} {l : List Rat} (f2 : -100 ≤ s) (f3 : s + l.length = p) (f6 : ∀ n, n < p → cf s l n = rk α m m n) (f7 : ∀ q, q ∈ l → Ht q (rkH m)) (hc : Ht (ck α m m) (rkH m)) (hz : ck α m m ≠ 0) : Zdt s l 0 (ck α m m :: List.replicate 999 0) (-1) = xk α m p (m + 1) := by
 have hpos := Zc8 m
 have o2 := hN_out (c := fun _ => ck α m m) (k := 0) (K := rkH m) (by omega) hc
 unfold hN at o2
 rw [mon_some hz] at o2
 obtain ⟨t', r', k1, k2, k3, k4, k5, k6, k7, k8⟩ := o2
 injection k1 with k1
 injection k1 with g1 g2
 generalize ck α m m :: List.replicate 999 0 = r at *
 subst g1 g2
 have v1 : Zai s l.length = true := Zan.2 ⟨f2, by omega, by omega⟩
 have v2 : Zai 0 r.length = true := Zan.2 ⟨k2, by omega, by omega⟩
 have o3 := Ze6 (s := s) (t := 0) (c := -1) (l := l) (m := r) (K := rkH m) v1 v2 (by decide) (by omega) f7 k7
 refine out_mkX (o3.congr (p' := p) (f' := rk α m (m + 1)) (b' := min s 0) (K' := 2 * rkH m + 2) (by omega) (fun n hn => ?_) (Int.le_refl _) (Nat.le_refl _)) (by omega) (by omega) (rk_low h0 _ (by omega))
 show _ = rk α m m n - rk α m m (-((m : Int) - m)) * jpw (m - m) n
 rw [f6 n hn, k6 n (by omega), neg1Q, Nat.sub_self]
 unfold ck
 grind
def pkL (α : Int → Rat) (m : Nat) : List Rat := (List.range (m + 1)).map fun i => ck α m (m - i)
theorem pkL_len (α : Int → Rat) (m : Nat) : (pkL α m).length = m + 1 := by simp [pkL]
theorem pkL_ht {α : Int → Rat} {m : Nat} {p : Int} (hm : m ≤ 20) (hp : p + m ≤ 40) (hp0 : 1 ≤ p) (hα : ∀ n, n < p → Ht (α n) 12) : ∀ q, q ∈ pkL α m → Ht q 104857600 := fun q hq => by
 obtain ⟨i, hi, rfl⟩ := List.mem_map.1 hq
 exact (ck_ht hm hp hp0 hα (show m - i ≤ m by omega)).mono (rkH_le (by omega))
end Ab
