/- The coefficients of sums, products and derivatives of series; plain. -/
import Derived.Test.YtajhaoapcapgeaaGreatDoorInJ
set_option linter.all false
namespace Ab
open Hp
theorem lz {l : List Rat} {i : Nat} (h : i < lead l) : l.getD i 0 = 0 := by rw [List.getD_eq_getElem?_getD, lead_zero l i h]; rfl
theorem cf_drop (s : Int) (l : List Rat) (k : Nat) (hk : k ≤ lead l) (n : Int) : cf (s + k) (l.drop k) n = cf s l n := by
  unfold cf
  by_cases h1 : n < s
  · rw [if_pos (by omega), if_pos h1]
  · rw [if_neg h1]
    by_cases h2 : n < s + k
    · rw [if_pos h2, lz (by omega)]
    · rw [if_neg h2, List.getD_eq_getElem?_getD, List.getD_eq_getElem?_getD, List.getElem?_drop]
      congr 2
      omega
theorem cf_lt {s : Int} {l : List Rat} {n : Int} (h : n < s) : cf s l n = 0 := by unfold cf; rw [if_pos h]
theorem cf_tk {s : Int} {f : Nat → Rat} {N : Nat} {n : Int} (h0 : s ≤ n) (h1 : n < s + N) : cf s (tk f N) n = f (n - s).toNat := by
  unfold cf tk
  rw [if_neg (by omega), List.getD_eq_getElem?_getD, List.getElem?_map, List.getElem?_range (by omega)]
  rfl
/-- what a series that came out is: its precision p, its coefficients below p, a bound from below on its order, heights; it begins with a coefficient that is not 0 -/
def Out (x : Option (Int × List Rat)) (p : Int) (f : Int → Rat) (b : Int) (K : Nat) : Prop :=
  ∃ s l, x = some (s, l) ∧ -100 ≤ s ∧ s + l.length = p ∧ p ≤ 1000 ∧ b ≤ s ∧ (∀ n, n < p → cf s l n = f n) ∧ (∀ q, q ∈ l → Ht q K) ∧ lead l = 0
theorem lead_drop (l : List Rat) : lead (l.drop (lead l)) = 0 := by
  cases h : l.drop (lead l) with
  | nil => rfl
  | cons q r =>
    have hq : q ≠ 0 := lead_ne l q (by rw [show l[lead l]? = (l.drop (lead l))[0]? by simp, h]; rfl)
    unfold lead
    rw [if_neg hq]
theorem nrm_out {s : Int} {l : List Rat} {K : Nat} (h0 : -100 ≤ s) (h1 : s + l.length ≤ 1000) (hK : ∀ q, q ∈ l → Ht q K) : Out (nrm s l) (s + l.length) (cf s l) s K := by
  have a := lead_le l
  refine ⟨_, _, nrm_valid h0 (by omega) (by omega), by omega, by simp; omega, h1, by omega, fun n _ => cf_drop s l _ (Nat.le_refl _) n, fun q hq => hK q (List.mem_of_mem_drop hq), lead_drop l⟩
theorem Out.congr {x : Option (Int × List Rat)} {p p' : Int} {f f' : Int → Rat} {b b' : Int} {K K' : Nat} (h : Out x p f b K) (hp : p = p') (hf : ∀ n, n < p' → f n = f' n) (hb : b' ≤ b) (hK : K ≤ K') : Out x p' f' b' K' := by
  subst hp
  obtain ⟨s, l, h1, h2, h3, h4, h5, h6, h7, h8⟩ := h
  exact ⟨s, l, h1, h2, h3, h4, by omega, fun n hn => by rw [h6 n hn, hf n hn], fun q hq => (h7 q hq).mono hK, h8⟩
/-- sums -/
def su (f : Nat → Rat) : Nat → Rat
  | 0 => 0
  | j + 1 => su f j + f j
theorem su_congr {f g : Nat → Rat} : ∀ {n : Nat}, (∀ j, j < n → f j = g j) → su f n = su g n
  | 0, _ => rfl
  | n + 1, h => by rw [su, su, su_congr (fun j hj => h j (by omega)), h n (by omega)]
theorem su_zero {f : Nat → Rat} : ∀ {n : Nat}, (∀ j, j < n → f j = 0) → su f n = 0
  | 0, _ => rfl
  | n + 1, h => by rw [su, su_zero (fun j hj => h j (by omega)), h n (by omega), Rat.add_zero]
theorem su_add (f g : Nat → Rat) : ∀ n : Nat, su (fun j => f j + g j) n = su f n + su g n
  | 0 => by simp [su, Rat.add_zero]
  | n + 1 => by rw [su, su, su, su_add f g n]; grind
theorem su_mul (c : Rat) (f : Nat → Rat) : ∀ n : Nat, su (fun j => c * f j) n = c * su f n
  | 0 => by simp [su]
  | n + 1 => by rw [su, su, su_mul c f n, Rat.mul_add]
theorem su_split (f : Nat → Rat) (a : Nat) : ∀ k : Nat, su f (a + k) = su f a + su (fun i => f (a + i)) k
  | 0 => by simp [su, Rat.add_zero]
  | k + 1 => by rw [← Nat.add_assoc, su, su_split f a k, su, Rat.add_assoc]
/-- the product of two families -/
def cv (A B : Int → Rat) (n : Int) : Rat := su (fun j => A ((j : Int) - 100) * B (n - ((j : Int) - 100))) (n + 201).toNat
theorem cs_su (l m : List Rat) (k : Nat) : ∀ j, cs l m k j = su (fun i => l.getD i 0 * m.getD (k - i) 0) j
  | 0 => rfl
  | j + 1 => by rw [cs, su, cs_su l m k j]
theorem cv_eq {s t : Int} {l m : List Rat} (hs : -100 ≤ s) (ht : -100 ≤ t) (n : Int) : cv (cf s l) (cf t m) n = if n < s + t then 0 else conv l m (n - s - t).toNat := by
  by_cases hn : n < s + t
  · rw [if_pos hn]
    refine su_zero fun j _ => ?_
    by_cases h : (j : Int) - 100 < s
    · rw [cf_lt h, Rat.zero_mul]
    · rw [cf_lt (s := t) (by omega), Rat.mul_zero]
  · rw [if_neg hn]
    unfold cv conv
    obtain ⟨a, ha⟩ : ∃ a, a = (s + 100).toNat := ⟨_, rfl⟩
    obtain ⟨k, hk⟩ : ∃ k, k = (n - s - t).toNat := ⟨_, rfl⟩
    obtain ⟨r, hr⟩ : ∃ r, (n + 201).toNat = a + ((k + 1) + r) := ⟨(n + 201).toNat - (a + (k + 1)), by omega⟩
    rw [hr, su_split, su_split, ← hk, cs_su]
    rw [su_zero (n := a) (fun j hj => by rw [cf_lt (s := s) (by omega), Rat.zero_mul])]
    rw [su_zero (n := r) (fun j hj => by rw [cf_lt (s := t) (by omega), Rat.mul_zero])]
    rw [Rat.add_zero, Rat.zero_add]
    refine su_congr fun i hi => ?_
    unfold cf
    rw [if_neg (by omega), if_neg (by omega)]
    congr 2 <;> omega
theorem ht_conv {l m : List Rat} {K : Nat} (hK : 1 ≤ K) (hl : ∀ q, q ∈ l → Ht q K) (hm : ∀ q, q ∈ m → Ht q K) {k N : Nat} (hk : k < N) : Ht (conv l m k) ((2 * K + 1) * N + 1) :=
  (ht_cs hK hl hm k (k + 1)).mono (by have := Nat.mul_le_mul_left (2 * K + 1) (show k + 1 ≤ N by omega); omega)
theorem mul_out {s t : Int} {l m : List Rat} {K N : Nat} (hv : ValidP s l.length = true) (hw : ValidP t m.length = true) (hK : 1 ≤ K) (hl : ∀ q, q ∈ l → Ht q K) (hm : ∀ q, q ∈ m → Ht q K) (hN : l.length ≤ N)
    (h0 : -100 ≤ s + lead l + (t + lead m)) (h1 : min (s + lead l + (t + m.length)) (t + lead m + (s + l.length)) ≤ 1000) :
    Out (mulR s l t m) (min (s + lead l + (t + m.length)) (t + lead m + (s + l.length))) (cv (cf s l) (cf t m)) (s + lead l + (t + lead m)) ((2 * K + 1) * N + 1) := by
  obtain ⟨a0, a1, a2⟩ := valid_iff.1 hv
  obtain ⟨b0, b1, b2⟩ := valid_iff.1 hw
  have la := lead_le l
  have lb := lead_le m
  have fa : cf (s + lead l) (l.drop (lead l)) = cf s l := funext fun n => cf_drop s l _ (Nat.le_refl _) n
  have fb : cf (t + lead m) (m.drop (lead m)) = cf t m := funext fun n => cf_drop t m _ (Nat.le_refl _) n
  have e : mulR s l t m = mulN (s + lead l) (l.drop (lead l)) (t + lead m) (m.drop (lead m)) := by unfold mulR; rw [hv, hw]; rfl
  have n1 : (l.drop (lead l)).length = l.length - lead l := by simp
  have n2 : (m.drop (lead m)).length = m.length - lead m := by simp
  have hl' : ∀ q, q ∈ l.drop (lead l) → Ht q K := fun q hq => hl q (List.mem_of_mem_drop hq)
  have hm' : ∀ q, q ∈ m.drop (lead m) → Ht q K := fun q hq => hm q (List.mem_of_mem_drop hq)
  rw [e]
  unfold mulN
  rw [n1, n2, ← fa, ← fb]
  generalize l.drop (lead l) = l' at *
  generalize m.drop (lead m) = m' at *
  obtain ⟨M, hM⟩ : ∃ M, M = mlen (s + lead l + (t + lead m)) (l.length - lead l) (m.length - lead m) := ⟨_, rfl⟩
  rw [← hM]
  unfold mlen at hM
  have hp : s + lead l + (t + lead m) + M = min (s + lead l + (t + m.length)) (t + lead m + (s + l.length)) := by omega
  have := nrm_out (s := s + lead l + (t + lead m)) (l := tk (conv l' m') M) (K := (2 * K + 1) * N + 1) h0 (by rw [tk_len]; omega) (fun q hq => by
    obtain ⟨i, hi, rfl⟩ := tk_mem hq
    exact ht_conv hK hl' hm' (by omega))
  refine this.congr (by rw [tk_len]; exact hp) (fun n hn => ?_) (Int.le_refl _) (Nat.le_refl _)
  rw [cv_eq (by omega) (by omega)]
  by_cases h : n < s + lead l + (t + lead m)
  · rw [if_pos h, cf_lt h]
  · rw [if_neg h, cf_tk (by omega) (by omega)]
    congr 1
    omega
theorem comb_out {s t c : Int} {l m : List Rat} {K : Nat} (hv : ValidP s l.length = true) (hw : ValidP t m.length = true) (hc : c.natAbs < 4294967296) (hK : 1 ≤ K) (hl : ∀ q, q ∈ l → Ht q K) (hm : ∀ q, q ∈ m → Ht q K) :
    Out (combR s l t m c) (min (s + l.length) (t + m.length)) (fun n => cf s l n + c * cf t m n) (min s t) (2 * K + 2) := by
  obtain ⟨a0, a1, a2⟩ := valid_iff.1 hv
  obtain ⟨b0, b1, b2⟩ := valid_iff.1 hw
  have e : combR s l t m c = nrm (cfr s l.length t m.length) (tk (comb s l t m c) (cp s l.length t m.length - cfr s l.length t m.length).toNat) := by unfold combR; rw [hv, hw]; rfl
  rw [e]
  obtain ⟨F, hF⟩ : ∃ F, F = cfr s l.length t m.length := ⟨_, rfl⟩
  obtain ⟨G, hG⟩ : ∃ G, G = cp s l.length t m.length := ⟨_, rfl⟩
  have hcomb : comb s l t m c = fun (i : Nat) => cf s l (F + i) + c * cf t m (F + i) := by rw [hF]; rfl
  have hht : ∀ i, Ht (comb s l t m c i) (2 * K + 2) := ht_comb hK hl hm hc
  rw [← hF, ← hG]
  unfold cp at hG
  unfold cfr cp at hF
  have := nrm_out (s := F) (l := tk (comb s l t m c) (G - F).toNat) (K := 2 * K + 2) (by omega) (by rw [tk_len]; omega) (fun q hq => by
    obtain ⟨i, hi, rfl⟩ := tk_mem hq
    exact hht i)
  refine this.congr (by rw [tk_len]; omega) (fun n hn => ?_) (by omega) (Nat.le_refl _)
  by_cases h : n < F
  · rw [cf_lt h, cf_lt (s := s) (by omega), cf_lt (s := t) (by omega), Rat.mul_zero, Rat.add_zero]
  · rw [cf_tk (by omega) (by omega), hcomb]
    simp only [show F + ((n - F).toNat : Int) = n by omega]
theorem fst_none {P : Nat → Bool} : ∀ (n j : Nat), (∀ i, j ≤ i → i < j + n → P i = false) → fst P n j = none
  | 0, _, _ => rfl
  | n + 1, j, h => by
    unfold fst
    rw [h j (Nat.le_refl _) (by omega)]
    exact fst_none n (j + 1) fun i h1 h2 => h i (by omega) (by omega)
end Ab
