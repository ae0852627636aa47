/- The statement SeriesField, plain: the results of the calls. -/
import Derived.Test.YtmcfohngblbpbaaFldM
namespace Ab
open Go Go.RowKit Go.Proofs Hp
theorem mul_norm {s t : Int} {A B : List Rat} (hv : ValidP s A.length = true) (hw : ValidP t B.length = true) (hA : lead A = 0) (hB : lead B = 0) (hl : A.length = B.length) (hst : s + t + A.length ≤ 1000) : mulR s A t B = nrm (s + t) (tk (conv A B) A.length) := by
  unfold mulR
  rw [hv, hw, hA, hB]
  simp only [Bool.and_self, if_true, List.drop_zero, Int.natCast_zero, Int.add_zero]
  unfold mulN mlen
  rw [← hl, show (max 0 (min (min (A.length : Int) A.length) (1000 - (s + t)))).toNat = A.length by omega]
theorem nrm_norm {s : Int} {A : List Rat} (h0 : -100 ≤ s) (h1 : s + A.length ≤ 1000) (hA : lead A = 0) : nrm s A = some (s, A) := by
  rw [nrm_valid h0 (by omega) (by omega), hA]
  simp
theorem lead_pow {A : List Rat} (h0 : A.getD 0 0 ≠ 0) (n : Int) (m : Nat) : lead (powL A n m) = 0 := lead00 (by
  unfold powL
  rw [mil_get0]
  exact rpw_ne (bas_ne h0 n) _)
theorem small_mul {m sa : Int} {k : Nat} (hm : m.natAbs ≤ k) (h0 : sa.natAbs ≤ 16) : (m * sa).natAbs ≤ k * 16 := by
  rw [Int.natAbs_mul]
  exact Nat.mul_le_mul hm h0
theorem pow_res {s : Int} {l : List Rat} (hv : ValidP s l.length = true) (hn : l.length ≤ 12) (hA : l.drop (lead l) ≠ []) (h0 : (l.drop (lead l)).getD 0 0 ≠ 0) (hsa : (s + (lead l : Int)).natAbs ≤ 16) {m : Int} (hm : m.natAbs ≤ 6) : powT s l m = (m * (s + lead l), powL (l.drop (lead l)) m ((l.drop (lead l)).length - 1), 0) := by
  have hb := small_mul hm hsa
  have hld : (l.drop (lead l)).length ≤ l.length := by rw [List.length_drop]; omega
  have hA0 : 0 < (l.drop (lead l)).length := List.length_pos_iff.2 hA
  unfold powT
  rw [hv, decide_eq_true (show -200 ≤ m by omega), decide_eq_true (show m ≤ 200 by omega)]
  simp only [Bool.and_self, if_true]
  rw [if_neg hA, nrm_norm (by omega) (by unfold powL; rw [mil_len]; omega) (lead_pow h0 _ _)]
  rfl
theorem pow_prod {A : List Rat} {sa m n : Int} (h0 : A.getD 0 0 ≠ 0) (hN : 0 < A.length) (hn : A.length ≤ 12) (hsa : sa.natAbs ≤ 16) (hm : m.natAbs ≤ 3) (hn3 : n.natAbs ≤ 3) : mulR (m * sa) (powL A m (A.length - 1)) (n * sa) (powL A n (A.length - 1)) = some ((m + n) * sa, powL A (m + n) (A.length - 1)) := by
  have b1 := small_mul hm hsa
  have b2 := small_mul hn3 hsa
  have l1 : ∀ k, (powL A k (A.length - 1)).length = A.length := fun k => by unfold powL; rw [mil_len]; omega
  have v1 : ∀ k : Int, (k * sa).natAbs ≤ 48 → ValidP (k * sa) (powL A k (A.length - 1)).length = true := fun k hk => valid_iff.2 ⟨by omega, by omega, by rw [l1]; omega⟩
  rw [mul_norm (v1 m b1) (v1 n b2) (lead_pow h0 _ _) (lead_pow h0 _ _) (by rw [l1, l1]) (by rw [l1]; omega), l1, pow_mul h0 hN, ← Int.add_mul]
  have b3 : ((m + n) * sa).natAbs ≤ 6 * 16 := small_mul (by omega) hsa
  exact nrm_norm (by omega) (by rw [l1]; omega) (lead_pow h0 _ _)
theorem inv_res {s : Int} {l : List Rat} (hv : ValidP s l.length = true) (hn : l.length ≤ 12) (hA : l.drop (lead l) ≠ []) (h0 : (l.drop (lead l)).getD 0 0 ≠ 0) (hsa : (s + (lead l : Int)).natAbs ≤ 16) : invT s l = (-(s + lead l), ivs (l.drop (lead l)) (l.drop (lead l)).length, 0) := by
  have hld : (l.drop (lead l)).length ≤ l.length := by rw [List.length_drop]; omega
  have hA0 : 0 < (l.drop (lead l)).length := List.length_pos_iff.2 hA
  have hI : lead (ivs (l.drop (lead l)) (l.drop (lead l)).length) = 0 := lead00 (by
    rw [ivs_get _ _ 0 hA0, if_pos rfl]
    exact bas_ne (n := -1) h0 |> fun h => by unfold bas at h; rw [if_pos (by decide)] at h; exact h)
  unfold invT
  rw [hv]
  simp only [if_true]
  rw [if_neg hA, nrm_norm (by omega) (by rw [ivs_len]; omega) hI]
  rfl
theorem inv_prod {s : Int} {l : List Rat} (hv : ValidP s l.length = true) (hn : l.length ≤ 12) (hA : l.drop (lead l) ≠ []) (h0 : (l.drop (lead l)).getD 0 0 ≠ 0) (hsa : (s + (lead l : Int)).natAbs ≤ 16) : mulR s l (-(s + lead l)) (ivs (l.drop (lead l)) (l.drop (lead l)).length) = some (0, tk one' (l.drop (lead l)).length) := by
  have hld : (l.drop (lead l)).length ≤ l.length := by rw [List.length_drop]; omega
  have hA0 : 0 < (l.drop (lead l)).length := List.length_pos_iff.2 hA
  have hI : lead (ivs (l.drop (lead l)) (l.drop (lead l)).length) = 0 := lead00 (by
    rw [ivs_get _ _ 0 hA0, if_pos rfl]
    exact bas_ne (n := -1) h0 |> fun h => by unfold bas at h; rw [if_pos (by decide)] at h; exact h)
  have hlA : lead (l.drop (lead l)) = 0 := lead_drop l
  have e : mulR s l (-(s + lead l)) (ivs (l.drop (lead l)) (l.drop (lead l)).length) = mulR (s + lead l) (l.drop (lead l)) (-(s + lead l)) (ivs (l.drop (lead l)) (l.drop (lead l)).length) := by
    have hla := lead_le l
    obtain ⟨a0, a1, a2⟩ := valid_iff.1 hv
    have v2 : ValidP (s + lead l) (l.drop (lead l)).length = true := valid_iff.2 ⟨by omega, by omega, by rw [List.length_drop]; omega⟩
    unfold mulR
    rw [hv, v2, hlA]
    simp
  rw [e, mul_norm (valid_iff.2 ⟨by omega, by omega, by omega⟩) (valid_iff.2 ⟨by omega, by omega, by rw [ivs_len]; omega⟩) hlA hI (by rw [ivs_len]) (by omega), inv_mul h0, show s + (lead l : Int) + -(s + lead l) = 0 by omega]
  refine nrm_norm (by decide) (by rw [tk_len]; omega) (lead00 ?_)
  obtain ⟨M, hM⟩ : ∃ M, (l.drop (lead l)).length = M + 1 := ⟨(l.drop (lead l)).length - 1, by omega⟩
  rw [hM, tk_getD (by omega)]
  decide
/-- heights of Miller's recurrence -/
theorem ht_mil2 {A : List Rat} {c : Rat} {n : Int} (hA : ∀ q, q ∈ A → Ht q 4) (hc : Ht c 49) (n0 : -200 ≤ n) (n1 : n ≤ 200) : ∀ m, m ≤ 11 → ∀ i, i < m + 1 → Ht ((mil A c n m).getD i 0) (100 * 2 ^ i)
  | 0, _, i, h => by
    obtain rfl : i = 0 := by omega
    exact hc.mono (by decide)
  | m + 1, hm, i, h => by
    have ih := ht_mil2 hA hc n0 n1 m (by omega)
    have hl := mil_len A c n m
    rw [mil, getD_snoc, hl]
    by_cases hi : i < m + 1
    · rw [if_pos hi]; exact ih i hi
    · obtain rfl : i = m + 1 := by omega
      rw [if_neg hi, if_pos rfl]
      have key : ∀ j, j ≤ m + 1 → Ht (msum A (mil A c n m) n (m + 1) j) (1 + 6 * j + (100 * 2 ^ (m + 1) - 100 * 2 ^ (m + 1 - j))) := by
        intro j
        induction j with
        | zero => intro _; exact (ht0 (Nat.le_refl 1)).mono (by omega)
        | succ j ihj =>
          intro hj
          have hb : -300000 ≤ ((j : Int) + 1) * n ∧ ((j : Int) + 1) * n ≤ 300000 := by
            have h3 : (((j : Int) + 1) * n).natAbs ≤ 1100 * 200 := by
              rw [Int.natAbs_mul]
              exact Nat.mul_le_mul (by omega) (by omega)
            omega
          have hx := ih (m + 1 - (j + 1)) (by omega)
          have e : 100 * 2 ^ (m + 1 - j) = 2 * (100 * 2 ^ (m + 1 - (j + 1))) := by
            rw [show m + 1 - j = (m + 1 - (j + 1)) + 1 by omega, Nat.pow_succ]
            omega
          have hle : 100 * 2 ^ (m + 1 - j) ≤ 100 * 2 ^ (m + 1) := Nat.mul_le_mul_left _ (Nat.pow_le_pow_right (by decide) (by omega))
          exact (ht_add (ihj (by omega)) (ht_mul (ht_int (c := ((j : Int) + 1) * n - ((m + 1 : Nat) : Int) + ((j : Int) + 1)) (by omega)) (ht_mul (getD_ht (K := 4) (by decide) hA (j + 1)) hx (by decide)) (Nat.le_refl 1))).mono (by omega)
      have h1 := key (m + 1) (Nat.le_refl _)
      have h0 : Ht (1 / A.getD 0 0) 4 := by rw [Rat.div_def, Rat.one_mul]; exact ht_inv (getD_ht (by decide) hA 0) (by decide)
      refine (ht_dv (ht_mul h0 h1 (by decide)) (ht_n m (by omega)) (by omega) (Nat.le_refl 1)).mono ?_
      have h2 : 100 * 2 ^ 1 ≤ 100 * 2 ^ (m + 1) := Nat.mul_le_mul_left _ (Nat.pow_le_pow_right (by decide) (by omega))
      have h3 : 2 ^ (m + 1 - (m + 1)) = 1 := by rw [Nat.sub_self]
      rw [h3]
      omega
theorem powL_ht2 {A : List Rat} {n : Int} (hA : ∀ q, q ∈ A → Ht q 4) (hn : n.natAbs ≤ 12) {m : Nat} (hm : m ≤ 11) : ∀ q, q ∈ powL A n m → Ht q 3000000 := by
  have hc : Ht (rpw (bas (A.getD 0 0) n) n.natAbs) 49 := (ht_rpw (K := 4) (by decide) (ht_bas (by decide) (getD_ht (by decide) hA 0) n) n.natAbs).mono (by omega)
  refine mem_ht (mil_len _ _ _ m) fun i hi => (ht_mil2 hA hc (by omega) (by omega) m hm i hi).mono ?_
  have : 2 ^ i ≤ 2 ^ 11 := Nat.pow_le_pow_right (by decide) (by omega)
  omega
end Ab
