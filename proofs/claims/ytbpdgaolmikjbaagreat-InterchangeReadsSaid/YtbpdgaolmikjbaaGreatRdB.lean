/- Numbers read: what is read of what was written; what is left. -/
import Derived.Test.YtbpdgaolmikjbaaGreatRdA
set_option linter.all false
namespace Ab
open Go Go.RowKit Go.Proofs Hp
theorem pw7 (k : Nat) : 2 ^ (7 * (k + 1)) = 2 ^ (7 * k) * 128 := by
 rw [show 7 * (k + 1) = 7 * k + 7 by omega, Nat.pow_add]
theorem rdN_eN : ∀ (m k n : Nat) (tail : List Nat), k ≤ 9 → (0 < k → m ≠ 0) → n + m * 2 ^ (7 * k) < 2 ^ 64 → rdN k n (eN m ++ tail) = (n + m * 2 ^ (7 * k), tail, false) := by
  intro m
  induction m using Nat.strongRecOn with
  | _ m ih =>
    intro k n tail hk h0 hb
    have h9 : k = 9 → m ≤ 1 := fun e => by
      subst e
      have : (2 : Nat) ^ (7 * 9) = 9223372036854775808 := by decide
      rw [this] at hb
      omega
    by_cases hm : m < 128
    · rw [eN_lt hm]
      show rdN k n (m :: tail) = _
      rw [rdN, if_neg (by omega), if_pos hm, Nat.mod_eq_of_lt hm]
      have : (m == 0 && decide (0 < k)) = false := by
        by_cases hk0 : 0 < k
        · simp [h0 hk0]
        · simp [hk0]
      rw [this]
    · rw [eN_ge hm]
      show rdN k n ((m % 128 + 128) :: (eN (m / 128) ++ tail)) = _
      have hk9 : k ≠ 9 := fun e => by have := h9 e; omega
      have e1 : (m % 128 + 128) % 128 = m % 128 := by omega
      have e2 : m % 128 * 2 ^ (7 * k) + m / 128 * 2 ^ (7 * (k + 1)) = m * 2 ^ (7 * k) := by
        rw [pw7, Nat.mul_comm (2 ^ (7 * k)) 128, ← Nat.mul_assoc, ← Nat.add_mul]
        congr 1
        omega
      rw [rdN, if_neg (by omega), if_neg (by omega), e1, ih (m / 128) (by omega) (k + 1) _ tail (by omega) (fun _ => by omega) (by rw [Nat.add_assoc, e2]; exact hb), Nat.add_assoc, e2]
theorem rdN_left : ∀ (l : List Nat) (k n : Nat), (∃ j, (rdN k n l).2.1 = l.drop j) ∧ ((rdN k n l).2.2 = false → (rdN k n l).2.1.length < l.length)
  | [], k, n => ⟨⟨0, rfl⟩, fun h => by rw [rdN] at h; cases h⟩
  | c :: l, k, n => by
    rw [rdN]
    by_cases h1 : k = 9 ∧ 1 < c
    · rw [if_pos h1]
      exact ⟨⟨1, rfl⟩, fun h => (by cases h)⟩
    · rw [if_neg h1]
      by_cases h2 : c < 128
      · rw [if_pos h2]
        exact ⟨⟨1, rfl⟩, fun _ => by simp⟩
      · rw [if_neg h2]
        obtain ⟨⟨j, e⟩, h3⟩ := rdN_left l (k + 1) (n + c % 128 * 2 ^ (7 * k))
        exact ⟨⟨j + 1, by rw [e]; rfl⟩, fun h => by have := h3 h; simp only [List.length_cons]; omega⟩
theorem rdN_lt : ∀ (l : List Nat) (k n : Nat), k ≤ 9 → n < 2 ^ (7 * k) → (rdN k n l).1 < 18446744073709551616
  | [], k, n, _, _ => by rw [rdN]; decide
  | c :: l, k, n, hk, hn => by
    rw [rdN]
    by_cases h1 : k = 9 ∧ 1 < c
    · rw [if_pos h1]; show 0 < 18446744073709551616; omega
    · rw [if_neg h1]
      obtain ⟨b1, b2⟩ := rd_lt hk hn h1
      by_cases h2 : c < 128
      · rw [if_pos h2]; exact b1
      · rw [if_neg h2]
        have hk9 : k < 9 := by
          rcases Nat.lt_or_ge k 9 with h | h
          · exact h
          · exfalso; exact h1 ⟨by omega, by omega⟩
        exact rdN_lt l (k + 1) _ (by omega) (b2 hk9)
theorem By.drop {l : List Nat} (h : By l) (j : Nat) : By (l.drop j) := fun c hc => h c (List.mem_of_mem_drop hc)
theorem r_number (l : List Nat) (hl : By l) (b : Bool) (lv : Int) : ∃ (n : Nat) (l' : List Nat) (b' : Bool), PCM false Tryz.prog 129 [.ptr 100 0] (RR l b lv) true (.v (qV' n)) (RR l' b' lv) ∧ n < 18446744073709551616 ∧ (∃ j, l' = l.drop j) ∧ (b = true → b' = true) ∧ (b' = false → l'.length < l.length) ∧
    ∀ m tail, m < 18446744073709551616 → b = false → l = eN m ++ tail → n = m ∧ l' = tail ∧ b' = false := by
  cases b with
  | true => exact ⟨0, l, true, rdn_bad l lv, by decide, ⟨0, rfl⟩, fun _ => rfl, fun h => (by cases h), fun m tail _ h => (by cases h)⟩
  | false =>
    obtain ⟨h1, h2⟩ := rdN_left l 0 0
    refine ⟨_, _, _, rdn_p l hl lv, rdN_lt l 0 0 (by omega) (by decide), h1, fun h => (by cases h), h2, fun m tail hm _ e => ?_⟩
    subst e
    rw [rdN_eN m 0 0 tail (by omega) (fun h => by omega) (by simpa using hm)]
    simp
end Ab
