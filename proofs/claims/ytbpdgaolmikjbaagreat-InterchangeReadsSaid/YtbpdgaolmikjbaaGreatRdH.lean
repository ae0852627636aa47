/- Integers of any size read: the law. -/
import Derived.Test.YtbpdgaolmikjbaaGreatRdG
set_option linter.all false
namespace Ab
open Go Go.RowKit Go.Proofs Hp
theorem r_big (l : List Nat) (hl : By l) (hn : l.length ≤ 1000000000) (b : Bool) (lv : Int) : ∃ (v : BI) (l' : List Nat) (b' : Bool), PCM false Tryz.prog 130 [.ptr 100 0] (RR l b lv) true (.v (.agg v.cs)) (RR l' b' lv) ∧ v.ok ∧ (∃ j, l' = l.drop j) ∧ (b = true → b' = true) ∧ (b' = false → 1 + 4 * v.ds.length + l'.length ≤ l.length) ∧
    ∀ w tail, w.ok → b = false → l = eB w ++ tail → v = w ∧ l' = tail ∧ b' = false := by
  obtain ⟨n, l', b1, c, h1, h2, h3, h4, h5⟩ := r_number l hl b lv
  have hl' := Zaw h2
  have back : ∀ (w : BI) (tail : List Nat), w.ok → b = false → l = eB w ++ tail → n = 2 * w.ds.length + (if w.g then 1 else 0) ∧ l' = w.ds.flatMap e4 ++ tail ∧ b1 = false := fun w tail hw hb e => by
    unfold eB at e
    rw [List.append_assoc] at e
    exact h5 _ _ (by have := hw.2; split <;> omega) hb e
  have f4 : ∀ ds : List Int, (ds.flatMap e4).length = 4 * ds.length := by
    intro ds
    induction ds with
    | nil => rfl
    | cons a ds ih => rw [List.flatMap_cons, List.length_append, ih]; simp [e4]; omega
  by_cases hgt : l'.length / 4 < n / 2
  · refine ⟨⟨false, []⟩, l', true, big_no c h1 (by omega) hgt, ⟨fun d hd => (by cases hd), Nat.zero_le _⟩, h2, fun _ => rfl, fun h => (by cases h), fun w tail hw hb e => ?_⟩
    obtain ⟨g1, g2, -⟩ := back w tail hw hb e
    have := congrArg List.length g2
    rw [List.length_append, f4] at this
    split at g1 <;> omega
  · have hle : n / 2 ≤ l'.length / 4 := by omega
    have hby : By l' := by
      obtain ⟨j, rfl⟩ := h2
      exact hl.drop j
    cases b1 with
    | true =>
      refine ⟨_, l', true, big_bad c h1 (by omega) hle, ⟨fun d hd => ?_, by show (List.replicate _ _).length ≤ _; rw [List.length_replicate]; omega⟩, h2, fun _ => rfl, fun h => (by cases h), fun w tail hw hb e => ?_⟩
      · rw [List.eq_of_mem_replicate hd]; omega
      · obtain ⟨-, -, g⟩ := back w tail hw hb e
        cases g
    | false =>
      have h4 := h4 rfl
      have hd := Zfh (n / 2) l' (by omega)
      refine ⟨_, _, false, big_ok c hby h1 (by omega) hle, ⟨digs_ok _ _ hby, by show (digs _ _).length ≤ _; rw [hd]; omega⟩, ?_, h3, fun _ => ?_, fun w tail hw hb e => ?_⟩
      · obtain ⟨j, rfl⟩ := h2
        exact ⟨j + 4 * (n / 2), by rw [List.drop_drop]⟩
      · show 1 + 4 * (digs _ _).length + _ ≤ _
        rw [hd, List.length_drop]; omega
      · obtain ⟨g1, g2, -⟩ := back w tail hw hb e
        obtain ⟨g, ds⟩ := w
        have g1 : n = 2 * ds.length + (if g then 1 else 0) := g1
        have g2 : l' = ds.flatMap e4 ++ tail := g2
        have e2 : n / 2 = ds.length := by split at g1 <;> omega
        have e3 : (n % 2 != 0) = g := by
          cases g
          · have : n % 2 = 0 := by simp at g1; omega
            rw [this]; rfl
          · have : n % 2 = 1 := by simp at g1; omega
            rw [this]; rfl
        rw [e2, e3, g2, digs_flat ds tail hw.1, ← f4, List.drop_left]
        exact ⟨rfl, rfl, rfl⟩
end Ab
