/- The document's Reduce, walked. -/
import Derived.Test.YtajlkcnlfiikeaaQwC
set_option linter.all false
namespace Ab
open Go Go.RowKit Go.Proofs Qf
set_option maxRecDepth 100000

theorem s_p : PC Try.prog 68 [] (mA .S) := by
  refine pc_body1 true Try.func68 rfl rfl rfl (Nat.le_of_ble_eq_true rfl) (CellT.agg agg_M) ?_
  refine goA ?_
  exact rfl
theorem t_p (k : Int) : PC Try.prog 67 [iV k] (mA (.T k)) := by
  refine pc_body1 true Try.func67 rfl rfl rfl (Nat.le_of_ble_eq_true rfl) (CellT.agg agg_M) ?_
  refine goA ?_
  exact rfl
set_option maxHeartbeats 2000000 in
theorem is_p {g : F} {N : Int} (ha : 0 < g.a) (hB : FBd N g) (hN : N ≤ 4000000000000000000) : PC Try.prog 66 [fA g] (bV (decide g.Red)) := by
  have gb := hB.b
  unfold Bd at gb
  refine pc_body1 true Try.func66 rfl rfl rfl (Nat.le_of_ble_eq_true rfl) CellT.tmp ?_
  refine goA ?_
  by_cases c1 : max g.b (0 - g.b) ≤ g.a
  case neg =>
    have b1 : decide (max g.b (0 - g.b) ≤ g.a) = false := by simpa using c1
    have e : decide g.Red = false := by simp only [decide_eq_false_iff_not]; intro h; have := h.b1; have := h.b2; omega
    rw [e]
    refine goA ?_
    exact rfl
  have b1 : decide (max g.b (0 - g.b) ≤ g.a) = true := by simpa using c1
  by_cases c2 : g.a ≤ g.c
  case neg =>
    have b2 : decide (g.a ≤ g.c) = false := by simpa using c2
    have e : decide g.Red = false := by simp only [decide_eq_false_iff_not]; intro h; have := h.ac; omega
    rw [e]
    refine goA ?_
    exact rfl
  have b2 : decide (g.a ≤ g.c) = true := by simpa using c2
  by_cases c3 : 0 ≤ g.b
  case pos =>
    have b3 : decide (g.b ≥ 0) = true := by simpa using c3
    have e : decide g.Red = true := by simp only [decide_eq_true_eq]; exact ⟨by omega, by omega, c2, fun _ => c3⟩
    rw [e]
    refine goA ?_
    exact rfl
  have b3 : decide (g.b ≥ 0) = false := by simpa using c3
  by_cases c4 : max g.b (0 - g.b) < g.a
  case neg =>
    have b4 : decide (max g.b (0 - g.b) < g.a) = false := by simpa using c4
    have e : decide g.Red = false := by simp only [decide_eq_false_iff_not]; intro h; have := h.b1; omega
    rw [e]
    refine goA ?_
    exact rfl
  have b4 : decide (max g.b (0 - g.b) < g.a) = true := by simpa using c4
  have e : decide g.Red = decide (g.a < g.c) := decide_eq_decide.2 ⟨fun h => by have := h.e; have := h.ac; omega, fun h => ⟨by omega, by omega, c2, fun _ => by omega⟩⟩
  rw [e]
  refine goA ?_
  exact rfl
theorem kk_unique {a b k : Int} (ha : 0 < a) (h1 : -a < b + 2 * a * k) (h2 : b + 2 * a * k ≤ a) : (a - b) / (2 * a) = k := by
  refine ((Int.ediv_emod_unique (r := a - b - 2 * a * k) (by omega)).2 ⟨by omega, by omega, by omega⟩).1
theorem max_tdiv {a y : Int} (ha : 0 < a) (hy : 0 ≤ y) : (1 ≤ max 1 (y.tdiv (2 * a))) ∧ (2 * a * max 1 (y.tdiv (2 * a)) ≤ max (2 * a) y) ∧ max 1 (y.tdiv (2 * a)) ≤ y + 1 := by
  rw [Int.tdiv_eq_ediv_of_nonneg hy]
  have h1 := Int.mul_ediv_add_emod y (2 * a)
  have h2 := Int.emod_nonneg y (show 2 * a ≠ 0 by omega)
  have h3 := Int.ediv_nonneg hy (show (0 : Int) ≤ 2 * a by omega)
  have h4 := Int.ediv_le_self (2 * a) hy
  generalize y / (2 * a) = q at *
  refine ⟨by omega, ?_, by omega⟩
  rcases Int.le_total 1 q with h | h
  · rw [Int.max_eq_right h]; omega
  · rw [Int.max_eq_left h]; omega
theorem by_T {g : F} {k N : Int} (hN : 1 ≤ N) (hN9 : N ≤ 300000000) (hB : FBd N g) (hk : Bd (2 * N) k) (hak : Bd (2 * N) (g.a * k)) : PC Try.prog 40 [fA g, mA (.T k)] (fA (g.by (.T k))) := by
  have hB' := hB.mono hN9
  have hk' := hk.mono (show 2 * N ≤ 600000000 by omega)
  have hak' := hak.mono (show 2 * N ≤ 600000000 by omega)
  have ha := hB'.a
  have hb := hB'.b
  have hc := hB'.c
  have e1 : Bd 1 1 := by unfold Bd; omega
  have e0 : Bd 1 0 := by unfold Bd; omega
  have z1 := bmul ha e1
  have z2 := bmul z1 e1
  have z3 := bmul hb e1
  have z4 := bmul z3 e0
  have z5 := bmul hc e0
  have z6 := bmul z5 e0
  have z7 := bmul hak' hk'
  have z8 := bmul hb hk'
  have z9 := bmul z8 e1
  have z10 := bmul hc e1
  have z11 := bmul z10 e1
  have x1 := bmul (show Bd 600000000 (2 * g.a) by unfold Bd at *; omega) e1
  have x2 := bmul x1 hk'
  have x3 := bmul hb (show Bd 1 (1 * 1 + k * 0) by unfold Bd; omega)
  have x4 := bmul (show Bd 600000000 (2 * g.c) by unfold Bd at *; omega) e0
  have x5 := bmul x4 e1
  exact rby_p (m := .T k) ⟨z1.mono (by decide), z2.mono (by decide), z3.mono (by decide), z4.mono (by decide), z5.mono (by decide), z6.mono (by decide)⟩ ⟨hak'.mono (by decide), z7.mono (by decide), z8.mono (by decide), z9.mono (by decide), z10.mono (by decide), z11.mono (by decide)⟩ (ha.mono (by decide)) (hc.mono (by decide))
    ⟨e1.mono (by decide), hk'.mono (by decide), e0.mono (by decide), e1.mono (by decide)⟩ (x1.mono (by decide)) (x2.mono (by decide)) (x3.mono (by decide)) (x4.mono (by decide)) (x5.mono (by decide))
theorem by_S {g : F} {N : Int} (hN9 : N ≤ 400000000000000000) (hB : FBd N g) : PC Try.prog 40 [fA g, mA .S] (fA (g.by .S)) := by
  have hB' := hB.mono hN9
  have ha := hB'.a
  have hb := hB'.b
  have hc := hB'.c
  unfold Bd at ha hb hc
  exact rby_p (m := .S) ⟨by unfold Bd; simp [M.S], by unfold Bd; simp [M.S], by unfold Bd; simp [M.S], by unfold Bd; simp [M.S], by unfold Bd; simp [M.S]; omega, by unfold Bd; simp [M.S]; omega⟩
    ⟨by unfold Bd; simp [M.S]; omega, by unfold Bd; simp [M.S]; omega, by unfold Bd; simp [M.S]; omega, by unfold Bd; simp [M.S], by unfold Bd; simp [M.S], by unfold Bd; simp [M.S]⟩ (by unfold Bd; omega) (by unfold Bd; omega)
    ⟨by unfold Bd; simp [M.S], by unfold Bd; simp [M.S], by unfold Bd; simp [M.S], by unfold Bd; simp [M.S]⟩ (by unfold Bd; simp [M.S]) (by unfold Bd; simp [M.S]) (by unfold Bd; simp [M.S]; omega) (by unfold Bd; simp [M.S]; omega) (by unfold Bd; simp [M.S])
end Ab
