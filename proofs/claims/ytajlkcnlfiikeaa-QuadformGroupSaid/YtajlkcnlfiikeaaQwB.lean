/- Reduction of forms, walked: quadform.reduce and the document's. -/
import Derived.Test.YtajlkcnlfiikeaaQwA
set_option linter.all false
namespace Ab
open Go Go.RowKit Go.Proofs Qf
set_option maxRecDepth 100000

theorem floor_eq {x y : Int} (hy : 0 < y) : x / y = if x.tmod y < 0 then x.tdiv y - 1 else x.tdiv y := by
  rcases Int.le_total 0 x with h | h
  · rw [Int.tmod_eq_emod_of_nonneg h, Int.tdiv_eq_ediv_of_nonneg h]
    rw [if_neg (by have := Int.emod_nonneg x (show y ≠ 0 by omega); omega)]
  · obtain ⟨z, rfl⟩ : ∃ z, x = -z := ⟨-x, by omega⟩
    have hz : 0 ≤ z := by omega
    rw [Int.neg_tmod, Int.neg_tdiv, Int.tmod_eq_emod_of_nonneg hz, Int.tdiv_eq_ediv_of_nonneg hz]
    have h1 := Int.emod_nonneg z (show y ≠ 0 by omega)
    have h2 := Int.emod_lt_of_pos z hy
    have h3 := Int.mul_ediv_add_emod z y
    by_cases h0 : z % y = 0
    · rw [if_neg (by omega)]
      refine ((Int.ediv_emod_unique (r := 0) hy).2 ⟨?_, by omega, by omega⟩).1
      rw [Int.mul_neg]
      omega
    · rw [if_pos (by omega)]
      refine ((Int.ediv_emod_unique (r := y - z % y) hy).2 ⟨?_, by omega, by omega⟩).1
      rw [Int.mul_sub, Int.mul_neg]
      omega
theorem tdiv_bd {x y N : Int} (h : Bd N x) : Bd N (x.tdiv y) := by
  unfold Bd at *
  have h1 : (x.tdiv y).natAbs ≤ x.natAbs := by rw [Int.natAbs_tdiv]; exact Nat.div_le_self _ _
  generalize x.tdiv y = q at *
  omega
theorem floor_p {x y : Int} (hy : 0 < y) (hx : Bd 1000000000000000000 x) : PC Try.prog 83 [iV x, iV y] (iV (x / y)) := by
  have hb := tdiv_bd (y := y) hx
  unfold Bd at hx hb
  rw [floor_eq hy]
  refine pc_body1 true Try.func83 rfl rfl rfl (Nat.le_of_ble_eq_true rfl) CellT.tmp ?_
  refine goA ?_
  refine evG ggA (ss_div (InB_of rfl) rfl rfl (by omega) (w64 (by omega) (by omega))) ?_
  refine goA ?_
  refine evG ggA (ss_div (op := .rem) (InB_of rfl) rfl rfl (by omega) rfl) ?_
  refine runA ?_
  by_cases h : x.tmod y < 0
  · rw [if_pos h]
    have hc : decide (x.tmod y < 0) = true := by simp; omega
    refine goA ?_
    exact rfl
  · rw [if_neg h]
    have hc : decide (x.tmod y < 0) = false := by simp; omega
    refine goA ?_
    exact rfl
/-- values of a form, and the products on the way -/
structure VB (f : F) (x y : Int) : Prop where
  a1 : Bd 1000000000000000000 (f.a * x)
  a2 : Bd 1000000000000000000 (f.a * x * x)
  b1 : Bd 1000000000000000000 (f.b * x)
  b2 : Bd 1000000000000000000 (f.b * x * y)
  c1 : Bd 1000000000000000000 (f.c * y)
  c2 : Bd 1000000000000000000 (f.c * y * y)
theorem vb_of {f : F} {x y A X : Int} (hA : FBd A f) (hx : Bd X x) (hy : Bd X y) (h1 : A * X ≤ 1000000000000000000) (h2 : A * X * X ≤ 1000000000000000000) : VB f x y :=
  ⟨(bmul hA.a hx).mono h1, (bmul (bmul hA.a hx) hx).mono h2, (bmul hA.b hx).mono h1, (bmul (bmul hA.b hx) hy).mono h2, (bmul hA.c hy).mono h1, (bmul (bmul hA.c hy) hy).mono h2⟩
theorem rvalue_p {f : F} {x y : Int} (h : VB f x y) : PC Try.prog 20 [fA f, iV x, iV y] (iV (f.val x y)) := by
  obtain ⟨h1, h2, h3, h4, h5, h6⟩ := h
  unfold Bd at *
  refine pc_body1 true Try.func20 rfl rfl rfl (Nat.le_of_ble_eq_true rfl) CellT.tmp ?_
  refine goA ?_
  exact rfl
theorem agg_F : AggT Try.prog 23 3 := agg_tab rfl
theorem agg_M : AggT Try.prog 67 4 := agg_tab rfl
theorem rby_p {f : F} {m : M} (h1 : VB f m.a m.c) (h2 : VB f m.b m.d) (e3 : Bd 1000000000000000000 f.a) (e4 : Bd 1000000000000000000 f.c) (hm : MBd 1000000000 m) (k1 : Bd 1000000000000000000 (2 * f.a * m.a)) (k2 : Bd 1000000000000000000 (2 * f.a * m.a * m.b)) (k3 : Bd 1000000000000000000 (f.b * (m.a * m.d + m.b * m.c)))
    (k4 : Bd 1000000000000000000 (2 * f.c * m.c)) (k5 : Bd 1000000000000000000 (2 * f.c * m.c * m.d)) : PC Try.prog 40 [fA f, mA m] (fA (f.by m)) := by
  have c1 := rvalue_p h1
  have c2 := rvalue_p h2
  have e1 := bmul hm.a hm.d
  have e2 := bmul hm.b hm.c
  clear h1 h2 hm
  unfold Bd at *
  refine pc_body1 true Try.func40 rfl rfl rfl (Nat.le_of_ble_eq_true rfl) (CellT.agg agg_F) ?_
  refine goA ?_
  refine evG ggA (ss_call (InB_of rfl) rfl rfl c1) ?_
  refine goA ?_
  refine evG ggA (ss_call (InB_of rfl) rfl rfl c2) ?_
  refine goA ?_
  exact rfl
end Ab
