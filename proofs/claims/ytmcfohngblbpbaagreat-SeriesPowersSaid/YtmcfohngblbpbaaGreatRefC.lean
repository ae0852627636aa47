/- Package ref01: Sign, Of, in abstract values. -/
import Derived.Test.YtmcfohngblbpbaaGreatRefB
namespace Ab
open Go Go.RowKit Go.Proofs Hp
set_option maxRecDepth 100000

theorem dgs_len0 {n : Nat} : (((dgs n).length : Int) == 0) = decide (n = 0) := by
  by_cases h : n = 0
  · subst h; simp [dgs_zero]
  · rw [dgs_step h]; simp [h]; omega
theorem refsign_p {a : AV} {k : Nat} {z : Int} (h : IsI a k z) (hk : k ≤ 17592186044416) : PW Tryz.prog 106 [a] (.p (.int .i64 (sgn z))) := by
  have c := rnorm_p h hk
  obtain ⟨cs, rfl, g, ds, rfl, -⟩ := h
  have e0 := dgs_len0 (n := z.natAbs)
  have e1 : (((dgs z.natAbs).map u32).length : Int) = ((dgs z.natAbs).length : Int) := by simp
  rw [← e1] at e0
  unfold encI ci at c
  by_cases h0 : z = 0
  · have hb : (((((dgs z.natAbs).map u32).length : Nat) : Int) == 0) = true := by rw [e0]; simp [h0]
    have es : sgn z = 0 := by rw [h0]; rfl
    rw [es]
    refine pc_body1 true Tryz.func106 rfl rfl rfl (Nat.le_of_ble_eq_true rfl) CellT.tmp ?_
    refine goA ?_
    refine evG ggA (ss_call (InB_of rfl) rfl rfl c) ?_
    refine goA ?_
    exact rfl
  · have hb : (((((dgs z.natAbs).map u32).length : Nat) : Int) == 0) = false := by rw [e0]; simp; omega
    by_cases h1 : z < 0
    · have hb1 : decide (z < 0) = true := by simp [h1]
      have es : sgn z = -1 := by unfold sgn; simp [h1]
      rw [es]
      refine pc_body1 true Tryz.func106 rfl rfl rfl (Nat.le_of_ble_eq_true rfl) CellT.tmp ?_
      refine goA ?_
      refine evG ggA (ss_call (InB_of rfl) rfl rfl c) ?_
      refine goA ?_
      exact rfl
    · have hb1 : decide (z < 0) = false := by simp; omega
      have es : sgn z = 1 := by unfold sgn; first | (simp [h0, h1]; done) | (split <;> first | omega | (split <;> omega))
      rw [es]
      refine pc_body1 true Tryz.func106 rfl rfl rfl (Nat.le_of_ble_eq_true rfl) CellT.tmp ?_
      refine goA ?_
      refine evG ggA (ss_call (InB_of rfl) rfl rfl c) ?_
      refine goA ?_
      exact rfl
end Ab
