/- The statement QuadformReduces: walked. -/
import Derived.Test.YtajlkcnlfiikeaaQwP
set_option linter.all false
namespace Ab
open Go Go.RowKit Go.Proofs Qf
set_option maxRecDepth 100000

theorem slin_p {x : Int} (h : Bd 1073741824 x) : PC Try.prog 106 [iV x] (bV true) := by
  unfold Bd at h
  have k1 : decide (x ≥ -1073741824) = true := by simp; omega
  have k2 : decide (x ≤ 1073741824) = true := by simp; omega
  refine pc_body1 true Try.func106 rfl rfl rfl (Nat.le_of_ble_eq_true rfl) CellT.tmp ?_
  refine goA ?_
  rw [k2]
  exact rfl
theorem fits_p {m : M} (h : MBd 1073741824 m) : PC Try.prog 89 [mA m] (bV true) := by
  have c1 := slin_p h.a
  have c2 := slin_p h.b
  have c3 := slin_p h.c
  have c4 := slin_p h.d
  refine pc_body1 true Try.func89 rfl rfl rfl (Nat.le_of_ble_eq_true rfl) CellT.tmp ?_
  refine goA ?_
  refine evG ggA (ss_call (InB_of rfl) rfl rfl c1) ?_
  refine goA ?_
  refine evG ggA (ss_call (InB_of rfl) rfl rfl c2) ?_
  refine goA ?_
  refine evG ggA (ss_call (InB_of rfl) rfl rfl c3) ?_
  refine goA ?_
  refine evG ggA (ss_call (InB_of rfl) rfl rfl c4) ?_
  refine goA ?_
  exact rfl
theorem det_p {m : M} (h : MBd 1073741824 m) : PC Try.prog 69 [mA m] (.tup [iV m.det, iV 0]) := by
  have c1 := fits_p h
  have q1 := bmul h.a h.d
  have q2 := bmul h.b h.c
  unfold Bd at q1 q2
  refine pc_body2 true Try.func69 rfl rfl rfl (Nat.le_of_ble_eq_true rfl) CellT.tmp CellT.tmp ?_
  refine goA ?_
  refine evG ggA (ss_call (InB_of rfl) rfl rfl c1) ?_
  refine goA ?_
  exact rfl
theorem slcheck_p {m : M} (h : MBd 1073741824 m) (hd : m.det = 1) : PC Try.prog 39 [mA m] (iV 0) := by
  have c1 := det_p h
  rw [hd] at c1
  refine pc_body1 true Try.func39 rfl rfl rfl (Nat.le_of_ble_eq_true rfl) CellT.tmp ?_
  refine goA ?_
  refine evG ggA (ss_call (InB_of rfl) rfl rfl c1) ?_
  refine goA ?_
  exact rfl
def redO (f : F) : AV := if chk f = 0 then .tup [fA f.rd, mA f.rm, iV 0] else .tup [fA ⟨0, 0, 0⟩, mA ⟨0, 0, 0, 0⟩, iV (chk f)]
theorem Reduce_p (f : F) : PC Try.prog 37 [fA f] (redO f) := by
  have c1 := check_p f
  unfold redO
  by_cases h : chk f = 0
  · rw [if_pos h]
    obtain ⟨p, b⟩ := chk_zero h
    have c2 := reduce_p p b (by decide) (by decide)
    rw [h] at c1
    refine pc_body3 true Try.func37 rfl rfl rfl (Nat.le_of_ble_eq_true rfl) (CellT.agg agg_F) (CellT.agg agg_M) CellT.tmp ?_
    refine goA ?_
    refine evG ggA (ss_call (InB_of rfl) rfl rfl c1) ?_
    refine goA ?_
    refine evG ggA (ss_call (InB_of rfl) rfl rfl c2) ?_
    refine goA ?_
    exact rfl
  · rw [if_neg h]
    have k : (chk f != 0) = true := by simpa using h
    generalize chk f = c at *
    refine pc_body3 true Try.func37 rfl rfl rfl (Nat.le_of_ble_eq_true rfl) (CellT.agg agg_F) (CellT.agg agg_M) CellT.tmp ?_
    refine goA ?_
    refine evG ggA (ss_call (InB_of rfl) rfl rfl c1) ?_
    refine goA ?_
    exact rfl
theorem rm_bds {f : F} (p : f.Pos) (b : FBd 10000 f) : MBd 100000 f.rm := by
  obtain ⟨h1, h2, h3⟩ := rd_spec p
  have h := rm_small p b.a.2 b.c.2 h2 (by rw [← h3]; exact h1)
  exact ⟨h.1, h.2.1, h.2.2.1, h.2.2.2⟩
set_option maxHeartbeats 4000000 in
theorem reduces_p (f : F) : PC Try.prog 9 [fA f] (bV true) := by
  have ca := awake_p
  have cr := Reduce_p f
  have cc := rcheck_p f
  unfold redO at cr
  by_cases h : chk f = 0
  case neg =>
    rw [if_neg h] at cr
    have k : (chk f != 0) = true := by simpa using h
    have k2 : (chk f == chk f) = true := by simp
    generalize chk f = c at *
    refine pc_body1 true Try.func9 rfl rfl rfl (Nat.le_of_ble_eq_true rfl) CellT.tmp ?_
    refine goA ?_
    refine evG ggA (ss_call (InB_of rfl) rfl rfl ca) ?_
    refine goA ?_
    refine evG ggA (ss_call (InB_of rfl) rfl rfl cr) ?_
    refine goA ?_
    refine evG ggA (ss_call (InB_of rfl) rfl rfl cc) ?_
    refine goA ?_
    refine evG ggA (ss_eq3 (InB_of rfl) rfl rfl rfl rfl) ?_
    refine goA ?_
    refine evG ggA (ss_eq4 (InB_of rfl) rfl rfl rfl rfl) ?_
    refine goA ?_
    exact rfl
  rw [if_pos h] at cr
  rw [h] at cc
  obtain ⟨p, b⟩ := chk_zero h
  obtain ⟨h1, h2, h3⟩ := rd_spec p
  have mb := rm_bds p b
  have crr := rreduce_p p b (by decide) (by decide)
  have cs := slcheck_p ⟨mb.a.mono (by decide), mb.b.mono (by decide), mb.c.mono (by decide), mb.d.mono (by decide)⟩ h2
  have q2 := bmul (show Bd 20000 (2 * f.a) by have := b.a; unfold Bd at *; omega) mb.a
  have q3 := bmul q2 mb.b
  have q4 := bmul (show Bd 20000 (2 * f.c) by have := b.c; unfold Bd at *; omega) mb.c
  have q5 := bmul q4 mb.d
  have x1 := bmul mb.a mb.d
  have x2 := bmul mb.b mb.c
  have q6 := bmul b.b (show Bd 20000000000 (f.rm.a * f.rm.d + f.rm.b * f.rm.c) by unfold Bd at *; omega)
  have cb := rby_p (vb_of b mb.a mb.c (by decide) (by decide)) (vb_of b mb.b mb.d (by decide) (by decide)) (b.a.mono (by decide)) (b.c.mono (by decide)) ⟨mb.a.mono (by decide), mb.b.mono (by decide), mb.c.mono (by decide), mb.d.mono (by decide)⟩
    (q2.mono (by decide)) (q3.mono (by decide)) (q6.mono (by decide)) (q4.mono (by decide)) (q5.mono (by decide))
  rw [← h3] at cb
  have ma := mb.a
  have mb2 := mb.b
  have mc := mb.c
  have md := mb.d
  clear q2 q3 q4 q5 q6 x1 x2 h1 h2 h3 p b mb h
  generalize f.rd = g at *
  generalize f.rm = m at *
  unfold Bd at *
  have e1 : (!decide ([g.a, g.b, g.c] = [g.a, g.b, g.c])) = false := by simp
  have l1 : decide (m.a < -100000) = false := by simp; omega
  have l2 : decide (m.a > 100000) = false := by simp; omega
  have l3 : decide (m.b < -100000) = false := by simp; omega
  have l4 : decide (m.b > 100000) = false := by simp; omega
  have l5 : decide (m.c < -100000) = false := by simp; omega
  have l6 : decide (m.c > 100000) = false := by simp; omega
  have l7 : decide (m.d < -100000) = false := by simp; omega
  have l8 : decide (m.d > 100000) = false := by simp; omega
  refine pc_body1 true Try.func9 rfl rfl rfl (Nat.le_of_ble_eq_true rfl) CellT.tmp ?_
  refine goA ?_
  refine evG ggA (ss_call (InB_of rfl) rfl rfl ca) ?_
  refine goA ?_
  refine evG ggA (ss_call (InB_of rfl) rfl rfl cr) ?_
  refine goA ?_
  refine evG ggA (ss_call (InB_of rfl) rfl rfl cc) ?_
  refine goA ?_
  refine evG ggA (ss_call (InB_of rfl) rfl rfl crr) ?_
  refine goA ?_
  refine evG ggA (ss_eq3 (InB_of rfl) rfl rfl rfl rfl) ?_
  refine goA ?_
  refine evG ggA (ss_call (InB_of rfl) rfl rfl cs) ?_
  refine goA ?_
  refine evG ggA (ss_build_arr (InB_of rfl) (bla_tab rfl) rfl rfl rfl rfl) ?_
  refine goA ?_
  refine T.unroll 4 ?_
  refine goA ?_
  refine evG ggA (ss_idx (InB_of rfl) rfl rfl rfl (by decide) (by decide) rfl) ?_
  refine goA ?_
  refine evG ggA (ss_idx (InB_of rfl) rfl rfl rfl (by decide) (by decide) rfl) ?_
  refine goA ?_
  refine evG ggA (ss_idx (InB_of rfl) rfl rfl rfl (by decide) (by decide) rfl) ?_
  refine goA ?_
  refine evG ggA (ss_idx (InB_of rfl) rfl rfl rfl (by decide) (by decide) rfl) ?_
  refine goA ?_
  refine evG ggA (ss_call (InB_of rfl) rfl rfl cb) ?_
  refine goA ?_
  refine evG ggA (ss_eq3 (InB_of rfl) rfl rfl rfl rfl) ?_
  refine goA ?_
  rw [decide_eq_true rfl]
  exact rfl
end Ab
