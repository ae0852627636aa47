/- The statement QuadformComposes: walked. -/
import Derived.Test.YtajlkcnlfiikeaaQwX
set_option linter.all false
namespace Ab
open Go Go.RowKit Go.Proofs Qf
set_option maxRecDepth 100000

set_option maxHeartbeats 2000000 in
theorem rcancompose_p (f g : F) : PC Try.prog 15 [fA f, fA g] (iV (compC f g)) := by
  have c1 := rcheck_p f
  have c2 := rcheck_p g
  unfold compC
  by_cases h1 : chk f = 0
  case neg =>
    rw [if_pos h1]
    have k1 : (chk f != 0) = true := by simpa using h1
    generalize chk f = q at *
    refine pc_body1 true Try.func15 rfl rfl rfl (Nat.le_of_ble_eq_true rfl) CellT.tmp ?_
    refine goA ?_
    refine evG ggA (ss_call (InB_of rfl) rfl rfl c1) ?_
    refine goA ?_
    exact rfl
  rw [if_neg (by simpa using h1)]
  by_cases h2 : chk g = 0
  case neg =>
    rw [if_pos h2]
    have k1 : (chk g != 0) = true := by simpa using h2
    rw [h1] at c1
    generalize chk g = q at *
    refine pc_body1 true Try.func15 rfl rfl rfl (Nat.le_of_ble_eq_true rfl) CellT.tmp ?_
    refine goA ?_
    refine evG ggA (ss_call (InB_of rfl) rfl rfl c1) ?_
    refine goA ?_
    refine evG ggA (ss_call (InB_of rfl) rfl rfl c2) ?_
    refine goA ?_
    exact rfl
  rw [if_neg (by simpa using h2)]
  obtain ⟨p1, b1⟩ := chk_zero h1
  obtain ⟨p2, b2⟩ := chk_zero h2
  rw [h1] at c1
  rw [h2] at c2
  have d1 := rdisc_p b1 (by decide)
  have d2 := rdisc_p b2 (by decide)
  have t1 := primitive_p (b1.mono (by decide))
  have t2 := primitive_p (b2.mono (by decide))
  have q1 := ctI_pos p1.a
  have q2 := ctI_pos p2.a
  clear h1 h2 p1 p2 b1 b2
  refine pc_body1 true Try.func15 rfl rfl rfl (Nat.le_of_ble_eq_true rfl) CellT.tmp ?_
  refine goA ?_
  refine evG ggA (ss_call (InB_of rfl) rfl rfl c1) ?_
  refine goA ?_
  refine evG ggA (ss_call (InB_of rfl) rfl rfl c2) ?_
  refine goA ?_
  refine evG ggA (ss_call (InB_of rfl) rfl rfl d1) ?_
  refine runA ?_
  by_cases h3 : f.disc < -4000
  case pos =>
    rw [if_pos (.inl h3)]
    have k : decide (f.disc < -4000) = true := by simpa using h3
    refine goA ?_
    exact rfl
  have k3 : decide (f.disc < -4000) = false := by simpa using h3
  refine goA ?_
  refine evG ggA (ss_call (InB_of rfl) rfl rfl d2) ?_
  refine runA ?_
  by_cases h4 : g.disc < -4000
  case pos =>
    rw [if_pos (.inr h4)]
    have k : decide (g.disc < -4000) = true := by simpa using h4
    refine goA ?_
    exact rfl
  have k4 : decide (g.disc < -4000) = false := by simpa using h4
  rw [if_neg (by omega)]
  by_cases h5 : 1 < ctI f
  case pos =>
    rw [if_pos (.inl h5)]
    rw [show decide (ctI f = 1) = false by simp; omega] at t1
    refine goA ?_
    refine evG ggA (ss_call (InB_of rfl) rfl rfl t1) ?_
    refine goA ?_
    exact rfl
  rw [show decide (ctI f = 1) = true by simp; omega] at t1
  by_cases h6 : 1 < ctI g
  case pos =>
    rw [if_pos (.inr h6)]
    rw [show decide (ctI g = 1) = false by simp; omega] at t2
    refine goA ?_
    refine evG ggA (ss_call (InB_of rfl) rfl rfl t1) ?_
    refine goA ?_
    refine evG ggA (ss_call (InB_of rfl) rfl rfl t2) ?_
    refine goA ?_
    exact rfl
  rw [show decide (ctI g = 1) = true by simp; omega] at t2
  rw [if_neg (by omega)]
  refine goA ?_
  refine evG ggA (ss_call (InB_of rfl) rfl rfl t1) ?_
  refine goA ?_
  refine evG ggA (ss_call (InB_of rfl) rfl rfl t2) ?_
  refine goA ?_
  refine evG ggA (ss_call (InB_of rfl) rfl rfl d1) ?_
  refine goA ?_
  refine evG ggA (ss_call (InB_of rfl) rfl rfl d2) ?_
  refine runA ?_
  by_cases h7 : f.disc = g.disc
  case neg =>
    rw [if_pos h7]
    have k : (f.disc != g.disc) = true := by simpa using h7
    refine goA ?_
    exact rfl
  have k7 : (f.disc != g.disc) = false := by simpa using h7
  rw [if_neg (by simpa using h7)]
  refine goA ?_
  exact rfl
set_option maxHeartbeats 2000000 in
theorem composes_p (f g : F) : PC Try.prog 3 [fA f, fA g] (bV true) := by
  have ca := awake_p
  have cc := rcancompose_p f g
  by_cases h : compC f g = 0
  case neg =>
    have c1 := (Compose_p f g).2 h
    have k : (compC f g != 0) = true := by simpa using h
    have k2 : (compC f g == compC f g) = true := by simp
    generalize compC f g = c at *
    refine pc_body1 true Try.func3 rfl rfl rfl (Nat.le_of_ble_eq_true rfl) CellT.tmp ?_
    refine goA ?_
    refine evG ggA (ss_call (InB_of rfl) rfl rfl ca) ?_
    refine goA ?_
    refine evG ggA (ss_call (InB_of rfl) rfl rfl c1) ?_
    refine goA ?_
    refine evG ggA (ss_call (InB_of rfl) rfl rfl cc) ?_
    refine goA ?_
    refine evG ggA (ss_eq3 (InB_of rfl) rfl rfl rfl rfl) ?_
    refine goA ?_
    exact rfl
  obtain ⟨r, hr, c1⟩ := (Compose_p f g).1 h
  have c2 := rcompose_p (compC_zero h) hr
  rw [h] at cc
  have e1 : decide ([r.a, r.b, r.c] = [r.a, r.b, r.c]) = true := by simp
  refine pc_body1 true Try.func3 rfl rfl rfl (Nat.le_of_ble_eq_true rfl) CellT.tmp ?_
  refine goA ?_
  refine evG ggA (ss_call (InB_of rfl) rfl rfl ca) ?_
  refine goA ?_
  refine evG ggA (ss_call (InB_of rfl) rfl rfl c1) ?_
  refine goA ?_
  refine evG ggA (ss_call (InB_of rfl) rfl rfl cc) ?_
  refine goA ?_
  refine evG ggA (ss_call (InB_of rfl) rfl rfl c2) ?_
  refine goA ?_
  refine evG ggA (ss_eq3 (InB_of rfl) rfl rfl rfl rfl) ?_
  refine goA ?_
  rw [e1]
  exact rfl
end Ab
