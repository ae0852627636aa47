/- The statement LeveloneDelta: walked; no condition beyond the range of its arguments. -/
import Derived.Test.YtdbkmjahbgcjbaaGreatDoorLe
set_option linter.all false
namespace Ab
open Go Go.RowKit Go.Proofs Hp
set_option maxRecDepth 100000
theorem delT_form (p : Int) : ∃ (s : Int) (l : List Rat) (e : Int), delT p = .tup [serA s (l.map encQ), iV e] ∧ (∀ q, q ∈ l → Ht q 2) ∧ l.length ≤ 1000 := by
  unfold delT
  cases h : insB p with
  | false => exact ⟨0, [], 2, rfl, fun q hq => by simp at hq, by decide⟩
  | true =>
    refine ⟨_, _, 0, rfl, ?_, ?_⟩
    · unfold delL
      split
      · intro q hq; simp at hq
      · exact ht_tk fun i _ => dV_ht i
    · unfold insB at h
      simp at h
      unfold delL
      split
      · simp
      · simp; omega
theorem jT_form {p : Int} (h : p ≤ 38 ∨ 998 < p) : ∃ (s : Int) (l : List Rat) (e : Int), jT p = .tup [serA s (l.map encQ), iV e] ∧ (∀ q, q ∈ l → Ht q 5) ∧ l.length ≤ 1000 := by
  unfold jT
  cases h1 : (decide (p < -100) || decide (p > 998)) with
  | true => exact ⟨0, [], 2, rfl, fun q hq => by simp at hq, by decide⟩
  | false =>
    simp at h1
    rw [if_neg (by decide)]
    by_cases h2 : p < 0
    · rw [if_pos h2]
      exact ⟨p, [], 0, rfl, fun q hq => by simp at hq, by decide⟩
    · rw [if_neg h2]
      exact ⟨_, _, 0, rfl, ht_tk fun i hi => jV_h (by omega), by simp; omega⟩
theorem tauT_form (n : Int) : ∃ (z : Int) (e : Int), tauT n = .tup [encI z, iV e] ∧ z.natAbs < pw 2 := by
 unfold tauT
 split
 ·exact ⟨0, 2, rfl, by decide⟩
 ·exact ⟨_, 0, rfl, tau_lt n⟩
set_option maxHeartbeats 4000000 in
theorem leveloneDelta_p (k : Int) (k0 : -9223372036854775808 ≤ k) (k1 : k ≤ 9223372036854775807) (p : Int) (p0 : -9223372036854775808 ≤ p) (p1 : p ≤ 9223372036854775807) (n : Int) (n0 : -9223372036854775808 ≤ n) (n1 : n ≤ 9223372036854775807) :
    PC Tryz.prog 3 [iV k, iV p, iV n] (bV true) := by
  have aw := l39awake_p
  have g1 := l39long_p p 30
  have g2 := l39long_p n 60
  cases h1 : l39L p 30 with
  | true =>
    rw [h1] at g1
    refine pc_body1 true Tryz.func3 rfl rfl rfl (Nat.le_of_ble_eq_true rfl) CellT.tmp ?_
    refine goA ?_
    refine evG ggA (ss_call (InB_of rfl) rfl rfl g1) ?_
    refine goA ?_
    refine evG ggA (ss_call (InB_of rfl) rfl rfl aw) ?_
    refine goA ?_
    exact rfl
  | false =>
  rw [h1] at g1
  cases h2 : l39L n 60 with
  | true =>
    rw [h2] at g2
    refine pc_body1 true Tryz.func3 rfl rfl rfl (Nat.le_of_ble_eq_true rfl) CellT.tmp ?_
    refine goA ?_
    refine evG ggA (ss_call (InB_of rfl) rfl rfl g1) ?_
    refine goA ?_
    refine evG ggA (ss_call (InB_of rfl) rfl rfl g2) ?_
    refine goA ?_
    refine evG ggA (ss_call (InB_of rfl) rfl rfl aw) ?_
    refine goA ?_
    exact rfl
  | false =>
  rw [h2] at g2
  have hp : p ≤ 30 ∨ 1000 < p := by unfold l39L at h1; simp at h1; omega
  have hn : n ≤ 60 ∨ 1000 < n := by unfold l39L at h2; simp at h2; omega
  have c1 := delta_p (p := p) (by omega)
  have c2 := rdelta_p (p := p) (by omega)
  have c3 := j_p (p := p) (by omega)
  have c4 := rj_p (p := p) (by omega)
  have c5 := tau_p (n := n) (by omega)
  have c6 := rtau_p (n := n) (by omega)
  have c7 := dim_p k0 k1
  have c8 := rdim_p k0 k1
  obtain ⟨s, l, e, f1, f2, f3⟩ := delT_form p
  obtain ⟨t, m, f, f4, f5, f6⟩ := jT_form (p := p) (by omega)
  obtain ⟨z, g, f7, f8⟩ := tauT_form n
  rw [f1] at c1 c2
  rw [f4] at c3 c4
  rw [f7] at c5 c6
  have q1 := sameQ_p (s := s) (t := s) (l := l) (m := l) f2 (by decide) (by omega)
  have q2 := sameQ_p (s := t) (t := t) (l := m) (m := m) f5 (by decide) (by omega)
  have q3 := sameIz_p f8 (by decide)
  rw [decide_eq_true ⟨rfl, rfl⟩] at q1 q2
  have b1 : (dimV k == dimV k) = true := beq_self_eq_true _
  have b2 : (e == e) = true := beq_self_eq_true _
  have b3 : (f == f) = true := beq_self_eq_true _
  have b4 : (g == g) = true := beq_self_eq_true _
  unfold encI at c5 c6 q3
  generalize dimV k = d at *
  refine pc_body1 true Tryz.func3 rfl rfl rfl (Nat.le_of_ble_eq_true rfl) CellT.tmp ?_
  refine goA ?_
  refine evG ggA (ss_call (InB_of rfl) rfl rfl g1) ?_
  refine goA ?_
  refine evG ggA (ss_call (InB_of rfl) rfl rfl g2) ?_
  refine goA ?_
  refine evG ggA (ss_call (InB_of rfl) rfl rfl c1) ?_
  refine goA ?_
  refine evG ggA (ss_call (InB_of rfl) rfl rfl c2) ?_
  refine goA ?_
  refine evG ggA (ss_call (InB_of rfl) rfl rfl c3) ?_
  refine goA ?_
  refine evG ggA (ss_call (InB_of rfl) rfl rfl c4) ?_
  refine goA ?_
  refine evG ggA (ss_call (InB_of rfl) rfl rfl c5) ?_
  refine goA ?_
  refine evG ggA (ss_call (InB_of rfl) rfl rfl c6) ?_
  refine goA ?_
  refine evG ggA (ss_call (InB_of rfl) rfl rfl c7) ?_
  refine goA ?_
  refine evG ggA (ss_call (InB_of rfl) rfl rfl c8) ?_
  refine goA ?_
  refine evG ggA (ss_call (InB_of rfl) rfl rfl q1) ?_
  refine goA ?_
  refine evG ggA (ss_call (InB_of rfl) rfl rfl q2) ?_
  refine goA ?_
  refine evG ggA (ss_call (InB_of rfl) rfl rfl q3) ?_
  refine goA ?_
  refine evG ggA (ss_call (InB_of rfl) rfl rfl aw) ?_
  refine goA ?_
  exact rfl
end Ab
