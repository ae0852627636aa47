/- awake of halfplanelaw27: walked. -/
import Derived.Test.YtajlkcnlfiikeaaQwO
set_option linter.all false
namespace Ab
open Go Go.RowKit Go.Proofs Hp Qf
set_option maxRecDepth 100000

theorem ones_ok {xs : List AV} {n : Nat} (h : (xs.all fun a => a.cells.length == n && a.cells.all AV.one) = true) : ∀ x, x ∈ xs → x.cells.length = n ∧ x.cells.all AV.one = true := fun x hx => by
  have := List.all_eq_true.1 h x hx
  simpa using this
theorem cls23 : cls (-23) = [⟨1, 1, 6⟩, ⟨2, -1, 3⟩, ⟨2, 1, 3⟩] := by kernel_rfl
theorem hw12a : hwS 12 3 = Rat.divInt 4 3 := by kernel_rfl
theorem hw12 : hw 12 = Rat.divInt 4 3 := by
  unfold hw
  rw [if_neg (by decide)]
  have e := hwS_stop (n := 12) (by decide) (j := 3) (by decide) 60
  rw [show 3 + 60 = 63 from rfl] at e
  rw [e, hw12a]
theorem rep5 : rep (F.rd ⟨1, 0, 1⟩) 5 = 8 := by kernel_rfl
theorem cmp23 : Cmp ⟨2, 1, 3⟩ ⟨2, 1, 3⟩ ⟨2, -1, 3⟩ := by
  have p1 : F.Pos ⟨2, 1, 3⟩ := ⟨by decide, by decide⟩
  have p2 : F.Pos ⟨3, -1, 2⟩ := ⟨by decide, by decide⟩
  obtain ⟨-, hc⟩ := co_mk p1 p2 ⟨-1, 1, by decide⟩ (by decide) (b := 5) ⟨1, by decide⟩ ⟨1, by decide⟩
  exact ⟨_, _, _, Sim.refl _, ⟨.S, by decide, by decide⟩, hc, by kernel_rfl⟩
theorem compose23 : PC Try.prog 14 [fA ⟨2, 1, 3⟩, fA ⟨2, 1, 3⟩] (.tup [fA ⟨2, -1, 3⟩, iV 0]) := by
  obtain ⟨r, h1, h2⟩ := (Compose_p ⟨2, 1, 3⟩ ⟨2, 1, 3⟩).1 (by kernel_rfl)
  rw [← h1.unique cmp23 (Sim.refl _) (Sim.refl _)]
  exact h2
set_option maxHeartbeats 1000000 in
theorem awake_p : PC Try.prog 13 [] (bV true) := by
  have c1 := Classes_p (d := -23) (by unfold Bd; decide)
  have hp : posC (-23) = 0 := by decide
  unfold clsO at c1
  rw [if_pos hp, cls23] at c1
  have c2 := hurwitz_p (n := 12) (by unfold Bd; decide)
  unfold hwO at c2
  rw [if_neg (by decide), hw12] at c2
  have c3 := compose23
  have c4 := represent_p (f := ⟨1, 0, 1⟩) (n := 5) (by decide) (by decide)
  rw [if_pos (by decide), if_pos (by decide), rep5] at c4
  have c5 := rsame_p [⟨1, 1, 6⟩, ⟨2, -1, 3⟩, ⟨2, 1, 3⟩] [⟨1, 1, 6⟩, ⟨2, -1, 3⟩, ⟨2, 1, 3⟩] (by decide) (by decide)
  rw [decide_eq_true rfl] at c5
  have c6 := frac_g (n := 4) (d := 3) (by unfold Bd; decide) (by decide) (by unfold Bd; decide)
  have c7 := sameRat_p (rq (Rat.divInt 4 3)) (rq (Rat.divInt 4 3)) (by decide) (by decide)
  rw [decide_eq_true rfl] at c7
  refine pc_body1 true Try.func13 rfl rfl rfl (Nat.le_of_ble_eq_true rfl) CellT.tmp ?_
  refine goA ?_
  refine evG ggA (ss_call (InB_of rfl) rfl rfl c1) ?_
  refine goA ?_
  refine evG ggA (ss_call (InB_of rfl) rfl rfl c2) ?_
  refine goA ?_
  refine evG ggA (ss_call (InB_of rfl) rfl rfl c3) ?_
  refine goA ?_
  refine evG ggA (ss_call (InB_of rfl) rfl rfl c4) ?_
  refine goA ?_
  refine evG ggA (ss_bslice (InB_of rfl) (make_tab rfl) rfl rfl rfl rfl (ones_ok rfl) (Nat.le_of_ble_eq_true rfl)) ?_
  refine goA ?_
  refine evG ggA (ss_call (InB_of rfl) rfl rfl c5) ?_
  refine goA ?_
  refine evG ggA (ss_call (InB_of rfl) rfl rfl c6) ?_
  refine goA ?_
  refine evG ggA (ss_call (InB_of rfl) rfl rfl c7) ?_
  refine goA ?_
  refine evG ggA (ss_eq3 (InB_of rfl) rfl rfl rfl rfl) ?_
  refine goA ?_
  exact rfl
end Ab
