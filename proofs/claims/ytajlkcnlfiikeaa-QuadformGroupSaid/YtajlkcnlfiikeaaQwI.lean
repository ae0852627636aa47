/- Possible discriminants, units, the identity, the number of classes: walked. -/
import Derived.Test.YtajlkcnlfiikeaaQwH
set_option linter.all false
namespace Ab
open Go Go.RowKit Go.Proofs Qf
set_option maxRecDepth 100000

def posC (d : Int) : Int := if d < -4000 ∨ -1 < d then 2 else if (0 - d).tmod 4 = 1 ∨ (0 - d).tmod 4 = 2 then 15 else 0
theorem posC_zero {d : Int} (h : posC d = 0) : -4000 ≤ d ∧ d < 0 := by
  unfold posC at h
  split at h
  · cases h
  · omega
theorem possible_p {d : Int} (hd : Bd 4000000000000000000 d) : PC Try.prog 58 [iV d] (iV (posC d)) := by
  unfold Bd at hd
  unfold posC
  refine pc_body1 true Try.func58 rfl rfl rfl (Nat.le_of_ble_eq_true rfl) CellT.tmp ?_
  refine runA ?_
  by_cases l1 : d < -4000
  case pos =>
    have k : decide (d < -4000) = true := by simpa using l1
    rw [if_pos (.inl l1)]
    refine goA ?_
    exact rfl
  have k1 : decide (d < -4000) = false := by simpa using l1
  refine runA ?_
  by_cases l2 : -1 < d
  case pos =>
    have k : decide (d > -1) = true := by simpa using l2
    rw [if_pos (.inr l2)]
    refine goA ?_
    exact rfl
  have k2 : decide (d > -1) = false := by simpa using l2
  rw [if_neg (by omega)]
  refine goA ?_
  refine evG ggA (ss_div (op := .rem) (InB_of rfl) rfl rfl (by omega) rfl) ?_
  by_cases l3 : (0 - d).tmod 4 = 1
  case pos =>
    have k : ((0 - d).tmod 4 == 1) = true := by simpa using l3
    rw [if_pos (.inl l3)]
    refine goA ?_
    exact rfl
  have k3 : ((0 - d).tmod 4 == 1) = false := by simpa using l3
  refine goA ?_
  refine evG ggA (ss_div (op := .rem) (InB_of rfl) rfl rfl (by omega) rfl) ?_
  by_cases l4 : (0 - d).tmod 4 = 2
  case pos =>
    have k : ((0 - d).tmod 4 == 2) = true := by simpa using l4
    rw [if_pos (.inr l4)]
    refine goA ?_
    exact rfl
  have k4 : ((0 - d).tmod 4 == 2) = false := by simpa using l4
  rw [if_neg (by omega)]
  refine goA ?_
  exact rfl
theorem posC_bd (d : Int) : 0 ≤ posC d ∧ posC d ≤ 15 := by unfold posC; split <;> (try split) <;> omega
def clsO (d : Int) : AV := if posC d = 0 then .tup [.sl ((cls d).map fA), iV 0] else .tup [.sl [], iV (posC d)]
theorem Classes_p {d : Int} (hd : Bd 4000000000000000000 d) : PC Try.prog 22 [iV d] (clsO d) := by
  have c1 := possible_p hd
  unfold clsO
  by_cases h : posC d = 0
  · rw [if_pos h]
    have hz := posC_zero h
    have c2 := classes_p hz.1 hz.2
    rw [h] at c1
    clear hd h
    refine pc_body2 true Try.func22 rfl rfl rfl (Nat.le_of_ble_eq_true rfl) CellT.tmp CellT.tmp ?_
    refine goA ?_
    refine evG ggA (ss_call (InB_of rfl) rfl rfl c1) ?_
    refine goA ?_
    refine evG ggA (ss_call (InB_of rfl) rfl rfl c2) ?_
    refine goA ?_
    exact rfl
  · rw [if_neg h]
    have k : (posC d != 0) = true := by simpa using h
    generalize posC d = c at *
    refine pc_body2 true Try.func22 rfl rfl rfl (Nat.le_of_ble_eq_true rfl) CellT.tmp CellT.tmp ?_
    refine goA ?_
    refine evG ggA (ss_call (InB_of rfl) rfl rfl c1) ?_
    refine goA ?_
    exact rfl
def uni (d : Int) : Int := if d = -3 then 6 else if d = -4 then 4 else 2
theorem units_p (d : Int) : PC Try.prog 62 [iV d] (iV (uni d)) := by
  unfold uni
  refine pc_body1 true Try.func62 rfl rfl rfl (Nat.le_of_ble_eq_true rfl) CellT.tmp ?_
  refine runA ?_
  by_cases h : d = -3
  case pos =>
    have k : (d == -3) = true := by simpa using h
    rw [if_pos h]
    refine goA ?_
    exact rfl
  have k : (d == -3) = false := by simpa using h
  rw [if_neg h]
  refine goA ?_
  by_cases h2 : d = -4
  case pos =>
    have k2 : (d == -4) = true := by simpa using h2
    rw [if_pos h2]
    refine goA ?_
    exact rfl
  have k2 : (d == -4) = false := by simpa using h2
  rw [if_neg h2]
  refine goA ?_
  exact rfl
def numO (d : Int) : AV := if posC d = 0 then .tup [iV ((cls d).length : Nat), iV 0] else .tup [iV 0, iV (posC d)]
theorem Number_p {d : Int} (hd : Bd 4000000000000000000 d) : PC Try.prog 29 [iV d] (numO d) := by
  have c1 := possible_p hd
  unfold numO
  by_cases h : posC d = 0
  · rw [if_pos h]
    have hz := posC_zero h
    have c2 := classes_p hz.1 hz.2
    rw [h] at c1
    clear hd h
    refine pc_body2 true Try.func29 rfl rfl rfl (Nat.le_of_ble_eq_true rfl) CellT.tmp CellT.tmp ?_
    refine goA ?_
    refine evG ggA (ss_call (InB_of rfl) rfl rfl c1) ?_
    refine goA ?_
    refine evG ggA (ss_call (InB_of rfl) rfl rfl c2) ?_
    refine goA ?_
    rw [List.length_map]
    exact rfl
  · rw [if_neg h]
    have k : (posC d != 0) = true := by simpa using h
    generalize posC d = c at *
    refine pc_body2 true Try.func29 rfl rfl rfl (Nat.le_of_ble_eq_true rfl) CellT.tmp CellT.tmp ?_
    refine goA ?_
    refine evG ggA (ss_call (InB_of rfl) rfl rfl c1) ?_
    refine goA ?_
    exact rfl
/-- the principal form -/
def idF (d : Int) : F := if d.tmod 2 = 0 then ⟨1, 0, (0 - d).tdiv 4⟩ else ⟨1, 1, (1 - d).tdiv 4⟩
theorem identity_p {d : Int} (hd : Bd 4000000000000000 d) : PC Try.prog 60 [iV d] (fA (idF d)) := by
  have z1 := tdiv_bd (y := 4) (N := 4000000000000001) (x := 0 - d) (by unfold Bd at *; omega)
  have z2 := tdiv_bd (y := 4) (N := 4000000000000001) (x := 1 - d) (by unfold Bd at *; omega)
  unfold Bd at hd z1 z2
  unfold idF
  refine pc_body1 true Try.func60 rfl rfl rfl (Nat.le_of_ble_eq_true rfl) (CellT.agg agg_F) ?_
  refine goA ?_
  refine evG ggA (ss_div (op := .rem) (InB_of rfl) rfl rfl (by omega) rfl) ?_
  by_cases h : d.tmod 2 = 0
  case pos =>
    have k : (d.tmod 2 == 0) = true := by simpa using h
    rw [if_pos h]
    refine goA ?_
    refine evG ggA (ss_div (InB_of rfl) rfl rfl (by omega) (w64 (by omega) (by omega))) ?_
    refine goA ?_
    exact rfl
  have k : (d.tmod 2 == 0) = false := by simpa using h
  rw [if_neg h]
  refine goA ?_
  refine evG ggA (ss_div (InB_of rfl) rfl rfl (by omega) (w64 (by omega) (by omega))) ?_
  refine goA ?_
  exact rfl
def idO (d : Int) : AV := if posC d = 0 then .tup [fA (idF d), iV 0] else .tup [fA ⟨0, 0, 0⟩, iV (posC d)]
theorem Identity_p {d : Int} (hd : Bd 4000000000000000000 d) : PC Try.prog 23 [iV d] (idO d) := by
  have c1 := possible_p hd
  unfold idO
  by_cases h : posC d = 0
  · rw [if_pos h]
    have hz := posC_zero h
    have c2 := identity_p (d := d) (by unfold Bd; omega)
    rw [h] at c1
    clear hd h
    refine pc_body2 true Try.func23 rfl rfl rfl (Nat.le_of_ble_eq_true rfl) (CellT.agg agg_F) CellT.tmp ?_
    refine goA ?_
    refine evG ggA (ss_call (InB_of rfl) rfl rfl c1) ?_
    refine goA ?_
    refine evG ggA (ss_call (InB_of rfl) rfl rfl c2) ?_
    refine goA ?_
    exact rfl
  · rw [if_neg h]
    have k : (posC d != 0) = true := by simpa using h
    generalize posC d = c at *
    refine pc_body2 true Try.func23 rfl rfl rfl (Nat.le_of_ble_eq_true rfl) (CellT.agg agg_F) CellT.tmp ?_
    refine goA ?_
    refine evG ggA (ss_call (InB_of rfl) rfl rfl c1) ?_
    refine goA ?_
    exact rfl
end Ab
