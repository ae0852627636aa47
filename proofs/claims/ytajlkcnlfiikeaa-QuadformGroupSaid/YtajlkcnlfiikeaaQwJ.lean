/- Fractions of small numbers; the weighted class number; equality of lists of forms: walked. -/
import Derived.Test.YtajlkcnlfiikeaaQwI
import Derived.Test.YtajlkcnlfiikeaaQzq
set_option linter.all false
namespace Ab
open Go Go.RowKit Go.Proofs Hp Qf
set_option maxRecDepth 100000

theorem sgn_ne {q : Int} (h : q ≠ 0) : (sgn q == 0) = false := by
  have : sgn q ≠ 0 := by unfold sgn; split <;> (try split) <;> omega
  simpa using this
theorem make_p {p q : Int} (hp : p.natAbs < pw 4) (hq : q.natAbs < pw 4) (h0 : q ≠ 0) : PC Try.prog 63 [encI p, encI q] (.tup [encQ (Rat.divInt p q), iV 0]) := by
  have ip := isI_encI hp
  have iq := isI_encI hq
  have c1 := isign_p iq (by decide)
  have c2 := over_p ip (by decide) iq (by decide)
  have k := sgn_ne h0
  have hs : encI q = .agg (ci q) := rfl
  have hs2 : encI p = .agg (ci p) := rfl
  rw [hs] at *
  rw [hs2] at *
  generalize sgn q = s at *
  refine pc_body2 true Try.func63 rfl rfl rfl (Nat.le_of_ble_eq_true rfl) (CellT.agg agg_rat) CellT.tmp ?_
  refine goA ?_
  refine evG ggA (ss_call (InB_of rfl) rfl rfl c1) ?_
  refine goA ?_
  refine evG ggA (ss_call (InB_of rfl) rfl rfl c2) ?_
  refine goA ?_
  exact rfl
theorem small4 {x : Int} (h : Bd 9223372036854775807 x) : x.natAbs < pw 4 := by
  have : ((pw 4 : Int)) = 340282366920938463463374607431768211456 := by decide
  unfold Bd at h
  omega
/-- the weighted class number -/
def wcl (d : Int) : Rat := Rat.divInt ((cls d).length : Nat) ((uni d).tdiv 2)
def wclO (d : Int) : AV := if posC d = 0 then .tup [encQ (wcl d), iV 0] else .tup [.agg [.p (.bool false), .sl [], .p (.bool false), .sl []], iV (posC d)]
theorem uni_cases (d : Int) : uni d = 6 ∨ uni d = 4 ∨ uni d = 2 := by unfold uni; split <;> (try split) <;> simp
theorem weighted_p {d : Int} (hd : Bd 4000000000000000000 d) : PC Try.prog 30 [iV d] (wclO d) := by
  have c1 := possible_p hd
  unfold wclO
  by_cases h : posC d = 0
  · rw [if_pos h]
    have hz := posC_zero h
    have c2 := classes_p hz.1 hz.2
    have c3 := units_p d
    have hl := cA_len d 36 (Nat.le_refl _)
    have hu := uni_cases d
    have hu2 : Bd 9223372036854775807 ((uni d).tdiv 2) ∧ (uni d).tdiv 2 ≠ 0 := by unfold Bd; rcases hu with e | e | e <;> rw [e] <;> decide
    have hll : (cls d).length ≤ 74 * 36 := hl
    have c4 := iof_p ((((cls d).map fA).length : Nat) : Int) (by omega) (by rw [List.length_map]; omega)
    have c5 := iof_p ((uni d).tdiv 2) (by have := hu2.1; unfold Bd at this; omega) (by have := hu2.1; unfold Bd at this; omega)
    have c6 := make_p (p := ((((cls d).map fA).length : Nat) : Int)) (q := (uni d).tdiv 2) (small4 (by rw [List.length_map]; unfold Bd; omega)) (small4 hu2.1) hu2.2
    unfold wcl
    rw [List.length_map] at c4 c6
    rw [h] at c1
    have hlm : ((cls d).map fA).length = (cls d).length := List.length_map ..
    have hb := hu2.1
    clear hd h hl
    unfold Bd at hb
    generalize (cls d).map fA = L at *
    generalize (cls d).length = n at *
    generalize uni d = u at *
    refine pc_body2 true Try.func30 rfl rfl rfl (Nat.le_of_ble_eq_true rfl) (CellT.agg agg_rat) CellT.tmp ?_
    refine goA ?_
    refine evG ggA (ss_call (InB_of rfl) rfl rfl c1) ?_
    refine goA ?_
    refine evG ggA (ss_call (InB_of rfl) rfl rfl c2) ?_
    refine goA ?_
    rw [hlm]
    refine evG ggA (ss_call (InB_of rfl) rfl rfl c4) ?_
    refine goA ?_
    refine evG ggA (ss_call (InB_of rfl) rfl rfl c3) ?_
    refine goA ?_
    refine evG ggA (ss_div (InB_of rfl) rfl rfl (by omega) (w64 (by omega) (by omega))) ?_
    refine goA ?_
    refine evG ggA (ss_call (InB_of rfl) rfl rfl c5) ?_
    refine goA ?_
    refine evG ggA (ss_call (InB_of rfl) rfl rfl c6) ?_
    refine goA ?_
    exact rfl
  · rw [if_neg h]
    have k : (posC d != 0) = true := by simpa using h
    generalize posC d = c at *
    refine pc_body2 true Try.func30 rfl rfl rfl (Nat.le_of_ble_eq_true rfl) (CellT.agg agg_rat) CellT.tmp ?_
    refine goA ?_
    refine evG ggA (ss_call (InB_of rfl) rfl rfl c1) ?_
    refine goA ?_
    exact rfl
end Ab
