/- The statement QuasimodularChazy: its walk. -/
import Derived.Test.YtkbccidalhefaaaQcB
import Derived.Test.YtkbccidalhefaaaQcO
set_option linter.all false
namespace Ab
open Go Go.RowKit Go.Proofs Hp
set_option maxRecDepth 100000

set_option maxHeartbeats 8000000 in
theorem chazy_p (c : RQ) (hc : DigR c) : PC Try.prog 3 [rawA c] (bV true) := by
  have aw := q38awake_p
  have hV : c.1.2.length ≤ 3 → c.2.2.length ≤ 3 → IsV (rawA c) 3 (ratO c) := fun h1 h2 => isV_raw hc h1 h2
  generalize ratO c = q at hV
  unfold rawA at hV ⊢
  have l1 : (c.1.2.map u32).length = c.1.2.length := List.length_map ..
  have l2 : (c.2.2.map u32).length = c.2.2.length := List.length_map ..
  clear hc
  rw [← l1, ← l2] at hV
  generalize c.1.2.map u32 = d at *
  generalize c.2.2.map u32 = d' at *
  generalize c.1.1 = g at *
  generalize c.2.1 = g' at *
  clear l1 l2 c
  by_cases h1 : d.length ≤ 3
  · have b1 : decide ((d.length : Int) > 3) = false := decide_eq_false (by omega)
    by_cases h2 : d'.length ≤ 3
    · have b2 : decide ((d'.length : Int) > 3) = false := decide_eq_false (by omega)
      have hV := hV h1 h2
      have t1 : PC Try.prog 5 [iV 1, iV 0, iV 0] (.sl (PL cY)) := term_p 1 0 0
      have n1 := (refneg2_p hV (by decide)).up (dm := true)
      have qm := q_p (-1) (by decide) (by decide)
      have f1 := lfrac_p (n := 3) (d := 2) (by unfold Bn; omega) (by decide) (by unfold Bn; omega)
      have z := dserre_p hV
      have c1 := ch1
      have c2 := ch2
      have c3 := ch3
      have c4 := ch4
      have c5 := ch5
      have c6 := ch6
      have c7 := ch7
      have c8 := ch8
      have c9 : PC Try.prog 11 [.sl (PL cS), .sl (PL cB2)] (.tup [.sl [], iV 0]) := ch9
      generalize PL cY = Y at *
      generalize PL cD1 = D1 at *
      generalize PL cD2 = D2 at *
      generalize PL cD3 = D3 at *
      generalize PL cA = A at *
      generalize PL cA2 = A2 at *
      generalize PL cB = B at *
      generalize PL cB2 = B2 at *
      generalize PL cS = S at *
      generalize (((-1 : Int) : Rat)) = m1 at *
      generalize Rat.divInt 3 2 = m2 at *
      generalize -q = nq at *
      refine pc_body1 true Try.func3 rfl rfl rfl (Nat.le_of_ble_eq_true rfl) CellT.tmp ?_
      refine goA ?_
      refine evG ggA (ss_call (InB_of rfl) rfl rfl t1) ?_
      refine goA ?_
      refine evG ggA (ss_call (InB_of rfl) rfl rfl c1) ?_
      refine goA ?_
      refine evG ggA (ss_call (InB_of rfl) rfl rfl c2) ?_
      refine goA ?_
      refine evG ggA (ss_call (InB_of rfl) rfl rfl c3) ?_
      refine goA ?_
      refine evG ggA (ss_call (InB_of rfl) rfl rfl c4) ?_
      refine goA ?_
      refine evG ggA (ss_call (InB_of rfl) rfl rfl c5) ?_
      refine goA ?_
      refine evG ggA (ss_call (InB_of rfl) rfl rfl qm) ?_
      refine goA ?_
      refine evG ggA (ss_call (InB_of rfl) rfl rfl c6) ?_
      refine goA ?_
      refine evG ggA (ss_call (InB_of rfl) rfl rfl f1) ?_
      refine goA ?_
      refine evG ggA (ss_call (InB_of rfl) rfl rfl c7) ?_
      refine goA ?_
      refine evG ggA (ss_call (InB_of rfl) rfl rfl c8) ?_
      refine goA ?_
      refine evG ggA (ss_call (InB_of rfl) rfl rfl c9) ?_
      refine goA ?_
      refine evG ggA (ss_call (InB_of rfl) rfl rfl n1) ?_
      refine goA ?_
      refine evG ggA (ss_bslice (InB_of rfl) (make_tab rfl) rfl rfl rfl rfl (ones_ok rfl) (Nat.le_of_ble_eq_true rfl)) ?_
      refine goA ?_
      refine evG ggA (ss_call (InB_of rfl) rfl rfl z) ?_
      refine goA ?_
      refine evG ggA (ss_call (InB_of rfl) rfl rfl aw) ?_
      refine goA ?_
      exact rfl
    · have b2 : decide ((d'.length : Int) > 3) = true := decide_eq_true (by omega)
      clear hV
      refine pc_body1 true Try.func3 rfl rfl rfl (Nat.le_of_ble_eq_true rfl) CellT.tmp ?_
      refine goA ?_
      refine evG ggA (ss_call (InB_of rfl) rfl rfl aw) ?_
      refine goA ?_
      exact rfl
  · have b1 : decide ((d.length : Int) > 3) = true := decide_eq_true (by omega)
    clear hV
    refine pc_body1 true Try.func3 rfl rfl rfl (Nat.le_of_ble_eq_true rfl) CellT.tmp ?_
    refine goA ?_
    refine evG ggA (ss_call (InB_of rfl) rfl rfl aw) ?_
    refine goA ?_
    exact rfl
end Ab
