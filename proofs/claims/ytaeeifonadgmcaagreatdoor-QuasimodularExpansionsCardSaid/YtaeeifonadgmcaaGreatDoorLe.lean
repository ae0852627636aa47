/- Delta, the invariant j and tau, of the program and of the document: walked. The invariant j and tau, of the program and of the document: walked; the example of the chapter. Tau and the dimension, of the program and of the document; the example of the chapter; the statement LeveloneDelta: walked. -/
import Derived.Test.YtaeeifonadgmcaaGreatDoorLd
set_option linter.all false
namespace Ab
open Go Go.RowKit Go.Proofs Hp
set_option maxRecDepth 100000
theorem rcut_p {s p : Int} {es : List AV} {l : List Rat} {K : Nat} (h : IsL es K l) (hK : K ≤ 274877906944) (hv : Zay s es.length = true) (p0 : -100 ≤ p) (p1 : p ≤ 4611686018427387904) : PC Tryz.prog 73 [serA s es, iV p] (serE (cutR s l p)) := by
 have hle := h.get.1
 obtain ⟨a0, a1, a2⟩ := Zbc.1 hv
 have cch := check_p (es := es) (s := s) (by omega) (by omega) (by omega)
 rw [hv, if_pos rfl] at cch
 have hpr := rprec_p (es := es) a0 a1 a2
 have b0 : decide (p < -100) = false := decide_eq_false (by omega)
 have e0 : cutR s l p = some (cutS s l p) := by
  unfold cutR
  rw [← hle, hv, decide_eq_true p0]
  rfl
 rw [e0]
 by_cases c1 : p ≤ s
 ·have b1 : decide (p ≤ s) = true := decide_eq_true c1
  have e1 : serE (some (cutS s l p)) = .tup [serA p [], iV 0] := by
   unfold cutS
   by_cases c2 : s + l.length ≤ p
   ·have hl0 : l = [] := List.length_eq_zero_iff.1 (by omega)
    subst hl0
    have : p = s := by simp at c2; omega
    subst this
    rw [if_pos c2]
    unfold tdy
    show serE (some (p + ((0 : Nat) : Int), [])) = _
    rw [show p + ((0 : Nat) : Int) = p by omega]
    rfl
   ·rw [if_neg c2, if_pos c1]
    rfl
  rw [e1]
  have ce := empty_p p
  refine Zam true Tryz.func73 rfl rfl rfl (Nat.le_of_ble_eq_true rfl) (Zah.agg Zav) Zah.tmp ?_
  refine goA ?_
  refine evG ggA (Zab (Zaa rfl) rfl rfl cch) ?_
  refine goA ?_
  refine evG ggA (Zab (Zaa rfl) rfl rfl ce) ?_
  refine goA ?_
  exact rfl
 have b1 : decide (p ≤ s) = false := decide_eq_false c1
 by_cases c2 : s + l.length ≤ p
 ·have b2 : decide (p ≥ s + (es.length : Int)) = true := decide_eq_true (by omega)
  have cr := Zey (s := s) h hK (by omega) (by omega) (by omega)
  have e1 : nrm s l = some (cutS s l p) := by
   unfold cutS
   rw [if_pos c2, Zdz a0 a1 (by omega)]
   rfl
  rw [e1] at cr
  rw [Zbs] at cr ⊢
  refine Zam true Tryz.func73 rfl rfl rfl (Nat.le_of_ble_eq_true rfl) (Zah.agg Zav) Zah.tmp ?_
  refine goA ?_
  refine evG ggA (Zab (Zaa rfl) rfl rfl cch) ?_
  refine goA ?_
  refine evG ggA (Zab (Zaa rfl) rfl rfl hpr) ?_
  refine goA ?_
  refine evG ggA (Zab (Zaa rfl) rfl rfl cr) ?_
  refine goA ?_
  exact rfl
 ·have b2 : decide (p ≥ s + (es.length : Int)) = false := decide_eq_false (by omega)
  have cr := Zey (s := s) (h.take (p - s).toNat) hK (by omega) (by omega) (by rw [List.length_take]; omega)
  have e1 : nrm s (l.take (p - s).toNat) = some (cutS s l p) := by
   unfold cutS
   rw [if_neg c2, if_neg c1, Zdz a0 a1 (by rw [List.length_take]; omega)]
   rfl
  rw [e1] at cr
  rw [Zbs] at cr ⊢
  refine Zam true Tryz.func73 rfl rfl rfl (Nat.le_of_ble_eq_true rfl) (Zah.agg Zav) Zah.tmp ?_
  refine goA ?_
  refine evG ggA (Zab (Zaa rfl) rfl rfl cch) ?_
  refine goA ?_
  refine evG ggA (Zab (Zaa rfl) rfl rfl hpr) ?_
  refine goA ?_
  refine evG ggA (Zf2 (Zaa rfl) (Zaf rfl) rfl (Zgx h) rfl (by omega) (by omega)) ?_
  refine goA ?_
  refine evG ggA (Zab (Zaa rfl) rfl rfl cr) ?_
  refine goA ?_
  exact rfl
end Ab
namespace Ab
open Go Go.RowKit Go.Proofs Hp
set_option maxRecDepth 100000
theorem inR_tk {s : Int} {f : Nat → Rat} {n : Nat} (h0 : -1000 ≤ s) (h1 : s ≤ 1000) (h2 : n ≤ 1000) : InR s ((tk f n).map encQ).length := ⟨by omega, by omega, by simp; omega⟩
end Ab
