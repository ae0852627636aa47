/- A series as a polynomial in j, in the program: walked. Condition: the contracts of what is called. -/
import Derived.Test.YtockbmflgmnbaaaGreatDoorLiD
set_option linter.all false
namespace Ab
open Go Go.RowKit Go.Proofs Hp
set_option maxRecDepth 100000
set_option maxHeartbeats 8000000 in
theorem inj_core {m D : Nat} {s t u p : Int} {es A B out J : List AV} {qA qB : Bool} (hqA : decide ((A.length : Int) > 0) = qA) (hqB : decide ((B.length : Int) > 0) = qB)
    (ht : qA = true → -20 ≤ t ∧ t ≤ 1000 ∧ max 0 (0 - t) = (m : Int)) (ht0 : qA = false → m = 0) (hp : 1 ≤ p ∧ p ≤ 900) (hm : m ≤ 20)
    (hNor : PC Tryz.prog 39 [serA s es] (.tup [serA t A, iV 0]))
    (hPrec : PC Tryz.prog 40 [serA t A] (.tup [iV p, iV 0]))
    (hJ : PC Tryz.prog 18 [iV (p + m)] (.tup [serA (-1) J, iV 0]))
    (hPeel : PC Tryz.prog 22 [serA t A, serA (-1) J, iV m] (.tup [.sl out, serA u B]))
    (hDeg : PC Tryz.prog 30 [.sl out] (iV ((D : Int) - 1))) (hD : D ≤ out.length) (hol : out.length ≤ 1000) (hsz : ∀ x, x ∈ out → x.cells.length = 4) :
    PC Tryz.prog 13 [serA s es] (if qB then .tup [.sl [], iV 12] else .tup [.sl (out.take D), iV 0]) := by
  have a2 : decide (p < 1) = false := decide_eq_false (by omega)
  have a3 : decide (p > 900) = false := decide_eq_false (by omega)
  suffices hh : ∀ r : AV, r = (if qB then .tup [.sl [], iV 12] else .tup [.sl (out.take D), iV 0]) → PC Tryz.prog 13 [serA s es] r from hh _ rfl
  intro r hr
  obtain ⟨r1, r2, er⟩ : ∃ r1 r2, r = .tup [.sl r1, iV r2] := by
    cases qB with
    | true => exact ⟨_, _, hr⟩
    | false => exact ⟨_, _, hr⟩
  rw [er] at hr ⊢
  refine pb2 Tryz.func13 Zab.tmp Zab.tmp ?_
  refine r1A ?_
  refine T.seqE (mkS [(1, .ptr 1 0), (4, .v (iV 0))] [(1, .var [.v (iV t), .v (.sl A)])] 70 true) ?_ ?_
  · refine goA ?_
    refine clG hNor ?_
    exact midE
  refine T.seqE (mkS [(1, .ptr 1 0)] [(1, .var [.v (iV t), .v (.sl A)])] 70 true) ?_ ?_
  · refine goA ?_
    exact midE
  refine T.seqE (mkS [(1, .ptr 1 0)] [(1, .var [.v (iV t), .v (.sl A)])] 70 true) ?_ ?_
  · cases qA with
    | true =>
      have a1 : decide (t < -20) = false := decide_eq_false (by have := (ht rfl).1; omega)
      refine goA ?_
      exact midE
    | false =>
      refine goA ?_
      exact midE
  refine T.seqE (mkS [(1, .ptr 1 0), (5, .v (iV p))] [(1, .var [.v (iV t), .v (.sl A)])] 70 true) ?_ ?_
  · refine goA ?_
    refine clG hPrec ?_
    exact midE
  refine T.seqE (mkS [(1, .ptr 1 0), (5, .v (iV p))] [(1, .var [.v (iV t), .v (.sl A)])] 70 true) ?_ ?_
  · refine goA ?_
    exact midE
  refine T.seqE (mkS [(1, .ptr 1 0), (5, .v (iV p)), (7, .v (iV 0))] [(1, .var [.v (iV t), .v (.sl A)])] 70 true) ?_ ?_
  · refine goA ?_
    exact midE
  refine T.seqE (mkS [(1, .ptr 1 0), (5, .v (iV p)), (7, .v (iV m))] [(1, .var [.v (iV t), .v (.sl A)])] 70 true) ?_ ?_
  · cases qA with
    | true =>
      obtain ⟨t0, t1, hmax⟩ := ht rfl
      refine goA ?_
      rw [hmax]
      refine goA ?_
      exact midE
    | false =>
      obtain rfl := ht0 rfl
      refine goA ?_
      exact midE
  refine T.seqE (mkS [(1, .ptr 1 0), (7, .v (iV m)), (8, .ptr 8 0)] [(1, .var [.v (iV t), .v (.sl A)]), (8, .var [.v (iV (-1)), .v (.sl J)])] 70 true) ?_ ?_
  · refine goA ?_
    refine clG hJ ?_
    exact midE
  refine T.seqE (mkS [(10, .v (.sl out)), (11, .ptr 11 0)] [(11, .var [.v (iV u), .v (.sl B)])] 70 true) ?_ ?_
  · refine goA ?_
    refine clG hPeel ?_
    exact midE
  cases qB with
  | true =>
    injection hr with hr
    injection hr with e1 hr
    injection hr with e2 hr
    injection e1 with e1
    injection e2 with e2
    injection e2 with _ e2
    subst e1 e2
    refine goA ?_
    exact rfl
  | false =>
    injection hr with hr
    injection hr with e1 hr
    injection hr with e2 hr
    injection e1 with e1
    injection e2 with e2
    injection e2 with _ e2
    subst e1 e2
    have hDn : ((D : Int) - 1 + 1).toNat = D := by omega
    refine goA ?_
    refine clG hDeg ?_
    refine evG ggA (Zc5 (hi := (D : Int) - 1 + 1) (Zaa rfl) (Zat rfl) rfl hsz rfl (by omega) (by omega)) ?_
    rw [hDn]
    refine goA ?_
    exact rfl
theorem inj_bad {s : Int} {es : List AV} (hNor : PC Tryz.prog 39 [serA s es] (.tup [serA 0 [], iV 2])) : PC Tryz.prog 13 [serA s es] (.tup [.sl [], iV 2]) := by
 refine pb2 Tryz.func13 Zab.tmp Zab.tmp ?_
 refine goA ?_
 refine clG hNor ?_
 exact rfl
theorem inj_large {s t : Int} {es A : List AV} (h : t < -20) (hA : 0 < A.length) (hNor : PC Tryz.prog 39 [serA s es] (.tup [serA t A, iV 0])) : PC Tryz.prog 13 [serA s es] (.tup [.sl [], iV 7]) := by
 have b1 : decide ((A.length : Int) > 0) = true := decide_eq_true (by omega)
 have b2 : decide (t < -20) = true := decide_eq_true h
 refine pb2 Tryz.func13 Zab.tmp Zab.tmp ?_
 refine goA ?_
 refine clG hNor ?_
 exact rfl
set_option maxHeartbeats 4000000 in
theorem inj_prec {s t p : Int} {es A : List AV} (h : ¬ (0 < A.length ∧ t < -20)) (hp : ¬ (1 ≤ p ∧ p ≤ 900))
    (hNor : PC Tryz.prog 39 [serA s es] (.tup [serA t A, iV 0]))
    (hPrec : PC Tryz.prog 40 [serA t A] (.tup [iV p, iV 0])) : PC Tryz.prog 13 [serA s es] (.tup [.sl [], iV 17]) := by
  cases b1 : decide ((A.length : Int) > 0) with
  | true =>
    have b2 : decide (t < -20) = false := decide_eq_false (by have := of_decide_eq_true b1; omega)
    by_cases h3 : p < 1
    · have a3 : decide (p < 1) = true := decide_eq_true h3
      refine pb2 Tryz.func13 Zab.tmp Zab.tmp ?_
      refine goA ?_
      refine clG hNor ?_
      refine clG hPrec ?_
      exact rfl
    · have a3 : decide (p < 1) = false := decide_eq_false h3
      have a4 : decide (p > 900) = true := decide_eq_true (by omega)
      refine pb2 Tryz.func13 Zab.tmp Zab.tmp ?_
      refine goA ?_
      refine clG hNor ?_
      refine clG hPrec ?_
      exact rfl
  | false =>
    by_cases h3 : p < 1
    · have a3 : decide (p < 1) = true := decide_eq_true h3
      refine pb2 Tryz.func13 Zab.tmp Zab.tmp ?_
      refine goA ?_
      refine clG hNor ?_
      refine clG hPrec ?_
      exact rfl
    · have a3 : decide (p < 1) = false := decide_eq_false h3
      have a4 : decide (p > 900) = true := decide_eq_true (by omega)
      refine pb2 Tryz.func13 Zab.tmp Zab.tmp ?_
      refine goA ?_
      refine clG hNor ?_
      refine clG hPrec ?_
      exact rfl
end Ab
