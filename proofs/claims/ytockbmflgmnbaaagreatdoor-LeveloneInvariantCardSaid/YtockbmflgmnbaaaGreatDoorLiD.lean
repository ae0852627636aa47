/- The expansion of a polynomial in j, Faber's polynomials, and a series as a polynomial in j, of the program: walked. Condition: the contracts of what is called. -/
import Derived.Test.YtockbmflgmnbaaaGreatDoorLiC
set_option linter.all false
namespace Ab
open Go Go.RowKit Go.Proofs Hp
set_option maxRecDepth 100000
set_option maxHeartbeats 8000000 in
theorem ofj_coreI {d : Nat} {p : Int} (hd : d ≤ 20) (hp : -100 ≤ p ∧ p ≤ 900) {es : List AV} {A : Nat → AV} (hAg : ∀ k, ∃ g xs g' xs', A k = .agg [.p (.bool g), .sl xs, .p (.bool g'), .sl xs']) {J : List AV} {oS mS nS : Nat → Int} {oL mL mo : Nat → List AV} {rs : Int} {rl : List AV}
  (hdeg : PC Tryz.prog 30 [.sl es] (iV d))
  (hJ : PC Tryz.prog 18 [iV (max (p + d) 0)] (.tup [serA (-1) J, iV 0]))
  (hx : ∀ k, k ≤ d → es[d - k]? = some (A k))
  (hMon : ∀ k, k ≤ d → PC Tryz.prog 20 [A k, iV 0, iV 1000] (.tup [serA (nS k) (mo k), iV 0]))
  (h0 : oS 0 = nS 0 ∧ oL 0 = mo 0)
  (hMul : ∀ k, k < d → PC Tryz.prog 32 [serA (oS k) (oL k), serA (-1) J] (.tup [serA (mS k) (mL k), iV 0]))
  (hAdd : ∀ k, k < d → PC Tryz.prog 33 [serA (mS k) (mL k), serA (nS (k + 1)) (mo (k + 1))] (.tup [serA (oS (k + 1)) (oL (k + 1)), iV 0]))
  (hCut : PC Tryz.prog 34 [serA (oS d) (oL d), iV p] (.tup [serA rs rl, iV 0])) :
  PC Tryz.prog 11 [.sl es, iV p] (.tup [serA rs rl, iV 0]) := by
 have b1 : decide ((d : Int) > 20) = false := decide_eq_false (by omega)
 have b2 : decide ((p : Int) < -100) = false := decide_eq_false (by omega)
 have b3 : decide ((p : Int) > 900) = false := decide_eq_false (by omega)
 have b4 : decide ((d : Int) < 0) = false := decide_eq_false (by omega)
 have x0 := hx 0 (Nat.zero_le _)
 have m0 := hMon 0 (Nat.zero_le _)
 rw [Nat.sub_zero, show d = ((d : Nat) : Int).toNat by omega] at x0
 obtain ⟨g, xs, g', xs', e⟩ := hAg 0
 rw [e] at x0 m0
 rw [← h0.1, ← h0.2] at m0
 clear e h0
 refine pb2 Tryz.func11 (Zab.agg Zaf) Zab.tmp ?_
 refine goA ?_
 refine clG hdeg ?_
 refine clG hJ ?_
 refine ixG x0 ?_
 refine clA m0 ?_
 refine runA ?_
 refine Zao ?_
 refine osA ?_
 refine T.seqE (mkS [(1, .v (iV p)), (4, .ptr 4 0), (9, .ptr 9 0)] [(4, Zgc), (9, .var [.v (iV (oS d)), .v (.sl (oL d))])] 80 true) ?_ ?_
 ·refine r1A ?_
  refine T.block ?_
  refine T.loop (fun N s1 => ∃ k : Nat, N = d - k ∧ k ≤ d ∧ s1 = mkS [(0, .v (.sl es)), (1, .v (iV p)), (4, .ptr 4 0), (7, .ptr 7 0), (9, .ptr 9 0), (11, .v (iV ((d : Int) - 1 - k)))] [(4, Zgc), (7, .var [.v (iV (-1)), .v (.sl J)]), (9, .var [.v (iV (oS k)), .v (.sl (oL k))])] 80 true) d
   (s' := mkS [(0, .v (.sl es)), (1, .v (iV p)), (4, .ptr 4 0), (7, .ptr 7 0), (9, .ptr 9 0), (11, .v (iV ((d : Int) - 1 - (0 : Nat))))] [(4, Zgc), (7, .var [.v (iV (-1)), .v (.sl J)]), (9, .var [.v (iV (oS 0)), .v (.sl (oL 0))])] 80 true) (by rw [show (d : Int) - 1 - (0 : Nat) = d - 1 by omega]; exact entA) ⟨0, rfl, Nat.zero_le _, rfl⟩ ?_
  rintro _ _ ⟨k, rfl, hk, rfl⟩
  by_cases hlt : k < d
  ·have c1 : decide ((d : Int) - 1 - k ≥ 0) = true := decide_eq_true (by omega)
   have c2 := hMul k hlt
   have c3 := hx (k + 1) (by omega)
   have c4 := hMon (k + 1) (by omega)
   have c5 := hAdd k hlt
   rw [show d - (k + 1) = ((d : Int) - 1 - k).toNat by omega] at c3
   have hnx : (d : Int) - 1 - k - 1 = (d : Int) - 1 - ((k + 1 : Nat) : Int) := by omega
   obtain ⟨g, xs, g', xs', e⟩ := hAg (k + 1)
   rw [e] at c3 c4
   refine goA ?_
   refine clG c2 ?_
   refine ixG c3 ?_
   refine clG c4 ?_
   refine clG c5 ?_
   rw [hnx]
   exact Zac (k := d - (k + 1)) (s' := mkS [(0, .v (.sl es)), (1, .v (iV p)), (4, .ptr 4 0), (7, .ptr 7 0), (9, .ptr 9 0), (11, .v (iV ((d : Int) - 1 - ((k + 1 : Nat) : Int))))] [(4, Zgc), (7, .var [.v (iV (-1)), .v (.sl J)]), (9, .var [.v (iV (oS (k + 1))), .v (.sl (oL (k + 1)))])] 80 true) (by omega) entA ⟨k + 1, rfl, by omega, rfl⟩
  ·obtain rfl : k = d := by omega
   have c1 : decide ((k : Int) - 1 - k ≥ 0) = false := decide_eq_false (by omega)
   refine goA ?_
   exact midE
 refine goA ?_
 refine clG hCut ?_
 exact rfl
theorem ofj_big {es : List AV} {d p : Int} (h : d > 20) (hdeg : PC Tryz.prog 30 [.sl es] (iV d)) : PC Tryz.prog 11 [.sl es, iV p] (.tup [serA 0 [], iV 7]) := by
 have b1 : decide (d > 20) = true := decide_eq_true h
 refine pb2 Tryz.func11 (Zab.agg Zaf) Zab.tmp ?_
 refine goA ?_
 refine clG hdeg ?_
 exact rfl
theorem ofj_range {es : List AV} {d p : Int} (h : d ≤ 20) (hp : ¬ (-100 ≤ p ∧ p ≤ 900)) (hdeg : PC Tryz.prog 30 [.sl es] (iV d)) : PC Tryz.prog 11 [.sl es, iV p] (.tup [serA 0 [], iV 2]) := by
 have b1 : decide (d > 20) = false := decide_eq_false (by omega)
 by_cases h2 : p < -100
 ·have b2 : decide (p < -100) = true := decide_eq_true h2
  refine pb2 Tryz.func11 (Zab.agg Zaf) Zab.tmp ?_
  refine goA ?_
  refine clG hdeg ?_
  exact rfl
 ·have b2 : decide (p < -100) = false := decide_eq_false h2
  have b3 : decide (p > 900) = true := decide_eq_true (by omega)
  refine pb2 Tryz.func11 (Zab.agg Zaf) Zab.tmp ?_
  refine goA ?_
  refine clG hdeg ?_
  exact rfl
theorem ofj_none {es : List AV} {p : Int} (hp : -100 ≤ p ∧ p ≤ 900) (hdeg : PC Tryz.prog 30 [.sl es] (iV (-1))) : PC Tryz.prog 11 [.sl es, iV p] (.tup [serA p [], iV 0]) := by
 have b2 : decide (p < -100) = false := decide_eq_false (by omega)
 have b3 : decide (p > 900) = false := decide_eq_false (by omega)
 have c := lnothing_p p
 refine pb2 Tryz.func11 (Zab.agg Zaf) Zab.tmp ?_
 refine goA ?_
 refine clG hdeg ?_
 refine clG c ?_
 exact rfl
theorem faber_no {m : Int} (h : ¬ (0 ≤ m ∧ m ≤ 20)) : PC Tryz.prog 9 [iV m] (.tup [.sl [], iV 2]) := by
 by_cases h1 : m < 0
 ·have b1 : decide (m < 0) = true := decide_eq_true h1
  refine pb2 Tryz.func9 Zab.tmp Zab.tmp ?_
  refine goA ?_
  exact rfl
 ·have b1 : decide (m < 0) = false := decide_eq_false h1
  have b2 : decide (m > 20) = true := decide_eq_true (by omega)
  refine pb2 Tryz.func9 Zab.tmp Zab.tmp ?_
  refine goA ?_
  exact rfl
theorem faber_core {m : Nat} (hm : m ≤ 20) {J A out B : List AV} {sa sb : Int} {g g' : Bool} {xs xs' : List AV}
  (hJ : PC Tryz.prog 18 [iV m] (.tup [serA (-1) J, iV 0]))
  (hOf : PC Tryz.prog 21 [iV 1] (.agg [.p (.bool g), .sl xs, .p (.bool g'), .sl xs']))
  (hMon : PC Tryz.prog 20 [.agg [.p (.bool g), .sl xs, .p (.bool g'), .sl xs'], iV (0 - (m : Int)), iV 1] (.tup [serA sa A, iV 0]))
  (hPeel : PC Tryz.prog 22 [serA sa A, serA (-1) J, iV m] (.tup [.sl out, serA sb B])) :
  PC Tryz.prog 9 [iV m] (.tup [.sl out, iV 0]) := by
 have b1 : decide ((m : Int) < 0) = false := decide_eq_false (by omega)
 have b2 : decide ((m : Int) > 20) = false := decide_eq_false (by omega)
 refine pb2 Tryz.func9 Zab.tmp Zab.tmp ?_
 refine goA ?_
 refine clG hJ ?_
 refine clG hOf ?_
 refine clG hMon ?_
 refine clG hPeel ?_
 exact rfl
end Ab
