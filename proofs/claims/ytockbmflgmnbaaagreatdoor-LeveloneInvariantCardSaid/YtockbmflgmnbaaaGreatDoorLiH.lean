/- A series as a polynomial in j, and the expansion of a polynomial in j, of the document: walked. Condition: the contracts of what is called. -/
import Derived.Test.YtockbmflgmnbaaaGreatDoorLiF
set_option linter.all false
namespace Ab
open Go Go.RowKit Go.Proofs Hp
set_option maxRecDepth 100000
set_option maxHeartbeats 8000000 in
theorem inj39_core {m D : Nat} (hm : m ≤ 20) {s o o2 p : Int} {es PL : List AV} {c : Nat → Rat} {aS pS qS : Nat → Int} {aL pL qL : Nat → List AV} {q : Bool}
    (hp : 1 ≤ p ∧ p ≤ 900) (ho : -20 ≤ o) (ho2 : o ≤ 1000) (hmax : max 0 (0 - o) = (m : Int)) (h00 : aS 0 = s ∧ aL 0 = es)
    (hChk : PC Tryz.prog 6 [serA s es] (iV 0))
    (hOrd : PC Tryz.prog 41 [serA s es] (iV o))
    (hPrec : PC Tryz.prog 7 [serA s es] (iV p))
    (hPw : PC Tryz.prog 23 [iV m, iV p] (.sl PL))
    (hPL : ∀ k, k ≤ m → PL[m - k]? = some (.agg [.p (.int .i64 (pS k)), .sl (pL k)]))
    (hAg : ∀ k, ∃ g xs g' xs', encQ (c k) = .agg [.p (.bool g), .sl xs, .p (.bool g'), .sl xs'])
    (hZ : PCO Tryz.prog 24 [iV ((m : Int) + 1)] 4 49 (oZ c m 0))
    (hCoef : ∀ k, k ≤ m → PC Tryz.prog 27 [serA (aS k) (aL k), iV (0 - ((m : Int) - k))] (encQ (c k)))
    (hScl : ∀ k, k ≤ m → PC Tryz.prog 28 [encQ (c k), .agg [.p (.int .i64 (pS k)), .sl (pL k)]] (.tup [serA (qS k) (qL k), iV 0]))
    (hSub : ∀ k, k ≤ m → PC Tryz.prog 29 [serA (aS k) (aL k), serA (qS k) (qL k)] (.tup [serA (aS (k + 1)) (aL (k + 1)), iV 0]))
    (hOrd2 : PC Tryz.prog 41 [serA (aS (m + 1)) (aL (m + 1))] (iV o2)) (hq : decide (o2 < p) = q)
    (hDeg : PC Tryz.prog 35 [.sl (oZ c m (m + 1))] (iV ((D : Int) - 1))) (hD : D ≤ m + 1) :
    PC Tryz.prog 14 [serA s es] (if q then .tup [.sl [], iV 12] else .tup [.sl ((oZ c m (m + 1)).take D), iV 0]) := by
  have a1 : decide (o < -20) = false := decide_eq_false (by omega)
  have a2 : decide (p < 1) = false := decide_eq_false (by omega)
  have a3 : decide (p > 900) = false := decide_eq_false (by omega)
  have hz0 := Zgz c m 0
  obtain ⟨rfl, rfl⟩ := h00
  suffices hh : ∀ r : AV, r = (if q then .tup [.sl [], iV 12] else .tup [.sl ((oZ c m (m + 1)).take D), iV 0]) → PC Tryz.prog 14 [serA (aS 0) (aL 0)] r from hh _ rfl
  intro r hr
  obtain ⟨r1, r2, er⟩ : ∃ r1 r2, r = .tup [.sl r1, iV r2] := by
    cases q with
    | true => exact ⟨_, _, hr⟩
    | false => exact ⟨_, _, hr⟩
  rw [er] at hr ⊢
  refine pb2 Tryz.func14 Zab.tmp Zab.tmp ?_
  refine r1A ?_
  refine T.seqE (mkS [(1, .ptr 1 0)] [(1, .var [.v (iV (aS 0)), .v (.sl (aL 0))])] 85 true) ?_ ?_
  · refine goA ?_
    refine clG hChk ?_
    exact midE
  refine T.seqE (mkS [(1, .ptr 1 0), (5, .v (iV o)), (6, .v (iV p))] [(1, .var [.v (iV (aS 0)), .v (.sl (aL 0))])] 85 true) ?_ ?_
  · refine goA ?_
    refine clG hOrd ?_
    refine clG hPrec ?_
    exact midE
  refine T.seqE (mkS [(1, .ptr 1 0), (5, .v (iV o)), (6, .v (iV p))] [(1, .var [.v (iV (aS 0)), .v (.sl (aL 0))])] 85 true) ?_ ?_
  · refine goA ?_
    exact midE
  refine T.seqE (mkS [(1, .ptr 1 0), (5, .v (iV o)), (6, .v (iV p))] [(1, .var [.v (iV (aS 0)), .v (.sl (aL 0))])] 85 true) ?_ ?_
  · refine goA ?_
    exact midE
  refine T.seqE (mkS [(1, .ptr 1 0), (6, .v (iV p)), (7, .v (iV m))] [(1, .var [.v (iV (aS 0)), .v (.sl (aL 0))])] 85 true) ?_ ?_
  · refine goA ?_
    rw [hmax]
    exact midE
  refine T.seqE (mkS [(1, .ptr 1 0), (6, .v (iV p)), (7, .v (iV m)), (8, .v (.sl PL))] [(1, .var [.v (iV (aS 0)), .v (.sl (aL 0))])] 85 true) ?_ ?_
  · refine goA ?_
    refine clG hPw ?_
    exact midE
  refine T.seqE (mkS [(1, .ptr 1 0), (6, .v (iV p)), (7, .v (iV m)), (8, .v (.sl PL)), (9, .own 60 (m + 1))] [(1, .var [.v (iV (aS 0)), .v (.sl (aL 0))]), (60, .lst 4 49 (oZ c m 0))] 85 true) ?_ ?_
  · refine T.regionO 2 ?_
    show EvL _ _ _ (_ :: _) _ _
    refine runA ?_
    refine Zao ?_
    refine ocall 60 hZ rfl rfl rfl rfl ?_
    refine runA ?_
    refine Zao ?_
    exact Zae (s' := mkS [(1, .ptr 1 0), (6, .v (iV p)), (7, .v (iV m)), (8, .v (.sl PL)), (9, .own 60 (oZ c m 0).length)] [(1, .var [.v (iV (aS 0)), .v (.sl (aL 0))]), (60, .lst 4 49 (oZ c m 0))] 85 true) entA (by rw [hz0])
  refine T.seqE (mkS [(6, .v (iV p)), (7, .v (iV m)), (8, .v (.sl PL)), (9, .own 60 (m + 1)), (10, .ptr 10 0)] [(10, .var [.v (iV (aS 0)), .v (.sl (aL 0))]), (60, .lst 4 49 (oZ c m 0))] 85 true) ?_ ?_
  · refine goA ?_
    exact midE
  refine T.seqE (mkS [(6, .v (iV p)), (9, .own 60 (m + 1)), (10, .ptr 10 0)] [(10, .var [.v (iV (aS (m + 1))), .v (.sl (aL (m + 1)))]), (60, .lst 4 49 (oZ c m (m + 1)))] 85 true) ?_ ?_
  · refine r1A ?_
    refine T.block ?_
    refine T.loop (fun N s1 => ∃ k : Nat, N = m + 1 - k ∧ k ≤ m + 1 ∧ s1 = mkS [(6, .v (iV p)), (8, .v (.sl PL)), (9, .own 60 (m + 1)), (10, .ptr 10 0), (11, .v (iV ((m : Int) - k)))] [(10, .var [.v (iV (aS k)), .v (.sl (aL k))]), (60, .lst 4 49 (oZ c m k))] 85 true) (m + 1)
      (s' := mkS [(6, .v (iV p)), (8, .v (.sl PL)), (9, .own 60 (m + 1)), (10, .ptr 10 0), (11, .v (iV ((m : Int) - (0 : Nat))))] [(10, .var [.v (iV (aS 0)), .v (.sl (aL 0))]), (60, .lst 4 49 (oZ c m 0))] 85 true) (by rw [show (m : Int) - (0 : Nat) = m by omega]; exact entA) ⟨0, rfl, Nat.zero_le _, rfl⟩ ?_
    rintro _ _ ⟨k, rfl, hk, rfl⟩
    by_cases hlt : k ≤ m
    · have b1 : decide ((m : Int) - k ≥ 0) = true := decide_eq_true (by omega)
      have c1 := hCoef k hlt
      have c2 := hScl k hlt
      have c3 := hSub k hlt
      have hl := Zgz c m k
      have hl' := Zgz c m (k + 1)
      have hs := oZ_set c hlt
      have hg := oZ_get c hlt
      have ht : ((m : Int) - k).toNat = m - k := by omega
      have hx := hPL k hlt
      have hnx : (m : Int) - k - 1 = (m : Int) - ((k + 1 : Nat) : Int) := by omega
      obtain ⟨g, xs, g', xs', e⟩ := hAg k
      rw [e] at c1 c2 hs hg
      rw [← ht] at hx
      refine goA ?_
      refine clG c1 ?_
      refine evG ggA (Zap (Zaa rfl) (Zat rfl) rfl rfl hl rfl (by omega) (by omega)) ?_
      rw [ht]
      refine evG ggA (Zba (x := .agg [.p (.bool g), .sl xs, .p (.bool g'), .sl xs']) rfl (Zbu rfl) rfl rfl hl (by omega) rfl rfl (fun l e => by cases e) rfl) ?_
      rw [hs]
      refine goA ?_
      refine evG ggA (Zap (Zaa rfl) (Zat rfl) rfl rfl hl' rfl (by omega) (by omega)) ?_
      rw [ht]
      refine evG ggA (Zbd (Zaa rfl) (Zb4 rfl) rfl rfl hl' hg) ?_
      refine goA ?_
      refine ixG hx ?_
      refine clG c2 ?_
      refine clG c3 ?_
      rw [hnx]
      exact Zac (k := m + 1 - (k + 1)) (s' := mkS [(6, .v (iV p)), (8, .v (.sl PL)), (9, .own 60 (m + 1)), (10, .ptr 10 0), (11, .v (iV ((m : Int) - ((k + 1 : Nat) : Int))))] [(10, .var [.v (iV (aS (k + 1))), .v (.sl (aL (k + 1)))]), (60, .lst 4 49 (oZ c m (k + 1)))] 85 true) (by omega) entA ⟨k + 1, rfl, by omega, rfl⟩
    · obtain rfl : k = m + 1 := by omega
      have b1 : decide ((m : Int) - ((m + 1 : Nat) : Int) ≥ 0) = false := decide_eq_false (by omega)
      refine goA ?_
      exact midE
  have hx0 := Zgz c m (m + 1)
  have hsz : ∀ x, x ∈ oZ c m (m + 1) → x.cells.length = 4 := fun x hx => by
    obtain ⟨i, -, rfl⟩ := List.mem_map.1 hx
    split <;> rfl
  refine T.weak (s' := mkS [(6, .v (iV p)), (9, .v (.sl (oZ c m (m + 1)))), (10, .ptr 10 0)] [(10, .var [.v (iV (aS (m + 1))), .v (.sl (aL (m + 1)))])] 85 true) entA ?_
  generalize oZ c m (m + 1) = Z at *
  cases q with
  | true =>
    injection hr with hr
    injection hr with e1 hr
    injection hr with e2 hr
    injection e1 with e1
    injection e2 with e2
    injection e2 with _ e2
    subst e1 e2
    refine goA ?_
    refine clG hOrd2 ?_
    exact rfl
  | false =>
    injection hr with hr
    injection hr with e1 hr
    injection hr with e2 hr
    injection e1 with e1
    injection e2 with e2
    injection e2 with _ e2
    subst e1 e2
    have hDn : ((D : Int) - 1 + 1).toNat = D := by omega
    refine goA ?_
    refine clG hOrd2 ?_
    refine clG hDeg ?_
    refine evG ggA (Zc5 (Zaa rfl) (Zat rfl) rfl hsz rfl (by omega) (by omega)) ?_
    rw [hDn]
    refine goA ?_
    exact rfl
theorem inj39_bad {s : Int} {es : List AV} (hChk : PC Tryz.prog 6 [serA s es] (iV 2)) : PC Tryz.prog 14 [serA s es] (.tup [.sl [], iV 2]) := by
 refine pb2 Tryz.func14 Zab.tmp Zab.tmp ?_
 refine goA ?_
 refine clG hChk ?_
 exact rfl
theorem inj39_large {s o p : Int} {es : List AV} (h : o < -20 ∧ o < p)
  (hChk : PC Tryz.prog 6 [serA s es] (iV 0))
  (hOrd : PC Tryz.prog 41 [serA s es] (iV o))
  (hPrec : PC Tryz.prog 7 [serA s es] (iV p)) : PC Tryz.prog 14 [serA s es] (.tup [.sl [], iV 7]) := by
 have a1 : decide (o < -20) = true := decide_eq_true h.1
 have a2 : decide (o < p) = true := decide_eq_true h.2
 refine pb2 Tryz.func14 Zab.tmp Zab.tmp ?_
 refine goA ?_
 refine clG hChk ?_
 refine clG hOrd ?_
 refine clG hPrec ?_
 exact rfl
set_option maxHeartbeats 4000000 in
theorem inj39_prec {s o p : Int} {es : List AV} (h : ¬ (o < -20 ∧ o < p)) (hp : ¬ (1 ≤ p ∧ p ≤ 900))
  (hChk : PC Tryz.prog 6 [serA s es] (iV 0))
  (hOrd : PC Tryz.prog 41 [serA s es] (iV o))
  (hPrec : PC Tryz.prog 7 [serA s es] (iV p)) : PC Tryz.prog 14 [serA s es] (.tup [.sl [], iV 17]) := by
 by_cases h1 : o < -20
 ·have a1 : decide (o < -20) = true := decide_eq_true h1
  have a2 : decide (o < p) = false := decide_eq_false (by omega)
  have a3 : decide (p < 1) = true := decide_eq_true (by omega)
  refine pb2 Tryz.func14 Zab.tmp Zab.tmp ?_
  refine goA ?_
  refine clG hChk ?_
  refine clG hOrd ?_
  refine clG hPrec ?_
  exact rfl
 ·have a1 : decide (o < -20) = false := decide_eq_false h1
  by_cases h3 : p < 1
  ·have a3 : decide (p < 1) = true := decide_eq_true h3
   refine pb2 Tryz.func14 Zab.tmp Zab.tmp ?_
   refine goA ?_
   refine clG hChk ?_
   refine clG hOrd ?_
   refine clG hPrec ?_
   exact rfl
  ·have a3 : decide (p < 1) = false := decide_eq_false h3
   have a4 : decide (p > 900) = true := decide_eq_true (by omega)
   refine pb2 Tryz.func14 Zab.tmp Zab.tmp ?_
   refine goA ?_
   refine clG hChk ?_
   refine clG hOrd ?_
   refine clG hPrec ?_
   exact rfl
set_option maxHeartbeats 8000000 in
theorem ofj39_core {D : Nat} (hD : D ≤ 21) {p : Int} (hp : -100 ≤ p ∧ p ≤ 900) {es PL : List AV} {A : Nat → AV} {oS pS qS : Nat → Int} {oL pL qL : Nat → List AV} {rs : Int} {rl : List AV}
  (hAg : ∀ k, ∃ g xs g' xs', A k = .agg [.p (.bool g), .sl xs, .p (.bool g'), .sl xs'])
  (hdeg : PC Tryz.prog 35 [.sl es] (iV ((D : Int) - 1)))
  (hPw : PC Tryz.prog 23 [iV (max 0 ((D : Int) - 1)), iV (max p 1)] (.sl PL))
  (hE : PC Tryz.prog 36 [iV (max p 1)] (serA (oS 0) (oL 0)))
  (hx : ∀ k, k < D → es[k]? = some (A k))
  (hPL : ∀ k, k < D → PL[k]? = some (.agg [.p (.int .i64 (pS k)), .sl (pL k)]))
  (hScl : ∀ k, k < D → PC Tryz.prog 28 [A k, .agg [.p (.int .i64 (pS k)), .sl (pL k)]] (.tup [serA (qS k) (qL k), iV 0]))
  (hAdd : ∀ k, k < D → PC Tryz.prog 37 [serA (oS k) (oL k), serA (qS k) (qL k)] (.tup [serA (oS (k + 1)) (oL (k + 1)), iV 0]))
  (hCut : PC Tryz.prog 38 [serA (oS D) (oL D), iV p] (.tup [serA rs rl, iV 0])) :
  PC Tryz.prog 12 [.sl es, iV p] (.tup [serA rs rl, iV 0]) := by
 have a1 : decide ((D : Int) - 1 > 20) = false := decide_eq_false (by omega)
 have a2 : decide (p < -100) = false := decide_eq_false (by omega)
 have a3 : decide (p > 900) = false := decide_eq_false (by omega)
 refine pb2 Tryz.func12 (Zab.agg Zaf) Zab.tmp ?_
 refine goA ?_
 refine clG hdeg ?_
 refine clG hPw ?_
 refine clA hE ?_
 refine runA ?_
 refine Zao ?_
 refine osA ?_
 refine T.seqE (mkS [(1, .v (iV p)), (4, .ptr 4 0), (8, .ptr 8 0)] [(4, Zgc), (8, .var [.v (iV (oS D)), .v (.sl (oL D))])] 60 true) ?_ ?_
 ·refine r1A ?_
  refine T.block ?_
  refine T.loop (fun N s1 => ∃ k : Nat, N = D - k ∧ k ≤ D ∧ s1 = mkS [(0, .v (.sl es)), (1, .v (iV p)), (4, .ptr 4 0), (6, .v (iV ((D : Int) - 1))), (7, .v (.sl PL)), (8, .ptr 8 0), (9, .v (iV k))] [(4, Zgc), (8, .var [.v (iV (oS k)), .v (.sl (oL k))])] 60 true) D
   (s' := mkS [(0, .v (.sl es)), (1, .v (iV p)), (4, .ptr 4 0), (6, .v (iV ((D : Int) - 1))), (7, .v (.sl PL)), (8, .ptr 8 0), (9, .v (iV ((0 : Nat) : Int)))] [(4, Zgc), (8, .var [.v (iV (oS 0)), .v (.sl (oL 0))])] 60 true) entA ⟨0, rfl, Nat.zero_le _, rfl⟩ ?_
  rintro _ _ ⟨k, rfl, hk, rfl⟩
  by_cases hlt : k < D
  ·have b1 : decide ((k : Int) ≤ (D : Int) - 1) = true := decide_eq_true (by omega)
   have c1 := hScl k hlt
   have c2 := hAdd k hlt
   have h1 := hx k hlt
   have h2 := hPL k hlt
   obtain ⟨g, xs, g', xs', e⟩ := hAg k
   rw [e] at c1 h1
   rw [show k = ((k : Int)).toNat by omega] at h1 h2
   refine goA ?_
   refine ixG h1 ?_
   refine ixG h2 ?_
   refine clG c1 ?_
   refine clG c2 ?_
   exact Zac (k := D - (k + 1)) (s' := mkS [(0, .v (.sl es)), (1, .v (iV p)), (4, .ptr 4 0), (6, .v (iV ((D : Int) - 1))), (7, .v (.sl PL)), (8, .ptr 8 0), (9, .v (iV ((k + 1 : Nat) : Int)))] [(4, Zgc), (8, .var [.v (iV (oS (k + 1))), .v (.sl (oL (k + 1)))])] 60 true) (by omega) (by rw [show ((k + 1 : Nat) : Int) = (k : Int) + 1 by omega]; exact entA) ⟨k + 1, rfl, by omega, rfl⟩
  ·obtain rfl : k = D := by omega
   have b1 : decide ((k : Int) ≤ (k : Int) - 1) = false := decide_eq_false (by omega)
   refine goA ?_
   exact midE
 refine goA ?_
 refine clG hCut ?_
 exact rfl
theorem ofj39_big {es : List AV} {d p : Int} (h : d > 20) (hdeg : PC Tryz.prog 35 [.sl es] (iV d)) : PC Tryz.prog 12 [.sl es, iV p] (.tup [serA 0 [], iV 7]) := by
 have b1 : decide (d > 20) = true := decide_eq_true h
 refine pb2 Tryz.func12 (Zab.agg Zaf) Zab.tmp ?_
 refine goA ?_
 refine clG hdeg ?_
 exact rfl
theorem ofj39_range {es : List AV} {d p : Int} (h : d ≤ 20) (hp : ¬ (-100 ≤ p ∧ p ≤ 900)) (hdeg : PC Tryz.prog 35 [.sl es] (iV d)) : PC Tryz.prog 12 [.sl es, iV p] (.tup [serA 0 [], iV 2]) := by
 have b1 : decide (d > 20) = false := decide_eq_false (by omega)
 by_cases h2 : p < -100
 ·have b2 : decide (p < -100) = true := decide_eq_true h2
  refine pb2 Tryz.func12 (Zab.agg Zaf) Zab.tmp ?_
  refine goA ?_
  refine clG hdeg ?_
  exact rfl
 ·have b2 : decide (p < -100) = false := decide_eq_false h2
  have b3 : decide (p > 900) = true := decide_eq_true (by omega)
  refine pb2 Tryz.func12 (Zab.agg Zaf) Zab.tmp ?_
  refine goA ?_
  refine clG hdeg ?_
  exact rfl
end Ab
