/- What the statement on series looks at; Serre's derivative of a series, in the program and in the document: walked. -/
import Derived.Test.YtaeeifonadgmcaaGreatDoorQD
import Derived.Test.YtaeeifonadgmcaaGreatDoorLx
import Derived.Test.YtaeeifonadgmcaaGreatDoorQsM
set_option linter.all false
namespace Ab
open Go Go.RowKit Go.Proofs Hp
set_option maxRecDepth 100000
def big8 : AV → Bool
 | .agg [_, .sl ds, _, .sl ds'] => decide ((ds.length : Int) > 8) || decide ((ds'.length : Int) > 8)
 | _ => false
def brB (s : Int) (es : List AV) : Bool := Zaq s es.length && (decide (10 < es.length) || es.any big8)
set_option maxHeartbeats 4000000 in
theorem broad_p {s : Int} {es : List AV} (hc : ∀ e, e ∈ es → C4 e) (hr : InR s es.length) : PC Tryz.prog 10 [iV 10, serA s es] (bV (brB s es)) := by
  have hv := Zfp hr.lo hr.hi hr.len
  cases h1 : Zaq s es.length with
  | false =>
    rw [h1] at hv
    have e : brB s es = false := by unfold brB; rw [h1]; rfl
    rw [e]
    refine Zaf true Tryz.func10 rfl rfl rfl (Nat.le_of_ble_eq_true rfl) Zah.tmp ?_
    refine goA ?_
    refine evG ggA (Zab (Zaa rfl) rfl rfl hv) ?_
    refine goA ?_
    exact rfl
  | true =>
    obtain ⟨a0, a1, a2⟩ := Zas.1 h1
    rw [h1] at hv
    have bt : (10 < es.length ∨ es.any big8 = true) → brB s es = true := fun h => by
      unfold brB
      rw [h1, Bool.true_and, Bool.or_eq_true, decide_eq_true_eq]
      exact h
    have bf : es.length ≤ 10 → es.any big8 = false → brB s es = false := fun h h' => by
      unfold brB
      rw [h1, Bool.true_and, h', Bool.or_false, decide_eq_false_iff_not]
      omega
    have hel : es.length ≤ 1100 := by omega
    refine Zaf true Tryz.func10 rfl rfl rfl (Nat.le_of_ble_eq_true rfl) Zah.tmp ?_
    refine goA ?_
    refine evG ggA (Zab (Zaa rfl) rfl rfl hv) ?_
    refine goA ?_
    refine T.loop (fun N s1 => ∃ j : Nat, N = es.length - j ∧ j ≤ es.length ∧ j ≤ 10 ∧ (∀ i e, i < j → es[i]? = some e → big8 e = false) ∧ s1 = mkS [(0, .v (iV 10)), (3, .ptr 3 0), (4, .v (bV false)), (5, .v (iV j))] [(3, .var [.v (iV s), .v (.sl es)])] 41 true) es.length
      (s' := mkS [(0, .v (iV 10)), (3, .ptr 3 0), (4, .v (bV false)), (5, .v (iV ((0 : Nat) : Int)))] [(3, .var [.v (iV s), .v (.sl es)])] 41 true) (by exact entA) ⟨0, rfl, Nat.zero_le _, Nat.zero_le _, fun i e hi => absurd hi (Nat.not_lt_zero _), rfl⟩ ?_
    rintro _ _ ⟨j, rfl, hj, hj10, hz, rfl⟩
    by_cases hlt : j < es.length
    · have hb1 : decide ((j : Int) < (es.length : Int)) = true := decide_eq_true (by omega)
      obtain ⟨g, ds, g', ds', hE⟩ := hc es[j] (List.getElem_mem hlt)
      have he : es[((j : Nat) : Int).toNat]? = some (.agg [.p (.bool g), .sl ds, .p (.bool g'), .sl ds']) := by rw [show ((j : Nat) : Int).toNat = j by omega, List.getElem?_eq_getElem hlt, hE]
      have hany : big8 es[j] = true → es.any big8 = true := fun h => List.any_eq_true.2 ⟨es[j], List.getElem_mem hlt, h⟩
      have hnext : big8 es[j] = false → ∀ i e, i < j + 1 → es[i]? = some e → big8 e = false := fun h i x hi hx => by
        by_cases hij : i = j
        · subst hij
          rw [List.getElem?_eq_getElem hlt] at hx
          injection hx with hx
          rw [← hx]; exact h
        · exact hz i x (by omega) hx
      rw [hE] at hany hnext
      by_cases h0 : 10 ≤ j
      · have hb2 : decide ((j : Int) ≥ 10) = true := decide_eq_true (by omega)
        rw [bt (.inl (by omega))]
        refine goA ?_
        exact rfl
      have hb2 : decide ((j : Int) ≥ 10) = false := decide_eq_false (by omega)
      by_cases h2 : ds.length > 8
      · have hb3 : decide ((ds.length : Int) > 8) = true := decide_eq_true (by omega)
        rw [bt (.inr (hany (by simp only [big8, hb3, Bool.true_or])))]
        refine goA ?_
        refine evG ggA (Zad (Zaa rfl) (Zag rfl) rfl rfl (by omega) he rfl) ?_
        refine goA ?_
        exact rfl
      have hb3 : decide ((ds.length : Int) > 8) = false := decide_eq_false (by omega)
      by_cases h3 : ds'.length > 8
      · have hb4 : decide ((ds'.length : Int) > 8) = true := decide_eq_true (by omega)
        rw [bt (.inr (hany (by simp only [big8, hb4, Bool.or_true])))]
        refine goA ?_
        refine evG ggA (Zad (Zaa rfl) (Zag rfl) rfl rfl (by omega) he rfl) ?_
        refine goA ?_
        refine evG ggA (Zad (Zaa rfl) (Zag rfl) rfl rfl (by omega) he rfl) ?_
        refine goA ?_
        exact rfl
      have hb4 : decide ((ds'.length : Int) > 8) = false := decide_eq_false (by omega)
      have hn := hnext (by simp only [big8, hb3, hb4, Bool.or_self])
      refine goA ?_
      refine evG ggA (Zad (Zaa rfl) (Zag rfl) rfl rfl (by omega) he rfl) ?_
      refine goA ?_
      refine evG ggA (Zad (Zaa rfl) (Zag rfl) rfl rfl (by omega) he rfl) ?_
      refine goA ?_
      exact Zae (k := es.length - (j + 1)) (s' := mkS [(0, .v (iV 10)), (3, .ptr 3 0), (4, .v (bV false)), (5, .v (iV ((j : Int) + 1)))] [(3, .var [.v (iV s), .v (.sl es)])] 41 true) (by omega) (by exact entA) ⟨j + 1, rfl, hlt, by omega, hn, rfl⟩
    · have hb1 : decide ((j : Int) < (es.length : Int)) = false := decide_eq_false (by omega)
      rw [bf (by omega) (by
        rw [List.any_eq_false]
        intro x hx
        obtain ⟨i, hi, rfl⟩ := List.getElem_of_mem hx
        rw [hz i es[i] (by omega) (List.getElem?_eq_getElem hi)]
        simp)]
      refine goA ?_
      exact rfl
theorem qss_bad1 {s k : Int} {es : List AV} (hn : PC Tryz.prog 33 [serA s es] (.tup [serA 0 [], iV 2])) : PC Tryz.prog 11 [serA s es, iV k] (.tup [serA 0 [], iV 2]) := by
 refine Zak true Tryz.func11 rfl rfl rfl (Nat.le_of_ble_eq_true rfl) (Zah.agg Zar) Zah.tmp ?_
 refine goA ?_
 refine evG ggA (Zab (Zaa rfl) rfl rfl hn) ?_
 refine goA ?_
 exact rfl
theorem qss_bad2 {s t k : Int} {es A : List AV} (hn : PC Tryz.prog 33 [serA s es] (.tup [serA t A, iV 0])) (hk : k < 0 ∨ k > 60) : PC Tryz.prog 11 [serA s es, iV k] (.tup [serA 0 [], iV 2]) := by
 by_cases h : k < 0
 ·have b1 : decide (k < 0) = true := decide_eq_true h
  refine Zak true Tryz.func11 rfl rfl rfl (Nat.le_of_ble_eq_true rfl) (Zah.agg Zar) Zah.tmp ?_
  refine goA ?_
  refine evG ggA (Zab (Zaa rfl) rfl rfl hn) ?_
  refine goA ?_
  exact rfl
 ·have b1 : decide (k < 0) = false := decide_eq_false h
  have b2 : decide (k > 60) = true := decide_eq_true (by omega)
  refine Zak true Tryz.func11 rfl rfl rfl (Nat.le_of_ble_eq_true rfl) (Zah.agg Zar) Zah.tmp ?_
  refine goA ?_
  refine evG ggA (Zab (Zaa rfl) rfl rfl hn) ?_
  refine goA ?_
  exact rfl
set_option maxHeartbeats 2000000 in
theorem qss_core {s t u v w y k : Int} {es A D E W Z R : List AV} {f : Rat} (hk : 0 ≤ k ∧ k ≤ 60) (hn : PC Tryz.prog 33 [serA s es] (.tup [serA t A, iV 0])) (hth : PC Tryz.prog 34 [serA t A] (.tup [serA u D, iV 0])) (he : PC Tryz.prog 24 [iV 2, iV 1000] (.tup [serA 0 E, iV 0])) (hm : PC Tryz.prog 26 [serA 0 E, serA t A] (.tup [serA v W, iV 0]))
  (hf : PC Tryz.prog 36 [iV k, iV 12] (encQ f)) (hs : PC Tryz.prog 35 [encQ f, serA v W] (.tup [serA w Z, iV 0])) (hb : PC Tryz.prog 37 [serA u D, serA w Z] (.tup [serA y R, iV 0])) : PC Tryz.prog 11 [serA s es, iV k] (.tup [serA y R, iV 0]) := by
 have b1 : decide (k < 0) = false := decide_eq_false (by omega)
 have b2 : decide (k > 60) = false := decide_eq_false (by omega)
 refine Zak true Tryz.func11 rfl rfl rfl (Nat.le_of_ble_eq_true rfl) (Zah.agg Zar) Zah.tmp ?_
 refine goA ?_
 refine evG ggA (Zab (Zaa rfl) rfl rfl hn) ?_
 refine goA ?_
 refine evG ggA (Zab (Zaa rfl) rfl rfl hth) ?_
 refine goA ?_
 refine evG ggA (Zab (Zaa rfl) rfl rfl he) ?_
 refine goA ?_
 refine evG ggA (Zab (Zaa rfl) rfl rfl hm) ?_
 refine goA ?_
 refine evG ggA (Zab (Zaa rfl) rfl rfl hf) ?_
 refine goA ?_
 refine evG ggA (Zab (Zaa rfl) rfl rfl hs) ?_
 refine goA ?_
 refine evG ggA (Zab (Zaa rfl) rfl rfl hb) ?_
 refine goA ?_
 exact rfl
theorem rss_bad1 {s k : Int} {es : List AV} (hc : PC Tryz.prog 32 [serA s es] (iV 2)) : PC Tryz.prog 12 [serA s es, iV k] (.tup [serA 0 [], iV 2]) := by
 refine Zak true Tryz.func12 rfl rfl rfl (Nat.le_of_ble_eq_true rfl) (Zah.agg Zar) Zah.tmp ?_
 refine goA ?_
 refine evG ggA (Zab (Zaa rfl) rfl rfl hc) ?_
 refine goA ?_
 exact rfl
theorem rss_bad2 {s k : Int} {es : List AV} (hc : PC Tryz.prog 32 [serA s es] (iV 0)) (hk : k < 0 ∨ k > 60) : PC Tryz.prog 12 [serA s es, iV k] (.tup [serA 0 [], iV 2]) := by
 by_cases h : k < 0
 ·have b1 : decide (k < 0) = true := decide_eq_true h
  refine Zak true Tryz.func12 rfl rfl rfl (Nat.le_of_ble_eq_true rfl) (Zah.agg Zar) Zah.tmp ?_
  refine goA ?_
  refine evG ggA (Zab (Zaa rfl) rfl rfl hc) ?_
  refine goA ?_
  exact rfl
 ·have b1 : decide (k < 0) = false := decide_eq_false h
  have b2 : decide (k > 60) = true := decide_eq_true (by omega)
  refine Zak true Tryz.func12 rfl rfl rfl (Nat.le_of_ble_eq_true rfl) (Zah.agg Zar) Zah.tmp ?_
  refine goA ?_
  refine evG ggA (Zab (Zaa rfl) rfl rfl hc) ?_
  refine goA ?_
  exact rfl
set_option maxHeartbeats 2000000 in
theorem rss_core {s u v w y k p o : Int} {es D E W Z R : List AV} {f : Rat} (hk : 0 ≤ k ∧ k ≤ 60) (hpo : -2000 ≤ p - o ∧ p - o ≤ 2000) (hc : PC Tryz.prog 32 [serA s es] (iV 0)) (hp : PC Tryz.prog 39 [serA s es] (iV p)) (ho : PC Tryz.prog 40 [serA s es] (iV o)) (he : PC Tryz.prog 38 [iV 2, iV (min 1000 (p - o))] (.tup [serA 0 E, iV 0])) (hm : PC Tryz.prog 41 [serA 0 E, serA s es] (.tup [serA v W, iV 0]))
  (hf : PC Tryz.prog 19 [iV (0 - k), iV 12] (encQ f)) (hs : PC Tryz.prog 42 [encQ f, serA v W] (.tup [serA w Z, iV 0])) (hth : PC Tryz.prog 43 [serA s es] (.tup [serA u D, iV 0])) (hb : PC Tryz.prog 44 [serA u D, serA w Z] (.tup [serA y R, iV 0])) : PC Tryz.prog 12 [serA s es, iV k] (.tup [serA y R, iV 0]) := by
 have b1 : decide (k < 0) = false := decide_eq_false (by omega)
 have b2 : decide (k > 60) = false := decide_eq_false (by omega)
 refine Zak true Tryz.func12 rfl rfl rfl (Nat.le_of_ble_eq_true rfl) (Zah.agg Zar) Zah.tmp ?_
 refine goA ?_
 refine evG ggA (Zab (Zaa rfl) rfl rfl hc) ?_
 refine goA ?_
 refine evG ggA (Zab (Zaa rfl) rfl rfl hp) ?_
 refine goA ?_
 refine evG ggA (Zab (Zaa rfl) rfl rfl ho) ?_
 refine goA ?_
 refine evG ggA (Zab (Zaa rfl) rfl rfl he) ?_
 refine goA ?_
 refine evG ggA (Zab (Zaa rfl) rfl rfl hm) ?_
 refine goA ?_
 refine evG ggA (Zab (Zaa rfl) rfl rfl hf) ?_
 refine goA ?_
 refine evG ggA (Zab (Zaa rfl) rfl rfl hs) ?_
 refine goA ?_
 refine evG ggA (Zab (Zaa rfl) rfl rfl hth) ?_
 refine goA ?_
 refine evG ggA (Zab (Zaa rfl) rfl rfl hb) ?_
 refine goA ?_
 exact rfl
end Ab
