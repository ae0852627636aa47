/- The gate of the statements on series, in abstract values. -/
import Derived.Test.YtmcfohngblbpbaaLaw
namespace Ab
open Go Go.RowKit Go.Proofs Hp
set_option maxRecDepth 100000

/-- what the gate lets in -/
def inn (x : Int × List AV) : Bool := ValidP x.1 x.2.length && !longB 12 x.2 && decide (-8 ≤ x.1) && decide (x.1 ≤ 40)
def serV (x : Int × List AV) : AV := serA x.1 x.2
theorem inn_false {L : List (Int × List AV)} {j : Nat} (hlt : j < L.length) (h : inn L[j] = false) : L.all inn = false := by
  rw [List.all_eq_false]
  exact ⟨L[j], List.getElem_mem hlt, by rw [h]; simp⟩
set_option maxHeartbeats 2000000 in
theorem inner_p (L : List (Int × List AV)) (hc : ∀ x, x ∈ L → (ValidP x.1 x.2.length = true → ∀ e, e ∈ x.2 → C4 e) ∧ InR x.1 x.2.length) (hl : L.length ≤ 1000) : PC Try.prog 9 [.sl (L.map serV)] (.p (.bool (L.all inn))) := by
  refine pc_body1 true Try.func9 rfl rfl rfl (Nat.le_of_ble_eq_true rfl) CellT.tmp ?_
  refine r1A ?_
  refine T.seqI (fun s1 => L.all inn = true ∧ s1 = mkS [] [] 39 true) ?_ ?_
  · refine r1A ?_
    refine T.block ?_
    refine T.loop (fun N s1 => ∃ j : Nat, N = L.length - j ∧ j ≤ L.length ∧ (∀ i x, i < j → L[i]? = some x → inn x = true) ∧ s1 = mkS [(0, .v (.sl (L.map serV))), (3, .v (.p (.int .i64 j)))] [] 39 true) L.length
      (s' := mkS [(0, .v (.sl (L.map serV))), (3, .v (.p (.int .i64 (0 : Nat))))] [] 39 true) (by exact entA) ⟨0, rfl, Nat.zero_le _, fun i e hi => absurd hi (Nat.not_lt_zero _), rfl⟩ ?_
    rintro _ _ ⟨j, rfl, hj, hz, rfl⟩
    by_cases hlt : j < L.length
    · have hb1 : decide ((j : Int) < ((L.map serV).length : Int)) = true := by simp; omega
      obtain ⟨hC, hR⟩ := hc L[j] (List.getElem_mem hlt)
      have hfin : inn L[j] = true → ∀ i x, i < j + 1 → L[i]? = some x → inn x = true := fun h i x hi hx => by
        by_cases hij : i = j
        · subst hij
          rw [List.getElem?_eq_getElem hlt] at hx
          injection hx with hx
          rw [← hx, h]
        · exact hz i x (by omega) hx
      have hbad : inn L[j] = false → L.all inn = false := inn_false hlt
      have he : (L.map serV)[j]? = some (serV L[j]) := by rw [List.getElem?_map, List.getElem?_eq_getElem hlt]; rfl
      generalize L[j] = X at *
      obtain ⟨s, es⟩ := X
      have he : (L.map serV)[j]? = some (.agg [.p (.int .i64 s), .sl es]) := he
      have hC : ValidP s es.length = true → ∀ e, e ∈ es → C4 e := hC
      have hv := check_p (s := s) (es := es) hR.lo hR.hi hR.len
      have hg := great_p 12 hC (by decide) hR
      cases h1 : ValidP s es.length with
      | false =>
        rw [h1] at hv
        rw [hbad (by unfold inn; simp only [h1, Bool.false_and])]
        refine goA ?_
        refine evG ggA (ss_index_sl (InB_of rfl) (elem_tab rfl) rfl rfl (by omega) he rfl) ?_
        refine runA ?_
        refine evG ggA (ss_call (InB_of rfl) rfl rfl hv) ?_
        refine goA ?_
        exact rfl
      | true =>
        rw [h1] at hv hg
        cases h2 : longB 12 es with
        | true =>
          rw [h2] at hg
          rw [hbad (by unfold inn; simp only [h1, h2, Bool.not_true, Bool.and_false, Bool.false_and])]
          refine goA ?_
          refine evG ggA (ss_index_sl (InB_of rfl) (elem_tab rfl) rfl rfl (by omega) he rfl) ?_
          refine runA ?_
          refine evG ggA (ss_call (InB_of rfl) rfl rfl hv) ?_
          refine runA ?_
          refine evG ggA (ss_index_sl (InB_of rfl) (elem_tab rfl) rfl rfl (by omega) he rfl) ?_
          refine runA ?_
          refine evG ggA (ss_call (InB_of rfl) rfl rfl hg) ?_
          refine goA ?_
          exact rfl
        | false =>
          rw [h2] at hg
          by_cases h3 : s < -8
          · have hb3 : decide (s < -8) = true := by simp; omega
            have h3' : decide (-8 ≤ s) = false := by simp; omega
            rw [hbad (by unfold inn; simp only [h3', Bool.and_false, Bool.false_and])]
            refine goA ?_
            refine evG ggA (ss_index_sl (InB_of rfl) (elem_tab rfl) rfl rfl (by omega) he rfl) ?_
            refine runA ?_
            refine evG ggA (ss_call (InB_of rfl) rfl rfl hv) ?_
            refine runA ?_
            refine evG ggA (ss_index_sl (InB_of rfl) (elem_tab rfl) rfl rfl (by omega) he rfl) ?_
            refine runA ?_
            refine evG ggA (ss_call (InB_of rfl) rfl rfl hg) ?_
            refine runA ?_
            refine evG ggA (ss_index_sl (InB_of rfl) (elem_tab rfl) rfl rfl (by omega) he rfl) ?_
            refine goA ?_
            exact rfl
          · have hb3 : decide (s < -8) = false := by simp; omega
            have h3' : decide (-8 ≤ s) = true := by simp; omega
            by_cases h4 : s > 40
            · have hb4 : decide (s > 40) = true := by simp; omega
              have h4' : decide (s ≤ 40) = false := by simp; omega
              rw [hbad (by unfold inn; simp only [h4', Bool.and_false])]
              refine goA ?_
              refine evG ggA (ss_index_sl (InB_of rfl) (elem_tab rfl) rfl rfl (by omega) he rfl) ?_
              refine runA ?_
              refine evG ggA (ss_call (InB_of rfl) rfl rfl hv) ?_
              refine runA ?_
              refine evG ggA (ss_index_sl (InB_of rfl) (elem_tab rfl) rfl rfl (by omega) he rfl) ?_
              refine runA ?_
              refine evG ggA (ss_call (InB_of rfl) rfl rfl hg) ?_
              refine runA ?_
              refine evG ggA (ss_index_sl (InB_of rfl) (elem_tab rfl) rfl rfl (by omega) he rfl) ?_
              refine runA ?_
              refine evG ggA (ss_index_sl (InB_of rfl) (elem_tab rfl) rfl rfl (by omega) he rfl) ?_
              refine goA ?_
              exact rfl
            · have hb4 : decide (s > 40) = false := by simp; omega
              have h4' : decide (s ≤ 40) = true := by simp; omega
              have hok : inn (s, es) = true := by unfold inn; simp only [h1, h2, h3', h4', Bool.not_false, Bool.and_true]
              refine goA ?_
              refine evG ggA (ss_index_sl (InB_of rfl) (elem_tab rfl) rfl rfl (by omega) he rfl) ?_
              refine runA ?_
              refine evG ggA (ss_call (InB_of rfl) rfl rfl hv) ?_
              refine runA ?_
              refine evG ggA (ss_index_sl (InB_of rfl) (elem_tab rfl) rfl rfl (by omega) he rfl) ?_
              refine runA ?_
              refine evG ggA (ss_call (InB_of rfl) rfl rfl hg) ?_
              refine runA ?_
              refine evG ggA (ss_index_sl (InB_of rfl) (elem_tab rfl) rfl rfl (by omega) he rfl) ?_
              refine runA ?_
              refine evG ggA (ss_index_sl (InB_of rfl) (elem_tab rfl) rfl rfl (by omega) he rfl) ?_
              refine goA ?_
              exact loopQ_intro (k := L.length - (j + 1)) (s' := mkS [(0, .v (.sl (L.map serV))), (3, .v (.p (.int .i64 ((j : Int) + 1))))] [] 39 true) (by omega) (by exact entA) ⟨j + 1, rfl, hlt, hfin hok, by simp⟩
    · have hb1 : decide ((j : Int) < ((L.map serV).length : Int)) = false := by simp; omega
      have hall : L.all inn = true := by
        rw [List.all_eq_true]
        intro x hx
        obtain ⟨i, hi, rfl⟩ := List.getElem_of_mem hx
        exact hz i L[i] (by omega) (List.getElem?_eq_getElem hi)
      refine goA ?_
      exact midQ_intro (s' := mkS [] [] 39 true) (by exact entA) ⟨hall, rfl⟩
  rintro _ ⟨e, rfl⟩
  rw [e]
  refine goA ?_
  exact rfl
end Ab
