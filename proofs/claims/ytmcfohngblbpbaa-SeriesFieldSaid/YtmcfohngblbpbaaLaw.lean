/- The helpers of the statements on series, in abstract values. -/
import Derived.Test.YtmcfohngblbpbaaAwake
import Derived.KernelRfl
namespace Ab
open Go Go.RowKit Go.Proofs Hp
set_option maxRecDepth 100000

theorem ones_ok {xs : List AV} {n : Nat} (h : (xs.all fun a => a.cells.length == n && a.cells.all AV.one) = true) : ∀ x, x ∈ xs → x.cells.length = n ∧ x.cells.all AV.one = true := fun x hx => by
  have := List.all_eq_true.1 h x hx
  simpa using this
theorem inR_small {s : Int} {n : Nat} (h : -1000 ≤ s ∧ s ≤ 1000) (hn : n ≤ 1000) : InR s n := ⟨by omega, by omega, by omega⟩
theorem int_ok {xs : List Int} (h : (xs.all fun x => decide (x.natAbs < 1000)) = true) : ∀ x, x ∈ xs → x.natAbs < 1000 := fun x hx => by
  have := List.all_eq_true.1 h x hx
  simpa using this
theorem rng_ok {xs : List Int} (h : ∀ x, x ∈ xs → x.natAbs < 1000) : ∀ x, x ∈ xs → -9223372036854775808 ≤ x ∧ x ≤ 9223372036854775807 := fun x hx => by have := h x hx; omega
theorem sp {s : Int} {xs : List Int} (h : (xs.all fun x => decide (x.natAbs < 1000)) = true) (hl : xs.length ≤ 100000) : PC Try.prog 41 [.p (.int .i64 s), .sl (xs.map iv)] (serA s ((qsL xs).map encQ)) := s_p s xs (rng_ok (int_ok h)) hl
theorem sm {xs : List Int} (h : (xs.all fun x => decide (x.natAbs < 1000)) = true) : ∀ q, q ∈ qsL xs → Ht q 1 := small4 fun x hx => by have := int_ok h x hx; omega
theorem aw_mul : mulR (-1) (qsL [1, 2, 0]) 3 (qsL [1, 0]) = some (2, qsL [1, 2]) := by kernel_rfl
theorem aw_inv : invT 0 (qsL [1, -1, 0, 0]) = (0, qsL [1, 1, 1, 1], 0) := by kernel_rfl
set_option maxHeartbeats 1000000 in
theorem awake_p : PC Try.prog 10 [] (.p (.bool true)) := by
  have c1 := sp (s := -1) (xs := [1, 2, 0]) (by decide) (by decide)
  have c2 := sp (s := 3) (xs := [1, 0]) (by decide) (by decide)
  have c3 := sp (s := 0) (xs := [1, -1, 0, 0]) (by decide) (by decide)
  have c4 := sp (s := 2) (xs := [1, 2]) (by decide) (by decide)
  have c5 := sp (s := 0) (xs := [1, 1, 1, 1]) (by decide) (by decide)
  have m := mul_p (both_q (K := 1) (sm (xs := [1, 2, 0]) (by decide)) (sm (xs := [1, 0]) (by decide)) (inR_small (s := -1) (by decide) (by decide)) (inR_small (s := 3) (by decide) (by decide))) (by decide)
  rw [aw_mul] at m
  have i := inv_p (s := 0) (K := 1) (fun _ => ⟨isL_enc (sm (xs := [1, -1, 0, 0]) (by decide)), by decide⟩) rfl (inR_small (by decide) (by decide)) (by decide)
  rw [aw_inv] at i
  have q1 := sameQ_p (s := 2) (t := 2) (k := 1) (m := qsL [1, 2]) (sm (xs := [1, 2]) (by decide)) (by decide) (by decide)
  have q2 := sameQ_p (s := 0) (t := 0) (k := 1) (m := qsL [1, 1, 1, 1]) (sm (xs := [1, 1, 1, 1]) (by decide)) (by decide) (by decide)
  rw [decide_eq_true ⟨rfl, rfl⟩] at q1 q2
  refine pc_body1 true Try.func10 rfl rfl rfl (Nat.le_of_ble_eq_true rfl) CellT.tmp ?_
  refine r1A ?_
  refine T.seq ?_
  refine regA ?_
  refine evG ggA (ss_bslice (InB_of rfl) (make_tab rfl) rfl rfl rfl rfl (ones_ok rfl) (Nat.le_of_ble_eq_true rfl)) ?_
  refine evG ggA (ss_call (InB_of rfl) rfl rfl c1) ?_
  refine evG ggA (ss_bslice (InB_of rfl) (make_tab rfl) rfl rfl rfl rfl (ones_ok rfl) (Nat.le_of_ble_eq_true rfl)) ?_
  refine evG ggA (ss_call (InB_of rfl) rfl rfl c2) ?_
  refine evG ggA (ss_call (InB_of rfl) rfl rfl m) ?_
  refine goA ?_
  refine evG ggA (ss_bslice (InB_of rfl) (make_tab rfl) rfl rfl rfl rfl (ones_ok rfl) (Nat.le_of_ble_eq_true rfl)) ?_
  refine evG ggA (ss_call (InB_of rfl) rfl rfl c3) ?_
  refine evG ggA (ss_call (InB_of rfl) rfl rfl i) ?_
  refine goA ?_
  refine evG ggA (ss_bslice (InB_of rfl) (make_tab rfl) rfl rfl rfl rfl (ones_ok rfl) (Nat.le_of_ble_eq_true rfl)) ?_
  refine evG ggA (ss_call (InB_of rfl) rfl rfl c4) ?_
  refine evG ggA (ss_call (InB_of rfl) rfl rfl q1) ?_
  refine runA ?_
  refine evG ggA (ss_bslice (InB_of rfl) (make_tab rfl) rfl rfl rfl rfl (ones_ok rfl) (Nat.le_of_ble_eq_true rfl)) ?_
  refine evG ggA (ss_call (InB_of rfl) rfl rfl c5) ?_
  refine evG ggA (ss_call (InB_of rfl) rfl rfl q2) ?_
  refine goA ?_
  exact rfl
/-- no known difference -/
def agr (s : Int) (l : List Rat) (t : Int) (m : List Rat) : Bool := !(difR s l t m).2.1 && (difR s l t m).2.2 == 0
theorem agree_p {s t : Int} {es fs : List AV} {l m : List Rat} {K : Nat} (h : Both s es t fs K l m) (hK : 1 ≤ K ∧ K ≤ 268435456) : PC Try.prog 15 [serA s es, .p (.int .i64 0), serA t fs, .p (.int .i64 0)] (.p (.bool (agr s l t m))) := by
  have c := differ_p h hK
  unfold agr
  unfold tup3 at c
  generalize difR s l t m = D at c ⊢
  obtain ⟨n, is, g⟩ := D
  cases is with
  | true =>
    refine pc_body1 true Try.func15 rfl rfl rfl (Nat.le_of_ble_eq_true rfl) CellT.tmp ?_
    refine goA ?_
    refine evG ggA (ss_call (InB_of rfl) rfl rfl c) ?_
    refine goA ?_
    exact rfl
  | false =>
    refine pc_body1 true Try.func15 rfl rfl rfl (Nat.le_of_ble_eq_true rfl) CellT.tmp ?_
    refine goA ?_
    refine evG ggA (ss_call (InB_of rfl) rfl rfl c) ?_
    refine goA ?_
    exact rfl
/-- a fraction's cells -/
def C4 (e : AV) : Prop := ∃ g ds g' ds', e = .agg [.p (.bool g), .sl ds, .p (.bool g'), .sl ds']
def big : AV → Bool
  | .agg [_, .sl ds, _, .sl ds'] => decide ((ds.length : Int) > 4) || decide ((ds'.length : Int) > 4)
  | _ => false
def longB (n : Nat) (es : List AV) : Bool := decide (n < es.length) || es.any big
set_option maxHeartbeats 1000000 in
theorem long_p (n : Nat) (es : List AV) (hc : ∀ e, e ∈ es → C4 e) (hn : n ≤ 1000) (hl : es.length ≤ 9223372036854775807) : PC Try.prog 17 [.p (.int .i64 n), .sl es] (.p (.bool (longB n es))) := by
  by_cases h1 : n < es.length
  · have hb : decide ((es.length : Int) > (n : Int)) = true := by simp; omega
    have e : longB n es = true := by unfold longB; simp [h1]
    rw [e]
    refine pc_body1 true Try.func17 rfl rfl rfl (Nat.le_of_ble_eq_true rfl) CellT.tmp ?_
    refine goA ?_
    exact rfl
  · have hb : decide ((es.length : Int) > (n : Int)) = false := by simp; omega
    refine pc_body1 true Try.func17 rfl rfl rfl (Nat.le_of_ble_eq_true rfl) CellT.tmp ?_
    refine r1A ?_
    refine T.seqI (fun s1 => s1 = mkS [(1, .v (.sl es)), (4, .v (.p (.bool false)))] [] 34 true) ?_ ?_
    · refine goA ?_
      exact midQ_intro (by exact entA) rfl
    rintro _ rfl
    refine T.seqI (fun s1 => longB n es = false ∧ s1 = mkS [] [] 34 true) ?_ ?_
    · refine r1A ?_
      refine T.block ?_
      refine T.loop (fun N s1 => ∃ j : Nat, N = es.length - j ∧ j ≤ es.length ∧ (∀ i e, i < j → es[i]? = some e → big e = false) ∧ s1 = mkS [(1, .v (.sl es)), (4, .v (.p (.bool false))), (5, .v (.p (.int .i64 j)))] [] 34 true) es.length
        (s' := mkS [(1, .v (.sl es)), (4, .v (.p (.bool false))), (5, .v (.p (.int .i64 (0 : Nat))))] [] 34 true) (by exact entA) ⟨0, rfl, Nat.zero_le _, fun i e hi => absurd hi (Nat.not_lt_zero _), rfl⟩ ?_
      rintro _ _ ⟨j, rfl, hj, hz, rfl⟩
      by_cases hlt : j < es.length
      · have hb1 : decide ((j : Int) < (es.length : Int)) = true := by simp; omega
        obtain ⟨g, ds, g', ds', hE⟩ := hc es[j] (List.getElem_mem hlt)
        have he : es[j]? = some (.agg [.p (.bool g), .sl ds, .p (.bool g'), .sl ds']) := by rw [List.getElem?_eq_getElem hlt, hE]
        by_cases h2 : ds.length > 4
        · have hb2 : decide ((ds.length : Int) > 4) = true := by simp; omega
          have e : longB n es = true := by
            unfold longB
            have : es.any big = true := List.any_eq_true.2 ⟨es[j], List.getElem_mem hlt, by rw [hE]; simp only [big, hb2, Bool.true_or]⟩
            rw [this, Bool.or_true]
          rw [e]
          refine goA ?_
          refine evG ggA (ss_index_sl (InB_of rfl) (elem_tab rfl) rfl rfl (by omega) he rfl) ?_
          refine goA ?_
          exact rfl
        · have hb2 : decide ((ds.length : Int) > 4) = false := by simp; omega
          by_cases h3 : ds'.length > 4
          · have hb3 : decide ((ds'.length : Int) > 4) = true := by simp; omega
            have e : longB n es = true := by
              unfold longB
              have : es.any big = true := List.any_eq_true.2 ⟨es[j], List.getElem_mem hlt, by rw [hE]; simp only [big, hb3, Bool.or_true]⟩
              rw [this, Bool.or_true]
            rw [e]
            refine goA ?_
            refine evG ggA (ss_index_sl (InB_of rfl) (elem_tab rfl) rfl rfl (by omega) he rfl) ?_
            refine goA ?_
            refine evG ggA (ss_index_sl (InB_of rfl) (elem_tab rfl) rfl rfl (by omega) he rfl) ?_
            refine goA ?_
            exact rfl
          · have hb3 : decide ((ds'.length : Int) > 4) = false := by simp; omega
            refine goA ?_
            refine evG ggA (ss_index_sl (InB_of rfl) (elem_tab rfl) rfl rfl (by omega) he rfl) ?_
            refine goA ?_
            refine evG ggA (ss_index_sl (InB_of rfl) (elem_tab rfl) rfl rfl (by omega) he rfl) ?_
            refine goA ?_
            refine loopQ_intro (k := es.length - (j + 1)) (s' := mkS [(1, .v (.sl es)), (4, .v (.p (.bool false))), (5, .v (.p (.int .i64 ((j : Int) + 1))))] [] 34 true) (by omega) (by exact entA) ⟨j + 1, rfl, hlt, fun i e hi h => ?_, by simp⟩
            by_cases hij : i = j
            · subst hij
              rw [he] at h
              injection h with h
              subst h
              simp only [big, hb2, hb3, Bool.or_self]
            · exact hz i e (by omega) h
      · have hb1 : decide ((j : Int) < (es.length : Int)) = false := by simp; omega
        have e : longB n es = false := by
          unfold longB
          have : es.any big = false := by
            rw [List.any_eq_false]
            intro x hx
            obtain ⟨i, hi, rfl⟩ := List.getElem_of_mem hx
            rw [hz i es[i] (by omega) (List.getElem?_eq_getElem hi)]
            simp
          rw [this, Bool.or_false]
          simpa using h1
        refine goA ?_
        exact midQ_intro (s' := mkS [] [] 34 true) (by exact entA) ⟨e, rfl⟩
    rintro _ ⟨e, rfl⟩
    rw [e]
    refine goA ?_
    exact rfl
theorem great_p (n : Nat) {s : Int} {es : List AV} (hc : ValidP s es.length = true → ∀ e, e ∈ es → C4 e) (hn : n ≤ 1000) (hr : InR s es.length) : PC Try.prog 16 [.p (.int .i64 n), serA s es] (.p (.bool (ValidP s es.length && longB n es))) := by
  have hv := check_p hr.lo hr.hi hr.len
  cases h1 : ValidP s es.length with
  | false =>
    rw [h1] at hv
    refine pc_body1 true Try.func16 rfl rfl rfl (Nat.le_of_ble_eq_true rfl) CellT.tmp ?_
    refine goA ?_
    refine evG ggA (ss_call (InB_of rfl) rfl rfl hv) ?_
    refine goA ?_
    exact rfl
  | true =>
    rw [h1] at hv
    have c := long_p n es (hc h1) hn hr.len
    refine pc_body1 true Try.func16 rfl rfl rfl (Nat.le_of_ble_eq_true rfl) CellT.tmp ?_
    refine goA ?_
    refine evG ggA (ss_call (InB_of rfl) rfl rfl hv) ?_
    refine goA ?_
    refine evG ggA (ss_call (InB_of rfl) rfl rfl c) ?_
    cases longB n es with
    | true =>
      refine goA ?_
      exact rfl
    | false =>
      refine goA ?_
      exact rfl
end Ab
