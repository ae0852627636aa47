/- Lists of whole fractions, small series, the example of the chapter; in abstract values. The helpers of the statements on series, in abstract values. The gate of the statements on series, in abstract values. -/
import Derived.Test.YtajhaoapcapgeaaGreatDoorBase
import Derived.KernelRfl
set_option linter.all false
namespace Ab
open Go Go.RowKit Go.Proofs Hp
set_option maxRecDepth 100000

def qsL (xs : List Int) : List Rat := xs.map fun (x : Int) => (x : Rat)
def iv (x : Int) : AV := .p (.int .i64 x)
set_option maxHeartbeats 1000000 in
theorem qs_p (xs : List Int) (hx : ∀ x, x ∈ xs → -9223372036854775808 ≤ x ∧ x ≤ 9223372036854775807) (hl : xs.length ≤ 100000) : PC Tryz.prog 73 [.sl (xs.map iv)] (.sl ((qsL xs).map encQ)) := by
  refine pc_body1 true Tryz.func73 rfl rfl rfl (Nat.le_of_ble_eq_true rfl) CellT.tmp ?_
  refine r1A ?_
  refine r1A ?_
  refine T.seqI (fun s1 => s1 = mkS [(3, .v (.sl ((qsL xs).map encQ)))] [] 20 true) ?_ ?_
  · refine r1A ?_
    refine T.block ?_
    refine T.loop (fun n s1 => ∃ j : Nat, n = xs.length - j ∧ j ≤ xs.length ∧ s1 = mkS [(0, .v (.sl (xs.map iv))), (3, .own 100 j), (4, .v (.p (.int .i64 j)))] [(100, .lst 4 49 (((qsL xs).take j).map encQ))] 20 true) xs.length
      (s' := mkS [(0, .v (.sl (xs.map iv))), (3, .own 100 0), (4, .v (.p (.int .i64 (0 : Nat))))] [(100, .lst 4 49 [])] 20 true) (by exact entA) ⟨0, rfl, Nat.zero_le _, rfl⟩ ?_
    rintro n _ ⟨j, rfl, hj, rfl⟩
    by_cases hlt : j < xs.length
    · have hb : decide ((j : Int) < ((xs.map iv).length : Int)) = true := by simp; omega
      have hq : (qsL xs)[j]? = some ((xs[j] : Int) : Rat) := by unfold qsL; rw [List.getElem?_map, List.getElem?_eq_getElem hlt]; rfl
      have he : (xs.map iv)[j]? = some (.p (.int .i64 xs[j])) := by rw [List.getElem?_map, List.getElem?_eq_getElem hlt]; rfl
      have ht : ((qsL xs).take j).length = j := by unfold qsL; simp; omega
      obtain ⟨x0, x1⟩ := hx xs[j] (List.getElem_mem hlt)
      have c := q_p xs[j] x0 x1
      refine goA ?_
      refine evG ggA (ss_index_sl (InB_of rfl) (elem_tab rfl) rfl rfl (by omega) he rfl) ?_
      refine goA ?_
      refine evG ggA (ss_call (InB_of rfl) rfl rfl c) ?_
      (refine evG ggA (ss_bslice (InB_of rfl) (make_tab rfl) rfl rfl rfl rfl (one_ok rfl rfl) (Nat.le_of_ble_eq_true rfl)) ?_; refine evG ggA (ss_snoc (InB_of rfl) (make_tab rfl) rfl rfl (by first | rfl | assumption | (simp; done) | (simp; omega)) rfl (by omega) (Nat.le_of_ble_eq_true rfl) rfl) ?_)
      refine goA ?_
      exact loopQ_intro (k := xs.length - (j + 1)) (s' := mkS [(0, .v (.sl (xs.map iv))), (3, .own 100 (j + 1)), (4, .v (.p (.int .i64 ((j : Int) + 1))))] [(100, .lst 4 49 (((qsL xs).take j ++ [((xs[j] : Int) : Rat)]).map encQ))] 20 true) (by omega) (by exact entA) ⟨j + 1, rfl, hlt, by rw [take_succ hq]; rfl⟩
    · have hb : decide ((j : Int) < ((xs.map iv).length : Int)) = false := by simp; omega
      have ht : (qsL xs).take j = qsL xs := List.take_of_length_le (by unfold qsL; simp; omega)
      have hlen : ((qsL xs).map encQ).length = j := by unfold qsL; simp; omega
      rw [ht]
      refine goA ?_
      exact midQ_intro (s' := mkS [(3, .v (.sl ((qsL xs).map encQ)))] [] 20 true) (by exact entA) rfl
  rintro _ rfl
  refine goA ?_
  exact rfl
theorem s_p (s : Int) (xs : List Int) (hx : ∀ x, x ∈ xs → -9223372036854775808 ≤ x ∧ x ≤ 9223372036854775807) (hl : xs.length ≤ 100000) : PC Tryz.prog 51 [.p (.int .i64 s), .sl (xs.map iv)] (serA s ((qsL xs).map encQ)) := by
  have c := qs_p xs hx hl
  refine pc_body1 true Tryz.func51 rfl rfl rfl (Nat.le_of_ble_eq_true rfl) (CellT.agg agg_ser) ?_
  refine goA ?_
  refine evG ggA (ss_call (InB_of rfl) rfl rfl c) ?_
  refine goA ?_
  exact rfl
theorem small_enc {l : List Rat} {k : Nat} (h : ∀ q, q ∈ l → Ht q k) : Small k (l.map rq) := fun r hr => by
  obtain ⟨q, hq, rfl⟩ := List.mem_map.1 hr
  obtain ⟨h1, h2⟩ := h q hq
  exact ⟨dgs_len (by simpa [rq, ri] using h1), dgs_len (by simpa [rq, ri] using h2)⟩
theorem sameQ_p {s t : Int} {l m : List Rat} {k : Nat} (h : ∀ q, q ∈ l → Ht q k) (hk : k ≤ 4611686018427387904) (hl : l.length ≤ 4611686018427387904) : PC Tryz.prog 53 [serA s (l.map encQ), serA t (m.map encQ)] (.p (.bool (decide (s = t ∧ l = m)))) := by
  have c := sameSeries_p s t (l.map rq) (m.map rq) (fun r hr => ⟨Nat.le_trans (small_enc h r hr).1 hk, Nat.le_trans (small_enc h r hr).2 hk⟩) (by simpa using hl)
  have e : decide (s = t ∧ l.map rq = m.map rq) = decide (s = t ∧ l = m) := by
    rw [decide_eq_decide]
    exact ⟨fun h => ⟨h.1, rqs_inj h.2⟩, fun h => ⟨h.1, by rw [h.2]⟩⟩
  unfold serR at c
  rw [e, ← encs_raw, ← encs_raw] at c
  exact c
theorem small4 {xs : List Int} (h : ∀ x, x ∈ xs → x.natAbs < 4294967296) : ∀ q, q ∈ qsL xs → Ht q 1 := fun q hq => by
  obtain ⟨x, hx, rfl⟩ := List.mem_map.1 hq
  exact ht_int (h x hx)
theorem both_q {s t : Int} {l m : List Rat} {K : Nat} (hl : ∀ q, q ∈ l → Ht q K) (hm : ∀ q, q ∈ m → Ht q K) (h1 : InR s l.length) (h2 : InR t m.length) : Both s (l.map encQ) t (m.map encQ) K l m :=
  ⟨fun _ _ => ⟨isL_enc hl, isL_enc hm⟩, by simp, by simp, by simpa using h1, by simpa using h2⟩
end Ab
namespace Ab
open Go Go.RowKit Go.Proofs Hp
set_option maxRecDepth 100000

theorem ones_ok {xs : List AV} {n : Nat} (h : (xs.all fun a => a.cells.length == n && a.cells.all AV.one) = true) : ∀ x, x ∈ xs → x.cells.length = n ∧ x.cells.all AV.one = true := fun x hx => by
  have := List.all_eq_true.1 h x hx
  simpa using this
theorem inR_small {s : Int} {n : Nat} (h : -1000 ≤ s ∧ s ≤ 1000) (hn : n ≤ 1000) : InR s n := ⟨by omega, by omega, by omega⟩
theorem int_ok {xs : List Int} (h : (xs.all fun x => decide (x.natAbs < 1000)) = true) : ∀ x, x ∈ xs → x.natAbs < 1000 := fun x hx => by
  have := List.all_eq_true.1 h x hx
  simpa using this
theorem rng_ok {xs : List Int} (h : ∀ x, x ∈ xs → x.natAbs < 1000) : ∀ x, x ∈ xs → -9223372036854775808 ≤ x ∧ x ≤ 9223372036854775807 := fun x hx => by have := h x hx; omega
theorem sp {s : Int} {xs : List Int} (h : (xs.all fun x => decide (x.natAbs < 1000)) = true) (hl : xs.length ≤ 100000) : PC Tryz.prog 51 [.p (.int .i64 s), .sl (xs.map iv)] (serA s ((qsL xs).map encQ)) := s_p s xs (rng_ok (int_ok h)) hl
theorem sm {xs : List Int} (h : (xs.all fun x => decide (x.natAbs < 1000)) = true) : ∀ q, q ∈ qsL xs → Ht q 1 := small4 fun x hx => by have := int_ok h x hx; omega
theorem aw_mul : mulR (-1) (qsL [1, 2, 0]) 3 (qsL [1, 0]) = some (2, qsL [1, 2]) := by kernel_rfl
theorem aw_inv : invT 0 (qsL [1, -1, 0, 0]) = (0, qsL [1, 1, 1, 1], 0) := by kernel_rfl
set_option maxHeartbeats 1000000 in
theorem awake_p : PC Tryz.prog 8 [] (.p (.bool true)) := by
  have c1 := sp (s := -1) (xs := [1, 2, 0]) (by decide) (by decide)
  have c2 := sp (s := 3) (xs := [1, 0]) (by decide) (by decide)
  have c3 := sp (s := 0) (xs := [1, -1, 0, 0]) (by decide) (by decide)
  have c4 := sp (s := 2) (xs := [1, 2]) (by decide) (by decide)
  have c5 := sp (s := 0) (xs := [1, 1, 1, 1]) (by decide) (by decide)
  have m := mul_p (both_q (K := 1) (sm (xs := [1, 2, 0]) (by decide)) (sm (xs := [1, 0]) (by decide)) (inR_small (s := -1) (by decide) (by decide)) (inR_small (s := 3) (by decide) (by decide))) (by decide)
  rw [aw_mul] at m
  have i := inv_p (s := 0) (K := 1) (fun _ => ⟨isL_enc (sm (xs := [1, -1, 0, 0]) (by decide)), by decide⟩) rfl (inR_small (by decide) (by decide)) (by decide)
  rw [aw_inv] at i
  have q1 := sameQ_p (s := 2) (t := 2) (k := 1) (m := qsL [1, 2]) (sm (xs := [1, 2]) (by decide)) (by decide) (by decide)
  have q2 := sameQ_p (s := 0) (t := 0) (k := 1) (m := qsL [1, 1, 1, 1]) (sm (xs := [1, 1, 1, 1]) (by decide)) (by decide) (by decide)
  rw [decide_eq_true ⟨rfl, rfl⟩] at q1 q2
  refine pc_body1 true Tryz.func8 rfl rfl rfl (Nat.le_of_ble_eq_true rfl) CellT.tmp ?_
  refine r1A ?_
  refine T.seq ?_
  refine regA ?_
  refine evG ggA (ss_bslice (InB_of rfl) (make_tab rfl) rfl rfl rfl rfl (ones_ok rfl) (Nat.le_of_ble_eq_true rfl)) ?_
  refine evG ggA (ss_call (InB_of rfl) rfl rfl c1) ?_
  refine evG ggA (ss_bslice (InB_of rfl) (make_tab rfl) rfl rfl rfl rfl (ones_ok rfl) (Nat.le_of_ble_eq_true rfl)) ?_
  refine evG ggA (ss_call (InB_of rfl) rfl rfl c2) ?_
  refine evG ggA (ss_call (InB_of rfl) rfl rfl m) ?_
  refine goA ?_
  refine evG ggA (ss_bslice (InB_of rfl) (make_tab rfl) rfl rfl rfl rfl (ones_ok rfl) (Nat.le_of_ble_eq_true rfl)) ?_
  refine evG ggA (ss_call (InB_of rfl) rfl rfl c3) ?_
  refine evG ggA (ss_call (InB_of rfl) rfl rfl i) ?_
  refine goA ?_
  refine evG ggA (ss_bslice (InB_of rfl) (make_tab rfl) rfl rfl rfl rfl (ones_ok rfl) (Nat.le_of_ble_eq_true rfl)) ?_
  refine evG ggA (ss_call (InB_of rfl) rfl rfl c4) ?_
  refine evG ggA (ss_call (InB_of rfl) rfl rfl q1) ?_
  refine runA ?_
  refine evG ggA (ss_bslice (InB_of rfl) (make_tab rfl) rfl rfl rfl rfl (ones_ok rfl) (Nat.le_of_ble_eq_true rfl)) ?_
  refine evG ggA (ss_call (InB_of rfl) rfl rfl c5) ?_
  refine evG ggA (ss_call (InB_of rfl) rfl rfl q2) ?_
  refine goA ?_
  exact rfl
/-- no known difference -/
def agr (s : Int) (l : List Rat) (t : Int) (m : List Rat) : Bool := !(difR s l t m).2.1 && (difR s l t m).2.2 == 0
/-- a fraction's cells -/
def C4 (e : AV) : Prop := ∃ g ds g' ds', e = .agg [.p (.bool g), .sl ds, .p (.bool g'), .sl ds']
def big : AV → Bool
  | .agg [_, .sl ds, _, .sl ds'] => decide ((ds.length : Int) > 4) || decide ((ds'.length : Int) > 4)
  | _ => false
def longB (n : Nat) (es : List AV) : Bool := decide (n < es.length) || es.any big
set_option maxHeartbeats 1000000 in
theorem long_p (n : Nat) (es : List AV) (hc : ∀ e, e ∈ es → C4 e) (hn : n ≤ 1000) (hl : es.length ≤ 9223372036854775807) : PC Tryz.prog 49 [.p (.int .i64 n), .sl es] (.p (.bool (longB n es))) := by
  by_cases h1 : n < es.length
  · have hb : decide ((es.length : Int) > (n : Int)) = true := by simp; omega
    have e : longB n es = true := by unfold longB; simp [h1]
    rw [e]
    refine pc_body1 true Tryz.func49 rfl rfl rfl (Nat.le_of_ble_eq_true rfl) CellT.tmp ?_
    refine goA ?_
    exact rfl
  · have hb : decide ((es.length : Int) > (n : Int)) = false := by simp; omega
    refine pc_body1 true Tryz.func49 rfl rfl rfl (Nat.le_of_ble_eq_true rfl) CellT.tmp ?_
    refine r1A ?_
    refine T.seqI (fun s1 => s1 = mkS [(1, .v (.sl es)), (4, .v (.p (.bool false)))] [] 34 true) ?_ ?_
    · refine goA ?_
      exact midQ_intro (by exact entA) rfl
    rintro _ rfl
    refine T.seqI (fun s1 => longB n es = false ∧ s1 = mkS [] [] 34 true) ?_ ?_
    · refine r1A ?_
      refine T.block ?_
      refine T.loop (fun N s1 => ∃ j : Nat, N = es.length - j ∧ j ≤ es.length ∧ (∀ i e, i < j → es[i]? = some e → big e = false) ∧ s1 = mkS [(1, .v (.sl es)), (4, .v (.p (.bool false))), (5, .v (.p (.int .i64 j)))] [] 34 true) es.length
        (s' := mkS [(1, .v (.sl es)), (4, .v (.p (.bool false))), (5, .v (.p (.int .i64 (0 : Nat))))] [] 34 true) (by exact entA) ⟨0, rfl, Nat.zero_le _, fun i e hi => absurd hi (Nat.not_lt_zero _), rfl⟩ ?_
      rintro _ _ ⟨j, rfl, hj, hz, rfl⟩
      by_cases hlt : j < es.length
      · have hb1 : decide ((j : Int) < (es.length : Int)) = true := by simp; omega
        obtain ⟨g, ds, g', ds', hE⟩ := hc es[j] (List.getElem_mem hlt)
        have he : es[j]? = some (.agg [.p (.bool g), .sl ds, .p (.bool g'), .sl ds']) := by rw [List.getElem?_eq_getElem hlt, hE]
        by_cases h2 : ds.length > 4
        · have hb2 : decide ((ds.length : Int) > 4) = true := by simp; omega
          have e : longB n es = true := by
            unfold longB
            have : es.any big = true := List.any_eq_true.2 ⟨es[j], List.getElem_mem hlt, by rw [hE]; simp only [big, hb2, Bool.true_or]⟩
            rw [this, Bool.or_true]
          rw [e]
          refine goA ?_
          refine evG ggA (ss_index_sl (InB_of rfl) (elem_tab rfl) rfl rfl (by omega) he rfl) ?_
          refine goA ?_
          exact rfl
        · have hb2 : decide ((ds.length : Int) > 4) = false := by simp; omega
          by_cases h3 : ds'.length > 4
          · have hb3 : decide ((ds'.length : Int) > 4) = true := by simp; omega
            have e : longB n es = true := by
              unfold longB
              have : es.any big = true := List.any_eq_true.2 ⟨es[j], List.getElem_mem hlt, by rw [hE]; simp only [big, hb3, Bool.or_true]⟩
              rw [this, Bool.or_true]
            rw [e]
            refine goA ?_
            refine evG ggA (ss_index_sl (InB_of rfl) (elem_tab rfl) rfl rfl (by omega) he rfl) ?_
            refine goA ?_
            refine evG ggA (ss_index_sl (InB_of rfl) (elem_tab rfl) rfl rfl (by omega) he rfl) ?_
            refine goA ?_
            exact rfl
          · have hb3 : decide ((ds'.length : Int) > 4) = false := by simp; omega
            refine goA ?_
            refine evG ggA (ss_index_sl (InB_of rfl) (elem_tab rfl) rfl rfl (by omega) he rfl) ?_
            refine goA ?_
            refine evG ggA (ss_index_sl (InB_of rfl) (elem_tab rfl) rfl rfl (by omega) he rfl) ?_
            refine goA ?_
            refine loopQ_intro (k := es.length - (j + 1)) (s' := mkS [(1, .v (.sl es)), (4, .v (.p (.bool false))), (5, .v (.p (.int .i64 ((j : Int) + 1))))] [] 34 true) (by omega) (by exact entA) ⟨j + 1, rfl, hlt, fun i e hi h => ?_, by simp⟩
            by_cases hij : i = j
            · subst hij
              rw [he] at h
              injection h with h
              subst h
              simp only [big, hb2, hb3, Bool.or_self]
            · exact hz i e (by omega) h
      · have hb1 : decide ((j : Int) < (es.length : Int)) = false := by simp; omega
        have e : longB n es = false := by
          unfold longB
          have : es.any big = false := by
            rw [List.any_eq_false]
            intro x hx
            obtain ⟨i, hi, rfl⟩ := List.getElem_of_mem hx
            rw [hz i es[i] (by omega) (List.getElem?_eq_getElem hi)]
            simp
          rw [this, Bool.or_false]
          simpa using h1
        refine goA ?_
        exact midQ_intro (s' := mkS [] [] 34 true) (by exact entA) ⟨e, rfl⟩
    rintro _ ⟨e, rfl⟩
    rw [e]
    refine goA ?_
    exact rfl
theorem great_p (n : Nat) {s : Int} {es : List AV} (hc : ValidP s es.length = true → ∀ e, e ∈ es → C4 e) (hn : n ≤ 1000) (hr : InR s es.length) : PC Tryz.prog 7 [.p (.int .i64 n), serA s es] (.p (.bool (ValidP s es.length && longB n es))) := by
  have hv := check_p hr.lo hr.hi hr.len
  cases h1 : ValidP s es.length with
  | false =>
    rw [h1] at hv
    refine pc_body1 true Tryz.func7 rfl rfl rfl (Nat.le_of_ble_eq_true rfl) CellT.tmp ?_
    refine goA ?_
    refine evG ggA (ss_call (InB_of rfl) rfl rfl hv) ?_
    refine goA ?_
    exact rfl
  | true =>
    rw [h1] at hv
    have c := long_p n es (hc h1) hn hr.len
    refine pc_body1 true Tryz.func7 rfl rfl rfl (Nat.le_of_ble_eq_true rfl) CellT.tmp ?_
    refine goA ?_
    refine evG ggA (ss_call (InB_of rfl) rfl rfl hv) ?_
    refine goA ?_
    refine evG ggA (ss_call (InB_of rfl) rfl rfl c) ?_
    cases longB n es with
    | true =>
      refine goA ?_
      exact rfl
    | false =>
      refine goA ?_
      exact rfl
end Ab
namespace Ab
open Go Go.RowKit Go.Proofs Hp
set_option maxRecDepth 100000

/-- what the gate lets in -/
def inn (x : Int × List AV) : Bool := ValidP x.1 x.2.length && !longB 12 x.2 && decide (-8 ≤ x.1) && decide (x.1 ≤ 40)
def serV (x : Int × List AV) : AV := serA x.1 x.2
theorem inn_false {L : List (Int × List AV)} {j : Nat} (hlt : j < L.length) (h : inn L[j] = false) : L.all inn = false := by
  rw [List.all_eq_false]
  exact ⟨L[j], List.getElem_mem hlt, by rw [h]; simp⟩
end Ab
