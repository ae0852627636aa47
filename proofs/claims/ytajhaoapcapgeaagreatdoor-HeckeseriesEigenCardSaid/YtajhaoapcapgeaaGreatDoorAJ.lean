/- Lists of whole fractions, small series, the example of the chapter; in abstract values. The helpers of the statements on series, in abstract values. The gate of the statements on series, in abstract values. -/
import Derived.Test.YtajhaoapcapgeaaGreatDoorBase
import Derived.KernelRfl
set_option linter.all false
namespace Ab
open Go Go.RowKit Go.Proofs Hp
set_option maxRecDepth 100000

def qsL (xs : List Int) : List Rat := xs.map fun (x : Int) => (x : Rat)
def iv (x : Int) : AV := .p (.int .i64 x)
set_option maxHeartbeats 1000000 in
theorem qs_p (xs : List Int) (hx : ∀ x, x ∈ xs → -9223372036854775808 ≤ x ∧ x ≤ 9223372036854775807) (hl : xs.length ≤ 100000) : PC Tryz.prog 73 [.sl (xs.map iv)] (.sl ((qsL xs).map encQ)) := by
  refine pc_body1 true Tryz.func73 rfl rfl rfl (Nat.le_of_ble_eq_true rfl) CellT.tmp ?_
  refine r1A ?_
  refine r1A ?_
  refine T.seqI (fun s1 => s1 = mkS [(3, .v (.sl ((qsL xs).map encQ)))] [] 20 true) ?_ ?_
  · refine r1A ?_
    refine T.block ?_
    refine T.loop (fun n s1 => ∃ j : Nat, n = xs.length - j ∧ j ≤ xs.length ∧ s1 = mkS [(0, .v (.sl (xs.map iv))), (3, .own 100 j), (4, .v (.p (.int .i64 j)))] [(100, .lst 4 49 (((qsL xs).take j).map encQ))] 20 true) xs.length
      (s' := mkS [(0, .v (.sl (xs.map iv))), (3, .own 100 0), (4, .v (.p (.int .i64 (0 : Nat))))] [(100, .lst 4 49 [])] 20 true) (by exact entA) ⟨0, rfl, Nat.zero_le _, rfl⟩ ?_
    rintro n _ ⟨j, rfl, hj, rfl⟩
    by_cases hlt : j < xs.length
    · have hb : decide ((j : Int) < ((xs.map iv).length : Int)) = true := by simp; omega
      have hq : (qsL xs)[j]? = some ((xs[j] : Int) : Rat) := by unfold qsL; rw [List.getElem?_map, List.getElem?_eq_getElem hlt]; rfl
      have he : (xs.map iv)[j]? = some (.p (.int .i64 xs[j])) := by rw [List.getElem?_map, List.getElem?_eq_getElem hlt]; rfl
      have ht : ((qsL xs).take j).length = j := by unfold qsL; simp; omega
      obtain ⟨x0, x1⟩ := hx xs[j] (List.getElem_mem hlt)
      have c := q_p xs[j] x0 x1
      refine goA ?_
      refine evG ggA (ss_index_sl (InB_of rfl) (elem_tab rfl) rfl rfl (by omega) he rfl) ?_
      refine goA ?_
      refine evG ggA (ss_call (InB_of rfl) rfl rfl c) ?_
      (refine evG ggA (ss_bslice (InB_of rfl) (make_tab rfl) rfl rfl rfl rfl (one_ok rfl rfl) (Nat.le_of_ble_eq_true rfl)) ?_; refine evG ggA (ss_snoc (InB_of rfl) (make_tab rfl) rfl rfl (by first | rfl | assumption | (simp; done) | (simp; omega)) rfl (by omega) (Nat.le_of_ble_eq_true rfl) rfl) ?_)
      refine goA ?_
      exact loopQ_intro (k := xs.length - (j + 1)) (s' := mkS [(0, .v (.sl (xs.map iv))), (3, .own 100 (j + 1)), (4, .v (.p (.int .i64 ((j : Int) + 1))))] [(100, .lst 4 49 (((qsL xs).take j ++ [((xs[j] : Int) : Rat)]).map encQ))] 20 true) (by omega) (by exact entA) ⟨j + 1, rfl, hlt, by rw [take_succ hq]; rfl⟩
    · have hb : decide ((j : Int) < ((xs.map iv).length : Int)) = false := by simp; omega
      have ht : (qsL xs).take j = qsL xs := List.take_of_length_le (by unfold qsL; simp; omega)
      have hlen : ((qsL xs).map encQ).length = j := by unfold qsL; simp; omega
      rw [ht]
      refine goA ?_
      exact midQ_intro (s' := mkS [(3, .v (.sl ((qsL xs).map encQ)))] [] 20 true) (by exact entA) rfl
  rintro _ rfl
  refine goA ?_
  exact rfl
theorem s_p (s : Int) (xs : List Int) (hx : ∀ x, x ∈ xs → -9223372036854775808 ≤ x ∧ x ≤ 9223372036854775807) (hl : xs.length ≤ 100000) : PC Tryz.prog 51 [.p (.int .i64 s), .sl (xs.map iv)] (serA s ((qsL xs).map encQ)) := by
  have c := qs_p xs hx hl
  refine pc_body1 true Tryz.func51 rfl rfl rfl (Nat.le_of_ble_eq_true rfl) (CellT.agg agg_ser) ?_
  refine goA ?_
  refine evG ggA (ss_call (InB_of rfl) rfl rfl c) ?_
  refine goA ?_
  exact rfl
theorem small_enc {l : List Rat} {k : Nat} (h : ∀ q, q ∈ l → Ht q k) : Small k (l.map rq) := fun r hr => by
  obtain ⟨q, hq, rfl⟩ := List.mem_map.1 hr
  obtain ⟨h1, h2⟩ := h q hq
  exact ⟨dgs_len (by simpa [rq, ri] using h1), dgs_len (by simpa [rq, ri] using h2)⟩
theorem sameQ_p {s t : Int} {l m : List Rat} {k : Nat} (h : ∀ q, q ∈ l → Ht q k) (hk : k ≤ 4611686018427387904) (hl : l.length ≤ 4611686018427387904) : PC Tryz.prog 53 [serA s (l.map encQ), serA t (m.map encQ)] (.p (.bool (decide (s = t ∧ l = m)))) := by
  have c := sameSeries_p s t (l.map rq) (m.map rq) (fun r hr => ⟨Nat.le_trans (small_enc h r hr).1 hk, Nat.le_trans (small_enc h r hr).2 hk⟩) (by simpa using hl)
  have e : decide (s = t ∧ l.map rq = m.map rq) = decide (s = t ∧ l = m) := by
    rw [decide_eq_decide]
    exact ⟨fun h => ⟨h.1, rqs_inj h.2⟩, fun h => ⟨h.1, by rw [h.2]⟩⟩
  unfold serR at c
  rw [e, ← encs_raw, ← encs_raw] at c
  exact c
theorem small4 {xs : List Int} (h : ∀ x, x ∈ xs → x.natAbs < 4294967296) : ∀ q, q ∈ qsL xs → Ht q 1 := fun q hq => by
  obtain ⟨x, hx, rfl⟩ := List.mem_map.1 hq
  exact ht_int (h x hx)
end Ab
namespace Ab
open Go Go.RowKit Go.Proofs Hp
set_option maxRecDepth 100000

theorem ones_ok {xs : List AV} {n : Nat} (h : (xs.all fun a => a.cells.length == n && a.cells.all AV.one) = true) : ∀ x, x ∈ xs → x.cells.length = n ∧ x.cells.all AV.one = true := fun x hx => by
  have := List.all_eq_true.1 h x hx
  simpa using this
theorem int_ok {xs : List Int} (h : (xs.all fun x => decide (x.natAbs < 1000)) = true) : ∀ x, x ∈ xs → x.natAbs < 1000 := fun x hx => by
  have := List.all_eq_true.1 h x hx
  simpa using this
theorem rng_ok {xs : List Int} (h : ∀ x, x ∈ xs → x.natAbs < 1000) : ∀ x, x ∈ xs → -9223372036854775808 ≤ x ∧ x ≤ 9223372036854775807 := fun x hx => by have := h x hx; omega
theorem sp {s : Int} {xs : List Int} (h : (xs.all fun x => decide (x.natAbs < 1000)) = true) (hl : xs.length ≤ 100000) : PC Tryz.prog 51 [.p (.int .i64 s), .sl (xs.map iv)] (serA s ((qsL xs).map encQ)) := s_p s xs (rng_ok (int_ok h)) hl
/-- no known difference -/
def agr (s : Int) (l : List Rat) (t : Int) (m : List Rat) : Bool := !(difR s l t m).2.1 && (difR s l t m).2.2 == 0
/-- a fraction's cells -/
def C4 (e : AV) : Prop := ∃ g ds g' ds', e = .agg [.p (.bool g), .sl ds, .p (.bool g'), .sl ds']
def big : AV → Bool
  | .agg [_, .sl ds, _, .sl ds'] => decide ((ds.length : Int) > 4) || decide ((ds'.length : Int) > 4)
  | _ => false
def longB (n : Nat) (es : List AV) : Bool := decide (n < es.length) || es.any big
end Ab
namespace Ab
open Go Go.RowKit Go.Proofs Hp
set_option maxRecDepth 100000

/-- what the gate lets in -/
def inn (x : Int × List AV) : Bool := ValidP x.1 x.2.length && !longB 12 x.2 && decide (-8 ≤ x.1) && decide (x.1 ≤ 40)
end Ab
