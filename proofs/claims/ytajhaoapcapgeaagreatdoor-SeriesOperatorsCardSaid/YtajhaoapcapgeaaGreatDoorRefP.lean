/- Package ref33: zero, Prec, Ord, Result, in abstract values. -/
import Derived.Test.YtajhaoapcapgeaaGreatDoorRfD
import Derived.Test.YtajhaoapcapgeaaGreatDoorSerC
set_option linter.all false
namespace Ab
open Go Go.RowKit Go.Proofs Hp
set_option maxRecDepth 100000

theorem num_zero {q : Rat} : decide (q.num.natAbs = 0) = decide (q = 0) := by
  rw [decide_eq_decide]
  constructor
  · intro h
    have h2 : q.num = 0 := by omega
    exact Rat.num_eq_zero.1 h2
  · intro h; rw [h]; rfl
theorem zero_p {a : AV} {k : Nat} {q : Rat} (h : IsV a k q) (hk : k ≤ 274877906944) : PC Tryz.prog 106 [a] (.p (.bool (decide (q = 0)))) := by
  have c : PC Tryz.prog 100 [a] (encQ q) := (refnormal_p h hk).up
  obtain ⟨g, ds, g', ds', rfl⟩ := isV_cells h
  have e0 := dgs_len0 (n := q.num.natAbs)
  have e1 : (((dgs q.num.natAbs).map u32).length : Int) = ((dgs q.num.natAbs).length : Int) := by simp
  rw [← e1, num_zero] at e0
  rw [← e0]
  unfold encQ ci at c
  refine pc_body1 true Tryz.func106 rfl rfl rfl (Nat.le_of_ble_eq_true rfl) CellT.tmp ?_
  refine goA ?_
  refine evG ggA (ss_call (InB_of rfl) rfl rfl c) ?_
  refine evG ggA (ss_fld_agg (InB_of rfl) fg_num rfl rfl rfl) ?_
  refine evG ggA (ss_fld_one (InB_of rfl) fo_mag rfl rfl) ?_
  refine goA ?_
  exact rfl
theorem rprec_p {s : Int} {es : List AV} (h0 : -100 ≤ s) (h1 : s ≤ 1000) (h2 : (es.length : Int) ≤ 1000 - s) : PC Tryz.prog 35 [serA s es] (.p (.int .i64 (s + es.length))) := by
  refine pc_body1 true Tryz.func35 rfl rfl rfl (Nat.le_of_ble_eq_true rfl) CellT.tmp ?_
  refine goA ?_
  exact rfl
theorem lead_step {l : List Rat} {j : Nat} (h : ∀ i, i < j → l[i]? = some 0) : j ≤ l.length := by
  by_cases hj : j ≤ l.length
  · exact hj
  · have := h l.length (by omega)
    rw [List.getElem?_eq_none (Nat.le_refl _)] at this
    cases this
set_option maxHeartbeats 2000000 in
theorem rord_p {s : Int} {es : List AV} {l : List Rat} {K : Nat} (h : IsL es K l) (hK : K ≤ 274877906944) (h0 : -100 ≤ s) (h1 : s ≤ 1000) (h2 : (es.length : Int) ≤ 1000 - s) : PC Tryz.prog 43 [serA s es] (.p (.int .i64 (s + lead l))) := by
  have hle := h.get.1
  have cp := rprec_p h0 h1 h2
  refine pc_body1 true Tryz.func43 rfl rfl rfl (Nat.le_of_ble_eq_true rfl) CellT.tmp ?_
  refine r1A ?_
  refine T.seqI (fun s1 => lead l = es.length ∧ s1 = mkS [(1, .ptr 1 0)] [(1, .var [.v (.p (.int .i64 s)), .v (.sl es)])] 24 true) ?_ ?_
  · refine r1A ?_
    refine T.block ?_
    refine T.loop (fun n s1 => ∃ i : Nat, n = es.length - i ∧ i ≤ es.length ∧ (∀ j, j < i → l[j]? = some 0) ∧ s1 = mkS [(1, .ptr 1 0), (3, .v (.p (.int .i64 (i : Nat))))] [(1, .var [.v (.p (.int .i64 s)), .v (.sl es)])] 24 true) es.length
      (s' := mkS [(1, .ptr 1 0), (3, .v (.p (.int .i64 (0 : Nat))))] [(1, .var [.v (.p (.int .i64 s)), .v (.sl es)])] 24 true) (by exact entA) ⟨0, rfl, Nat.zero_le _, fun j hj => absurd hj (Nat.not_lt_zero _), rfl⟩ ?_
    rintro _ _ ⟨i, rfl, hi, hz, rfl⟩
    by_cases hlt : i < es.length
    · have hb : decide ((i : Int) < (es.length : Int)) = true := by simp; omega
      obtain ⟨g, xs, g', xs', q, e1, e2, e3⟩ := h.at hlt
      have e1' : es[((i : Nat) : Int).toNat]? = some (.agg [.p (.bool g), .sl xs, .p (.bool g'), .sl xs']) := by rw [Int.toNat_natCast]; exact e1
      have cz := zero_p e3 hK
      by_cases hq : q = 0
      · rw [decide_eq_true hq] at cz
        refine goA ?_
        refine evG ggA (ss_index_sl (InB_of rfl) (elem_tab rfl) rfl rfl (by omega) e1' rfl) ?_
        refine goA ?_
        refine evG ggA (ss_call (InB_of rfl) rfl rfl cz) ?_
        refine goA ?_
        exact loopQ_intro (k := es.length - (i + 1)) (s' := mkS [(1, .ptr 1 0), (3, .v (.p (.int .i64 ((i : Int) + 1))))] [(1, .var [.v (.p (.int .i64 s)), .v (.sl es)])] 24 true) (by omega) (by exact entA) ⟨i + 1, rfl, hlt, fun j hj => by
          by_cases hji : j = i
          · subst hji; rw [e2, hq]
          · exact hz j (by omega), rfl⟩
      · rw [decide_eq_false hq] at cz
        have hl : lead l = i := lead_eq hz (fun q' h' => by rw [e2] at h'; injection h' with h'; subst h'; exact hq) (by omega)
        rw [hl]
        refine goA ?_
        refine evG ggA (ss_index_sl (InB_of rfl) (elem_tab rfl) rfl rfl (by omega) e1' rfl) ?_
        refine goA ?_
        refine evG ggA (ss_call (InB_of rfl) rfl rfl cz) ?_
        refine goA ?_
        exact rfl
    · obtain rfl : i = es.length := by omega
      have hb : decide ((es.length : Int) < (es.length : Int)) = false := by simp
      have hl : lead l = es.length := lead_eq hz (fun q' h' => by rw [List.getElem?_eq_none (by omega)] at h'; cases h') (by omega)
      refine goA ?_
      exact midQ_intro (s' := mkS [(1, .ptr 1 0)] [(1, .var [.v (.p (.int .i64 s)), .v (.sl es)])] 24 true) (by exact entA) ⟨hl, rfl⟩
  rintro _ ⟨hl, rfl⟩
  rw [hl]
  refine goA ?_
  refine evG ggA (ss_call (InB_of rfl) rfl rfl cp) ?_
  refine goA ?_
  exact rfl
end Ab
