/- Comparison of integers, fractions, lists and series field by field, in abstract values. -/
import Derived.Test.YtmcfohngblbpbaaGreatComb
namespace Ab
open Go Go.RowKit Go.Proofs Hp
set_option maxRecDepth 100000

/-- a fraction as it lies: signs and digits -/
abbrev RQ := (Bool × List Int) × (Bool × List Int)
def rawI (r : Bool × List Int) : AV := .agg [.p (.bool r.1), .sl (r.2.map u32)]
def rawA (r : RQ) : AV := .agg [.p (.bool r.1.1), .sl (r.1.2.map u32), .p (.bool r.2.1), .sl (r.2.2.map u32)]
def ri (z : Int) : Bool × List Int := (decide (z < 0), dgs z.natAbs)
def rq (q : Rat) : RQ := (ri q.num, ri q.den)
theorem encQ_raw (q : Rat) : encQ q = rawA (rq q) := rfl
theorem encI_raw (z : Int) : encI z = rawI (ri z) := rfl
theorem encs_raw (l : List Rat) : l.map encQ = (l.map rq).map rawA := by rw [List.map_map]; rfl
theorem ri_inj {x y : Int} (h : ri x = ri y) : x = y := by
  simp only [ri, Prod.mk.injEq, decide_eq_decide] at h
  obtain ⟨h1, h2⟩ := h
  have h3 : (x.natAbs : Int) = y.natAbs := by rw [← dgs_vl, ← dgs_vl, h2]
  omega
theorem rq_inj {x y : Rat} (h : rq x = rq y) : x = y := by
  simp only [rq, Prod.mk.injEq] at h
  have h1 := ri_inj h.1
  have h2 := ri_inj h.2
  rw [← Rat.num_divInt_den x, ← Rat.num_divInt_den y, h1, h2]
theorem rqs_inj : ∀ {l m : List Rat}, l.map rq = m.map rq → l = m
  | [], [], _ => rfl
  | [], _ :: _, h => by simp at h
  | _ :: _, [], h => by simp at h
  | x :: l, y :: m, h => by
    simp only [List.map_cons, List.cons.injEq] at h
    rw [rq_inj h.1, rqs_inj h.2]
theorem u32_at {ds : List Int} {i : Nat} {d : Int} (h : ds[i]? = some d) : (ds.map u32)[i]? = some (.p (.int .u32 d)) := by rw [List.getElem?_map, h]; rfl
set_option maxHeartbeats 1000000 in
theorem sameInt_p (r q : Bool × List Int) (hr : r.2.length ≤ 4611686018427387904) : PC Tryz.prog 97 [rawI r, rawI q] (.p (.bool (decide (r = q)))) := by
  obtain ⟨g, ds⟩ := r
  obtain ⟨g', es⟩ := q
  have hr : ds.length ≤ 4611686018427387904 := hr
  by_cases h1 : g = g'
  · subst h1
    have hb1 : (!(g == g)) = false := by simp
    by_cases h2 : ds.length = es.length
    · have hb2 : (((ds.map u32).length : Int) != ((es.map u32).length : Int)) = false := by simp [h2]
      refine pc_body1 false Tryz.func97 rfl rfl rfl (Nat.le_of_ble_eq_true rfl) CellT.tmp ?_
      refine r1A ?_
      refine T.seqI (fun s1 => s1 = mkS [(2, .ptr 2 0), (3, .ptr 3 0)] [(2, .var [.v (.p (.bool g)), .v (.sl (ds.map u32))]), (3, .var [.v (.p (.bool g)), .v (.sl (es.map u32))])] 38 false) ?_ ?_
      · refine goA ?_
        exact midQ_intro (by exact entA) rfl
      rintro _ rfl
      refine T.seqI (fun s1 => ds = es ∧ s1 = mkS [] [] 38 false) ?_ ?_
      · refine r1A ?_
        refine T.block ?_
        refine T.loop (fun n s1 => ∃ k : Nat, n = ds.length - k ∧ k ≤ ds.length ∧ (∀ i, i < k → ds[i]? = es[i]?) ∧ s1 = mkS [(5, .v (.p (.int .i64 k))), (2, .ptr 2 0), (3, .ptr 3 0)] [(2, .var [.v (.p (.bool g)), .v (.sl (ds.map u32))]), (3, .var [.v (.p (.bool g)), .v (.sl (es.map u32))])] 38 false) ds.length
          (s' := mkS [(5, .v (.p (.int .i64 (0 : Nat)))), (2, .ptr 2 0), (3, .ptr 3 0)] [(2, .var [.v (.p (.bool g)), .v (.sl (ds.map u32))]), (3, .var [.v (.p (.bool g)), .v (.sl (es.map u32))])] 38 false) (by exact entA) ⟨0, rfl, Nat.zero_le _, fun i hi => absurd hi (Nat.not_lt_zero _), rfl⟩ ?_
        rintro n _ ⟨k, rfl, hk, hz, rfl⟩
        by_cases hlt : k < ds.length
        · have hb : decide ((k : Int) < ((ds.map u32).length : Int)) = true := by simp; omega
          have e1 : ds[k]? = some ds[k] := List.getElem?_eq_getElem hlt
          have e2 : es[k]? = some es[k] := List.getElem?_eq_getElem (by omega)
          have e3 := u32_at e1
          have e4 := u32_at e2
          refine goA ?_
          refine evG ggA (ss_index_sl (InB_of rfl) (elem_tab rfl) rfl rfl (by omega) e3 rfl) ?_
          refine goA ?_
          refine evG ggA (ss_index_sl (InB_of rfl) (elem_tab rfl) rfl rfl (by omega) e4 rfl) ?_
          by_cases hd : ds[k] = es[k]
          · have hb3 : (ds[k] != es[k]) = false := by simp [hd]
            refine goA ?_
            refine loopQ_intro (k := ds.length - (k + 1)) (s' := mkS [(5, .v (.p (.int .i64 ((k : Int) + 1)))), (2, .ptr 2 0), (3, .ptr 3 0)] [(2, .var [.v (.p (.bool g)), .v (.sl (ds.map u32))]), (3, .var [.v (.p (.bool g)), .v (.sl (es.map u32))])] 38 false) (by omega) (by exact entA) ⟨k + 1, rfl, hlt, fun i hi => ?_, by simp⟩
            by_cases hik : i = k
            · subst hik; rw [e1, e2, hd]
            · exact hz i (by omega)
          · have hb3 : (ds[k] != es[k]) = true := by simp [hd]
            have hne : decide ((g, ds) = (g, es)) = false := by
              simp only [Prod.mk.injEq, true_and, decide_eq_false_iff_not]
              intro e; subst e; exact hd rfl
            rw [hne]
            refine goA ?_
            exact rfl
        · have hb : decide ((k : Int) < ((ds.map u32).length : Int)) = false := by simp; omega
          have hde : ds = es := by
            apply List.ext_getElem?
            intro i
            by_cases hi : i < k
            · exact hz i hi
            · rw [List.getElem?_eq_none (by omega), List.getElem?_eq_none (by omega)]
          refine goA ?_
          exact midQ_intro (s' := mkS [] [] 38 false) (by exact entA) ⟨hde, rfl⟩
      rintro _ ⟨rfl, rfl⟩
      have hne : decide ((g, ds) = (g, ds)) = true := by simp
      rw [hne]
      refine goA ?_
      exact rfl
    · have hb2 : (((ds.map u32).length : Int) != ((es.map u32).length : Int)) = true := by simp; omega
      have hne : decide ((g, ds) = (g, es)) = false := by
        simp only [Prod.mk.injEq, true_and, decide_eq_false_iff_not]
        intro e; subst e; exact h2 rfl
      rw [hne]
      refine pc_body1 false Tryz.func97 rfl rfl rfl (Nat.le_of_ble_eq_true rfl) CellT.tmp ?_
      refine goA ?_
      exact rfl
  · have hb1 : (!(g == g')) = true := by simp [h1]
    have hne : decide ((g, ds) = (g', es)) = false := by
      simp only [Prod.mk.injEq, decide_eq_false_iff_not]
      exact fun e => h1 e.1
    rw [hne]
    refine pc_body1 false Tryz.func97 rfl rfl rfl (Nat.le_of_ble_eq_true rfl) CellT.tmp ?_
    refine goA ?_
    exact rfl
theorem sameRat_p (r q : RQ) (h1 : r.1.2.length ≤ 4611686018427387904) (h2 : r.2.2.length ≤ 4611686018427387904) : PC Tryz.prog 78 [rawA r, rawA q] (.p (.bool (decide (r = q)))) := by
  obtain ⟨⟨g, ds⟩, ⟨g', ds'⟩⟩ := r
  obtain ⟨⟨k, es⟩, ⟨k', es'⟩⟩ := q
  have c1 := sameInt_p (g, ds) (k, es) h1
  have c2 := sameInt_p (g', ds') (k', es') h2
  cases hd : decide ((g, ds) = (k, es)) with
  | false =>
    rw [hd] at c1
    have e : decide (((g, ds), (g', ds')) = ((k, es), (k', es'))) = false := by
      simp only [decide_eq_false_iff_not, Prod.mk.injEq] at hd ⊢
      exact fun h => hd h.1
    rw [e]
    refine pc_body1 true Tryz.func78 rfl rfl rfl (Nat.le_of_ble_eq_true rfl) CellT.tmp ?_
    refine goA ?_
    refine evG ggA (ss_call (InB_of rfl) rfl rfl c1) ?_
    refine goA ?_
    exact rfl
  | true =>
    rw [hd] at c1
    have e : decide (((g, ds), (g', ds')) = ((k, es), (k', es'))) = decide ((g', ds') = (k', es')) := by
      have hd := of_decide_eq_true hd
      rw [hd]
      simp
    rw [e]
    refine pc_body1 true Tryz.func78 rfl rfl rfl (Nat.le_of_ble_eq_true rfl) CellT.tmp ?_
    refine goA ?_
    refine evG ggA (ss_call (InB_of rfl) rfl rfl c1) ?_
    refine goA ?_
    refine evG ggA (ss_call (InB_of rfl) rfl rfl c2) ?_
    refine goA ?_
    exact rfl
/-- no number of more than k digits -/
def Small (k : Nat) (R : List RQ) : Prop := ∀ r, r ∈ R → r.1.2.length ≤ k ∧ r.2.2.length ≤ k
set_option maxHeartbeats 1000000 in
theorem sameRats_p (R S : List RQ) (hR : Small 4611686018427387904 R) (hl : R.length ≤ 4611686018427387904) : PC Tryz.prog 37 [.sl (R.map rawA), .sl (S.map rawA)] (.p (.bool (decide (R = S)))) := by
  by_cases h2 : R.length = S.length
  · have hb2 : (((R.map rawA).length : Int) != ((S.map rawA).length : Int)) = false := by simp [h2]
    refine pc_body1 true Tryz.func37 rfl rfl rfl (Nat.le_of_ble_eq_true rfl) CellT.tmp ?_
    refine r1A ?_
    refine T.seqI (fun s1 => s1 = mkS [(0, .v (.sl (R.map rawA))), (1, .v (.sl (S.map rawA)))] [] 27 true) ?_ ?_
    · refine goA ?_
      exact midQ_intro (by exact entA) rfl
    rintro _ rfl
    refine T.seqI (fun s1 => R = S ∧ s1 = mkS [] [] 27 true) ?_ ?_
    · refine r1A ?_
      refine T.block ?_
      refine T.loop (fun n s1 => ∃ k : Nat, n = R.length - k ∧ k ≤ R.length ∧ (∀ i, i < k → R[i]? = S[i]?) ∧ s1 = mkS [(5, .v (.p (.int .i64 k))), (0, .v (.sl (R.map rawA))), (1, .v (.sl (S.map rawA)))] [] 27 true) R.length
        (s' := mkS [(5, .v (.p (.int .i64 (0 : Nat)))), (0, .v (.sl (R.map rawA))), (1, .v (.sl (S.map rawA)))] [] 27 true) (by exact entA) ⟨0, rfl, Nat.zero_le _, fun i hi => absurd hi (Nat.not_lt_zero _), rfl⟩ ?_
      rintro n _ ⟨k, rfl, hk, hz, rfl⟩
      by_cases hlt : k < R.length
      · have hb : decide ((k : Int) < ((R.map rawA).length : Int)) = true := by simp; omega
        have e1 : R[k]? = some R[k] := List.getElem?_eq_getElem hlt
        have e2 : S[k]? = some S[k] := List.getElem?_eq_getElem (by omega)
        have e3 : (R.map rawA)[k]? = some (rawA R[k]) := by rw [List.getElem?_map, e1]; rfl
        have e4 : (S.map rawA)[k]? = some (rawA S[k]) := by rw [List.getElem?_map, e2]; rfl
        obtain ⟨s1, s2⟩ := hR R[k] (List.getElem_mem hlt)
        have c := sameRat_p R[k] S[k] s1 s2
        refine goA ?_
        refine evG ggA (ss_index_sl (InB_of rfl) (elem_tab rfl) rfl rfl (by omega) e3 rfl) ?_
        refine goA ?_
        refine evG ggA (ss_index_sl (InB_of rfl) (elem_tab rfl) rfl rfl (by omega) e4 rfl) ?_
        refine goA ?_
        by_cases hd : R[k] = S[k]
        · have hb3 : decide (R[k] = S[k]) = true := by simp [hd]
          rw [hb3] at c
          refine evG ggA (ss_call (InB_of rfl) rfl rfl c) ?_
          refine goA ?_
          refine loopQ_intro (k := R.length - (k + 1)) (s' := mkS [(5, .v (.p (.int .i64 ((k : Int) + 1)))), (0, .v (.sl (R.map rawA))), (1, .v (.sl (S.map rawA)))] [] 27 true) (by omega) (by exact entA) ⟨k + 1, rfl, hlt, fun i hi => ?_, by simp⟩
          by_cases hik : i = k
          · subst hik; rw [e1, e2, hd]
          · exact hz i (by omega)
        · have hb3 : decide (R[k] = S[k]) = false := by simp [hd]
          rw [hb3] at c
          have hne : decide (R = S) = false := by
            simp only [decide_eq_false_iff_not]
            intro e; subst e; exact hd rfl
          rw [hne]
          refine evG ggA (ss_call (InB_of rfl) rfl rfl c) ?_
          refine goA ?_
          exact rfl
      · have hb : decide ((k : Int) < ((R.map rawA).length : Int)) = false := by simp; omega
        have hde : R = S := by
          apply List.ext_getElem?
          intro i
          by_cases hi : i < k
          · exact hz i hi
          · rw [List.getElem?_eq_none (by omega), List.getElem?_eq_none (by omega)]
        refine goA ?_
        exact midQ_intro (s' := mkS [] [] 27 true) (by exact entA) ⟨hde, rfl⟩
    rintro _ ⟨rfl, rfl⟩
    have hne : decide (R = R) = true := by simp
    rw [hne]
    refine goA ?_
    exact rfl
  · have hb2 : (((R.map rawA).length : Int) != ((S.map rawA).length : Int)) = true := by simp; omega
    have hne : decide (R = S) = false := by
      simp only [decide_eq_false_iff_not]
      intro e; subst e; exact h2 rfl
    rw [hne]
    refine pc_body1 true Tryz.func37 rfl rfl rfl (Nat.le_of_ble_eq_true rfl) CellT.tmp ?_
    refine goA ?_
    exact rfl
def serR (s : Int) (R : List RQ) : AV := serA s (R.map rawA)
theorem sameSeries_p (s t : Int) (R S : List RQ) (hR : Small 4611686018427387904 R) (hl : R.length ≤ 4611686018427387904) : PC Tryz.prog 29 [serR s R, serR t S] (.p (.bool (decide (s = t ∧ R = S)))) := by
  have c := sameRats_p R S hR hl
  by_cases h : s = t
  · subst h
    have hb : (s == s) = true := by simp
    have e : decide (s = s ∧ R = S) = decide (R = S) := by simp
    rw [e]
    refine pc_body1 true Tryz.func29 rfl rfl rfl (Nat.le_of_ble_eq_true rfl) CellT.tmp ?_
    refine goA ?_
    refine evG ggA (ss_call (InB_of rfl) rfl rfl c) ?_
    refine goA ?_
    exact rfl
  · have hb : (s == t) = false := by simp [h]
    have e : decide (s = t ∧ R = S) = false := by simp [h]
    rw [e]
    refine pc_body1 true Tryz.func29 rfl rfl rfl (Nat.le_of_ble_eq_true rfl) CellT.tmp ?_
    refine goA ?_
    exact rfl
/-- the document's test of a series -/
theorem check_p {s : Int} {es : List AV} (hs0 : -9223372036854775808 ≤ s) (hs1 : s ≤ 9223372036854775807) (hn : es.length ≤ 9223372036854775807) : PC Tryz.prog 41 [serA s es] (.p (.int .i64 (if ValidP s es.length then 0 else 2))) := by
  by_cases h1 : -100 ≤ s
  · have hb1 : decide (s < -100) = false := by simp; omega
    by_cases h2 : s ≤ 1000
    · have hb2 : decide (s > 1000) = false := by simp; omega
      by_cases h3 : (es.length : Int) ≤ 1000 - s
      · have hb3 : decide ((es.length : Int) > 1000 - s) = false := by simp; omega
        have e : ValidP s es.length = true := valid_iff.2 ⟨h1, h2, h3⟩
        rw [e]
        refine pc_body1 true Tryz.func41 rfl rfl rfl (Nat.le_of_ble_eq_true rfl) CellT.tmp ?_
        refine goA ?_
        exact rfl
      · have hb3 : decide ((es.length : Int) > 1000 - s) = true := by simp; omega
        have e : ValidP s es.length = false := by unfold ValidP; simp; omega
        rw [e]
        refine pc_body1 true Tryz.func41 rfl rfl rfl (Nat.le_of_ble_eq_true rfl) CellT.tmp ?_
        refine goA ?_
        exact rfl
    · have hb2 : decide (s > 1000) = true := by simp; omega
      have e : ValidP s es.length = false := by unfold ValidP; simp; omega
      rw [e]
      refine pc_body1 true Tryz.func41 rfl rfl rfl (Nat.le_of_ble_eq_true rfl) CellT.tmp ?_
      refine goA ?_
      exact rfl
  · have hb1 : decide (s < -100) = true := by simp; omega
    have e : ValidP s es.length = false := by unfold ValidP; simp; omega
    rw [e]
    refine pc_body1 true Tryz.func41 rfl rfl rfl (Nat.le_of_ble_eq_true rfl) CellT.tmp ?_
    refine goA ?_
    exact rfl
end Ab
