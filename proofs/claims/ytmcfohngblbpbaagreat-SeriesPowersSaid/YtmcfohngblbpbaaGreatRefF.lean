/- Package ref01: plus, minus, in abstract values. -/
import Derived.Test.YtmcfohngblbpbaaGreatRefE
namespace Ab
open Go Go.RowKit Go.Proofs Hp
set_option maxRecDepth 100000

theorem shr32 {x : Int} (h : 0 ≤ x) : x.fdiv (2 ^ (min (32 : Int).toNat IntKind.u64.bits)) = x / 4294967296 := by
  rw [show ((2 : Int) ^ (min (32 : Int).toNat IntKind.u64.bits)) = 4294967296 from by decide, Int.fdiv_eq_ediv_of_nonneg _ (by decide)]
theorem range_snoc (f : Nat → Int) (i : Nat) : (List.range (i + 1)).map f = (List.range i).map f ++ [f i] := by simp [List.range_succ]
theorem u32_one {d : Int} : ∀ a, a ∈ [AV.p (.int .u32 d)] → a.cells.length = 1 := fun a ha => by rw [List.mem_singleton] at ha; subst ha; rfl
set_option maxHeartbeats 2000000 in
theorem plus_p {ds es : List Int} (hd : ∀ d, d ∈ ds → isDig d) (he : ∀ d, d ∈ es → isDig d) (hl : ds.length ≤ 17592186044416) (hl2 : es.length ≤ 17592186044416) : PW Tryz.prog 114 [.sl (ds.map u32), .sl (es.map u32)] (.sl ((plusL ds es).map u32)) := by
  obtain ⟨N, hN⟩ : ∃ N, N = max ds.length es.length := ⟨_, rfl⟩
  have hNb : N ≤ 17592186044416 := by omega
  refine pc_body1 false Tryz.func114 rfl rfl rfl (Nat.le_of_ble_eq_true rfl) CellT.tmp ?_
  refine r1A ?_
  refine r1A ?_
  refine r1A ?_
  refine T.seqI (fun s1 => s1 = mkS [(5, .own 100 N), (6, .v (.p (.int .u64 (pC ds es N))))] [(100, .lst 1 49 (((List.range N).map (pO ds es)).map u32))] 56 false) ?_ ?_
  · refine r1A ?_
    refine T.block ?_
    refine T.loop (fun k s1 => ∃ i : Nat, k = N - i ∧ i ≤ N ∧ s1 = mkS [(0, .v (.sl (ds.map u32))), (1, .v (.sl (es.map u32))), (5, .own 100 i), (6, .v (.p (.int .u64 (pC ds es i)))), (7, .v (.p (.int .i64 (i : Nat))))] [(100, .lst 1 49 (((List.range i).map (pO ds es)).map u32))] 56 false) N
      (s' := mkS [(0, .v (.sl (ds.map u32))), (1, .v (.sl (es.map u32))), (5, .own 100 0), (6, .v (.p (.int .u64 0))), (7, .v (.p (.int .i64 (0 : Nat))))] [(100, .lst 1 49 [])] 56 false) (by exact entA) ⟨0, rfl, Nat.zero_le _, rfl⟩ ?_
    rintro n _ ⟨i, rfl, hi, rfl⟩
    have hc := pC_b hd he i
    have h1 := gd_b hd i
    have h2 := gd_b he i
    by_cases hlt : i < N
    · refine T.seqI (fun s1 => s1 = mkS [(0, .v (.sl (ds.map u32))), (1, .v (.sl (es.map u32))), (5, .own 100 i), (6, .v (.p (.int .u64 (pC ds es i)))), (7, .v (.p (.int .i64 (i : Nat))))] [(100, .lst 1 49 (((List.range i).map (pO ds es)).map u32))] 56 false) ?_ ?_
      · by_cases hA : i < ds.length
        · have hA' : decide ((i : Int) < ((ds.map u32).length : Int)) = true := by simp; omega
          refine goA ?_
          exact midQ_intro (by exact entA) rfl
        · have hA' : decide ((i : Int) < ((ds.map u32).length : Int)) = false := by simp; omega
          have hB' : decide ((i : Int) < ((es.map u32).length : Int)) = true := by simp; omega
          refine goA ?_
          exact midQ_intro (by exact entA) rfl
      rintro _ rfl
      refine T.seq ?_
      refine T.block ?_
      refine r1A ?_
      refine T.seqI (fun s1 => s1 = mkS [(0, .v (.sl (ds.map u32))), (1, .v (.sl (es.map u32))), (5, .own 100 i), (7, .v (.p (.int .i64 (i : Nat)))), (8, .v (.p (.int .u64 (pC ds es i + ds.getD i 0))))] [(100, .lst 1 49 (((List.range i).map (pO ds es)).map u32))] 56 false) ?_ ?_
      · by_cases hA : i < ds.length
        · have hA' : decide ((i : Int) < ((ds.map u32).length : Int)) = true := by simp; omega
          have hg := u32_get hA
          have gx : ds.getD i 0 = ds[i] := by simp [hA]
          rw [gx] at h1 ⊢
          refine goA ?_
          refine evG ggA (ss_index_sl (InB_of rfl) (elem_tab rfl) rfl rfl (by omega) hg rfl) ?_
          refine goA ?_
          refine evG ggA (ss_conv (InB_of rfl) (int_tab rfl) (int_tab rfl) rfl (u64w h1.1 (by omega))) ?_
          refine evG ggA (ss_arith (InB_of rfl) rfl rfl (u64w (by omega) (by omega))) ?_
          refine goA ?_
          exact midQ_intro (by exact entA) rfl
        · have hA' : decide ((i : Int) < ((ds.map u32).length : Int)) = false := by simp; omega
          have gx : ds.getD i 0 = 0 := by simp [List.getD_eq_getElem?_getD, List.getElem?_eq_none (show ds.length ≤ i by omega)]
          rw [gx, Int.add_zero]
          refine goA ?_
          exact midQ_intro (by exact entA) rfl
      rintro _ rfl
      refine T.seqI (fun s1 => s1 = mkS [(0, .v (.sl (ds.map u32))), (1, .v (.sl (es.map u32))), (5, .own 100 i), (7, .v (.p (.int .i64 (i : Nat)))), (8, .v (.p (.int .u64 (pC ds es i + ds.getD i 0 + es.getD i 0))))] [(100, .lst 1 49 (((List.range i).map (pO ds es)).map u32))] 56 false) ?_ ?_
      · by_cases hA : i < es.length
        · have hA' : decide ((i : Int) < ((es.map u32).length : Int)) = true := by simp; omega
          have hg := u32_get hA
          have gx : es.getD i 0 = es[i] := by simp [hA]
          rw [gx] at h2 ⊢
          refine goA ?_
          refine evG ggA (ss_index_sl (InB_of rfl) (elem_tab rfl) rfl rfl (by omega) hg rfl) ?_
          refine goA ?_
          refine evG ggA (ss_conv (InB_of rfl) (int_tab rfl) (int_tab rfl) rfl (u64w h2.1 (by omega))) ?_
          refine evG ggA (ss_arith (InB_of rfl) rfl rfl (u64w (by omega) (by omega))) ?_
          refine goA ?_
          exact midQ_intro (by exact entA) rfl
        · have hA' : decide ((i : Int) < ((es.map u32).length : Int)) = false := by simp; omega
          have gx : es.getD i 0 = 0 := by simp [List.getD_eq_getElem?_getD, List.getElem?_eq_none (show es.length ≤ i by omega)]
          rw [gx, Int.add_zero]
          refine goA ?_
          exact midQ_intro (by exact entA) rfl
      rintro _ rfl
      have hel : (((List.range i).map (pO ds es)).map u32).length = i := by simp
      have hco : IntKind.u32.wrap (pC ds es i + ds.getD i 0 + es.getD i 0) = pO ds es i := u32m _
      have hsh : (pC ds es i + ds.getD i 0 + es.getD i 0).fdiv (2 ^ (min (32 : Int).toNat IntKind.u64.bits)) = pC ds es (i + 1) := shr32 (by omega)
      have hsn : ((List.range i).map (pO ds es)).map u32 ++ [u32 (pO ds es i)] = ((List.range (i + 1)).map (pO ds es)).map u32 := by rw [range_snoc, List.map_append]; rfl
      refine T.seq ?_
      refine regA ?_
      refine runA ?_
      refine evG ggA (ss_conv (InB_of rfl) (int_tab rfl) (int_tab rfl) rfl hco) ?_
      refine evG ggA (ss_bslice (InB_of rfl) (make_tab rfl) rfl rfl rfl rfl (one_ok rfl rfl) (Nat.le_of_ble_eq_true rfl)) ?_
      refine evG ggA (ss_append (InB_of rfl) (make_tab rfl) rfl rfl hel rfl u32_one (by decide) (by simp [maxLen]; omega) (by simp; omega) rfl (fun h => by cases h)) ?_
      refine runA ?_
      refine ev_nil ?_
      refine seqQ_n ?_
      refine regA ?_
      refine runA ?_
      refine evG ggA (ss_shr (InB_of rfl) rfl rfl (by decide) hsh) ?_
      refine goA ?_
      refine loopQ_intro (k := N - (i + 1)) (s' := mkS [(0, .v (.sl (ds.map u32))), (1, .v (.sl (es.map u32))), (5, .own 100 (i + 1)), (6, .v (.p (.int .u64 (pC ds es (i + 1))))), (7, .v (.p (.int .i64 ((i : Int) + 1))))] [(100, .lst 1 49 (((List.range i).map (pO ds es)).map u32 ++ [u32 (pO ds es i)]))] 56 false) (by omega) (by exact entA) ⟨i + 1, rfl, hlt, by rw [hsn]; rfl⟩
    · obtain rfl : i = N := by omega
      have hA' : decide ((i : Int) < ((ds.map u32).length : Int)) = false := by simp; omega
      have hB' : decide ((i : Int) < ((es.map u32).length : Int)) = false := by simp; omega
      refine goA ?_
      exact midQ_intro (s' := mkS [(5, .own 100 i), (6, .v (.p (.int .u64 (pC ds es i))))] [(100, .lst 1 49 (((List.range i).map (pO ds es)).map u32))] 56 false) (by exact entA) rfl
  rintro _ rfl
  have hc := pC_b hd he N
  have hel : (((List.range N).map (pO ds es)).map u32).length = N := by simp
  have hfin : (plusL ds es).map u32 = ((List.range N).map (pO ds es)).map u32 ++ [u32 (pC ds es N)] := by unfold plusL; rw [← hN, List.map_append]; rfl
  rw [hfin]
  refine T.seq ?_
  refine regA ?_
  refine runA ?_
  refine evG ggA (ss_conv (InB_of rfl) (int_tab rfl) (int_tab rfl) rfl (u32w hc.1 (by omega))) ?_
  refine evG ggA (ss_bslice (InB_of rfl) (make_tab rfl) rfl rfl rfl rfl (one_ok rfl rfl) (Nat.le_of_ble_eq_true rfl)) ?_
  refine evG ggA (ss_append (InB_of rfl) (make_tab rfl) rfl rfl hel rfl u32_one (by decide) (by simp [maxLen]; omega) (by simp; omega) rfl (fun h => by cases h)) ?_
  refine runA ?_
  refine ev_nil ?_
  refine seqQ_n ?_
  have hel2 : (((List.range N).map (pO ds es)).map u32 ++ [u32 (pC ds es N)]).length = N + 1 := by simp
  refine T.weak (s' := mkS [(4, .v (.sl (((List.range N).map (pO ds es)).map u32 ++ [u32 (pC ds es N)])))] [] 56 false) (by exact entA) ?_
  refine goA ?_
  exact rfl
set_option maxHeartbeats 2000000 in
theorem minus_p {ds es : List Int} (hd : ∀ d, d ∈ ds → isDig d) (he : ∀ d, d ∈ es → isDig d) (hl : ds.length ≤ 17592186044416) : PW Tryz.prog 116 [.sl (ds.map u32), .sl (es.map u32)] (.sl ((minusL ds es).map u32)) := by
  refine pc_body1 false Tryz.func116 rfl rfl rfl (Nat.le_of_ble_eq_true rfl) CellT.tmp ?_
  refine r1A ?_
  refine r1A ?_
  refine r1A ?_
  refine T.seqI (fun s1 => s1 = mkS [(5, .own 100 ds.length)] [(100, .lst 1 49 (((List.range ds.length).map (mO ds es)).map u32))] 46 false) ?_ ?_
  · refine r1A ?_
    refine T.block ?_
    refine T.loop (fun k s1 => ∃ i : Nat, k = ds.length - i ∧ i ≤ ds.length ∧ s1 = mkS [(0, .v (.sl (ds.map u32))), (1, .v (.sl (es.map u32))), (5, .own 100 i), (6, .v (.p (.int .u64 (mB ds es i)))), (7, .v (.p (.int .i64 (i : Nat))))] [(100, .lst 1 49 (((List.range i).map (mO ds es)).map u32))] 46 false) ds.length
      (s' := mkS [(0, .v (.sl (ds.map u32))), (1, .v (.sl (es.map u32))), (5, .own 100 0), (6, .v (.p (.int .u64 0))), (7, .v (.p (.int .i64 (0 : Nat))))] [(100, .lst 1 49 [])] 46 false) (by exact entA) ⟨0, rfl, Nat.zero_le _, rfl⟩ ?_
    rintro n _ ⟨i, rfl, hi, rfl⟩
    have hc := mB_b ds es i
    have h1 := gd_b hd i
    have h2 := gd_b he i
    have h3 := mO_b hd he i
    by_cases hlt : i < ds.length
    · have hA' : decide ((i : Int) < ((ds.map u32).length : Int)) = true := by simp; omega
      have hg := u32_get hlt
      have gx : ds.getD i 0 = ds[i] := by simp [hlt]
      refine T.seqI (fun s1 => s1 = mkS [(0, .v (.sl (ds.map u32))), (1, .v (.sl (es.map u32))), (5, .own 100 i), (6, .v (.p (.int .u64 (mB ds es i)))), (7, .v (.p (.int .i64 (i : Nat))))] [(100, .lst 1 49 (((List.range i).map (mO ds es)).map u32))] 46 false) ?_ ?_
      · refine goA ?_
        exact midQ_intro (by exact entA) rfl
      rintro _ rfl
      refine T.seq ?_
      refine T.block ?_
      refine r1A ?_
      refine T.seqI (fun s1 => s1 = mkS [(0, .v (.sl (ds.map u32))), (1, .v (.sl (es.map u32))), (5, .own 100 i), (7, .v (.p (.int .i64 (i : Nat)))), (8, .v (.p (.int .u64 (mB ds es i + es.getD i 0))))] [(100, .lst 1 49 (((List.range i).map (mO ds es)).map u32))] 46 false) ?_ ?_
      · by_cases hA : i < es.length
        · have hB' : decide ((i : Int) < ((es.map u32).length : Int)) = true := by simp; omega
          have hg := u32_get hA
          have gy : es.getD i 0 = es[i] := by simp [hA]
          rw [gy] at h2 ⊢
          refine goA ?_
          refine evG ggA (ss_index_sl (InB_of rfl) (elem_tab rfl) rfl rfl (by omega) hg rfl) ?_
          refine goA ?_
          refine evG ggA (ss_conv (InB_of rfl) (int_tab rfl) (int_tab rfl) rfl (u64w h2.1 (by omega))) ?_
          refine evG ggA (ss_arith (InB_of rfl) rfl rfl (u64w (by omega) (by omega))) ?_
          refine goA ?_
          exact midQ_intro (by exact entA) rfl
        · have hB' : decide ((i : Int) < ((es.map u32).length : Int)) = false := by simp; omega
          have gy : es.getD i 0 = 0 := by simp [List.getD_eq_getElem?_getD, List.getElem?_eq_none (show es.length ≤ i by omega)]
          rw [gy, Int.add_zero]
          refine goA ?_
          exact midQ_intro (by exact entA) rfl
      rintro _ rfl
      refine r1A ?_
      refine T.seqI (fun s1 => s1 = mkS [(0, .v (.sl (ds.map u32))), (1, .v (.sl (es.map u32))), (5, .own 100 i), (6, .v (.p (.int .u64 0))), (7, .v (.p (.int .i64 (i : Nat)))), (8, .v (.p (.int .u64 (mB ds es i + es.getD i 0)))), (9, .v (.p (.int .u64 (ds.getD i 0))))] [(100, .lst 1 49 (((List.range i).map (mO ds es)).map u32))] 46 false) ?_ ?_
      · rw [gx] at h1 ⊢
        refine goA ?_
        refine evG ggA (ss_index_sl (InB_of rfl) (elem_tab rfl) rfl rfl (by omega) hg rfl) ?_
        refine goA ?_
        refine evG ggA (ss_conv (InB_of rfl) (int_tab rfl) (int_tab rfl) rfl (u64w h1.1 (by omega))) ?_
        refine goA ?_
        exact midQ_intro (by exact entA) rfl
      rintro _ rfl
      refine T.seqI (fun s1 => s1 = mkS [(0, .v (.sl (ds.map u32))), (1, .v (.sl (es.map u32))), (5, .own 100 i), (6, .v (.p (.int .u64 (mB ds es (i + 1))))), (7, .v (.p (.int .i64 (i : Nat)))), (8, .v (.p (.int .u64 (mB ds es i + es.getD i 0)))), (9, .v (.p (.int .u64 (mO ds es i + (mB ds es i + es.getD i 0)))))] [(100, .lst 1 49 (((List.range i).map (mO ds es)).map u32))] 46 false) ?_ ?_
      · by_cases hlt2 : ds.getD i 0 < mB ds es i + es.getD i 0
        · have hb : decide (ds.getD i 0 < mB ds es i + es.getD i 0) = true := by simp only [hlt2, decide_true]
          have e1 : mO ds es i + (mB ds es i + es.getD i 0) = ds.getD i 0 + 4294967296 := by unfold mO; rw [if_pos hlt2]; omega
          have e2 : mB ds es (i + 1) = 1 := if_pos hlt2
          rw [e1, e2]
          refine goA ?_
          refine evG ggA (ss_arith (InB_of rfl) rfl rfl (u64w (by omega) (by omega))) ?_
          refine goA ?_
          exact midQ_intro (by exact entA) rfl
        · have hb : decide (ds.getD i 0 < mB ds es i + es.getD i 0) = false := by simp only [hlt2, decide_false]
          have e1 : mO ds es i + (mB ds es i + es.getD i 0) = ds.getD i 0 := by unfold mO; rw [if_neg hlt2]; omega
          have e2 : mB ds es (i + 1) = 0 := if_neg hlt2
          rw [e1, e2]
          refine goA ?_
          exact midQ_intro (by exact entA) rfl
      rintro _ rfl
      have hel : (((List.range i).map (mO ds es)).map u32).length = i := by simp
      have har : IntKind.u64.wrap (mO ds es i + (mB ds es i + es.getD i 0) - (mB ds es i + es.getD i 0)) = mO ds es i := by rw [u64w (by omega) (by omega)]; omega
      have hsn : ((List.range i).map (mO ds es)).map u32 ++ [u32 (mO ds es i)] = ((List.range (i + 1)).map (mO ds es)).map u32 := by rw [range_snoc, List.map_append]; rfl
      refine regA ?_
      refine runA ?_
      refine evG ggA (ss_arith (InB_of rfl) rfl rfl har) ?_
      refine evG ggA (ss_conv (InB_of rfl) (int_tab rfl) (int_tab rfl) rfl (u32w h3.1 h3.2)) ?_
      refine evG ggA (ss_bslice (InB_of rfl) (make_tab rfl) rfl rfl rfl rfl (one_ok rfl rfl) (Nat.le_of_ble_eq_true rfl)) ?_
      refine evG ggA (ss_append (InB_of rfl) (make_tab rfl) rfl rfl hel rfl u32_one (by decide) (by simp [maxLen]; omega) (by simp; omega) rfl (fun h => by cases h)) ?_
      refine goA ?_
      refine loopQ_intro (k := ds.length - (i + 1)) (s' := mkS [(0, .v (.sl (ds.map u32))), (1, .v (.sl (es.map u32))), (5, .own 100 (i + 1)), (6, .v (.p (.int .u64 (mB ds es (i + 1))))), (7, .v (.p (.int .i64 ((i : Int) + 1))))] [(100, .lst 1 49 (((List.range i).map (mO ds es)).map u32 ++ [u32 (mO ds es i)]))] 46 false) (by omega) (by exact entA) ⟨i + 1, rfl, hlt, by rw [hsn]; rfl⟩
    · obtain rfl : i = ds.length := by omega
      have hA' : decide (((ds.length : Nat) : Int) < ((ds.map u32).length : Int)) = false := by simp
      refine goA ?_
      exact midQ_intro (s' := mkS [(5, .own 100 ds.length)] [(100, .lst 1 49 (((List.range ds.length).map (mO ds es)).map u32))] 46 false) (by exact entA) rfl
  rintro _ rfl
  have hel : (((List.range ds.length).map (mO ds es)).map u32).length = ds.length := by simp
  have hfin : (minusL ds es).map u32 = ((List.range ds.length).map (mO ds es)).map u32 := rfl
  rw [hfin]
  refine T.weak (s' := mkS [(5, .v (.sl (((List.range ds.length).map (mO ds es)).map u32)))] [] 46 false) (by exact entA) ?_
  refine goA ?_
  exact rfl
end Ab
