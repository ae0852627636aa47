/- Package ref01: word, below, plus, minus, in abstract values. -/
import Derived.Test.YtmcfohngblbpbaaGreatRefD
namespace Ab
open Go Go.RowKit Go.Proofs Hp
set_option maxRecDepth 100000

theorem vl_nil : vl [] = 0 := rfl
theorem drop_step {ds : List Int} {j : Nat} (h : j < ds.length) : ds.drop j = ds[j] :: ds.drop (j + 1) := List.drop_eq_getElem_cons h
theorem u32_get {ds : List Int} {j : Nat} (h : j < ds.length) : (ds.map u32)[((j : Nat) : Int).toNat]? = some (.p (.int .u32 ds[j])) := u32_at (by rw [Int.toNat_natCast]; exact List.getElem?_eq_getElem h)
set_option maxHeartbeats 1000000 in
theorem word_p {ds : List Int} (hd : ∀ d, d ∈ ds → isDig d) (hl : ds.length ≤ 2) : PW Tryz.prog 127 [.sl (ds.map u32)] (.p (.int .u64 (vl ds))) := by
  have hlm : (ds.map u32).length = ds.length := by simp
  refine pc_body1 false Tryz.func127 rfl rfl rfl (Nat.le_of_ble_eq_true rfl) CellT.tmp ?_
  refine r1A ?_
  refine r1A ?_
  refine T.seqI (fun s1 => s1 = mkS [(3, .v (.p (.int .u64 (vl ds))))] [] 21 false) ?_ ?_
  · refine r1A ?_
    refine T.block ?_
    refine T.loop (fun k s1 => ∃ j : Nat, k = j ∧ j ≤ ds.length ∧ s1 = mkS [(0, .v (.sl (ds.map u32))), (3, .v (.p (.int .u64 (vl (ds.drop j))))), (4, .v (.p (.int .i64 ((j : Int) - 1))))] [] 21 false) ds.length
      (s' := mkS [(0, .v (.sl (ds.map u32))), (3, .v (.p (.int .u64 0))), (4, .v (.p (.int .i64 (((ds.map u32).length : Int) - 1))))] [] 21 false) (by exact entA) ⟨ds.length, rfl, Nat.le_refl _, by simp [vl_nil]⟩ ?_
    rintro j _ ⟨_, rfl, hj, rfl⟩
    by_cases h0 : j = 0
    · subst h0
      have hb : decide (((0 : Nat) : Int) - 1 ≥ 0) = false := by decide
      refine goA ?_
      exact midQ_intro (s' := mkS [(3, .v (.p (.int .u64 (vl (ds.drop 0)))))] [] 21 false) (by exact entA) rfl
    · have hb : decide ((j : Int) - 1 ≥ 0) = true := by simp; omega
      obtain ⟨i, rfl⟩ : ∃ i, j = i + 1 := ⟨j - 1, by omega⟩
      have hlt : i < ds.length := by omega
      have hg : (ds.map u32)[(((i + 1 : Nat) : Int) - 1).toNat]? = some (.p (.int .u32 ds[i])) := u32_at (by rw [show (((i + 1 : Nat) : Int) - 1).toNat = i by omega]; exact List.getElem?_eq_getElem hlt)
      have hdi : 0 ≤ ds[i] ∧ ds[i] < 4294967296 := hd _ (List.getElem_mem hlt)
      have hv0 : 0 ≤ vl (ds.drop (i + 1)) := vl_nonneg fun d h => hd d (List.mem_of_mem_drop h)
      have hv1 : vl (ds.drop (i + 1)) < 4294967296 := by
        have := vl_lt (ds := ds.drop (i + 1)) fun d h => hd d (List.mem_of_mem_drop h)
        have h2 := pw_le (ds.drop (i + 1)).length 1 (by simp; omega)
        have h3 : pw 1 = 4294967296 := by decide
        omega
      have hs : IntKind.u64.wrap (vl (ds.drop (i + 1)) * 2 ^ (min (32 : Int).toNat IntKind.u64.bits)) = vl (ds.drop (i + 1)) * 4294967296 := by
        rw [show ((2 : Int) ^ (min (32 : Int).toNat IntKind.u64.bits)) = 4294967296 from by decide]
        exact u64w (by omega) (by omega)
      have hs2 : IntKind.u64.wrap (vl (ds.drop (i + 1)) * 4294967296 + ds[i]) = vl (ds.drop i) := by
        rw [u64w (by omega) (by omega), drop_step hlt, vl_cons, B_def]; omega
      refine goA ?_
      refine evG ggA (ss_shl (InB_of rfl) rfl rfl (by decide) hs) ?_
      refine goA ?_
      refine evG ggA (ss_index_sl (InB_of rfl) (elem_tab rfl) rfl rfl (by omega) hg rfl) ?_
      refine goA ?_
      refine evG ggA (ss_conv (InB_of rfl) (int_tab rfl) (int_tab rfl) rfl (u64w hdi.1 (by omega))) ?_
      refine evG ggA (ss_arith (InB_of rfl) rfl rfl hs2) ?_
      refine goA ?_
      refine loopQ_intro (k := i) (s' := mkS [(0, .v (.sl (ds.map u32))), (3, .v (.p (.int .u64 (vl (ds.drop i))))), (4, .v (.p (.int .i64 (((i + 1 : Nat) : Int) - 1 - 1))))] [] 21 false) (by omega) (by exact entA) ⟨i, rfl, by omega, by rw [show ((i + 1 : Nat) : Int) - 1 - 1 = (i : Int) - 1 by omega]⟩
  rintro _ rfl
  refine goA ?_
  exact rfl
/-- comparison of digits of numbers -/
theorem dgs_lt_len {x y : Nat} (h : (dgs x).length < (dgs y).length) : x < y := by
  by_cases h1 : x < y
  · exact h1
  · exfalso
    have hx := digs_of (dgs_dig (n := x))
    have hy := digs_of (dgs_dig (n := y))
    have := canon_len hy hx (canon_of (dgs_last y)) (by
      show vl (dgs y) ≤ vl (dgs x)
      rw [dgs_vl, dgs_vl]; omega)
    omega
theorem dgs_mono {x y : Nat} (h : x ≤ y) : (dgs x).length ≤ (dgs y).length := by
  by_cases h1 : (dgs y).length < (dgs x).length
  · have := dgs_lt_len h1; omega
  · omega
set_option maxHeartbeats 1000000 in
theorem below_p (x y : Nat) (hl : (dgs x).length ≤ 17592186044416) : PW Tryz.prog 115 [.sl ((dgs x).map u32), .sl ((dgs y).map u32)] (.p (.bool (decide (x < y)))) := by
  have vx := dgs_vl x
  have vy := dgs_vl y
  have hlx : (dgs x).length < (dgs y).length → x < y := dgs_lt_len
  have hly : (dgs y).length < (dgs x).length → y < x := dgs_lt_len
  have hdx := digs_of (dgs_dig (n := x))
  have hdy := digs_of (dgs_dig (n := y))
  rw [vl_def] at vx vy
  generalize dgs x = ds at *
  generalize dgs y = es at *
  have hlm : (ds.map u32).length = ds.length := by simp
  by_cases h1 : ds.length = es.length
  · have hb1 : (((ds.map u32).length : Int) != ((es.map u32).length : Int)) = false := by simp [h1]
    refine pc_body1 false Tryz.func115 rfl rfl rfl (Nat.le_of_ble_eq_true rfl) CellT.tmp ?_
    refine r1A ?_
    refine T.seqI (fun s1 => s1 = mkS [(0, .v (.sl (ds.map u32))), (1, .v (.sl (es.map u32)))] [] 41 false) ?_ ?_
    · refine goA ?_
      exact midQ_intro (by exact entA) rfl
    rintro _ rfl
    refine T.seqI (fun s1 => decide (x < y) = false ∧ s1 = mkS [] [] 41 false) ?_ ?_
    · refine r1A ?_
      refine T.block ?_
      refine T.loop (fun k s1 => ∃ j : Nat, k = j ∧ j ≤ ds.length ∧ (∀ i, j ≤ i → i < ds.length → ds.getD i 0 = es.getD i 0) ∧ s1 = mkS [(0, .v (.sl (ds.map u32))), (1, .v (.sl (es.map u32))), (5, .v (.p (.int .i64 ((j : Int) - 1))))] [] 41 false) ds.length
        (s' := mkS [(0, .v (.sl (ds.map u32))), (1, .v (.sl (es.map u32))), (5, .v (.p (.int .i64 (((ds.map u32).length : Int) - 1))))] [] 41 false) (by exact entA) ⟨ds.length, rfl, Nat.le_refl _, fun i h2 h3 => absurd h3 (by omega), by simp⟩ ?_
      rintro j _ ⟨_, rfl, hj, hz, rfl⟩
      by_cases h0 : j = 0
      · subst h0
        have hb : decide (((0 : Nat) : Int) - 1 ≥ 0) = false := by decide
        have hxy : decide (x < y) = false := by
          have e := val_congr (f := fun i => ds.getD i 0) (g := fun i => es.getD i 0) (n := ds.length) fun i hi => hz i (by omega) hi
          rw [← h1] at vy
          simp; omega
        refine goA ?_
        exact midQ_intro (s' := mkS [] [] 41 false) (by exact entA) ⟨hxy, rfl⟩
      · have hb : decide ((j : Int) - 1 ≥ 0) = true := by simp; omega
        obtain ⟨i, rfl⟩ : ∃ i, j = i + 1 := ⟨j - 1, by omega⟩
        have hlt : i < ds.length := by omega
        have hlt2 : i < es.length := by omega
        have hg : (ds.map u32)[(((i + 1 : Nat) : Int) - 1).toNat]? = some (.p (.int .u32 ds[i])) := u32_at (by rw [show (((i + 1 : Nat) : Int) - 1).toNat = i by omega]; exact List.getElem?_eq_getElem hlt)
        have hg2 : (es.map u32)[(((i + 1 : Nat) : Int) - 1).toNat]? = some (.p (.int .u32 es[i])) := u32_at (by rw [show (((i + 1 : Nat) : Int) - 1).toNat = i by omega]; exact List.getElem?_eq_getElem hlt2)
        have gx : ds.getD i 0 = ds[i] := by simp [hlt]
        have gy : es.getD i 0 = es[i] := by simp [hlt2]
        by_cases h2 : ds[i] = es[i]
        · have hb2 : (ds[i] != es[i]) = false := by simp [h2]
          refine goA ?_
          refine evG ggA (ss_index_sl (InB_of rfl) (elem_tab rfl) rfl rfl (by omega) hg rfl) ?_
          refine goA ?_
          refine evG ggA (ss_index_sl (InB_of rfl) (elem_tab rfl) rfl rfl (by omega) hg2 rfl) ?_
          refine goA ?_
          refine loopQ_intro (k := i) (s' := mkS [(0, .v (.sl (ds.map u32))), (1, .v (.sl (es.map u32))), (5, .v (.p (.int .i64 (((i + 1 : Nat) : Int) - 1 - 1))))] [] 41 false) (by omega) (by exact entA) ⟨i, rfl, by omega, fun k h3 h4 => ?_, by rw [show ((i + 1 : Nat) : Int) - 1 - 1 = (i : Int) - 1 by omega]⟩
          by_cases h5 : k = i
          · rw [h5, gx, gy, h2]
          · exact hz k (by omega) h4
        · have hb2 : (ds[i] != es[i]) = true := by simp [h2]
          have hxy : decide (x < y) = decide (ds[i] < es[i]) := by
            rw [decide_eq_decide]
            rw [← h1] at vy hdy
            constructor
            · intro h
              by_cases h3 : ds[i] < es[i]
              · exact h3
              · exfalso
                have := val_lt_of (n := ds.length) (j := i) hdy hdx hlt (fun k h4 h5 => (hz k (by omega) h5).symm) (by show es.getD i 0 < ds.getD i 0; rw [gx, gy]; omega)
                omega
            · intro h
              have := val_lt_of (n := ds.length) (j := i) hdx hdy hlt (fun k h4 h5 => hz k (by omega) h5) (by show ds.getD i 0 < es.getD i 0; rw [gx, gy]; exact h)
              omega
          rw [hxy]
          refine goA ?_
          refine evG ggA (ss_index_sl (InB_of rfl) (elem_tab rfl) rfl rfl (by omega) hg rfl) ?_
          refine goA ?_
          refine evG ggA (ss_index_sl (InB_of rfl) (elem_tab rfl) rfl rfl (by omega) hg2 rfl) ?_
          refine goA ?_
          refine evG ggA (ss_index_sl (InB_of rfl) (elem_tab rfl) rfl rfl (by omega) hg rfl) ?_
          refine goA ?_
          refine evG ggA (ss_index_sl (InB_of rfl) (elem_tab rfl) rfl rfl (by omega) hg2 rfl) ?_
          refine goA ?_
          exact rfl
    rintro _ ⟨hxy, rfl⟩
    rw [hxy]
    refine goA ?_
    exact rfl
  · have hb1 : (((ds.map u32).length : Int) != ((es.map u32).length : Int)) = true := by simp; omega
    have e : decide (x < y) = decide (((ds.map u32).length : Int) < ((es.map u32).length : Int)) := by
      rw [decide_eq_decide]
      simp only [List.length_map]
      constructor
      · intro h
        by_cases h2 : ds.length < es.length
        · omega
        · have := hly (by omega); omega
      · intro h; exact hlx (by omega)
    rw [e]
    refine pc_body1 false Tryz.func115 rfl rfl rfl (Nat.le_of_ble_eq_true rfl) CellT.tmp ?_
    refine goA ?_
    exact rfl
end Ab
