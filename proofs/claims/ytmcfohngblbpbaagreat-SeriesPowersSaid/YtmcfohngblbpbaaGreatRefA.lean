/- Package ref01: normal forms of integers, in abstract values. -/
import Derived.Test.YtmcfohngblbpbaaGreatSame
import Derived.Test.YtmcfohngblbpbaaGreatBase
import Derived.Test.YtmcfohngblbpbaaGreatWeak
namespace Ab
open Go Go.RowKit Go.Proofs Hp
set_option maxRecDepth 100000

/-- the normal form of a list of digits -/
def nd (ds : List Int) : List Int := dgs (vl ds).toNat
theorem vl_nonneg {ds : List Int} (hd : ∀ d, d ∈ ds → isDig d) : 0 ≤ vl ds := val_nonneg (digs_of hd)
theorem trim_eq {ds : List Int} {n : Nat} (hd : ∀ d, d ∈ ds → isDig d) (hn : n ≤ ds.length) (h0 : ∀ i, n ≤ i → i < ds.length → ds.getD i 0 = 0) (h1 : n = 0 ∨ ds.getD (n - 1) 0 ≠ 0) : ds.take n = nd ds := by
  have hD := digs_of hd
  have hv : val (fun i => ds.getD i 0) n = ((vl ds).toNat : Int) := by
    have := val_trim (f := fun i => ds.getD i 0) hn h0
    have h2 := vl_nonneg hd
    unfold vl at h2 ⊢
    omega
  unfold nd
  rw [dgs_of (fun i hi => hD i (by omega)) h1 hv]
  apply List.ext_getElem
  · simp; omega
  · intro i h3 h4
    have h5 : i < ds.length := by simp at h3; omega
    simp [h5]
theorem nd_len {ds : List Int} (hd : ∀ d, d ∈ ds → isDig d) : (nd ds).length ≤ ds.length := by
  apply dgs_len
  have h := val_lt (digs_of hd)
  have h2 := vl_nonneg hd
  unfold vl at h2
  show (((vl ds).toNat : Nat) : Int) < _
  unfold vl
  omega
set_option maxHeartbeats 1000000 in
theorem trim_p {ds : List Int} (hd : ∀ d, d ∈ ds → isDig d) (hl : ds.length ≤ 17592186044416) : PW Tryz.prog 117 [.sl (ds.map u32)] (.sl ((nd ds).map u32)) := by
  refine pc_body1 false Tryz.func117 rfl rfl rfl (Nat.le_of_ble_eq_true rfl) CellT.tmp ?_
  refine r1A ?_
  refine T.seqI (fun s1 => s1 = mkS [(0, .v (.sl (ds.map u32))), (3, .v (.p (.int .i64 ((ds.map u32).length : Int))))] [] 23 false) ?_ ?_
  · refine goA ?_
    exact midQ_intro (by exact entA) rfl
  rintro _ rfl
  refine T.seqI (fun s1 => ∃ n : Nat, n ≤ ds.length ∧ ds.take n = nd ds ∧ s1 = mkS [(0, .v (.sl (ds.map u32))), (3, .v (.p (.int .i64 n)))] [] 23 false) ?_ ?_
  · refine T.block ?_
    refine T.loop (fun k s1 => ∃ n : Nat, k = n ∧ n ≤ ds.length ∧ (∀ i, n ≤ i → i < ds.length → ds.getD i 0 = 0) ∧ s1 = mkS [(0, .v (.sl (ds.map u32))), (3, .v (.p (.int .i64 n)))] [] 23 false) ds.length
      (s' := mkS [(0, .v (.sl (ds.map u32))), (3, .v (.p (.int .i64 ((ds.map u32).length : Int))))] [] 23 false) (by exact entA) ⟨ds.length, rfl, Nat.le_refl _, fun i h1 h2 => absurd h2 (by omega), by simp⟩ ?_
    rintro n _ ⟨_, rfl, hn, hz, rfl⟩
    by_cases h0 : n = 0
    · subst h0
      have hb : decide (((0 : Nat) : Int) > 0) = false := by decide
      refine goA ?_
      exact midQ_intro (s' := mkS [(0, .v (.sl (ds.map u32))), (3, .v (.p (.int .i64 ((0 : Nat) : Int))))] [] 23 false) (by exact entA) ⟨0, hn, trim_eq hd hn hz (.inl rfl), rfl⟩
    · have hb : decide ((n : Int) > 0) = true := by simp; omega
      have hlt : n - 1 < ds.length := by omega
      have hg : (ds.map u32)[((n : Int) - 1).toNat]? = some (.p (.int .u32 ds[n - 1])) := u32_at (by rw [show ((n : Int) - 1).toNat = n - 1 by omega]; exact List.getElem?_eq_getElem hlt)
      have hD : ds.getD (n - 1) 0 = ds[n - 1] := by simp [hlt]
      by_cases h1 : ds[n - 1] = 0
      · have hb1 : (ds[n - 1] == 0) = true := by simp [h1]
        refine goA ?_
        refine evG ggA (ss_index_sl (InB_of rfl) (elem_tab rfl) rfl rfl (by omega) hg rfl) ?_
        refine goA ?_
        refine loopQ_intro (k := n - 1) (s' := mkS [(0, .v (.sl (ds.map u32))), (3, .v (.p (.int .i64 ((n : Int) - 1))))] [] 23 false) (by omega) (by exact entA) ⟨n - 1, rfl, by omega, fun i h2 h3 => ?_, by rw [show ((n - 1 : Nat) : Int) = (n : Int) - 1 by omega]⟩
        by_cases h4 : i = n - 1
        · rw [h4, hD, h1]
        · exact hz i (by omega) h3
      · have hb1 : (ds[n - 1] == 0) = false := by simp [h1]
        refine goA ?_
        refine evG ggA (ss_index_sl (InB_of rfl) (elem_tab rfl) rfl rfl (by omega) hg rfl) ?_
        refine goA ?_
        exact midQ_intro (s' := mkS [(0, .v (.sl (ds.map u32))), (3, .v (.p (.int .i64 n)))] [] 23 false) (by exact entA) ⟨n, hn, trim_eq hd hn hz (.inr (by rw [hD]; exact h1)), rfl⟩
  rintro _ ⟨n, hn, ht, rfl⟩
  rw [← ht]
  have hx : ((ds.map u32).take ((n : Int)).toNat) = (ds.take n).map u32 := by rw [List.map_take]; simp
  refine T.seq ?_
  refine regA ?_
  refine evG ggA (ss_bslice_own 18 (InB_of rfl) rfl (make_tab rfl) rfl rfl rfl rfl (fun x hx => by cases hx) (Nat.le_of_ble_eq_true rfl) (by decide) (fun h => by cases h)) ?_
  refine runA ?_
  refine evG ggA (ss_slice_h (InB_of rfl) (elem_tab rfl) rfl (fun x hx => by obtain ⟨d, -, rfl⟩ := List.mem_map.1 hx; rfl) rfl (by omega) (by simp; omega)) ?_
  rw [hx]
  refine evG ggA (ss_append (InB_of rfl) (make_tab rfl) rfl rfl rfl rfl (fun a ha => by obtain ⟨d, -, rfl⟩ := List.mem_map.1 ha; rfl) (by decide) (by simp [maxLen]; omega) (by simp; omega) rfl (fun h => by cases h)) ?_
  refine runA ?_
  refine ev_nil ?_
  refine seqQ_n ?_
  refine T.weak (s' := mkS [(2, .v (.sl ((ds.take n).map u32)))] [] 23 false) (by exact entA) ?_
  refine goA ?_
  exact rfl
end Ab
