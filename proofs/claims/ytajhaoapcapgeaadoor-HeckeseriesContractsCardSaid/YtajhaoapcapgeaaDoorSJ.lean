/- Strides and ceilings of package series, in abstract values. Contract of package series, in abstract values. Sieve of package series, in abstract values. Expand of package series, in abstract values. -/
import Derived.Test.YtajhaoapcapgeaaDoorRJ
set_option linter.all false
namespace Ab
open Go Go.RowKit Go.Proofs Hp
set_option maxRecDepth 100000

theorem step_p (d : Int) (h0 : -9223372036854775808 ≤ d) (h1 : d ≤ 9223372036854775807) : PC Tryd.prog 29 [.p (.int .i64 d)] (.p (.bool (decide (1 ≤ d) && decide (d ≤ 1000)))) := by
  by_cases hd : 1 ≤ d
  · have hb : decide (d ≥ 1) = true := by simp [hd]
    have e : (decide (1 ≤ d) && decide (d ≤ 1000)) = decide (d ≤ 1000) := by simp [hd]
    rw [e]
    refine pc_body1 true Tryd.func29 rfl rfl rfl (Nat.le_of_ble_eq_true rfl) CellT.tmp ?_
    refine goA ?_
    exact rfl
  · have hb : decide (d ≥ 1) = false := by simp; omega
    have e : (decide (1 ≤ d) && decide (d ≤ 1000)) = false := by simp; omega
    rw [e]
    refine pc_body1 true Tryd.func29 rfl rfl rfl (Nat.le_of_ble_eq_true rfl) CellT.tmp ?_
    refine goA ?_
    exact rfl
theorem upv_eq {n d u : Int} (hd : 1 ≤ d) (h0 : (u - 1) * d < n) (h1 : n ≤ u * d) : upv n d = u := by
  unfold upv
  rw [Int.sub_mul, Int.one_mul] at h0
  apply Int.le_antisymm
  · apply Int.le_of_lt_add_one
    apply Int.ediv_lt_of_lt_mul (by omega)
    rw [Int.add_mul, Int.one_mul]
    omega
  · apply Int.le_ediv_of_mul_le (by omega)
    omega
theorem up_p {n d : Int} (hd : 1 ≤ d) (hd1 : d ≤ 1000) (h0 : -100000 ≤ n) (h1 : n ≤ 100000) : PC Tryd.prog 30 [.p (.int .i64 n), .p (.int .i64 d)] (.p (.int .i64 (upv n d))) := by
  obtain ⟨q, hq⟩ : ∃ q, q = n.tdiv d := ⟨_, rfl⟩
  have e1 : d * n.tdiv d + n.tmod d = n := Int.mul_tdiv_add_tmod n d
  rw [← hq, Int.mul_comm] at e1
  have b1 := Int.tmod_lt_of_pos n (show 0 < d by omega)
  have b2 := Int.lt_tmod_of_pos n (show 0 < d by omega)
  have b3 : (q - 1) * d = q * d - d := by rw [Int.sub_mul, Int.one_mul]
  have b4 : (q + 1) * d = q * d + d := by rw [Int.add_mul, Int.one_mul]
  have b5 : (q + 1 - 1) * d = q * d := by rw [Int.add_sub_cancel]
  have hqa : -100000 ≤ q ∧ q ≤ 100000 := by
    have := Int.natAbs_tdiv_le_natAbs n d
    rw [← hq] at this
    omega
  have hw : IntKind.i64.wrap (n.tdiv d) = q := by rw [← hq]; exact w64 (by omega) (by omega)
  by_cases h : q * d < n
  · have hb : decide (q * d < n) = true := by simp [h]
    rw [upv_eq (u := q + 1) hd (by rw [b5]; exact h) (by rw [b4]; omega)]
    refine pc_body1 true Tryd.func30 rfl rfl rfl (Nat.le_of_ble_eq_true rfl) CellT.tmp ?_
    refine goA ?_
    refine evG ggA (ss_div (InB_of rfl) rfl rfl (by omega) hw) ?_
    refine goA ?_
    exact rfl
  · have hb : decide (q * d < n) = false := by simp; omega
    rw [upv_eq (u := q) hd (by rw [b3]; omega) (by omega)]
    refine pc_body1 true Tryd.func30 rfl rfl rfl (Nat.le_of_ble_eq_true rfl) CellT.tmp ?_
    refine goA ?_
    refine evG ggA (ss_div (InB_of rfl) rfl rfl (by omega) hw) ?_
    refine goA ?_
    exact rfl
end Ab
namespace Ab
open Go Go.RowKit Go.Proofs Hp
set_option maxRecDepth 100000

theorem nu4 {g g' : Bool} {xs xs' : List AV} : ∀ a, a ∈ [AV.agg [.p (.bool g), .sl xs, .p (.bool g'), .sl xs']] → ∀ c, c ∈ a.cells → c.nu = true := fun a ha c hc => by
  rw [List.mem_singleton] at ha
  subst ha
  exact List.all_eq_true.1 (show (AV.cells (.agg [.p (.bool g), .sl xs, .p (.bool g'), .sl xs'])).all AV.nu = true from rfl) c hc
theorem upv_mono {n m d : Int} (hd : 1 ≤ d) (h : n ≤ m) : upv n d ≤ upv m d := by
  unfold upv
  exact Int.ediv_le_ediv (by omega) (by omega)
theorem upv_bound {n d : Int} (hd : 1 ≤ d) (h0 : -1000 ≤ n) (h1 : n ≤ 1000) : -1000 ≤ upv n d ∧ upv n d ≤ 1000 := by
  unfold upv
  constructor
  · apply Int.le_ediv_of_mul_le (by omega)
    have : (-1000) * d ≤ -1000 := by omega
    have : (-1000) * d + 1000 * d = 0 := by omega
    by_cases h : d = 1
    · subst h; omega
    · omega
  · apply Int.le_of_lt_add_one
    apply Int.ediv_lt_of_lt_mul (by omega)
    omega
set_option maxHeartbeats 4000000 in
theorem contract_p {s d : Int} {es : List AV} {l : List Rat} {K : Nat} (h : ValidP s es.length = true → IsL es K l) (hle : es.length = l.length) (hr : InR s es.length) (hK : 1 ≤ K ∧ K ≤ 268435456) (d0 : -9223372036854775808 ≤ d) (d1 : d ≤ 9223372036854775807) : PC Tryd.prog 8 [serA s es, .p (.int .i64 d)] (serE (conR s l d)) := by
  obtain ⟨i1, i2, i3⟩ := hr
  have hva := valid_p i1 i2 i3
  have hst := step_p d d0 d1
  rw [serE_eq]
  unfold conR
  rw [← hle]
  cases h1 : ValidP s es.length with
  | false =>
    rw [h1] at hva
    refine pc_body2 true Tryd.func8 rfl rfl rfl (Nat.le_of_ble_eq_true rfl) (CellT.agg agg_ser) CellT.tmp ?_
    refine goA ?_
    refine evG ggA (ss_call (InB_of rfl) rfl rfl hva) ?_
    refine goA ?_
    exact rfl
  | true =>
  rw [h1] at hva
  cases h2 : (decide (1 ≤ d) && decide (d ≤ 1000)) with
  | false =>
    rw [h2] at hst
    refine pc_body2 true Tryd.func8 rfl rfl rfl (Nat.le_of_ble_eq_true rfl) (CellT.agg agg_ser) CellT.tmp ?_
    refine goA ?_
    refine evG ggA (ss_call (InB_of rfl) rfl rfl hva) ?_
    refine goA ?_
    refine evG ggA (ss_call (InB_of rfl) rfl rfl hst) ?_
    refine goA ?_
    exact rfl
  | true =>
  rw [h2] at hst
  have hL := h h1
  obtain ⟨a0, a1, a2⟩ := valid_iff.1 h1
  simp only [Bool.and_eq_true, decide_eq_true_eq] at h2
  obtain ⟨hd0, hd1⟩ := h2
  have hup1 := up_p (n := s) hd0 hd1 (by omega) (by omega)
  have hpr := prec_p a0 a1 a2
  have hup2 := up_p (n := s + es.length) hd0 hd1 (by omega) (by omega)
  have hm := upv_mono (n := s) (m := s + es.length) hd0 (by omega)
  have hb1 := upv_bound (n := s) hd0 (by omega) (by omega)
  have hb2 := upv_bound (n := s + es.length) hd0 (by omega) (by omega)
  have hN : conN s l d = (upv (s + es.length) d - upv s d).toNat := by unfold conN; rw [hle]
  have hat : ∀ i : Nat, i < conN s l d → PC Tryd.prog 32 [serA s es, .p (.int .i64 ((upv s d + i) * d))] (atV s es ((upv s d + i) * d)) := fun i hi => by
    have h3 := upv_spec (n := s + es.length) hd0
    have h4 := upv_spec (n := s) hd0
    have h5 : (upv s d + i) * d ≤ (upv (s + es.length) d - 1) * d := Int.mul_le_mul_of_nonneg_right (by omega) (by omega)
    have h6 : upv s d * d ≤ (upv s d + i) * d := Int.mul_le_mul_of_nonneg_right (by omega) (by omega)
    exact at_p hL a0 a1 a2 (by omega) (by omega)
  have hbn : ∀ i : Nat, i < conN s l d → -100000000 ≤ (upv s d + i) * d ∧ (upv s d + i) * d ≤ 100000000 := fun i hi => by
    have h3 := upv_spec (n := s + es.length) hd0
    have h4 := upv_spec (n := s) hd0
    have h5 : (upv s d + i) * d ≤ (upv (s + es.length) d - 1) * d := Int.mul_le_mul_of_nonneg_right (by omega) (by omega)
    have h6 : upv s d * d ≤ (upv s d + i) * d := Int.mul_le_mul_of_nonneg_right (by omega) (by omega)
    omega
  have hht : ∀ i, Ht (conF s l d i) K := fun i => ht_cf hK.1 (isL_ht hL hK.1) _
  have hiv : ∀ i : Nat, IsV (atV s es ((upv s d + i) * d)) K (conF s l d i) := fun i => isV_at hL hK.1 _
  generalize hFF : conF s l d = F at *
  generalize hNN : conN s l d = N at *
  generalize hu : upv s d = u at *
  generalize hv : upv (s + es.length) d = v at *
  have hNb : N ≤ 2000 := by omega
  obtain ⟨G, hG⟩ : ∃ G : Nat → AV, G = fun i : Nat => atV s es ((u + i) * d) := ⟨_, rfl⟩
  refine pc_body2 true Tryd.func8 rfl rfl rfl (Nat.le_of_ble_eq_true rfl) (CellT.agg agg_ser) CellT.tmp ?_
  refine goA ?_
  refine evG ggA (ss_call (InB_of rfl) rfl rfl hva) ?_
  refine goA ?_
  refine evG ggA (ss_call (InB_of rfl) rfl rfl hst) ?_
  refine goA ?_
  refine evG ggA (ss_call (InB_of rfl) rfl rfl hup1) ?_
  refine goA ?_
  refine evG ggA (ss_call (InB_of rfl) rfl rfl hpr) ?_
  refine goA ?_
  refine evG ggA (ss_call (InB_of rfl) rfl rfl hup2) ?_
  refine goA ?_
  refine evG ggA (ss_make 30 (e0 := rz) (InB_of rfl) (make_tab rfl) rfl rfl rfl (by omega) (by omega) (by omega) (by omega) rfl rfl rfl) ?_
  refine runA ?_
  refine ev_nil ?_
  refine seqQ_n ?_
  refine T.seqI (fun s1 => s1 = mkS [(6, .v (.p (.int .i64 u))), (8, .own 30 N), (4, .ptr 4 0)] [(4, var0), (30, .lst 4 51 ((List.range N).map G))] 50 true) ?_ ?_
  · refine r1A ?_
    refine T.block ?_
    refine T.loop (fun n s1 => ∃ j : Nat, n = N - j ∧ j ≤ N ∧ s1 = mkS [(1, .v (.p (.int .i64 d))), (2, .ptr 2 0), (4, .ptr 4 0), (6, .v (.p (.int .i64 u))), (7, .v (.p (.int .i64 v))), (8, .own 30 j), (9, .v (.p (.int .i64 (u + j))))] [(2, .var [.v (.p (.int .i64 s)), .v (.sl es)]), (4, var0), (30, .lst 4 51 ((List.range j).map G))] 50 true) N
      (s' := mkS [(1, .v (.p (.int .i64 d))), (2, .ptr 2 0), (4, .ptr 4 0), (6, .v (.p (.int .i64 u))), (7, .v (.p (.int .i64 v))), (8, .own 30 0), (9, .v (.p (.int .i64 u)))] [(2, .var [.v (.p (.int .i64 s)), .v (.sl es)]), (4, var0), (30, .lst 4 51 [])] 50 true) (by exact entA) ⟨0, rfl, Nat.zero_le _, by simp⟩ ?_
    rintro n _ ⟨j, rfl, hj, rfl⟩
    by_cases hlt : j < N
    · have hb : decide (u + (j : Int) < v) = true := by simp; omega
      obtain ⟨q0, q1⟩ := hbn j hlt
      have ca := hat j hlt
      have hGe : G j = atV s es ((u + j) * d) := by rw [hG]
      obtain ⟨g, xs, g', xs', e4⟩ := isV_cells (hiv j)
      rw [e4] at ca
      have hel : ((List.range j).map G).length = j := by simp
      have hsn : (List.range j).map G ++ [.agg [.p (.bool g), .sl xs, .p (.bool g'), .sl xs']] = (List.range (j + 1)).map G := by rw [List.range_succ, List.map_append, List.map_singleton, hGe, e4]
      clear hat hiv hht
      refine goA ?_
      refine evG ggA (ss_call (InB_of rfl) rfl rfl ca) ?_
      refine evG ggA (ss_bslice (InB_of rfl) (make_tab rfl) rfl rfl rfl rfl (one_ok rfl rfl) (Nat.le_of_ble_eq_true rfl)) ?_
      refine evG ggA (ss_append (InB_of rfl) (make_tab rfl) rfl rfl hel rfl (fun a ha => by rw [List.mem_singleton] at ha; subst ha; rfl) (by decide) (by simp [maxLen]; omega) (by simp; omega) rfl (fun _ => nu4)) ?_
      refine goA ?_
      refine loopQ_intro (k := N - (j + 1)) (s' := mkS [(1, .v (.p (.int .i64 d))), (2, .ptr 2 0), (4, .ptr 4 0), (6, .v (.p (.int .i64 u))), (7, .v (.p (.int .i64 v))), (8, .own 30 (j + 1)), (9, .v (.p (.int .i64 (u + (j : Int) + 1))))] [(2, .var [.v (.p (.int .i64 s)), .v (.sl es)]), (4, var0), (30, .lst 4 51 ((List.range j).map G ++ [.agg [.p (.bool g), .sl xs, .p (.bool g'), .sl xs']]))] 50 true) (by omega) (by exact entA) ⟨j + 1, rfl, hlt, by rw [hsn, Int.natCast_succ, ← Int.add_assoc]⟩
    · obtain rfl : j = N := by omega
      have hb : decide (u + (j : Int) < v) = false := by simp; omega
      refine goA ?_
      exact midQ_intro (s' := mkS [(6, .v (.p (.int .i64 u))), (8, .own 30 j), (4, .ptr 4 0)] [(4, var0), (30, .lst 4 51 ((List.range j).map G))] 50 true) (by exact entA) rfl
  rintro _ rfl
  have hIL : IsL ((List.range N).map G) K (tk F N) := IsL.mk (by simp [tk]) fun i e q h3 h4 => by
    have hi : i < N := by have := (List.getElem?_eq_some_iff.1 h3).1; simpa using this
    have e5 : e = G i := by simp [hi] at h3; exact h3.symm
    have e6 : q = F i := by simp [tk, hi] at h4; exact h4.symm
    rw [e5, e6, hG]
    exact hiv i
  have hbuild := build_p (s := u) hIL (by omega) (by omega) (by omega) (by rw [tk_len]; omega)
  rw [serE_eq] at hbuild
  have hel : ((List.range N).map G).length = N := by simp
  refine T.weak (s' := mkS [(6, .v (.p (.int .i64 u))), (8, .v (.sl ((List.range N).map G))), (4, .ptr 4 0)] [(4, var0)] 50 true) (by exact entA) ?_
  refine goA ?_
  refine evG ggA (ss_call (InB_of rfl) rfl rfl hbuild) ?_
  refine goA ?_
  exact rfl
end Ab
namespace Ab
open Go Go.RowKit Go.Proofs Hp
set_option maxRecDepth 100000

theorem rep_range {α : Type} (n : Nat) (x : α) {g : Nat → α} (h : ∀ k, k < n → g k = x) : List.replicate n x = (List.range n).map g := by
  apply List.ext_getElem
  · simp
  · intro i h1 h2
    have : i < n := by simpa using h1
    simp [h i this]
theorem range_set {α : Type} (n i : Nat) (x : α) {g g' : Nat → α} (h0 : g' i = x) (h : ∀ k, k < n → k ≠ i → g' k = g k) : ((List.range n).map g).set i x = (List.range n).map g' := by
  apply List.ext_getElem
  · simp
  · intro k h1 h2
    have hk : k < n := by simpa using h1
    rw [List.getElem_set]
    split
    · rename_i e; subst e; simp [h0]
    · rename_i e; simp [h k hk (fun e2 => e e2.symm)]
theorem range_congr {α : Type} (n : Nat) {g g' : Nat → α} (h : ∀ k, k < n → g k = g' k) : (List.range n).map g = (List.range n).map g' := by
  apply List.ext_getElem
  · simp
  · intro k h1 h2
    have hk : k < n := by simpa using h1
    simp [h k hk]
theorem tmod_b {r m : Int} (h0 : 1 ≤ m) (h1 : m ≤ 1000) : -1000 ≤ r.tmod m ∧ r.tmod m ≤ 1000 := by
  have h := Int.natAbs_tmod r m
  have := Nat.mod_lt r.natAbs (show m.natAbs > 0 by omega)
  omega
def sieG (s : Int) (es : List AV) (m r : Int) (i k : Nat) : AV := if k < i then (if (s + k - r.tmod m).tmod m = 0 then es.getD k rz else rz) else rz
end Ab
namespace Ab
open Go Go.RowKit Go.Proofs Hp
set_option maxRecDepth 100000

def expG (l : List Rat) (D : Nat) (i k : Nat) : AV := if k % D = 0 ∧ k / D < i then encQ (l.getD (k / D) 0) else rz
theorem w_mul {i N D : Nat} (hi : i ≤ N) (hN : N ≤ 200000) (hD : D ≤ 1000) : i * D ≤ 200000000 := Nat.le_trans (Nat.mul_le_mul (Nat.le_trans hi hN) hD) (by decide)
end Ab
