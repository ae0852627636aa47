/- Sieve and Contract of the document, in abstract values. Contract and Expand of the document, in abstract values. -/
import Derived.Test.YtajhaoapcapgeaaGreatDoorTwX
set_option linter.all false
namespace Ab
open Go Go.RowKit Go.Proofs Hp
set_option maxRecDepth 100000

theorem stride_p {d : Int} : PC Tryz.prog 63 [.p (.int .i64 d)] (.p (.bool (!(decide (1 ≤ d) && decide (d ≤ 1000))))) := by
  refine pc_body1 true Tryz.func63 rfl rfl rfl (Nat.le_of_ble_eq_true rfl) CellT.tmp ?_
  by_cases h1 : 1 ≤ d
  · have k1 : decide (d < 1) = false := decide_eq_false (by omega)
    have e : (!(decide (1 ≤ d) && decide (d ≤ 1000))) = decide (d > 1000) := by
      rw [decide_eq_true h1]
      by_cases h2 : d ≤ 1000
      · rw [decide_eq_true h2, decide_eq_false (by omega)]; rfl
      · rw [decide_eq_false h2, decide_eq_true (by omega)]; rfl
    rw [e]
    refine goA ?_
    exact rfl
  · have k1 : decide (d < 1) = true := decide_eq_true (by omega)
    rw [decide_eq_false h1]
    refine goA ?_
    exact rfl
theorem sie_iff {x m r : Int} (hm : 1 ≤ m) : ((x - r.tmod m).tmod m = 0) ↔ (x % m = r % m) := by
  have h1 : m ∣ r.tmod m - r := by
    have := Int.tmod_add_mul_tdiv r m
    exact ⟨-(r.tdiv m), by rw [Int.mul_neg]; omega⟩
  rw [Int.emod_eq_emod_iff_emod_sub_eq_zero]
  constructor
  · intro h
    have h2 := Int.dvd_of_tmod_eq_zero h
    refine Int.emod_eq_zero_of_dvd ?_
    have := Int.dvd_add h2 h1
    rwa [show x - r.tmod m + (r.tmod m - r) = x - r by omega] at this
  · intro h
    have h2 := Int.dvd_of_emod_eq_zero h
    refine Int.tmod_eq_zero_of_dvd ?_
    have := Int.dvd_sub h2 h1
    rwa [show x - r - (r.tmod m - r) = x - r.tmod m by omega] at this
set_option maxHeartbeats 4000000 in
theorem rsieve_p {s m r : Int} {es : List AV} {l : List Rat} {K : Nat} (h : ValidP s es.length = true → IsL es K l) (hle : es.length = l.length) (hr : InR s es.length) (hK : 1 ≤ K) (hkK : K ≤ 100000000) : PC Tryz.prog 17 [serA s es, .p (.int .i64 m), .p (.int .i64 r)] (serE (sieR s l m r)) := by
  have cch := check_p (es := es) hr.1 hr.2 hr.3
  have cst := stride_p (d := m)
  rw [serE_eq]
  unfold sieR
  rw [← hle]
  cases hv : ValidP s es.length with
  | false =>
    rw [hv] at cch
    refine pc_body2 true Tryz.func17 rfl rfl rfl (Nat.le_of_ble_eq_true rfl) (CellT.agg agg_ser) CellT.tmp ?_
    refine goA ?_
    refine evG ggA (ss_call (InB_of rfl) rfl rfl cch) ?_
    refine goA ?_
    exact rfl
  | true =>
  rw [hv] at cch
  cases hd : (decide (1 ≤ m) && decide (m ≤ 1000)) with
  | false =>
    rw [hd] at cst
    refine pc_body2 true Tryz.func17 rfl rfl rfl (Nat.le_of_ble_eq_true rfl) (CellT.agg agg_ser) CellT.tmp ?_
    refine goA ?_
    refine evG ggA (ss_call (InB_of rfl) rfl rfl cch) ?_
    refine goA ?_
    refine evG ggA (ss_call (InB_of rfl) rfl rfl cst) ?_
    refine goA ?_
    exact rfl
  | true =>
  rw [hd] at cst
  simp only [Bool.and_eq_true, decide_eq_true_eq] at hd
  obtain ⟨m0, m1⟩ := hd
  have hL := h hv
  obtain ⟨a0, a1, a2⟩ := valid_iff.1 hv
  simp only [Bool.and_self, if_true]
  obtain ⟨N, hN⟩ : ∃ N, N = es.length := ⟨_, rfl⟩
  have hF : ∀ (i : Nat) q, l[i]? = some q → sieF s l m r i = if (s + i) % m = r % m then q else 0 := fun i q hq => by
    unfold sieF
    rw [List.getD_eq_getElem?_getD, hq]
    by_cases hc : (s + (i : Int)) % m = r % m
    · rw [if_pos ((sie_iff m0).2 hc), if_pos hc]; rfl
    · rw [if_neg (fun h => hc ((sie_iff m0).1 h)), if_neg hc]
  rw [← hN]
  have hIL : IsL ((List.range N).map fun i : Nat => if (s + (i : Int)) % m = r % m then es.getD i rz else encQ 0) K (tk (sieF s l m r) N) := by
    refine IsL.mk (by simp) fun i e q he hq => ?_
    have hi : i < N := by have := (List.getElem?_eq_some_iff.1 he).1; simpa using this
    obtain ⟨y, ys, y', ys', q', e1, e2, e3⟩ := hL.at (i := i) (by omega)
    have he2 : (if (s + (i : Int)) % m = r % m then es.getD i rz else encQ 0) = e := by simpa [hi] using he
    have hq2 : sieF s l m r i = q := by simpa [tk, hi] using hq
    rw [hF i q' e2] at hq2
    by_cases hc : (s + (i : Int)) % m = r % m
    · rw [if_pos hc] at he2 hq2
      rw [List.getD_eq_getElem?_getD, e1] at he2
      subst he2 hq2
      exact e3
    · rw [if_neg hc] at he2 hq2
      subst he2 hq2
      exact isV_encQ (ht0 hK)
  have hG : ∀ i : Nat, (fun i : Nat => if (s + (i : Int)) % m = r % m then es.getD i rz else encQ 0) i = if (s + (i : Int)) % m = r % m then es.getD i rz else encQ 0 := fun i => rfl
  generalize (fun i : Nat => if (s + (i : Int)) % m = r % m then es.getD i rz else encQ 0) = G at *
  generalize sieF s l m r = F at *
  clear hF
  refine pc_body2 true Tryz.func17 rfl rfl rfl (Nat.le_of_ble_eq_true rfl) (CellT.agg agg_ser) CellT.tmp ?_
  refine r1A ?_
  refine T.seqI (fun s1 => s1 = mkS [(1, .v (.p (.int .i64 m))), (2, .v (.p (.int .i64 r))), (3, .ptr 3 0), (6, .ptr 6 0)] [(3, .var [.v (.p (.int .i64 s)), .v (.sl es)]), (6, var0)] 55 true) ?_ ?_
  · refine goA ?_
    refine evG ggA (ss_call (InB_of rfl) rfl rfl cch) ?_
    refine goA ?_
    exact midQ_intro (by exact entA) rfl
  rintro _ rfl
  refine T.seqI (fun s1 => s1 = mkS [(1, .v (.p (.int .i64 m))), (2, .v (.p (.int .i64 r))), (3, .ptr 3 0), (6, .ptr 6 0)] [(3, .var [.v (.p (.int .i64 s)), .v (.sl es)]), (6, var0)] 55 true) ?_ ?_
  · refine goA ?_
    refine evG ggA (ss_call (InB_of rfl) rfl rfl cst) ?_
    refine goA ?_
    exact midQ_intro (by exact entA) rfl
  rintro _ rfl
  refine r1A ?_
  refine T.seqI (fun s1 => s1 = mkS [(3, .ptr 3 0), (6, .ptr 6 0), (9, .own 100 N)] [(3, .var [.v (.p (.int .i64 s)), .v (.sl es)]), (6, var0), (100, .lst 4 49 ((List.range N).map G))] 55 true) ?_ ?_
  · refine r1A ?_
    refine T.block ?_
    refine T.loop (fun n s1 => ∃ j : Nat, n = N - j ∧ j ≤ N ∧ s1 = mkS [(1, .v (.p (.int .i64 m))), (2, .v (.p (.int .i64 r))), (3, .ptr 3 0), (6, .ptr 6 0), (9, .own 100 j), (10, .v (.p (.int .i64 (j : Nat))))] [(3, .var [.v (.p (.int .i64 s)), .v (.sl es)]), (6, var0), (100, .lst 4 49 ((List.range j).map G))] 55 true) N
      (s' := mkS [(1, .v (.p (.int .i64 m))), (2, .v (.p (.int .i64 r))), (3, .ptr 3 0), (6, .ptr 6 0), (9, .own 100 0), (10, .v (.p (.int .i64 (0 : Nat))))] [(3, .var [.v (.p (.int .i64 s)), .v (.sl es)]), (6, var0), (100, .lst 4 49 ((List.range 0).map G))] 55 true) (by exact entA) ⟨0, rfl, Nat.zero_le _, rfl⟩ ?_
    rintro n _ ⟨j, rfl, hj, rfl⟩
    by_cases hlt : j < N
    · have hb : decide ((j : Int) < (es.length : Int)) = true := by simp; omega
      obtain ⟨y, ys, y', ys', q, e1, e2, e3⟩ := hL.at (i := j) (by omega)
      have e1' : es[((j : Nat) : Int).toNat]? = some (.agg [.p (.bool y), .sl ys, .p (.bool y'), .sl ys']) := by rw [Int.toNat_natCast]; exact e1
      have b1 := bmod_p (x := s + j) (m := m) (by omega) (by omega)
      have b2 := bmod_p (x := r) (m := m) (by omega) (by omega)
      have hGj := hG j
      by_cases hc : (s + (j : Int)) % m = r % m
      · have k1 : ((s + (j : Int)) % m == r % m) = true := by simpa using hc
        rw [if_pos hc, List.getD_eq_getElem?_getD, e1] at hGj
        have hGj : G j = .agg [.p (.bool y), .sl ys, .p (.bool y'), .sl ys'] := hGj
        clear hG hIL hL h
        refine goA ?_
        refine evG ggA (ss_call (InB_of rfl) rfl rfl b1) ?_
        refine goA ?_
        refine evG ggA (ss_call (InB_of rfl) rfl rfl b2) ?_
        refine goA ?_
        refine evG ggA (ss_index_sl (InB_of rfl) (elem_tab rfl) rfl rfl (by omega) e1' rfl) ?_
        refine goA ?_
        refine evG ggA (ss_bslice (InB_of rfl) (make_tab rfl) rfl rfl rfl rfl (one_ok rfl rfl) (Nat.le_of_ble_eq_true rfl)) ?_
        refine evG ggA (ss_snocA (InB_of rfl) (make_tab rfl) rfl rfl (by simp) rfl rfl (by decide) rfl (by omega) (Nat.le_of_ble_eq_true rfl) rfl) ?_
        refine goA ?_
        exact loopQ_intro (k := N - (j + 1)) (s' := mkS [(1, .v (.p (.int .i64 m))), (2, .v (.p (.int .i64 r))), (3, .ptr 3 0), (6, .ptr 6 0), (9, .own 100 (j + 1)), (10, .v (.p (.int .i64 ((j : Int) + 1))))] [(3, .var [.v (.p (.int .i64 s)), .v (.sl es)]), (6, var0), (100, .lst 4 49 ((List.range j).map G ++ [.agg [.p (.bool y), .sl ys, .p (.bool y'), .sl ys']]))] 55 true) (by omega) (by exact entA) ⟨j + 1, rfl, hlt, by rw [List.range_succ, List.map_append, ← hGj]; rfl⟩
      · have k1 : ((s + (j : Int)) % m == r % m) = false := by simpa using hc
        rw [if_neg hc] at hGj
        have cq := q_p 0 (by omega) (by omega)
        have cq : PC Tryz.prog 59 [.p (.int .i64 0)] (encQ 0) := cq
        clear hG hIL hL h
        refine goA ?_
        refine evG ggA (ss_call (InB_of rfl) rfl rfl b1) ?_
        refine goA ?_
        refine evG ggA (ss_call (InB_of rfl) rfl rfl b2) ?_
        refine goA ?_
        refine evG ggA (ss_call (InB_of rfl) rfl rfl cq) ?_
        refine evG ggA (ss_bslice (InB_of rfl) (make_tab rfl) rfl rfl rfl rfl (one_ok rfl rfl) (Nat.le_of_ble_eq_true rfl)) ?_
        refine evG ggA (ss_snocA (InB_of rfl) (make_tab rfl) rfl rfl (by simp) rfl rfl (by decide) rfl (by omega) (Nat.le_of_ble_eq_true rfl) rfl) ?_
        refine goA ?_
        exact loopQ_intro (k := N - (j + 1)) (s' := mkS [(1, .v (.p (.int .i64 m))), (2, .v (.p (.int .i64 r))), (3, .ptr 3 0), (6, .ptr 6 0), (9, .own 100 (j + 1)), (10, .v (.p (.int .i64 ((j : Int) + 1))))] [(3, .var [.v (.p (.int .i64 s)), .v (.sl es)]), (6, var0), (100, .lst 4 49 ((List.range j).map G ++ [encQ 0]))] 55 true) (by omega) (by exact entA) ⟨j + 1, rfl, hlt, by rw [List.range_succ, List.map_append, ← hGj]; rfl⟩
    · obtain rfl : j = N := by omega
      have hb : decide ((j : Int) < (es.length : Int)) = false := by simp; omega
      refine goA ?_
      exact midQ_intro (s' := mkS [(3, .ptr 3 0), (6, .ptr 6 0), (9, .own 100 j)] [(3, .var [.v (.p (.int .i64 s)), .v (.sl es)]), (6, var0), (100, .lst 4 49 ((List.range j).map G))] 55 true) (by exact entA) rfl
  rintro _ rfl
  have hbuild := result_p (s := s) hIL (by omega) (by omega) (by omega) (by rw [tk_len]; omega)
  rw [serE_eq] at hbuild
  refine T.weak (s' := mkS [(3, .ptr 3 0), (6, .ptr 6 0), (9, .v (.sl ((List.range N).map G)))] [(3, .var [.v (.p (.int .i64 s)), .v (.sl es)]), (6, var0)] 55 true) (by exact entA) ?_
  refine goA ?_
  refine evG ggA (ss_call (InB_of rfl) rfl rfl hbuild) ?_
  refine goA ?_
  exact rfl
end Ab
namespace Ab
open Go Go.RowKit Go.Proofs Hp
set_option maxRecDepth 100000

theorem ceil_eq {n d : Int} (hd : 1 ≤ d) : (n + (-n) % d).tdiv d = upv n d := by
  have h1 := Int.mul_ediv_add_emod (-n) d
  have h0 := Int.emod_nonneg (-n) (show d ≠ 0 by omega)
  have h2 := Int.emod_lt_of_pos (-n) (show 0 < d by omega)
  obtain ⟨u1, u2⟩ := upv_spec (n := n) hd
  have e : n + (-n) % d = d * (-((-n) / d)) := by rw [Int.mul_neg]; omega
  rw [e, Int.mul_tdiv_cancel_left _ (by omega)]
  generalize (-n) / d = q at *
  generalize (-n) % d = t at *
  generalize upv n d = u at *
  have e2 : n = (-q) * d - t := by
    have : (-q) * d = -(d * q) := by rw [Int.neg_mul, Int.mul_comm]
    omega
  have a1 : (u - 1) * d < (-q) * d := by omega
  have a2 : (-q - 1) * d < u * d := by rw [Int.sub_mul]; omega
  have b1 := Int.lt_of_mul_lt_mul_right a1 (by omega)
  have b2 := Int.lt_of_mul_lt_mul_right a2 (by omega)
  omega
theorem upv_bd {n d : Int} (hd : 1 ≤ d) (hn : -1000 ≤ n ∧ n ≤ 2000) : -1000 ≤ upv n d ∧ upv n d ≤ 2000 := by
  obtain ⟨u1, u2⟩ := upv_spec (n := n) hd
  constructor
  · refine Int.not_lt.1 fun h => ?_
    have : upv n d * d ≤ -1001 * d := Int.mul_le_mul_of_nonneg_right (by omega) (by omega)
    omega
  · refine Int.not_lt.1 fun h => ?_
    have : 2000 * d ≤ (upv n d - 1) * d := Int.mul_le_mul_of_nonneg_right (by omega) (by omega)
    omega
theorem ceil_p {n d : Int} (hd : 1 ≤ d) (hd2 : d ≤ 1000) (hn : -1000 ≤ n ∧ n ≤ 2000) : PC Tryz.prog 69 [.p (.int .i64 n), .p (.int .i64 d)] (.p (.int .i64 (upv n d))) := by
  have cm := bmod_p (x := 0 - n) (m := d) (by omega) (by omega)
  have h0 := Int.emod_nonneg (-n) (show d ≠ 0 by omega)
  have h2 := Int.emod_lt_of_pos (-n) (show 0 < d by omega)
  have hu := upv_bd hd hn
  rw [← ceil_eq hd] at hu ⊢
  rw [show 0 - n = -n by omega] at cm
  have e0 : 0 - n = -n := by omega
  generalize (-n) % d = t at *
  refine pc_body1 true Tryz.func69 rfl rfl rfl (Nat.le_of_ble_eq_true rfl) CellT.tmp ?_
  refine goA ?_
  rw [e0]
  refine evG ggA (ss_call (InB_of rfl) rfl rfl cm) ?_
  refine goA ?_
  refine evG ggA (ss_div (InB_of rfl) rfl rfl (by omega) (w64 (by omega) (by omega))) ?_
  refine goA ?_
  exact rfl
theorem empty3_p (p : Int) : PC Tryz.prog 64 [.p (.int .i64 p)] (serA p []) := by
  refine pc_body1 true Tryz.func64 rfl rfl rfl (Nat.le_of_ble_eq_true rfl) (CellT.agg agg_ser) ?_
  refine goA ?_
  exact rfl
set_option maxHeartbeats 4000000 in
theorem rcontract_p {s d : Int} {es : List AV} {l : List Rat} {K : Nat} (h : ValidP s es.length = true → IsL es K l) (hle : es.length = l.length) (hr : InR s es.length) (hK : 1 ≤ K) (hkK : K ≤ 100000000) : PC Tryz.prog 15 [serA s es, .p (.int .i64 d)] (serE (conR s l d)) := by
  have cch := check_p (es := es) hr.1 hr.2 hr.3
  have cst := stride_p (d := d)
  rw [serE_eq]
  unfold conR
  rw [← hle]
  cases hv : ValidP s es.length with
  | false =>
    rw [hv] at cch
    refine pc_body2 true Tryz.func15 rfl rfl rfl (Nat.le_of_ble_eq_true rfl) (CellT.agg agg_ser) CellT.tmp ?_
    refine goA ?_
    refine evG ggA (ss_call (InB_of rfl) rfl rfl cch) ?_
    refine goA ?_
    exact rfl
  | true =>
  rw [hv] at cch
  cases hd : (decide (1 ≤ d) && decide (d ≤ 1000)) with
  | false =>
    rw [hd] at cst
    refine pc_body2 true Tryz.func15 rfl rfl rfl (Nat.le_of_ble_eq_true rfl) (CellT.agg agg_ser) CellT.tmp ?_
    refine goA ?_
    refine evG ggA (ss_call (InB_of rfl) rfl rfl cch) ?_
    refine goA ?_
    refine evG ggA (ss_call (InB_of rfl) rfl rfl cst) ?_
    refine goA ?_
    exact rfl
  | true =>
  rw [hd] at cst
  simp only [Bool.and_eq_true, decide_eq_true_eq] at hd
  obtain ⟨m0, m1⟩ := hd
  have hL := h hv
  obtain ⟨a0, a1, a2⟩ := valid_iff.1 hv
  simp only [Bool.and_self, if_true]
  have cc1 := ceil_p (n := s) m0 m1 (by omega)
  have cc2 := ceil_p (n := s + (es.length : Int)) m0 m1 (by omega)
  have hpr := rprec_p (es := es) a0 a1 a2
  have hu1 := upv_bd (n := s) m0 (by omega)
  have hu2 := upv_bd (n := s + (es.length : Int)) m0 (by omega)
  have hN : conN s l d = (upv (s + es.length) d - upv s d).toNat := by unfold conN; rw [hle]
  have hFd : ∀ i : Nat, conF s l d i = cf s l (d * (upv s d + i)) := fun i => by unfold conF; rw [Int.mul_comm]
  have hhF : ∀ i, Ht (conF s l d i) K := fun i => by
    unfold conF cf
    split
    · exact ht0 hK
    · exact ht_getD hK (isL_ht hL hK) _
  have hdu : ∀ i : Nat, i < conN s l d → -100000 ≤ d * (upv s d + i) ∧ d * (upv s d + i) ≤ 100000 := fun i hi => by
    obtain ⟨u1, u2⟩ := upv_spec (n := s) m0
    obtain ⟨v1, v2⟩ := upv_spec (n := s + (es.length : Int)) m0
    rw [hN] at hi
    constructor
    · have : d * upv s d ≤ d * (upv s d + i) := Int.mul_le_mul_of_nonneg_left (by omega) (by omega)
      rw [Int.mul_comm d (upv s d)] at this
      omega
    · have : (upv s d + i) * d ≤ (upv (s + es.length) d - 1) * d := Int.mul_le_mul_of_nonneg_right (by omega) (by omega)
      rw [Int.mul_comm]
      omega
  generalize conN s l d = N at *
  generalize conF s l d = F at *
  generalize upv s d = U at *
  generalize upv (s + (es.length : Int)) d = V at *
  refine pc_body2 true Tryz.func15 rfl rfl rfl (Nat.le_of_ble_eq_true rfl) (CellT.agg agg_ser) CellT.tmp ?_
  refine r1A ?_
  refine T.seqI (fun s1 => s1 = mkS [(1, .v (.p (.int .i64 d))), (2, .ptr 2 0), (4, .ptr 4 0)] [(2, .var [.v (.p (.int .i64 s)), .v (.sl es)]), (4, var0)] 45 true) ?_ ?_
  · refine goA ?_
    refine evG ggA (ss_call (InB_of rfl) rfl rfl cch) ?_
    refine goA ?_
    exact midQ_intro (by exact entA) rfl
  rintro _ rfl
  refine T.seqI (fun s1 => s1 = mkS [(1, .v (.p (.int .i64 d))), (2, .ptr 2 0), (4, .ptr 4 0)] [(2, .var [.v (.p (.int .i64 s)), .v (.sl es)]), (4, var0)] 45 true) ?_ ?_
  · refine goA ?_
    refine evG ggA (ss_call (InB_of rfl) rfl rfl cst) ?_
    refine goA ?_
    exact midQ_intro (by exact entA) rfl
  rintro _ rfl
  refine T.seqI (fun s1 => s1 = mkS [(1, .v (.p (.int .i64 d))), (2, .ptr 2 0), (4, .ptr 4 0), (7, .v (.p (.int .i64 U)))] [(2, .var [.v (.p (.int .i64 s)), .v (.sl es)]), (4, var0)] 45 true) ?_ ?_
  · refine goA ?_
    refine evG ggA (ss_call (InB_of rfl) rfl rfl cc1) ?_
    refine goA ?_
    exact midQ_intro (by exact entA) rfl
  rintro _ rfl
  refine r1A ?_
  refine T.seqI (fun s1 => s1 = mkS [(2, .ptr 2 0), (4, .ptr 4 0), (7, .v (.p (.int .i64 U))), (8, .own 100 N)] [(2, .var [.v (.p (.int .i64 s)), .v (.sl es)]), (4, var0), (100, .lst 4 49 ((tk F N).map encQ))] 45 true) ?_ ?_
  · refine r1A ?_
    refine T.block ?_
    refine T.loop (fun n s1 => ∃ j : Nat, n = N - j ∧ j ≤ N ∧ s1 = mkS [(1, .v (.p (.int .i64 d))), (2, .ptr 2 0), (4, .ptr 4 0), (7, .v (.p (.int .i64 U))), (8, .own 100 j), (9, .v (.p (.int .i64 (U + (j : Nat)))))] [(2, .var [.v (.p (.int .i64 s)), .v (.sl es)]), (4, var0), (100, .lst 4 49 ((tk F j).map encQ))] 45 true) N
      (s' := mkS [(1, .v (.p (.int .i64 d))), (2, .ptr 2 0), (4, .ptr 4 0), (7, .v (.p (.int .i64 U))), (8, .own 100 0), (9, .v (.p (.int .i64 U)))] [(2, .var [.v (.p (.int .i64 s)), .v (.sl es)]), (4, var0), (100, .lst 4 49 ((tk F 0).map encQ))] 45 true) (by exact entA) ⟨0, rfl, Nat.zero_le _, by rw [show U + ((0 : Nat) : Int) = U by omega]⟩ ?_
    rintro n _ ⟨j, rfl, hj, rfl⟩
    by_cases hlt : j < N
    · have hb : decide (U + (j : Int) < V) = true := decide_eq_true (by omega)
      have hdj := hdu j hlt
      have cco := coef_p hL (n := d * (U + j)) (by omega) a0 a1 a2 hdj.1 hdj.2
      rw [← hFd] at cco
      clear hFd hhF hL h hdu
      refine goA ?_
      refine evG ggA (ss_call (InB_of rfl) rfl rfl hpr) ?_
      refine goA ?_
      refine evG ggA (ss_call (InB_of rfl) rfl rfl cc2) ?_
      refine goA ?_
      refine evG ggA (ss_call (InB_of rfl) rfl rfl cco) ?_
      (refine evG ggA (ss_bslice (InB_of rfl) (make_tab rfl) rfl rfl rfl rfl (one_ok rfl rfl) (Nat.le_of_ble_eq_true rfl)) ?_; refine evG ggA (ss_snoc (InB_of rfl) (make_tab rfl) rfl rfl (by first | rfl | assumption | (simp; done) | (simp; omega)) rfl (by omega) (Nat.le_of_ble_eq_true rfl) rfl) ?_)
      refine goA ?_
      exact loopQ_intro (k := N - (j + 1)) (s' := mkS [(1, .v (.p (.int .i64 d))), (2, .ptr 2 0), (4, .ptr 4 0), (7, .v (.p (.int .i64 U))), (8, .own 100 (j + 1)), (9, .v (.p (.int .i64 (U + (j : Int) + 1))))] [(2, .var [.v (.p (.int .i64 s)), .v (.sl es)]), (4, var0), (100, .lst 4 49 ((tk F j ++ [F j]).map encQ))] 45 true) (by omega) (by exact entA) ⟨j + 1, rfl, hlt, by rw [tk_succ, show U + ((j + 1 : Nat) : Int) = U + (j : Int) + 1 by omega]⟩
    · obtain rfl : j = N := by omega
      have hb : decide (U + (j : Int) < V) = false := decide_eq_false (by omega)
      refine goA ?_
      refine evG ggA (ss_call (InB_of rfl) rfl rfl hpr) ?_
      refine goA ?_
      refine evG ggA (ss_call (InB_of rfl) rfl rfl cc2) ?_
      refine goA ?_
      exact midQ_intro (s' := mkS [(2, .ptr 2 0), (4, .ptr 4 0), (7, .v (.p (.int .i64 U))), (8, .own 100 j)] [(2, .var [.v (.p (.int .i64 s)), .v (.sl es)]), (4, var0), (100, .lst 4 49 ((tk F j).map encQ))] 45 true) (by exact entA) rfl
  rintro _ rfl
  have hbuild := result_p (s := U) (isL_enc (l := tk F N) (k := K) (fun q hq => by obtain ⟨i, hi, rfl⟩ := tk_mem hq; exact hhF i)) (by omega) (by omega) (by omega) (by rw [tk_len]; omega)
  rw [serE_eq] at hbuild
  refine T.weak (s' := mkS [(2, .ptr 2 0), (4, .ptr 4 0), (7, .v (.p (.int .i64 U))), (8, .v (.sl ((tk F N).map encQ)))] [(2, .var [.v (.p (.int .i64 s)), .v (.sl es)]), (4, var0)] 45 true) (by exact entA) ?_
  refine goA ?_
  refine evG ggA (ss_call (InB_of rfl) rfl rfl hbuild) ?_
  refine goA ?_
  exact rfl
set_option maxHeartbeats 4000000 in
theorem rexpand_p {s d : Int} {es : List AV} {l : List Rat} {K : Nat} (h : ValidP s es.length = true → IsL es K l) (hle : es.length = l.length) (hr : InR s es.length) (hK : 1 ≤ K) (hkK : K ≤ 100000000) : PC Tryz.prog 13 [serA s es, .p (.int .i64 d)] (serE (expR s l d)) := by
  have cch := check_p (es := es) hr.1 hr.2 hr.3
  have cst := stride_p (d := d)
  rw [serE_eq]
  unfold expR
  rw [← hle]
  cases hv : ValidP s es.length with
  | false =>
    rw [hv] at cch
    refine pc_body2 true Tryz.func13 rfl rfl rfl (Nat.le_of_ble_eq_true rfl) (CellT.agg agg_ser) CellT.tmp ?_
    refine goA ?_
    refine evG ggA (ss_call (InB_of rfl) rfl rfl cch) ?_
    refine goA ?_
    exact rfl
  | true =>
  rw [hv] at cch
  cases hd : (decide (1 ≤ d) && decide (d ≤ 1000)) with
  | false =>
    rw [hd] at cst
    refine pc_body2 true Tryz.func13 rfl rfl rfl (Nat.le_of_ble_eq_true rfl) (CellT.agg agg_ser) CellT.tmp ?_
    refine goA ?_
    refine evG ggA (ss_call (InB_of rfl) rfl rfl cch) ?_
    refine goA ?_
    refine evG ggA (ss_call (InB_of rfl) rfl rfl cst) ?_
    refine goA ?_
    exact rfl
  | true =>
  rw [hd] at cst
  simp only [Bool.and_eq_true, decide_eq_true_eq] at hd
  obtain ⟨m0, m1⟩ := hd
  have hL := h hv
  obtain ⟨a0, a1, a2⟩ := valid_iff.1 hv
  simp only [Bool.and_self, if_true]
  have ll := lead_le l
  have hor := rord_p hL (by omega) a0 a1 a2
  have hpr := rprec_p (es := es) a0 a1 a2
  have hEF : ∀ i : Nat, expF l d i = if ((i : Int) % d = 0) then cf s l (s + lead l + ((i : Int) / d)) else 0 := fun i => by
    unfold expF
    have e1 : (i % d.toNat = 0) = ((i : Int) % d = 0) := by
      obtain ⟨D, rfl⟩ : ∃ D : Nat, d = D := ⟨d.toNat, by omega⟩
      rw [Int.toNat_natCast]
      apply propext
      omega
    have e2 : s + (lead l : Int) + ((i : Int) / d) = s + (lead l : Int) + ((i / d.toNat : Nat) : Int) := by
      obtain ⟨D, rfl⟩ : ∃ D : Nat, d = D := ⟨d.toNat, by omega⟩
      rw [Int.toNat_natCast]
      omega
    rw [e2]
    have e3 : cf s l (s + (lead l : Int) + ((i / d.toNat : Nat) : Int)) = (l.drop (lead l)).getD (i / d.toNat) 0 := by
      generalize i / d.toNat = u
      unfold cf
      rw [if_neg (by omega), show (s + (lead l : Int) + ((u : Nat) : Int) - s).toNat = lead l + u by omega]
      simp
    rw [e3]
    simp only [e1]
  have hhF : ∀ i, Ht (expF l d i) K := fun i => by
    rw [hEF]
    split
    · unfold cf
      split
      · exact ht0 hK
      · exact ht_getD hK (isL_ht hL hK) _
    · exact ht0 hK
  have hEN : expN s l d = (min (d * (s + (es.length : Int))) 1000 - d * (s + lead l)).toNat := by
    unfold expN
    rw [hle, List.length_drop]
    have : d * (s + (l.length : Int)) = d * (((l.length - lead l : Nat) : Int)) + d * (s + lead l) := by rw [← Int.mul_add]; congr 1; omega
    omega
  have f0 : -100000 ≤ d * (s + (lead l : Int)) := by
    have : d * (-100) ≤ d * (s + lead l) := Int.mul_le_mul_of_nonneg_left (by omega) (by omega)
    omega
  have f1 : d * (s + (lead l : Int)) ≤ 1000000 := by
    have : d * (s + lead l) ≤ d * 1000 := Int.mul_le_mul_of_nonneg_left (by omega) (by omega)
    omega
  have g0 : -100000 ≤ d * (s + (es.length : Int)) := by
    have : d * (-100) ≤ d * (s + (es.length : Int)) := Int.mul_le_mul_of_nonneg_left (by omega) (by omega)
    omega
  have g1 : d * (s + (es.length : Int)) ≤ 1000000 := by
    have : d * (s + (es.length : Int)) ≤ d * 1000 := Int.mul_le_mul_of_nonneg_left (by omega) (by omega)
    omega
  have hll : lead l ≤ 1100 := by omega
  have hS0 : -100 ≤ s + (lead l : Int) ∧ s + (lead l : Int) ≤ 1000 := by omega
  have hcong : ∀ i : Nat, (d * (s + (lead l : Int)) + i) % d = (i : Int) % d ∧ (d * (s + (lead l : Int)) + i - (i : Int) % d).tdiv d = s + lead l + (i : Int) / d := fun i => by
    refine ⟨by rw [Int.add_comm, Int.add_mul_emod_self_left], ?_⟩
    generalize s + (lead l : Int) = A
    have := Int.mul_ediv_add_emod (i : Int) d
    rw [show d * A + i - (i : Int) % d = d * (A + (i : Int) / d) by rw [Int.mul_add]; omega, Int.mul_tdiv_cancel_left _ (by omega)]
  generalize expF l d = F at *
  generalize expN s l d = N at *
  generalize hS : s + (lead l : Int) = A at *
  refine pc_body2 true Tryz.func13 rfl rfl rfl (Nat.le_of_ble_eq_true rfl) (CellT.agg agg_ser) CellT.tmp ?_
  refine r1A ?_
  refine T.seqI (fun s1 => s1 = mkS [(1, .v (.p (.int .i64 d))), (2, .ptr 2 0), (4, .ptr 4 0)] [(2, .var [.v (.p (.int .i64 s)), .v (.sl es)]), (4, var0)] 61 true) ?_ ?_
  · refine goA ?_
    refine evG ggA (ss_call (InB_of rfl) rfl rfl cch) ?_
    refine goA ?_
    exact midQ_intro (by exact entA) rfl
  rintro _ rfl
  refine T.seqI (fun s1 => s1 = mkS [(1, .v (.p (.int .i64 d))), (2, .ptr 2 0), (4, .ptr 4 0)] [(2, .var [.v (.p (.int .i64 s)), .v (.sl es)]), (4, var0)] 61 true) ?_ ?_
  · refine goA ?_
    refine evG ggA (ss_call (InB_of rfl) rfl rfl cst) ?_
    refine goA ?_
    exact midQ_intro (by exact entA) rfl
  rintro _ rfl
  refine T.seqI (fun s1 => s1 = mkS [(1, .v (.p (.int .i64 d))), (2, .ptr 2 0), (4, .ptr 4 0), (7, .v (.p (.int .i64 (d * A))))] [(2, .var [.v (.p (.int .i64 s)), .v (.sl es)]), (4, var0)] 61 true) ?_ ?_
  · refine goA ?_
    refine evG ggA (ss_call (InB_of rfl) rfl rfl hor) ?_
    refine goA ?_
    exact midQ_intro (by exact entA) rfl
  rintro _ rfl
  by_cases hbig : d * A ≥ 1000
  · have hN0 : N = 0 := by omega
    subst hN0
    have kb : decide (d * A ≥ 1000) = true := decide_eq_true hbig
    have hnrm : nrm (d * A) (tk F 0) = some (1000, []) := by
      have e0 : tk F 0 = [] := rfl
      have e1 : ncut (d * A) [] = [] := by unfold ncut; split <;> simp
      unfold nrm
      rw [e0, e1]
      have e2 : nfrom (d * A) = 1000 := by unfold nfrom; split <;> omega
      rw [e2]
      rfl
    rw [hnrm]
    have cem := empty3_p 1000
    refine goA ?_
    refine evG ggA (ss_call (InB_of rfl) rfl rfl cem) ?_
    refine goA ?_
    exact rfl
  · have kb : decide (d * A ≥ 1000) = false := decide_eq_false hbig
    refine T.seqI (fun s1 => s1 = mkS [(1, .v (.p (.int .i64 d))), (2, .ptr 2 0), (4, .ptr 4 0), (7, .v (.p (.int .i64 (d * A))))] [(2, .var [.v (.p (.int .i64 s)), .v (.sl es)]), (4, var0)] 61 true) ?_ ?_
    · refine goA ?_
      exact midQ_intro (by exact entA) rfl
    rintro _ rfl
    refine r1A ?_
    refine T.seqI (fun s1 => s1 = mkS [(2, .ptr 2 0), (4, .ptr 4 0), (7, .v (.p (.int .i64 (d * A)))), (8, .own 100 N)] [(2, .var [.v (.p (.int .i64 s)), .v (.sl es)]), (4, var0), (100, .lst 4 49 ((tk F N).map encQ))] 61 true) ?_ ?_
    · refine r1A ?_
      refine T.block ?_
      refine T.loop (fun n s1 => ∃ j : Nat, n = N - j ∧ j ≤ N ∧ s1 = mkS [(1, .v (.p (.int .i64 d))), (2, .ptr 2 0), (4, .ptr 4 0), (7, .v (.p (.int .i64 (d * A)))), (8, .own 100 j), (9, .v (.p (.int .i64 (d * A + (j : Nat)))))] [(2, .var [.v (.p (.int .i64 s)), .v (.sl es)]), (4, var0), (100, .lst 4 49 ((tk F j).map encQ))] 61 true) N
        (s' := mkS [(1, .v (.p (.int .i64 d))), (2, .ptr 2 0), (4, .ptr 4 0), (7, .v (.p (.int .i64 (d * A)))), (8, .own 100 0), (9, .v (.p (.int .i64 (d * A))))] [(2, .var [.v (.p (.int .i64 s)), .v (.sl es)]), (4, var0), (100, .lst 4 49 ((tk F 0).map encQ))] 61 true) (by exact entA) ⟨0, rfl, Nat.zero_le _, by rw [show d * A + ((0 : Nat) : Int) = d * A by omega]⟩ ?_
      rintro n _ ⟨j, rfl, hj, rfl⟩
      have hNb : N ≤ 102000 := by omega
      by_cases hlt : j < N
      · have hb : decide (d * A + (j : Int) < min (d * (s + (es.length : Int))) 1000) = true := decide_eq_true (by omega)
        obtain ⟨hc1, hc2⟩ := hcong j
        have b1 := bmod_p (x := d * A + j) (m := d) (by omega) (by omega)
        rw [hc1] at b1
        have hjm : 0 ≤ (j : Int) % d ∧ (j : Int) % d ≤ 1000 := ⟨Int.emod_nonneg _ (by omega), by have := Int.emod_lt_of_pos (j : Int) (show 0 < d by omega); omega⟩
        have hjd : 0 ≤ (j : Int) / d ∧ (j : Int) / d ≤ j := ⟨Int.ediv_nonneg (by omega) (by omega), Int.ediv_le_self _ (by omega)⟩
        have hFj := hEF j
        have clo : ∀ (q : Rat), F j = q → F j = q := fun _ e => e
        by_cases hz : (j : Int) % d = 0
        · have kz : ((j : Int) % d == 0) = true := by rw [hz]; rfl
          rw [if_pos hz] at hFj
          have hjd2 : A + (j : Int) / d ≤ 100000 := by
            have h1 : d * (A + (j : Int) / d) = d * A + j := by
              have := Int.mul_ediv_add_emod (j : Int) d
              rw [Int.mul_add]; omega
            refine Int.not_lt.1 fun hc => ?_
            have : d * 100001 ≤ d * (A + (j : Int) / d) := Int.mul_le_mul_of_nonneg_left (by omega) (by omega)
            omega
          have cco := coef_p hL (n := A + (j : Int) / d) (by omega) a0 a1 a2 (by omega) hjd2
          rw [← hFj] at cco
          clear hEF hhF hL h hcong clo
          rw [hz] at hc2
          generalize hjq : A + (j : Int) / d = q at *
          refine goA ?_
          refine evG ggA (ss_call (InB_of rfl) rfl rfl hpr) ?_
          refine goA ?_
          refine evG ggA (ss_call (InB_of rfl) rfl rfl b1) ?_
          refine goA ?_
          refine evG ggA (ss_call (InB_of rfl) rfl rfl b1) ?_
          refine goA ?_
          refine evG ggA (ss_div (c := q) (InB_of rfl) rfl rfl (by omega) (by show IntKind.i64.wrap _ = q; rw [hz, hc2]; exact w64 (by omega) (by omega))) ?_
          refine goA ?_
          refine evG ggA (ss_call (InB_of rfl) rfl rfl cco) ?_
          (refine evG ggA (ss_bslice (InB_of rfl) (make_tab rfl) rfl rfl rfl rfl (one_ok rfl rfl) (Nat.le_of_ble_eq_true rfl)) ?_; refine evG ggA (ss_snoc (InB_of rfl) (make_tab rfl) rfl rfl (by first | rfl | assumption | (simp; done) | (simp; omega)) rfl (by omega) (Nat.le_of_ble_eq_true rfl) rfl) ?_)
          refine goA ?_
          exact loopQ_intro (k := N - (j + 1)) (s' := mkS [(1, .v (.p (.int .i64 d))), (2, .ptr 2 0), (4, .ptr 4 0), (7, .v (.p (.int .i64 (d * A)))), (8, .own 100 (j + 1)), (9, .v (.p (.int .i64 (d * A + (j : Int) + 1))))] [(2, .var [.v (.p (.int .i64 s)), .v (.sl es)]), (4, var0), (100, .lst 4 49 ((tk F j ++ [F j]).map encQ))] 61 true) (by omega) (by exact entA) ⟨j + 1, rfl, hlt, by rw [tk_succ, show d * A + ((j + 1 : Nat) : Int) = d * A + (j : Int) + 1 by omega]⟩
        · have kz : ((j : Int) % d == 0) = false := by simpa using hz
          rw [if_neg hz] at hFj
          have cq := q_p 0 (by omega) (by omega)
          have cq : PC Tryz.prog 59 [.p (.int .i64 0)] (encQ (F j)) := by rw [hFj]; exact cq
          clear hEF hhF hL h hcong clo
          refine goA ?_
          refine evG ggA (ss_call (InB_of rfl) rfl rfl hpr) ?_
          refine goA ?_
          refine evG ggA (ss_call (InB_of rfl) rfl rfl b1) ?_
          refine goA ?_
          refine evG ggA (ss_call (InB_of rfl) rfl rfl cq) ?_
          (refine evG ggA (ss_bslice (InB_of rfl) (make_tab rfl) rfl rfl rfl rfl (one_ok rfl rfl) (Nat.le_of_ble_eq_true rfl)) ?_; refine evG ggA (ss_snoc (InB_of rfl) (make_tab rfl) rfl rfl (by first | rfl | assumption | (simp; done) | (simp; omega)) rfl (by omega) (Nat.le_of_ble_eq_true rfl) rfl) ?_)
          refine goA ?_
          exact loopQ_intro (k := N - (j + 1)) (s' := mkS [(1, .v (.p (.int .i64 d))), (2, .ptr 2 0), (4, .ptr 4 0), (7, .v (.p (.int .i64 (d * A)))), (8, .own 100 (j + 1)), (9, .v (.p (.int .i64 (d * A + (j : Int) + 1))))] [(2, .var [.v (.p (.int .i64 s)), .v (.sl es)]), (4, var0), (100, .lst 4 49 ((tk F j ++ [F j]).map encQ))] 61 true) (by omega) (by exact entA) ⟨j + 1, rfl, hlt, by rw [tk_succ, show d * A + ((j + 1 : Nat) : Int) = d * A + (j : Int) + 1 by omega]⟩
      · obtain rfl : j = N := by omega
        have hb : decide (d * A + (j : Int) < min (d * (s + (es.length : Int))) 1000) = false := decide_eq_false (by omega)
        refine goA ?_
        refine evG ggA (ss_call (InB_of rfl) rfl rfl hpr) ?_
        refine goA ?_
        exact midQ_intro (s' := mkS [(2, .ptr 2 0), (4, .ptr 4 0), (7, .v (.p (.int .i64 (d * A)))), (8, .own 100 j)] [(2, .var [.v (.p (.int .i64 s)), .v (.sl es)]), (4, var0), (100, .lst 4 49 ((tk F j).map encQ))] 61 true) (by exact entA) rfl
    rintro _ rfl
    have hbuild := result_p (s := d * A) (isL_enc (l := tk F N) (k := K) (fun q hq => by obtain ⟨i, hi, rfl⟩ := tk_mem hq; exact hhF i)) (by omega) (by omega) (by omega) (by rw [tk_len]; omega)
    rw [serE_eq] at hbuild
    refine T.weak (s' := mkS [(2, .ptr 2 0), (4, .ptr 4 0), (7, .v (.p (.int .i64 (d * A)))), (8, .v (.sl ((tk F N).map encQ)))] [(2, .var [.v (.p (.int .i64 s)), .v (.sl es)]), (4, var0)] 61 true) (by exact entA) ?_
    refine goA ?_
    refine evG ggA (ss_call (InB_of rfl) rfl rfl hbuild) ?_
    refine goA ?_
    exact rfl
end Ab
