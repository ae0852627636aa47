/- Scale and Monomial of package series, Zeros of the base, Monomial of the document; in abstract values. -/
import Derived.Test.YtmcfohngblbpbaaMakA
import Derived.Test.YtmcfohngblbpbaaOwned
namespace Ab
open Go Go.RowKit Go.Proofs Hp
set_option maxRecDepth 100000

set_option maxHeartbeats 2000000 in
theorem scale_p {a : AV} {c : Rat} {k : Nat} {s : Int} {es : List AV} {l : List Rat} {K : Nat} (ha : IsV a k c) (h : ValidP s es.length = true → IsL es K l) (hle : es.length = l.length) (hr : InR s es.length) (hk : 1 ≤ k) (hK : 1 ≤ K) (hkK : k + K ≤ 100000000) : PC Try.prog 20 [a, serA s es] (serE (sclR c s l)) := by
  have hva := valid_p hr.1 hr.2 hr.3
  obtain ⟨g, xs, g', xs', rfl⟩ := isV_cells ha
  rw [serE_eq]
  unfold sclR
  rw [← hle]
  cases hv : ValidP s es.length with
  | false =>
    rw [hv] at hva
    refine pc_body2 true Try.func20 rfl rfl rfl (Nat.le_of_ble_eq_true rfl) (CellT.agg agg_ser) CellT.tmp ?_
    refine goA ?_
    refine evG ggA (ss_call (InB_of rfl) rfl rfl hva) ?_
    refine goA ?_
    exact rfl
  | true =>
  rw [hv] at hva
  have hL := h hv
  obtain ⟨a0, a1, a2⟩ := valid_iff.1 hv
  obtain ⟨N, hN⟩ : ∃ N, N = es.length := ⟨_, rfl⟩
  have hF : ∀ (i : Nat) q, l[i]? = some q → (fun i => c * l.getD i 0) i = c * q := fun i q hq => by
    show c * l.getD i 0 = _
    rw [List.getD_eq_getElem?_getD, hq]; rfl
  have hhF : ∀ i, Ht ((fun i => c * l.getD i 0) i) (k + K) := fun i => ht_mul (isV_ht ha hk) (ht_getD hK (isL_ht hL hK) i) hk
  rw [← hN]
  generalize (fun i => c * l.getD i 0) = F at *
  refine pc_body2 true Try.func20 rfl rfl rfl (Nat.le_of_ble_eq_true rfl) (CellT.agg agg_ser) CellT.tmp ?_
  refine r1A ?_
  refine T.seqI (fun s1 => s1 = mkS [(2, .ptr 2 0), (3, .ptr 3 0), (4, .ptr 4 0)] [(2, .var [.v (.p (.bool g)), .v (.sl xs), .v (.p (.bool g')), .v (.sl xs')]), (3, .var [.v (.p (.int .i64 s)), .v (.sl es)]), (4, var0)] 37 true) ?_ ?_
  · refine goA ?_
    refine evG ggA (ss_call (InB_of rfl) rfl rfl hva) ?_
    refine goA ?_
    exact midQ_intro (by exact entA) rfl
  rintro _ rfl
  refine T.seq ?_
  refine regA ?_
  refine runA ?_
  refine evG ggA (ss_make 30 (e0 := rz) (InB_of rfl) (make_tab rfl) rfl rfl rfl (by omega) (by omega) (by omega) (by omega) rfl rfl rfl) ?_
  refine runA ?_
  refine ev_nil ?_
  refine seqQ_n ?_
  refine T.seqI (fun s1 => s1 = mkS [(3, .ptr 3 0), (4, .ptr 4 0), (6, .own 30 N)] [(3, .var [.v (.p (.int .i64 s)), .v (.sl es)]), (4, var0), (30, .lst 4 37 ((tk F N).map encQ))] 37 true) ?_ ?_
  · refine r1A ?_
    refine T.block ?_
    refine T.loop (fun n s1 => ∃ j : Nat, n = N - j ∧ j ≤ N ∧ s1 = mkS [(2, .ptr 2 0), (3, .ptr 3 0), (4, .ptr 4 0), (6, .own 30 j), (18, .v (.sl es)), (19, .v (.p (.int .i64 N))), (20, .v (.p (.int .i64 (j : Nat))))] [(2, .var [.v (.p (.bool g)), .v (.sl xs), .v (.p (.bool g')), .v (.sl xs')]), (3, .var [.v (.p (.int .i64 s)), .v (.sl es)]), (4, var0), (30, .lst 4 37 ((tk F j).map encQ))] 37 true) N
      (s' := mkS [(2, .ptr 2 0), (3, .ptr 3 0), (4, .ptr 4 0), (6, .own 30 0), (18, .v (.sl es)), (19, .v (.p (.int .i64 es.length))), (20, .v (.p (.int .i64 (0 : Nat))))] [(2, .var [.v (.p (.bool g)), .v (.sl xs), .v (.p (.bool g')), .v (.sl xs')]), (3, .var [.v (.p (.int .i64 s)), .v (.sl es)]), (4, var0), (30, .lst 4 37 ((tk F 0).map encQ))] 37 true) (by exact entA) ⟨0, rfl, Nat.zero_le _, by rw [hN]⟩ ?_
    rintro n _ ⟨j, rfl, hj, rfl⟩
    by_cases hlt : j < N
    · have hb : decide ((j : Int) < (N : Int)) = true := by simp; omega
      obtain ⟨y, ys, y', ys', q, e1, e2, e3⟩ := hL.at (i := j) (by omega)
      have e1' : es[((j : Nat) : Int).toNat]? = some (.agg [.p (.bool y), .sl ys, .p (.bool y'), .sl ys']) := by rw [Int.toNat_natCast]; exact e1
      have cm := rmul_p ha (by omega) e3 (by omega)
      rw [← hF j q e2] at cm
      clear hF hhF hL h ha
      refine goA ?_
      refine evG ggA (ss_index_sl (InB_of rfl) (elem_tab rfl) rfl rfl (by omega) e1' rfl) ?_
      refine goA ?_
      refine evG ggA (ss_call (InB_of rfl) rfl rfl cm) ?_
      (refine evG ggA (ss_bslice (InB_of rfl) (make_tab rfl) rfl rfl rfl rfl (one_ok rfl rfl) (Nat.le_of_ble_eq_true rfl)) ?_; refine evG ggA (ss_snoc (InB_of rfl) (make_tab rfl) rfl rfl (by first | rfl | assumption | (simp; done) | (simp; omega)) rfl (by omega) (Nat.le_of_ble_eq_true rfl) rfl) ?_)
      refine goA ?_
      exact loopQ_intro (k := N - (j + 1)) (s' := mkS [(2, .ptr 2 0), (3, .ptr 3 0), (4, .ptr 4 0), (6, .own 30 (j + 1)), (18, .v (.sl es)), (19, .v (.p (.int .i64 N))), (20, .v (.p (.int .i64 ((j : Int) + 1))))] [(2, .var [.v (.p (.bool g)), .v (.sl xs), .v (.p (.bool g')), .v (.sl xs')]), (3, .var [.v (.p (.int .i64 s)), .v (.sl es)]), (4, var0), (30, .lst 4 37 ((tk F j ++ [F j]).map encQ))] 37 true) (by omega) (by exact entA) ⟨j + 1, rfl, hlt, by rw [tk_succ]; rfl⟩
    · obtain rfl : j = N := by omega
      have hb : decide ((j : Int) < (j : Int)) = false := by simp
      refine goA ?_
      exact midQ_intro (s' := mkS [(3, .ptr 3 0), (4, .ptr 4 0), (6, .own 30 j)] [(3, .var [.v (.p (.int .i64 s)), .v (.sl es)]), (4, var0), (30, .lst 4 37 ((tk F j).map encQ))] 37 true) (by exact entA) rfl
  rintro _ rfl
  have hbuild := build_p (s := s) (isL_enc (l := tk F N) (k := k + K) (fun q hq => by obtain ⟨i, -, rfl⟩ := tk_mem hq; exact hhF i)) (by omega) (by omega) (by omega) (by rw [tk_len]; omega)
  rw [serE_eq] at hbuild
  refine T.weak (s' := mkS [(3, .ptr 3 0), (4, .ptr 4 0), (6, .v (.sl ((tk F N).map encQ)))] [(3, .var [.v (.p (.int .i64 s)), .v (.sl es)]), (4, var0)] 37 true) (by exact entA) ?_
  refine goA ?_
  refine evG ggA (ss_call (InB_of rfl) rfl rfl hbuild) ?_
  refine goA ?_
  exact rfl
/-- a list of zeros of the caller's own -/
theorem zeros_p (N : Nat) (hN : N ≤ 100000) : PCO Try.prog 33 [.p (.int .i64 N)] 4 37 ((tk (fun _ => 0) N).map encQ) := by
  have cz := q_p 0 (by decide) (by decide)
  rw [show ((0 : Int) : Rat) = 0 from rfl] at cz
  have hx0 : ((tk (fun _ => 0) N).map encQ).length = N := by rw [List.length_map, tk_len]
  refine pc_bodyO (t := 2) (id := 100) Try.func33 rfl rfl rfl (Nat.le_of_ble_eq_true rfl) ?_
  refine r1A ?_
  refine T.seq ?_
  refine regA ?_
  refine runA ?_
  refine ev_nil ?_
  refine seqQ_n ?_
  refine T.seqI (fun s1 => s1 = mkS [(3, .own 100 N)] [(100, .lst 4 37 ((tk (fun _ => 0) N).map encQ))] 15 true) ?_ ?_
  · refine r1A ?_
    refine T.block ?_
    refine T.loop (fun n s1 => ∃ j : Nat, n = N - j ∧ j ≤ N ∧ s1 = mkS [(0, .v (.p (.int .i64 N))), (3, .own 100 j), (4, .v (.p (.int .i64 (j : Nat))))] [(100, .lst 4 37 ((tk (fun _ => 0) j).map encQ))] 15 true) N
      (s' := mkS [(0, .v (.p (.int .i64 N))), (3, .own 100 0), (4, .v (.p (.int .i64 (0 : Nat))))] [(100, .lst 4 37 ((tk (fun _ => 0) 0).map encQ))] 15 true) (by exact entA) ⟨0, rfl, Nat.zero_le _, rfl⟩ ?_
    rintro n _ ⟨j, rfl, hj, rfl⟩
    by_cases hlt : j < N
    · have hb : decide ((j : Int) < (N : Int)) = true := by simp; omega
      refine goA ?_
      refine evG ggA (ss_call (InB_of rfl) rfl rfl cz) ?_
      (refine evG ggA (ss_bslice (InB_of rfl) (make_tab rfl) rfl rfl rfl rfl (one_ok rfl rfl) (Nat.le_of_ble_eq_true rfl)) ?_; refine evG ggA (ss_snoc (InB_of rfl) (make_tab rfl) rfl rfl (by first | rfl | assumption | (simp; done) | (simp; omega)) rfl (by omega) (Nat.le_of_ble_eq_true rfl) rfl) ?_)
      refine goA ?_
      exact loopQ_intro (k := N - (j + 1)) (s' := mkS [(0, .v (.p (.int .i64 N))), (3, .own 100 (j + 1)), (4, .v (.p (.int .i64 ((j : Int) + 1))))] [(100, .lst 4 37 ((tk (fun _ => 0) j ++ [0]).map encQ))] 15 true) (by omega) (by exact entA) ⟨j + 1, rfl, hlt, by rw [tk_succ]; rfl⟩
    · obtain rfl : j = N := by omega
      have hb : decide ((j : Int) < (j : Int)) = false := by simp
      refine goA ?_
      exact midQ_intro (by exact entA) rfl
  rintro _ rfl
  refine goA ?_
  exact ⟨.inr rfl, rfl, by rw [hx0]; rfl, rfl⟩
/-- one term -/
def MV (n p : Int) : Bool := decide (-100 ≤ n) && decide (n ≤ 1000) && decide (-100 ≤ p) && decide (p ≤ 1000)
def monR (c : Rat) (n p : Int) : Option (Int × List Rat) := if MV n p then (if n ≥ p then some (p, []) else nrm n (c :: List.replicate ((p - n).toNat - 1) 0)) else none
theorem isL_rep {e : AV} {k : Nat} (h : IsV e k 0) : ∀ n, IsL (List.replicate n e) k (List.replicate n 0)
  | 0 => trivial
  | n + 1 => ⟨h, isL_rep h n⟩
theorem mv_cases {n p : Int} {Q : Prop} (h0 : MV n p = false → decide (n < -100) = true → Q) (h1 : MV n p = false → decide (n < -100) = false → decide (n > 1000) = true → Q)
    (h2 : MV n p = false → decide (n < -100) = false → decide (n > 1000) = false → decide (p < -100) = true → Q) (h3 : MV n p = false → decide (n < -100) = false → decide (n > 1000) = false → decide (p < -100) = false → decide (p > 1000) = true → Q)
    (h4 : MV n p = true → decide (n < -100) = false → decide (n > 1000) = false → decide (p < -100) = false → decide (p > 1000) = false → Q) : Q := by
  unfold MV at *
  by_cases a0 : n < -100
  · exact h0 (by simp; omega) (by simp [a0])
  by_cases a1 : n > 1000
  · exact h1 (by simp; omega) (by simp; omega) (by simp; omega)
  by_cases a2 : p < -100
  · exact h2 (by simp; omega) (by simp; omega) (by simp; omega) (by simp; omega)
  by_cases a3 : p > 1000
  · exact h3 (by simp; omega) (by simp; omega) (by simp; omega) (by simp; omega) (by simp; omega)
  · exact h4 (by simp; omega) (by simp; omega) (by simp; omega) (by simp; omega) (by simp; omega)
set_option maxHeartbeats 2000000 in
theorem monomial_p {a : AV} {c : Rat} {K : Nat} {n p : Int} (ha : IsV a K c) (hK : 1 ≤ K ∧ K ≤ 100000000) : PC Try.prog 18 [a, .p (.int .i64 n), .p (.int .i64 p)] (serE (monR c n p)) := by
  obtain ⟨g, xs, g', xs', rfl⟩ := isV_cells ha
  rw [serE_eq]
  unfold monR
  refine mv_cases (n := n) (p := p) (fun e b0 => ?_) (fun e b0 b1 => ?_) (fun e b0 b1 b2 => ?_) (fun e b0 b1 b2 b3 => ?_) (fun e b0 b1 b2 b3 => ?_)
  · rw [e]
    refine pc_body2 true Try.func18 rfl rfl rfl (Nat.le_of_ble_eq_true rfl) (CellT.agg agg_ser) CellT.tmp ?_
    refine goA ?_
    exact rfl
  · rw [e]
    refine pc_body2 true Try.func18 rfl rfl rfl (Nat.le_of_ble_eq_true rfl) (CellT.agg agg_ser) CellT.tmp ?_
    refine goA ?_
    exact rfl
  · rw [e]
    refine pc_body2 true Try.func18 rfl rfl rfl (Nat.le_of_ble_eq_true rfl) (CellT.agg agg_ser) CellT.tmp ?_
    refine goA ?_
    exact rfl
  · rw [e]
    refine pc_body2 true Try.func18 rfl rfl rfl (Nat.le_of_ble_eq_true rfl) (CellT.agg agg_ser) CellT.tmp ?_
    refine goA ?_
    exact rfl
  rw [e]
  simp only [if_true]
  unfold MV at e
  simp only [Bool.and_eq_true, decide_eq_true_eq] at e
  obtain ⟨⟨⟨a0, a1⟩, a2⟩, a3⟩ := e
  by_cases h1 : n ≥ p
  · have hb : decide (n ≥ p) = true := by simp [h1]
    rw [if_pos h1]
    refine pc_body2 true Try.func18 rfl rfl rfl (Nat.le_of_ble_eq_true rfl) (CellT.agg agg_ser) CellT.tmp ?_
    refine goA ?_
    exact rfl
  have hb : decide (n ≥ p) = false := by simp; omega
  rw [if_neg h1]
  obtain ⟨k, hk⟩ : ∃ k : Nat, (p - n).toNat = k + 1 := ⟨(p - n).toNat - 1, by omega⟩
  have hbuild := build_p (s := n) (es := .agg [.p (.bool g), .sl xs, .p (.bool g'), .sl xs'] :: List.replicate k rz) (l := c :: List.replicate k 0) (K := K) ⟨ha, isL_rep (isV_rz K) k⟩ (by omega) (by omega) (by omega) (by simp; omega)
  rw [serE_eq] at hbuild
  rw [show (p - n).toNat - 1 = k by omega]
  refine pc_body2 true Try.func18 rfl rfl rfl (Nat.le_of_ble_eq_true rfl) (CellT.agg agg_ser) CellT.tmp ?_
  refine r1A ?_
  refine T.seqI (fun s1 => s1 = mkS [(1, .v (.p (.int .i64 n))), (2, .v (.p (.int .i64 p))), (3, .ptr 3 0), (6, .ptr 6 0)] [(3, .var [.v (.p (.bool g)), .v (.sl xs), .v (.p (.bool g')), .v (.sl xs')]), (6, var0)] 41 true) ?_ ?_
  · refine goA ?_
    exact midQ_intro (by exact entA) rfl
  rintro _ rfl
  refine T.seqI (fun s1 => s1 = mkS [(1, .v (.p (.int .i64 n))), (2, .v (.p (.int .i64 p))), (3, .ptr 3 0), (6, .ptr 6 0)] [(3, .var [.v (.p (.bool g)), .v (.sl xs), .v (.p (.bool g')), .v (.sl xs')]), (6, var0)] 41 true) ?_ ?_
  · refine goA ?_
    exact midQ_intro (by exact entA) rfl
  rintro _ rfl
  refine T.seqI (fun s1 => s1 = mkS [(1, .v (.p (.int .i64 n))), (3, .ptr 3 0), (6, .ptr 6 0), (8, .own 30 (k + 1))] [(3, .var [.v (.p (.bool g)), .v (.sl xs), .v (.p (.bool g')), .v (.sl xs')]), (6, var0), (30, .lst 4 37 (List.replicate (k + 1) rz))] 41 true) ?_ ?_
  · refine goA ?_
    refine evG ggA (ss_make 30 (e0 := rz) (InB_of rfl) (make_tab rfl) rfl rfl rfl (by omega) (by omega) (by omega) (by omega) rfl rfl rfl) ?_
    refine goA ?_
    exact midQ_intro (s' := mkS [(1, .v (.p (.int .i64 n))), (3, .ptr 3 0), (6, .ptr 6 0), (8, .own 30 (p - n).toNat)] [(3, .var [.v (.p (.bool g)), .v (.sl xs), .v (.p (.bool g')), .v (.sl xs')]), (6, var0), (30, .lst 4 37 (List.replicate (p - n).toNat rz))] 41 true) (by exact entA) (by rw [hk])
  rintro _ rfl
  have hel : (List.replicate (k + 1) rz).length = k + 1 := by simp
  refine T.seqI (fun s1 => s1 = mkS [(1, .v (.p (.int .i64 n))), (6, .ptr 6 0), (8, .own 30 (k + 1))] [(6, var0), (30, .lst 4 37 (.agg [.p (.bool g), .sl xs, .p (.bool g'), .sl xs'] :: List.replicate k rz))] 41 true) ?_ ?_
  · refine goA ?_
    refine evG ggA (ss_index_own (InB_of rfl) (elem_tab rfl) rfl rfl hel rfl (by omega) (by omega)) ?_
    refine evG ggA (ss_store_own rfl (size_tab rfl) rfl rfl hel (Nat.succ_pos k) rfl rfl (fun l e => by cases e) rfl) ?_
    refine goA ?_
    exact midQ_intro (by exact entA) rfl
  rintro _ rfl
  have hx0 : (AV.agg [.p (.bool g), .sl xs, .p (.bool g'), .sl xs'] :: List.replicate k rz).length = k + 1 := by simp
  refine T.weak (s' := mkS [(1, .v (.p (.int .i64 n))), (6, .ptr 6 0), (8, .v (.sl (.agg [.p (.bool g), .sl xs, .p (.bool g'), .sl xs'] :: List.replicate k rz)))] [(6, var0)] 41 true) (by exact entA) ?_
  refine goA ?_
  refine evG ggA (ss_call (InB_of rfl) rfl rfl hbuild) ?_
  refine goA ?_
  exact rfl
theorem empty_p' (p : Int) : PC Try.prog 52 [.p (.int .i64 p)] (serA p []) := by
  refine pc_body1 true Try.func52 rfl rfl rfl (Nat.le_of_ble_eq_true rfl) (CellT.agg agg_ser) ?_
  refine goA ?_
  exact rfl
set_option maxHeartbeats 2000000 in
theorem rmonomial_p {a : AV} {c : Rat} {K : Nat} {n p : Int} (ha : IsV a K c) (hK : 1 ≤ K ∧ K ≤ 100000000) : PC Try.prog 19 [a, .p (.int .i64 n), .p (.int .i64 p)] (serE (monR c n p)) := by
  obtain ⟨g, xs, g', xs', rfl⟩ := isV_cells ha
  rw [serE_eq]
  unfold monR
  refine mv_cases (n := n) (p := p) (fun e b0 => ?_) (fun e b0 b1 => ?_) (fun e b0 b1 b2 => ?_) (fun e b0 b1 b2 b3 => ?_) (fun e b0 b1 b2 b3 => ?_)
  · rw [e]
    refine pc_body2 true Try.func19 rfl rfl rfl (Nat.le_of_ble_eq_true rfl) (CellT.agg agg_ser) CellT.tmp ?_
    refine goA ?_
    exact rfl
  · rw [e]
    refine pc_body2 true Try.func19 rfl rfl rfl (Nat.le_of_ble_eq_true rfl) (CellT.agg agg_ser) CellT.tmp ?_
    refine goA ?_
    exact rfl
  · rw [e]
    refine pc_body2 true Try.func19 rfl rfl rfl (Nat.le_of_ble_eq_true rfl) (CellT.agg agg_ser) CellT.tmp ?_
    refine goA ?_
    exact rfl
  · rw [e]
    refine pc_body2 true Try.func19 rfl rfl rfl (Nat.le_of_ble_eq_true rfl) (CellT.agg agg_ser) CellT.tmp ?_
    refine goA ?_
    exact rfl
  rw [e]
  simp only [if_true]
  unfold MV at e
  simp only [Bool.and_eq_true, decide_eq_true_eq] at e
  obtain ⟨⟨⟨a0, a1⟩, a2⟩, a3⟩ := e
  by_cases h1 : n ≥ p
  · have hb : decide (n ≥ p) = true := by simp [h1]
    rw [if_pos h1]
    have cem := empty_p' p
    refine pc_body2 true Try.func19 rfl rfl rfl (Nat.le_of_ble_eq_true rfl) (CellT.agg agg_ser) CellT.tmp ?_
    refine goA ?_
    refine evG ggA (ss_call (InB_of rfl) rfl rfl cem) ?_
    refine goA ?_
    exact rfl
  have hb : decide (n ≥ p) = false := by simp; omega
  rw [if_neg h1]
  obtain ⟨k, hk⟩ : ∃ k : Nat, (p - n).toNat = k + 1 := ⟨(p - n).toNat - 1, by omega⟩
  have hbuild := result_p (s := n) (es := .agg [.p (.bool g), .sl xs, .p (.bool g'), .sl xs'] :: List.replicate k (encQ 0)) (l := c :: List.replicate k 0) (K := K) ⟨ha, isL_rep (isV_encQ (ht0 hK.1)) k⟩ (by omega) (by omega) (by omega) (by simp; omega)
  rw [serE_eq] at hbuild
  rw [show (p - n).toNat - 1 = k by omega]
  have cze := zeros_p (k + 1) (by omega)
  have hzz : (tk (fun _ => 0) (k + 1)).map encQ = List.replicate (k + 1) (encQ 0) := by
    unfold tk
    rw [List.map_map]
    exact (List.eq_replicate_iff.2 ⟨by simp, fun b hb => by obtain ⟨i, -, rfl⟩ := List.mem_map.1 hb; rfl⟩)
  rw [hzz, show ((k + 1 : Nat) : Int) = p - n by omega] at cze
  refine pc_body2 true Try.func19 rfl rfl rfl (Nat.le_of_ble_eq_true rfl) (CellT.agg agg_ser) CellT.tmp ?_
  refine r1A ?_
  refine T.seqI (fun s1 => s1 = mkS [(1, .v (.p (.int .i64 n))), (2, .v (.p (.int .i64 p))), (3, .ptr 3 0), (6, .ptr 6 0)] [(3, .var [.v (.p (.bool g)), .v (.sl xs), .v (.p (.bool g')), .v (.sl xs')]), (6, var0)] 41 true) ?_ ?_
  · refine goA ?_
    exact midQ_intro (by exact entA) rfl
  rintro _ rfl
  refine T.seqI (fun s1 => s1 = mkS [(1, .v (.p (.int .i64 n))), (2, .v (.p (.int .i64 p))), (3, .ptr 3 0), (6, .ptr 6 0)] [(3, .var [.v (.p (.bool g)), .v (.sl xs), .v (.p (.bool g')), .v (.sl xs')]), (6, var0)] 41 true) ?_ ?_
  · refine goA ?_
    exact midQ_intro (by exact entA) rfl
  rintro _ rfl
  refine T.seqI (fun s1 => s1 = mkS [(1, .v (.p (.int .i64 n))), (3, .ptr 3 0), (6, .ptr 6 0), (8, .own 30 (k + 1))] [(3, .var [.v (.p (.bool g)), .v (.sl xs), .v (.p (.bool g')), .v (.sl xs')]), (6, var0), (30, .lst 4 37 (List.replicate (k + 1) (encQ 0)))] 41 true) ?_ ?_
  · refine T.regionO 3 ?_
    show EvL _ _ _ (_ :: _) _ _
    refine runA ?_
    refine ev_nil ?_
    refine ocall 30 cze rfl rfl rfl rfl ?_
    refine runA ?_
    refine ev_nil ?_
    exact midQ_intro (s' := mkS [(1, .v (.p (.int .i64 n))), (3, .ptr 3 0), (6, .ptr 6 0), (8, .own 30 (List.replicate (k + 1) (encQ 0)).length)] [(3, .var [.v (.p (.bool g)), .v (.sl xs), .v (.p (.bool g')), .v (.sl xs')]), (6, var0), (30, .lst 4 37 (List.replicate (k + 1) (encQ 0)))] 41 true) (by exact entA) (by rw [List.length_replicate])
  rintro _ rfl
  have hel : (List.replicate (k + 1) (encQ 0)).length = k + 1 := by simp
  refine T.seqI (fun s1 => s1 = mkS [(1, .v (.p (.int .i64 n))), (6, .ptr 6 0), (8, .own 30 (k + 1))] [(6, var0), (30, .lst 4 37 (.agg [.p (.bool g), .sl xs, .p (.bool g'), .sl xs'] :: List.replicate k (encQ 0)))] 41 true) ?_ ?_
  · refine goA ?_
    refine evG ggA (ss_index_own (InB_of rfl) (elem_tab rfl) rfl rfl hel rfl (by omega) (by omega)) ?_
    refine evG ggA (ss_store_own rfl (size_tab rfl) rfl rfl hel (Nat.succ_pos k) rfl rfl (fun l e => by cases e) rfl) ?_
    refine goA ?_
    exact midQ_intro (by exact entA) rfl
  rintro _ rfl
  have hx0 : (AV.agg [.p (.bool g), .sl xs, .p (.bool g'), .sl xs'] :: List.replicate k (encQ 0)).length = k + 1 := by simp
  refine T.weak (s' := mkS [(1, .v (.p (.int .i64 n))), (6, .ptr 6 0), (8, .v (.sl (.agg [.p (.bool g), .sl xs, .p (.bool g'), .sl xs'] :: List.replicate k (encQ 0))))] [(6, var0)] 41 true) (by exact entA) ?_
  refine goA ?_
  refine evG ggA (ss_call (InB_of rfl) rfl rfl hbuild) ?_
  refine goA ?_
  exact rfl
end Ab
