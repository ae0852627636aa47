/- Package ref33: Differ; the comparison of results. -/
import Derived.Test.YtmcfohngblbpbaaGreatZumB
namespace Ab
open Go Go.RowKit Go.Proofs Hp
set_option maxRecDepth 100000

set_option maxHeartbeats 2000000 in
theorem rdiffer_p {s t : Int} {es fs : List AV} {l m : List Rat} {K : Nat} (h : Both s es t fs K l m) (hK : 1 ≤ K ∧ K ≤ 100000000) : PC Tryz.prog 23 [serA s es, serA t fs] (tup3 (difR s l t m)) := by
  obtain ⟨h0, hle, hlf, i1, i2⟩ := h
  have ctw := two_p i1 i2
  unfold difR
  rw [← hle, ← hlf]
  cases hv : ValidP s es.length && ValidP t fs.length with
  | false =>
    rw [hv] at ctw
    refine pc_body3 true Tryz.func23 rfl rfl rfl (Nat.le_of_ble_eq_true rfl) CellT.tmp CellT.tmp CellT.tmp ?_
    refine goA ?_
    refine evG ggA (ss_call (InB_of rfl) rfl rfl ctw) ?_
    refine goA ?_
    exact rfl
  | true =>
  rw [hv] at ctw
  simp only [Bool.and_eq_true] at hv
  obtain ⟨hL, hM⟩ := h0 hv.1 hv.2
  obtain ⟨a0, a1, a2⟩ := valid_iff.1 hv.1
  obtain ⟨b0, b1, b2⟩ := valid_iff.1 hv.2
  have hpa := rprec_p a0 a1 a2
  have hpb := rprec_p b0 b1 b2
  have htl := ht_cf (s := s) hK.1 (isL_ht hL hK.1)
  simp only [if_true]
  unfold difN
  have hPd : difP s l t m = fun (i : Nat) => decide (cf s l (min s t + i) ≠ cf t m (min s t + i)) := rfl
  generalize difP s l t m = D at *
  refine pc_body3 true Tryz.func23 rfl rfl rfl (Nat.le_of_ble_eq_true rfl) CellT.tmp CellT.tmp CellT.tmp ?_
  refine r1A ?_
  refine T.seqI (fun s1 => s1 = mkS [(2, .ptr 2 0), (3, .ptr 3 0)] [(2, .var [.v (.p (.int .i64 s)), .v (.sl es)]), (3, .var [.v (.p (.int .i64 t)), .v (.sl fs)])] 41 true) ?_ ?_
  · refine goA ?_
    refine evG ggA (ss_call (InB_of rfl) rfl rfl ctw) ?_
    refine goA ?_
    exact midQ_intro (by exact entA) rfl
  rintro _ rfl
  refine T.seq ?_
  refine regA ?_
  refine runA ?_
  refine evG ggA (ss_call (InB_of rfl) rfl rfl hpa) ?_
  refine runA ?_
  refine evG ggA (ss_call (InB_of rfl) rfl rfl hpb) ?_
  refine runA ?_
  refine ev_nil ?_
  refine seqQ_n ?_
  generalize hp : min (s + (es.length : Int)) (t + (fs.length : Int)) = p at *
  generalize hf : min s t = f at *
  obtain ⟨N, hN⟩ : ∃ N, N = (p - f).toNat := ⟨_, rfl⟩
  rw [← hN]
  refine T.seqI (fun s1 => fst D N 0 = none ∧ s1 = mkS [(8, .v (.p (.int .i64 p)))] [] 41 true) ?_ ?_
  · refine T.seq ?_
    refine regA ?_
    refine runA ?_
    refine ev_nil ?_
    refine seqQ_n ?_
    rw [hf]
    refine T.block ?_
    refine T.loop (fun n s1 => ∃ j : Nat, n = N - j ∧ j ≤ N ∧ fst D N 0 = fst D (N - j) j ∧ s1 = mkS [(2, .ptr 2 0), (3, .ptr 3 0), (8, .v (.p (.int .i64 p))), (9, .v (.p (.int .i64 (f + j))))] [(2, .var [.v (.p (.int .i64 s)), .v (.sl es)]), (3, .var [.v (.p (.int .i64 t)), .v (.sl fs)])] 41 true) N
      (s' := mkS [(2, .ptr 2 0), (3, .ptr 3 0), (8, .v (.p (.int .i64 p))), (9, .v (.p (.int .i64 f)))] [(2, .var [.v (.p (.int .i64 s)), .v (.sl es)]), (3, .var [.v (.p (.int .i64 t)), .v (.sl fs)])] 41 true) (by exact entA) ⟨0, rfl, Nat.zero_le _, rfl, by simp⟩ ?_
    rintro n _ ⟨j, rfl, hj, hfst, rfl⟩
    by_cases hlt : j < N
    · have hb : decide (f + (j : Int) < p) = true := by simp; omega
      have c1 := coef_p (n := f + j) hL (by omega) a0 a1 a2 (by omega) (by omega)
      have c2 := coef_p (n := f + j) hM (by omega) b0 b1 b2 (by omega) (by omega)
      have c3 : PC Tryz.prog 67 _ _ := (refsame2_p (q := cf t m (f + j)) (htl (f + j)) (by omega)).up
      have hstep : fst D (N - j) j = if D j then some j else fst D (N - (j + 1)) (j + 1) := by
        rw [show N - j = (N - (j + 1)) + 1 by omega]; rfl
      by_cases hd : cf s l (f + j) = cf t m (f + j)
      · rw [decide_eq_true hd] at c3
        have hD : D j = false := by rw [hPd]; simp [hd]
        rw [hD] at hstep
        clear htl
        refine goA ?_
        refine evG ggA (ss_call (InB_of rfl) rfl rfl c1) ?_
        refine goA ?_
        refine evG ggA (ss_call (InB_of rfl) rfl rfl c2) ?_
        refine evG ggA (ss_call (InB_of rfl) rfl rfl c3) ?_
        refine goA ?_
        exact loopQ_intro (k := N - (j + 1)) (s' := mkS [(2, .ptr 2 0), (3, .ptr 3 0), (8, .v (.p (.int .i64 p))), (9, .v (.p (.int .i64 (f + (j : Int) + 1))))] [(2, .var [.v (.p (.int .i64 s)), .v (.sl es)]), (3, .var [.v (.p (.int .i64 t)), .v (.sl fs)])] 41 true) (by omega) (by exact entA) ⟨j + 1, rfl, hlt, by rw [hfst, hstep]; rfl, by rw [Int.natCast_succ, ← Int.add_assoc]⟩
      · rw [decide_eq_false hd] at c3
        have hD : D j = true := by rw [hPd]; simp [hd]
        rw [hD] at hstep
        have hres : fst D N 0 = some j := by rw [hfst, hstep]; rfl
        rw [hres]
        clear htl
        refine goA ?_
        refine evG ggA (ss_call (InB_of rfl) rfl rfl c1) ?_
        refine goA ?_
        refine evG ggA (ss_call (InB_of rfl) rfl rfl c2) ?_
        refine evG ggA (ss_call (InB_of rfl) rfl rfl c3) ?_
        refine goA ?_
        exact rfl
    · have hb : decide (f + (j : Int) < p) = false := by simp; omega
      have hnone : fst D N 0 = none := by rw [hfst, show N - j = 0 by omega]; rfl
      refine goA ?_
      exact midQ_intro (s' := mkS [(8, .v (.p (.int .i64 p)))] [] 41 true) (by exact entA) ⟨hnone, rfl⟩
  rintro _ ⟨hnone, rfl⟩
  rw [hnone]
  refine goA ?_
  exact rfl
/-- a result is the same as itself -/
theorem same_p {R : Option (Int × List Rat)} {K : Nat} (h : ∀ q, q ∈ sL R → Ht q K) (hK : K ≤ 100000000) (hl : (sL R).length ≤ 1000000) : PC Tryz.prog 17 [serA (sF R) ((sL R).map encQ), .p (.int .i64 (sE R)), serA (sF R) ((sL R).map encQ), .p (.int .i64 (sE R))] (.p (.bool true)) := by
  have c := sameQ_p (s := sF R) (t := sF R) (m := sL R) h (by omega) (by omega)
  rw [decide_eq_true ⟨rfl, rfl⟩] at c
  have hb : (sE R == sE R) = true := by simp
  have goal : PC Tryz.prog 17 [serA (sF R) ((sL R).map encQ), .p (.int .i64 (sE R)), serA (sF R) ((sL R).map encQ), .p (.int .i64 (sE R))] (.p (.bool (sE R == sE R))) := by
    generalize sE R = e at *
    generalize sF R = f at *
    generalize (sL R).map encQ = l at *
    refine pc_body1 true Tryz.func17 rfl rfl rfl (Nat.le_of_ble_eq_true rfl) CellT.tmp ?_
    refine goA ?_
    refine evG ggA (ss_call (InB_of rfl) rfl rfl c) ?_
    refine goA ?_
    exact rfl
  rw [hb] at goal
  exact goal
theorem out_ht {R : Option (Int × List Rat)} {p b : Int} {f : Int → Rat} {K : Nat} (h : Out R p f b K) : (∀ q, q ∈ sL R → Ht q K) ∧ (sL R).length ≤ 1000000 := by
  obtain ⟨s, l, rfl, h2, h3, h4, -, -, h7, -⟩ := h
  exact ⟨h7, by show l.length ≤ _; omega⟩
theorem none_ht {K : Nat} : (∀ q, q ∈ sL none → Ht q K) ∧ (sL none).length ≤ 1000000 := ⟨fun q h => by simp [sL] at h, Nat.zero_le _⟩
theorem comb_ht {s t c : Int} {l m : List Rat} {K : Nat} (hc : c.natAbs < 4294967296) (hK : 1 ≤ K) (h : ValidP s l.length = true → ValidP t m.length = true → (∀ q, q ∈ l → Ht q K) ∧ (∀ q, q ∈ m → Ht q K)) : (∀ q, q ∈ sL (combR s l t m c) → Ht q (2 * K + 2)) ∧ (sL (combR s l t m c)).length ≤ 1000000 := by
  cases h1 : ValidP s l.length && ValidP t m.length with
  | false => unfold combR; rw [h1]; exact none_ht
  | true =>
    simp only [Bool.and_eq_true] at h1
    obtain ⟨h2, h3⟩ := h h1.1 h1.2
    exact out_ht (comb_out h1.1 h1.2 hc hK h2 h3)
end Ab
