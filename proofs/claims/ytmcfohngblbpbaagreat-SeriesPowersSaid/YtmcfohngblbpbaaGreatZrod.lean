/- Package ref02: Sign, Ratio, Quo; package ref33: Empty, Mul; in abstract values. Package ref33: known, inverted, Inverse; in abstract values. Quotients of series: the program's and the document's. The statement SeriesProducts: its walk. -/
import Derived.Test.YtmcfohngblbpbaaGreatZumB
import Derived.Test.YtmcfohngblbpbaaGreatZumC
import Derived.Test.YtmcfohngblbpbaaGreatGood
namespace Ab
open Go Go.RowKit Go.Proofs Hp
set_option maxRecDepth 100000

theorem rsign2_p {a : AV} {k : Nat} {q : Rat} (h : IsV a k q) (hk : k ≤ 17592186044416) : ∃ sg : Int, (sg = 0 ↔ q = 0) ∧ PW Tryz.prog 119 [a] (.p (.int .i64 sg)) := by
  obtain ⟨cs, ds, n, d, rfl, h1, h2, rfl⟩ := h
  have c1 := refsign_p ⟨cs, rfl, h1⟩ hk
  have c2 := refsign_p ⟨ds, rfl, h2⟩ hk
  obtain ⟨m1, m2, m3⟩ := sgn_mul_range n d
  refine ⟨sgn n * sgn d, m3, ?_⟩
  obtain ⟨g, x, rfl, -⟩ := h1
  obtain ⟨g', x', rfl, -⟩ := h2
  refine pc_body1 false Tryz.func119 rfl rfl rfl (Nat.le_of_ble_eq_true rfl) CellT.tmp ?_
  refine goA ?_
  refine evG ggA (ss_call (InB_of rfl) rfl rfl c1) ?_
  refine goA ?_
  refine evG ggA (ss_call (InB_of rfl) rfl rfl c2) ?_
  refine goA ?_
  exact rfl
theorem rat_div_eq (p q : Rat) : p / q = Rat.divInt (p.num * q.den) (p.den * q.num) := by
  rw [Rat.div_def, Rat.inv_def]
  conv => lhs; rw [← Rat.num_divInt_den p]
  rw [Rat.divInt_mul_divInt]
theorem ratio_p {a b : AV} {k l : Nat} {p q : Rat} (ha : IsV a k p) (hb : IsV b l q) (h1 : 1 ≤ k) (h2 : 1 ≤ l) (hk : k + l ≤ 274877906944) : PW Tryz.prog 120 [a, b] (encQ (p / q)) := by
  have hp := isV_ht ha h1
  have hq := isV_ht hb h2
  have n1 := refnormal_p ha (by omega)
  have n2 := refnormal_p hb (by omega)
  have dp : ((p.den : Nat) : Int).natAbs < pw k := by rw [Int.natAbs_natCast]; exact hp.2
  have dq : ((q.den : Nat) : Int).natAbs < pw l := by rw [Int.natAbs_natCast]; exact hq.2
  have c1 := refmul_p (isI_encI hp.1) (isI_encI dq) (by omega) (by omega)
  have c2 := refmul_p (isI_encI dp) (isI_encI hq.1) (by omega) (by omega)
  have c3 := over_p (isI_encI (lt_mul hp.1 dq)) (isI_encI (lt_mul dp hq.1)) hk
  rw [rat_div_eq]
  obtain ⟨g, x, g', x', rfl⟩ := isV_cells ha
  obtain ⟨j, y, j', y', rfl⟩ := isV_cells hb
  clear ha hb hp hq dp dq
  unfold encI at c1 c2 c3
  unfold encQ at n1 n2 c3 ⊢
  refine pc_body1 false Tryz.func120 rfl rfl rfl (Nat.le_of_ble_eq_true rfl) (CellT.agg agg_rat) ?_
  refine goA ?_
  refine evG ggA (ss_call (InB_of rfl) rfl rfl n1) ?_
  refine goA ?_
  refine evG ggA (ss_call (InB_of rfl) rfl rfl n2) ?_
  refine goA ?_
  refine evG ggA (ss_call (InB_of rfl) rfl rfl c1) ?_
  refine goA ?_
  refine evG ggA (ss_call (InB_of rfl) rfl rfl c2) ?_
  refine evG ggA (ss_call (InB_of rfl) rfl rfl c3) ?_
  refine goA ?_
  exact rfl
theorem refquo2_p {a b : AV} {k l : Nat} {p q : Rat} (ha : IsV a k p) (hb : IsV b l q) (h1 : 1 ≤ k) (h2 : 1 ≤ l) (hk : k + l ≤ 274877906944) (h0 : q ≠ 0) : PW Tryz.prog 93 [a, b] (.tup [encQ (p / q), .p (.int .i64 0)]) := by
  obtain ⟨sg, hsg, c1⟩ := rsign2_p hb (by omega)
  have c2 := ratio_p ha hb h1 h2 hk
  have hb1 : (sg == 0) = false := by
    have : ¬ sg = 0 := fun e => h0 (hsg.1 e)
    simp [this]
  obtain ⟨g, x, g', x', rfl⟩ := isV_cells ha
  obtain ⟨j, y, j', y', rfl⟩ := isV_cells hb
  unfold encQ at c2 ⊢
  refine pc_body2 false Tryz.func93 rfl rfl rfl (Nat.le_of_ble_eq_true rfl) (CellT.agg agg_rat) CellT.tmp ?_
  refine goA ?_
  refine evG ggA (ss_call (InB_of rfl) rfl rfl c1) ?_
  refine goA ?_
  refine evG ggA (ss_call (InB_of rfl) rfl rfl c2) ?_
  refine goA ?_
  exact rfl
theorem empty_p (p : Int) : PC Tryz.prog 53 [.p (.int .i64 p)] (serA p []) := by
  refine pc_body1 true Tryz.func53 rfl rfl rfl (Nat.le_of_ble_eq_true rfl) (CellT.agg agg_ser) ?_
  refine goA ?_
  exact rfl
theorem cf_at (s : Int) (l : List Rat) (j : Nat) : cf s l (s + lead l + j) = (l.drop (lead l)).getD j 0 := by
  unfold cf
  rw [if_neg (by omega), show (s + (lead l : Int) + (j : Int) - s).toNat = lead l + j by omega]
  simp [List.getD_eq_getElem?_getD]
theorem nrm_end {s : Int} {l : List Rat} (h : 1000 ≤ s) : nrm s l = some (1000, []) := by
  have h1 : nfrom s = 1000 := by unfold nfrom; split <;> omega
  have h2 : ncut s l = [] := by
    unfold ncut
    split
    · rfl
    · rw [show (1000 - s).toNat = 0 by omega, List.take_zero]
  unfold nrm
  rw [h1, h2]
  rfl
set_option maxHeartbeats 4000000 in
theorem rmul33_p {s t : Int} {es fs : List AV} {l m : List Rat} {K M : Nat} (h : Both s es t fs K l m) (hK1 : 1 ≤ K) (hM1 : 1 ≤ M) (hW0 : (2 * K + 1) * M + 1 ≤ 137438953472) (hAM0 : ValidP s es.length = true → es.length ≤ M) : PC Tryz.prog 12 [serA s es, serA t fs] (serE (mulR s l t m)) := by
  have hK : 1 ≤ K ∧ K ≤ 68719476735 := ⟨hK1, by have := Nat.mul_le_mul_left (2 * K + 1) hM1; omega⟩
  obtain ⟨h0, hle, hlf, i1, i2⟩ := h
  have ctw := two_p i1 i2
  rw [serE_eq]
  unfold mulR
  rw [← hle, ← hlf]
  cases hv : ValidP s es.length && ValidP t fs.length with
  | false =>
    rw [hv] at ctw
    refine pc_body2 true Tryz.func12 rfl rfl rfl (Nat.le_of_ble_eq_true rfl) (CellT.agg agg_ser) CellT.tmp ?_
    refine goA ?_
    refine evG ggA (ss_call (InB_of rfl) rfl rfl ctw) ?_
    refine goA ?_
    exact rfl
  | true =>
  rw [hv] at ctw
  simp only [Bool.and_eq_true] at hv
  have hAM := hAM0 hv.1
  clear hAM0
  obtain ⟨W, hWd⟩ : ∃ W, W = (2 * K + 1) * M + 1 := ⟨_, rfl⟩
  rw [← hWd] at hW0
  obtain ⟨hL, hM⟩ := h0 hv.1 hv.2
  obtain ⟨a0, a1, a2⟩ := valid_iff.1 hv.1
  obtain ⟨b0, b1, b2⟩ := valid_iff.1 hv.2
  simp only [if_true]
  have opa := rord_p hL (by omega) a0 a1 a2
  have opb := rord_p hM (by omega) b0 b1 b2
  have ppa := rprec_p a0 a1 a2
  have ppb := rprec_p b0 b1 b2
  have hla := lead_le l
  have hlb := lead_le m
  have hhl : ∀ q, q ∈ l.drop (lead l) → Ht q K := fun q hq => isL_ht hL hK.1 q (List.mem_of_mem_drop hq)
  have hhm : ∀ q, q ∈ m.drop (lead m) → Ht q K := fun q hq => isL_ht hM hK.1 q (List.mem_of_mem_drop hq)
  have hld : (l.drop (lead l)).length + lead l = l.length := by rw [List.length_drop]; omega
  have hmd : (m.drop (lead m)).length + lead m = m.length := by rw [List.length_drop]; omega
  have cfa := cf_at s l
  have cfb := cf_at t m
  generalize l.drop (lead l) = A at *
  generalize m.drop (lead m) = C at *
  generalize hsa : s + (lead l : Int) = sa at *
  generalize htb' : t + (lead m : Int) = tb at *
  have hfr : -200 ≤ sa + tb ∧ sa + tb ≤ 2000 := by omega
  obtain ⟨P, hP⟩ : ∃ P, P = min (s + (es.length : Int) + tb) (t + (fs.length : Int) + sa) := ⟨_, rfl⟩
  refine pc_body2 true Tryz.func12 rfl rfl rfl (Nat.le_of_ble_eq_true rfl) (CellT.agg agg_ser) CellT.tmp ?_
  refine r1A ?_
  refine T.seqI (fun s1 => s1 = mkS [(2, .ptr 2 0), (3, .ptr 3 0), (4, .ptr 4 0)] [(2, .var [.v (.p (.int .i64 s)), .v (.sl es)]), (3, .var [.v (.p (.int .i64 t)), .v (.sl fs)]), (4, var0)] 77 true) ?_ ?_
  · refine goA ?_
    refine evG ggA (ss_call (InB_of rfl) rfl rfl ctw) ?_
    refine goA ?_
    exact midQ_intro (by exact entA) rfl
  rintro _ rfl
  refine T.seq ?_
  refine regA ?_
  refine runA ?_
  refine evG ggA (ss_call (InB_of rfl) rfl rfl opa) ?_
  refine runA ?_
  refine evG ggA (ss_call (InB_of rfl) rfl rfl opb) ?_
  refine runA ?_
  refine ev_nil ?_
  refine seqQ_n ?_
  refine T.seqI (fun s1 => s1 = mkS [(2, .ptr 2 0), (3, .ptr 3 0), (4, .ptr 4 0), (7, .v (.p (.int .i64 (sa + tb)))), (8, .v (.p (.int .i64 P)))] [(2, .var [.v (.p (.int .i64 s)), .v (.sl es)]), (3, .var [.v (.p (.int .i64 t)), .v (.sl fs)]), (4, var0)] 77 true) ?_ ?_
  · refine goA ?_
    refine evG ggA (ss_call (InB_of rfl) rfl rfl ppa) ?_
    refine goA ?_
    refine evG ggA (ss_call (InB_of rfl) rfl rfl opb) ?_
    refine goA ?_
    refine evG ggA (ss_call (InB_of rfl) rfl rfl ppb) ?_
    refine goA ?_
    refine evG ggA (ss_call (InB_of rfl) rfl rfl opa) ?_
    refine goA ?_
    rw [← hP]
    exact midQ_intro (by exact entA) rfl
  rintro _ rfl
  unfold mulN
  by_cases h1000 : 1000 ≤ sa + tb
  · have hb : decide (sa + tb ≥ 1000) = true := by simp; omega
    have ce := empty_p 1000
    rw [nrm_end h1000]
    refine goA ?_
    refine evG ggA (ss_call (InB_of rfl) rfl rfl ce) ?_
    refine goA ?_
    exact rfl
  have hb0 : decide (sa + tb ≥ 1000) = false := by simp; omega
  generalize hN : mlen (sa + tb) A.length C.length = N
  have hNe : (N : Int) = max 0 (min (min (A.length : Int) (C.length : Int)) (1000 - (sa + tb))) := by rw [← hN]; unfold mlen; omega
  have hPN : min P 1000 = sa + tb + N := by omega
  have hN1 : N ≤ A.length ∧ N ≤ C.length := by omega
  have hAl : A.length ≤ M := by omega
  generalize hfrom : sa + tb = fr at *
  refine T.seqI (fun s1 => s1 = mkS [(2, .ptr 2 0), (3, .ptr 3 0), (4, .ptr 4 0), (7, .v (.p (.int .i64 fr))), (8, .v (.p (.int .i64 P)))] [(2, .var [.v (.p (.int .i64 s)), .v (.sl es)]), (3, .var [.v (.p (.int .i64 t)), .v (.sl fs)]), (4, var0)] 77 true) ?_ ?_
  · refine goA ?_
    exact midQ_intro (by exact entA) rfl
  rintro _ rfl
  have cz := q_p 0 (by decide) (by decide)
  rw [show ((0 : Int) : Rat) = 0 from rfl] at cz
  refine r1A ?_
  refine T.seqI (fun s1 => s1 = mkS [(4, .ptr 4 0), (7, .v (.p (.int .i64 fr))), (9, .own 100 N)] [(4, var0), (100, .lst 4 47 ((tk (conv A C) N).map encQ))] 77 true) ?_ ?_
  · refine r1A ?_
    refine T.block ?_
    refine T.loop (fun n s1 => ∃ k : Nat, n = N - k ∧ k ≤ N ∧ s1 = mkS [(2, .ptr 2 0), (3, .ptr 3 0), (4, .ptr 4 0), (7, .v (.p (.int .i64 fr))), (8, .v (.p (.int .i64 P))), (9, .own 100 k), (10, .v (.p (.int .i64 (fr + k))))] [(2, .var [.v (.p (.int .i64 s)), .v (.sl es)]), (3, .var [.v (.p (.int .i64 t)), .v (.sl fs)]), (4, var0), (100, .lst 4 47 ((tk (conv A C) k).map encQ))] 77 true) N
      (s' := mkS [(2, .ptr 2 0), (3, .ptr 3 0), (4, .ptr 4 0), (7, .v (.p (.int .i64 fr))), (8, .v (.p (.int .i64 P))), (9, .own 100 0), (10, .v (.p (.int .i64 fr)))] [(2, .var [.v (.p (.int .i64 s)), .v (.sl es)]), (3, .var [.v (.p (.int .i64 t)), .v (.sl fs)]), (4, var0), (100, .lst 4 47 ((tk (conv A C) 0).map encQ))] 77 true) (by exact entA) ⟨0, rfl, Nat.zero_le _, by simp⟩ ?_
    rintro n _ ⟨k, rfl, hk, rfl⟩
    by_cases hlt : k < N
    · have hb : decide (fr + (k : Int) < min P 1000) = true := by rw [hPN]; simp; omega
      refine T.seqI (fun s1 => s1 = mkS [(2, .ptr 2 0), (3, .ptr 3 0), (4, .ptr 4 0), (7, .v (.p (.int .i64 fr))), (8, .v (.p (.int .i64 P))), (9, .own 100 k), (10, .v (.p (.int .i64 (fr + k))))] [(2, .var [.v (.p (.int .i64 s)), .v (.sl es)]), (3, .var [.v (.p (.int .i64 t)), .v (.sl fs)]), (4, var0), (100, .lst 4 47 ((tk (conv A C) k).map encQ))] 77 true) ?_ ?_
      · refine goA ?_
        exact midQ_intro (by exact entA) rfl
      rintro _ rfl
      refine T.seq ?_
      refine T.block ?_
      refine T.seq ?_
      refine regA ?_
      refine runA ?_
      refine evG ggA (ss_call (InB_of rfl) rfl rfl cz) ?_
      refine runA ?_
      refine ev_nil ?_
      refine seqQ_n ?_
      refine T.seqI (fun s1 => s1 = mkS [(2, .ptr 2 0), (3, .ptr 3 0), (4, .ptr 4 0), (7, .v (.p (.int .i64 fr))), (8, .v (.p (.int .i64 P))), (9, .own 100 k), (10, .v (.p (.int .i64 (fr + k)))), (11, .ptr 11 0)] [(2, .var [.v (.p (.int .i64 s)), .v (.sl es)]), (3, .var [.v (.p (.int .i64 t)), .v (.sl fs)]), (4, var0), (11, qvar (conv A C k)), (100, .lst 4 47 ((tk (conv A C) k).map encQ))] 77 true) ?_ ?_
      · refine T.seq ?_
        refine regA ?_
        refine runA ?_
        refine evG ggA (ss_call (InB_of rfl) rfl rfl opa) ?_
        refine runA ?_
        refine ev_nil ?_
        refine seqQ_n ?_
        refine T.block ?_
        refine T.loop (fun n s1 => ∃ j : Nat, n = k + 1 - j ∧ j ≤ k + 1 ∧ s1 = mkS [(2, .ptr 2 0), (3, .ptr 3 0), (4, .ptr 4 0), (7, .v (.p (.int .i64 fr))), (8, .v (.p (.int .i64 P))), (9, .own 100 k), (10, .v (.p (.int .i64 (fr + k)))), (11, .ptr 11 0), (12, .v (.p (.int .i64 (sa + j))))] [(2, .var [.v (.p (.int .i64 s)), .v (.sl es)]), (3, .var [.v (.p (.int .i64 t)), .v (.sl fs)]), (4, var0), (11, qvar (cs A C k j)), (100, .lst 4 47 ((tk (conv A C) k).map encQ))] 77 true) (k + 1)
          (s' := mkS [(2, .ptr 2 0), (3, .ptr 3 0), (4, .ptr 4 0), (7, .v (.p (.int .i64 fr))), (8, .v (.p (.int .i64 P))), (9, .own 100 k), (10, .v (.p (.int .i64 (fr + k)))), (11, .ptr 11 0), (12, .v (.p (.int .i64 sa)))] [(2, .var [.v (.p (.int .i64 s)), .v (.sl es)]), (3, .var [.v (.p (.int .i64 t)), .v (.sl fs)]), (4, var0), (11, qvar (cs A C k 0)), (100, .lst 4 47 ((tk (conv A C) k).map encQ))] 77 true) (by exact entA) ⟨0, rfl, Nat.zero_le _, by simp⟩ ?_
        rintro n _ ⟨j, rfl, hj, rfl⟩
        by_cases hjk : j ≤ k
        · have hb2 : decide (sa + (j : Int) ≤ fr + (k : Int) - tb) = true := by simp; omega
          have t1 := getD_ht hK.1 hhl j
          have t2 := getD_ht hK.1 hhm (k - j)
          have k1 := coef_p (n := sa + j) hL (by omega) a0 a1 a2 (by omega) (by omega)
          have k2 := coef_p (n := fr + (k : Int) - (sa + (j : Int))) hM (by omega) b0 b1 b2 (by omega) (by omega)
          have e1 : cf s l (sa + j) = A.getD j 0 := cfa j
          have e2 : cf t m (fr + (k : Int) - (sa + (j : Int))) = C.getD (k - j) 0 := by
            rw [show fr + (k : Int) - (sa + (j : Int)) = tb + ((k - j : Nat) : Int) by omega]
            exact cfb (k - j)
          rw [e1] at k1
          rw [e2] at k2
          have c3 : PC Tryz.prog 55 _ _ := (refmul2_p (isV_encQ t1) (isV_encQ t2) (by omega)).up
          have hcsh : Ht (cs A C k j) W := (ht_cs hK.1 hhl hhm k j).mono (by rw [hWd]; exact Nat.succ_le_succ (Nat.mul_le_mul_left _ (by omega)))
          have c4 : PC Tryz.prog 54 _ _ := (refadd2_p (isV_encQ hcsh) (isV_encQ (ht_mul t1 t2 hK.1)) (by omega) (by omega) (by omega)).up
          have hcs : cs A C k j + A.getD j 0 * C.getD (k - j) 0 = cs A C k (j + 1) := rfl
          rw [hcs] at c4
          clear hhl hhm cfa cfb hcsh t1 t2
          refine goA ?_
          refine evG ggA (ss_call (InB_of rfl) rfl rfl opb) ?_
          refine goA ?_
          refine evG ggA (ss_call (InB_of rfl) rfl rfl k1) ?_
          refine goA ?_
          refine evG ggA (ss_call (InB_of rfl) rfl rfl k2) ?_
          refine evG ggA (ss_call (InB_of rfl) rfl rfl c3) ?_
          refine evG ggA (ss_call (InB_of rfl) rfl rfl c4) ?_
          refine goA ?_
          exact loopQ_intro (k := k + 1 - (j + 1)) (s' := mkS [(2, .ptr 2 0), (3, .ptr 3 0), (4, .ptr 4 0), (7, .v (.p (.int .i64 fr))), (8, .v (.p (.int .i64 P))), (9, .own 100 k), (10, .v (.p (.int .i64 (fr + k)))), (11, .ptr 11 0), (12, .v (.p (.int .i64 (sa + (j : Int) + 1))))] [(2, .var [.v (.p (.int .i64 s)), .v (.sl es)]), (3, .var [.v (.p (.int .i64 t)), .v (.sl fs)]), (4, var0), (11, qvar (cs A C k (j + 1))), (100, .lst 4 47 ((tk (conv A C) k).map encQ))] 77 true) (by omega) (by exact entA) ⟨j + 1, rfl, by omega, by rw [Int.natCast_succ, ← Int.add_assoc]⟩
        · obtain rfl : j = k + 1 := by omega
          have hb2 : decide (sa + ((k + 1 : Nat) : Int) ≤ fr + (k : Int) - tb) = false := by simp; omega
          refine goA ?_
          refine evG ggA (ss_call (InB_of rfl) rfl rfl opb) ?_
          refine goA ?_
          exact midQ_intro (by exact entA) rfl
      rintro _ rfl
      refine goA ?_
      (refine evG ggA (ss_bslice (InB_of rfl) (make_tab rfl) rfl rfl rfl rfl (one_ok rfl rfl) (Nat.le_of_ble_eq_true rfl)) ?_; refine evG ggA (ss_snoc (InB_of rfl) (make_tab rfl) rfl rfl (by first | rfl | assumption | (simp; done) | (simp; omega)) rfl (by omega) (Nat.le_of_ble_eq_true rfl) rfl) ?_)
      refine goA ?_
      exact loopQ_intro (k := N - (k + 1)) (s' := mkS [(2, .ptr 2 0), (3, .ptr 3 0), (4, .ptr 4 0), (7, .v (.p (.int .i64 fr))), (8, .v (.p (.int .i64 P))), (9, .own 100 (k + 1)), (10, .v (.p (.int .i64 (fr + (k : Int) + 1))))] [(2, .var [.v (.p (.int .i64 s)), .v (.sl es)]), (3, .var [.v (.p (.int .i64 t)), .v (.sl fs)]), (4, var0), (100, .lst 4 47 ((tk (conv A C) k ++ [conv A C k]).map encQ))] 77 true) (by omega) (by exact entA) ⟨k + 1, rfl, hlt, by rw [tk_succ, Int.natCast_succ, ← Int.add_assoc]⟩
    · obtain rfl : k = N := by omega
      have hb : decide (fr + (k : Int) < min P 1000) = false := by rw [hPN]; simp
      refine goA ?_
      exact midQ_intro (s' := mkS [(4, .ptr 4 0), (7, .v (.p (.int .i64 fr))), (9, .own 100 k)] [(4, var0), (100, .lst 4 47 ((tk (conv A C) k).map encQ))] 77 true) (by exact entA) rfl
  rintro _ rfl
  have hbuild := result_p (s := fr) (isL_enc (l := tk (conv A C) N) (k := W) (fun q hq => by obtain ⟨i, hi, rfl⟩ := tk_mem hq; exact (ht_cs hK.1 hhl hhm i (i + 1)).mono (by rw [hWd]; exact Nat.succ_le_succ (Nat.mul_le_mul_left _ (by omega))))) (by omega) (by omega) (by omega) (by rw [tk_len]; omega)
  rw [serE_eq] at hbuild
  refine T.weak (s' := mkS [(4, .ptr 4 0), (7, .v (.p (.int .i64 fr))), (9, .v (.sl ((tk (conv A C) N).map encQ)))] [(4, var0)] 77 true) (by exact entA) ?_
  refine goA ?_
  refine evG ggA (ss_call (InB_of rfl) rfl rfl hbuild) ?_
  refine goA ?_
  exact rfl
end Ab
namespace Ab
open Go Go.RowKit Go.Proofs Hp
set_option maxRecDepth 100000

theorem known_p {s : Int} {es : List AV} {l : List Rat} {K : Nat} (h : IsL es K l) (hK : K ≤ 274877906944) (a0 : -100 ≤ s) (a1 : s ≤ 1000) (a2 : (es.length : Int) ≤ 1000 - s) : PC Tryz.prog 61 [serA s es] (.sl (es.drop (lead l))) := by
  have co := rord_p h hK a0 a1 a2
  have hle := h.get.1
  have hla := lead_le l
  have e : es.drop (lead l) = es.drop (s + (lead l : Int) - s).toNat := by congr 1; omega
  rw [e]
  refine pc_body1 true Tryz.func61 rfl rfl rfl (Nat.le_of_ble_eq_true rfl) CellT.tmp ?_
  refine goA ?_
  refine evG ggA (ss_call (InB_of rfl) rfl rfl co) ?_
  refine goA ?_
  refine evG ggA (ss_slice_l (InB_of rfl) (elem_tab rfl) rfl (isL_cells h) rfl (by omega) (by omega)) ?_
  refine goA ?_
  exact rfl
theorem neg_form (x y : Rat) : (0 - x) * y = -(y * x) := by
  rw [Rat.sub_eq_add_neg, Rat.zero_add, Rat.neg_mul, Rat.mul_comm]
set_option maxHeartbeats 4000000 in
theorem inverted_p {es : List AV} {A : List Rat} {K : Nat} (h : IsL es K A) (hA0 : 0 < A.length) (hA : A.length ≤ 24) (hd0 : A.getD 0 0 ≠ 0) (hK : 1 ≤ K ∧ K ≤ 100) : PC Tryz.prog 60 [.sl es] (.sl ((ivs A A.length).map encQ)) := by
  have hle := h.get.1
  have hhl := isL_ht h hK.1
  obtain ⟨g, xs, g', xs', q0, e1, e2, e3⟩ := h.at (i := 0) (by omega)
  have g0 : A.getD 0 0 = q0 := by rw [List.getD_eq_getElem?_getD, e2]; rfl
  have t0 := hhl q0 (List.mem_of_getElem? e2)
  have c1 := q_p 1 (by decide) (by decide)
  have c2 : PC Tryz.prog 93 _ _ := (refquo2_p (isV_encQ (ht_int (c := 1) (by decide))) e3 (Nat.le_refl 1) hK.1 (by omega) (by rw [← g0]; exact hd0)).up
  rw [show ((1 : Int) : Rat) = 1 from rfl] at c1 c2
  have cz := q_p 0 (by decide) (by decide)
  rw [show ((0 : Int) : Rat) = 0 from rfl] at cz
  generalize hfi : 1 / q0 = fi at *
  have tfi : Ht fi K := by rw [← hfi, Rat.div_def, Rat.one_mul]; exact ht_inv t0 hK.1
  have hiv1 : ivs A 1 = [fi] := by rw [ivs, g0, hfi]
  refine pc_body1 true Tryz.func60 rfl rfl rfl (Nat.le_of_ble_eq_true rfl) CellT.tmp ?_
  refine goA ?_
  refine evG ggA (ss_call (InB_of rfl) rfl rfl c1) ?_
  refine goA ?_
  refine evG ggA (ss_index_sl (InB_of rfl) (elem_tab rfl) rfl rfl (by decide) e1 rfl) ?_
  refine goA ?_
  refine evG ggA (ss_call (InB_of rfl) rfl rfl c2) ?_
  refine runA ?_
  refine ev_nil ?_
  refine seqQ_n ?_
  refine T.weak (s' := mkS [(0, .v (.sl es)), (3, .ptr 3 0)] [(3, qvar fi)] 53 true) (by exact entA) ?_
  refine T.seq ?_
  refine regA ?_
  refine runA ?_
  refine evG ggA (ss_bslice_own 31 (InB_of rfl) rfl (make_tab rfl) rfl rfl rfl rfl (one_ok rfl rfl) (Nat.le_of_ble_eq_true rfl) (by decide) (fun _ a ha => by rw [List.mem_singleton] at ha; subst ha; exact encQ_nu fi)) ?_
  refine runA ?_
  refine ev_nil ?_
  refine seqQ_n ?_
  refine T.seqI (fun s1 => s1 = mkS [(5, .own 31 A.length)] [(31, .lst 4 47 ((ivs A A.length).map encQ))] 53 true) ?_ ?_
  · refine r1A ?_
    refine T.block ?_
    refine T.loop (fun n s1 => ∃ k : Nat, n = A.length - k ∧ 1 ≤ k ∧ k ≤ A.length ∧ s1 = mkS [(0, .v (.sl es)), (3, .ptr 3 0), (5, .own 31 k), (6, .v (.p (.int .i64 k)))] [(3, qvar fi), (31, .lst 4 47 ((ivs A k).map encQ))] 53 true) (A.length - 1)
      (s' := mkS [(0, .v (.sl es)), (3, .ptr 3 0), (5, .own 31 1), (6, .v (.p (.int .i64 (1 : Nat))))] [(3, qvar fi), (31, .lst 4 47 ([fi].map encQ))] 53 true) (by exact entA) ⟨1, rfl, Nat.le_refl _, hA0, by rw [hiv1]⟩ ?_
    rintro n _ ⟨k, rfl, hk1, hk, rfl⟩
    have hlen31 : (ivs A k).length = k := ivs_len A k
    by_cases hlt : k < A.length
    · have hb : decide ((k : Int) < (es.length : Int)) = true := by simp; omega
      have hxk : ∀ i, i < k → Ht ((ivs A k).getD i 0) (HB K i) := ht_iv hK.1 hhl k (by omega)
      have hissh := ht_iss hK.1 hhl hxk
      have hHBk : HB K k ≤ 44493176832 := HB_le hK.2 (by omega)
      have hivn : ivs A (k + 1) = ivs A k ++ [(0 - iss A (ivs A k) k k) * fi] := by
        obtain ⟨k', rfl⟩ : ∃ k', k = k' + 1 := ⟨k - 1, by omega⟩
        rw [neg_form, ivs, g0, hfi]
      refine T.seqI (fun s1 => s1 = mkS [(0, .v (.sl es)), (3, .ptr 3 0), (5, .own 31 k), (6, .v (.p (.int .i64 k)))] [(3, qvar fi), (31, .lst 4 47 ((ivs A k).map encQ))] 53 true) ?_ ?_
      · refine goA ?_
        exact midQ_intro (by exact entA) rfl
      rintro _ rfl
      refine T.seq ?_
      refine T.block ?_
      refine T.seq ?_
      refine regA ?_
      refine runA ?_
      refine evG ggA (ss_call (InB_of rfl) rfl rfl cz) ?_
      refine runA ?_
      refine ev_nil ?_
      refine seqQ_n ?_
      generalize hX : ivs A k = X at *
      refine T.seqI (fun s1 => s1 = mkS [(0, .v (.sl es)), (3, .ptr 3 0), (5, .own 31 k), (6, .v (.p (.int .i64 k))), (7, .ptr 7 0)] [(3, qvar fi), (7, qvar (iss A X k k)), (31, .lst 4 47 (X.map encQ))] 53 true) ?_ ?_
      · refine r1A ?_
        refine T.block ?_
        refine T.loop (fun n s1 => ∃ j : Nat, n = k - j ∧ j ≤ k ∧ s1 = mkS [(0, .v (.sl es)), (3, .ptr 3 0), (5, .own 31 k), (6, .v (.p (.int .i64 k))), (7, .ptr 7 0), (8, .v (.p (.int .i64 ((j : Int) + 1))))] [(3, qvar fi), (7, qvar (iss A X k j)), (31, .lst 4 47 (X.map encQ))] 53 true) k
          (s' := mkS [(0, .v (.sl es)), (3, .ptr 3 0), (5, .own 31 k), (6, .v (.p (.int .i64 k))), (7, .ptr 7 0), (8, .v (.p (.int .i64 1)))] [(3, qvar fi), (7, qvar (iss A X k 0)), (31, .lst 4 47 (X.map encQ))] 53 true) (by exact entA) ⟨0, rfl, Nat.zero_le _, rfl⟩ ?_
        rintro n _ ⟨j, rfl, hj, rfl⟩
        by_cases hjk : j < k
        · have hb2 : decide ((j : Int) + 1 ≤ (k : Int)) = true := by simp; omega
          obtain ⟨y, ys, y', ys', q1, n0, hq1, v1⟩ := h.at (i := j + 1) (by omega)
          obtain ⟨q2, hq2⟩ : ∃ q, X[k - (j + 1)]? = some q := ⟨_, List.getElem?_eq_getElem (by omega)⟩
          have g1 : A.getD (j + 1) 0 = q1 := by rw [List.getD_eq_getElem?_getD, hq1]; rfl
          have g2 : X.getD (k - (j + 1)) 0 = q2 := by rw [List.getD_eq_getElem?_getD, hq2]; rfl
          have t1 := hhl q1 (List.mem_of_getElem? hq1)
          have t2 : Ht q2 (HB K k) := by rw [← g2]; exact (hxk _ (by omega)).mono (HB_mono K (by omega))
          have n1 : es[((j : Int) + 1).toNat]? = some (.agg [.p (.bool y), .sl ys, .p (.bool y'), .sl ys']) := by rw [show ((j : Int) + 1).toNat = j + 1 by omega]; exact n0
          have n2 : (X.map encQ)[((k : Int) - ((j : Int) + 1)).toNat]? = some (encQ q2) := by rw [show ((k : Int) - ((j : Int) + 1)).toNat = k - (j + 1) by omega]; exact enc_at hq2
          have hx0 : (X.map encQ).length = k := by rw [List.length_map, hlen31]
          have c3 : PC Tryz.prog 55 _ _ := (refmul2_p v1 (isV_encQ t2) (by omega)).up
          have hish : Ht (iss A X k j) (44493176832 + 24 * 101 + 1) := (hissh j (by omega)).mono (by have : j * (K + 1) ≤ 24 * (K + 1) := Nat.mul_le_mul_right _ (by omega); omega)
          have c4 : PC Tryz.prog 54 _ _ := (refadd2_p (isV_encQ hish) (isV_encQ (ht_mul t1 t2 hK.1)) (by omega) (by omega) (by omega)).up
          have his : iss A X k j + q1 * q2 = iss A X k (j + 1) := by show _ = iss A X k j + A.getD (j + 1) 0 * X.getD (k - (j + 1)) 0; rw [g1, g2]
          rw [his] at c4
          clear hxk hissh hhl
          refine goA ?_
          refine evG ggA (ss_index_sl (InB_of rfl) (elem_tab rfl) rfl rfl (by omega) n1 rfl) ?_
          refine goA ?_
          refine evG ggA (ss_index_own (InB_of rfl) (elem_tab rfl) rfl rfl hx0 rfl (by omega) (by omega)) ?_
          refine evG ggA (ss_load_opagg (InB_of rfl) (agg_tab rfl) rfl rfl hx0 n2) ?_
          refine evG ggA (ss_call (InB_of rfl) rfl rfl c3) ?_
          refine evG ggA (ss_call (InB_of rfl) rfl rfl c4) ?_
          refine goA ?_
          exact loopQ_intro (k := k - (j + 1)) (s' := mkS [(0, .v (.sl es)), (3, .ptr 3 0), (5, .own 31 k), (6, .v (.p (.int .i64 k))), (7, .ptr 7 0), (8, .v (.p (.int .i64 ((j : Int) + 1 + 1))))] [(3, qvar fi), (7, qvar (iss A X k (j + 1))), (31, .lst 4 47 (X.map encQ))] 53 true) (by omega) (by exact entA) ⟨j + 1, rfl, by omega, rfl⟩
        · obtain rfl : j = k := by omega
          have hb2 : decide ((j : Int) + 1 ≤ (j : Int)) = false := by simp; omega
          refine goA ?_
          exact midQ_intro (s' := mkS [(0, .v (.sl es)), (3, .ptr 3 0), (5, .own 31 j), (6, .v (.p (.int .i64 j))), (7, .ptr 7 0)] [(3, qvar fi), (7, qvar (iss A X j j)), (31, .lst 4 47 (X.map encQ))] 53 true) (by exact entA) rfl
      rintro _ rfl
      have hish : Ht (iss A X k k) (44493176832 + 24 * 101 + 1) := (hissh k (by omega)).mono (by have : k * (K + 1) ≤ 24 * (K + 1) := Nat.mul_le_mul_right _ (by omega); omega)
      have hz1 : Ht (0 : Rat) 1 := ht0 (Nat.le_refl 1)
      have c5 : PC Tryz.prog 75 _ _ := (refsub2_p (isV_encQ hz1) (isV_encQ hish) (Nat.le_refl 1) (by omega) (by omega)).up
      have hsh : Ht (0 - iss A X k k) (44493176832 + 24 * 101 + 1) := by rw [Rat.sub_eq_add_neg, Rat.zero_add]; exact ht_neg hish
      have c6 : PC Tryz.prog 55 _ _ := (refmul2_p (isV_encQ hsh) (isV_encQ tfi) (by omega)).up
      clear hxk hissh hhl
      refine goA ?_
      refine evG ggA (ss_call (InB_of rfl) rfl rfl cz) ?_
      refine goA ?_
      refine evG ggA (ss_call (InB_of rfl) rfl rfl c5) ?_
      refine goA ?_
      refine evG ggA (ss_call (InB_of rfl) rfl rfl c6) ?_
      (refine evG ggA (ss_bslice (InB_of rfl) (make_tab rfl) rfl rfl rfl rfl (one_ok rfl rfl) (Nat.le_of_ble_eq_true rfl)) ?_; refine evG ggA (ss_snoc (InB_of rfl) (make_tab rfl) rfl rfl (by first | rfl | assumption | (simp; done) | (simp; omega)) rfl (by omega) (Nat.le_of_ble_eq_true rfl) rfl) ?_)
      refine goA ?_
      exact loopQ_intro (k := A.length - (k + 1)) (s' := mkS [(0, .v (.sl es)), (3, .ptr 3 0), (5, .own 31 (k + 1)), (6, .v (.p (.int .i64 ((k : Int) + 1))))] [(3, qvar fi), (31, .lst 4 47 ((X ++ [(0 - iss A X k k) * fi]).map encQ))] 53 true) (by omega) (by exact entA) ⟨k + 1, rfl, by omega, hlt, by rw [hivn]; rfl⟩
    · obtain rfl : k = A.length := by omega
      have hb : decide ((A.length : Int) < (es.length : Int)) = false := by simp; omega
      refine goA ?_
      exact midQ_intro (s' := mkS [(5, .own 31 A.length)] [(31, .lst 4 47 ((ivs A A.length).map encQ))] 53 true) (by exact entA) rfl
  rintro _ rfl
  have hx0 : ((ivs A A.length).map encQ).length = A.length := by rw [List.length_map, ivs_len]
  refine T.weak (s' := mkS [(5, .v (.sl ((ivs A A.length).map encQ)))] [] 53 true) (by exact entA) ?_
  refine goA ?_
  exact rfl
theorem rinv_p {s : Int} {es : List AV} {l : List Rat} {K : Nat} (h : ValidP s es.length = true → IsL es K l ∧ l.length ≤ 24) (hle : es.length = l.length) (hr : InR s es.length) (hK : 1 ≤ K ∧ K ≤ 100) : PC Tryz.prog 14 [serA s es] (serT (invT s l)) := by
  have cch := check_p (es := es) hr.1 hr.2 hr.3
  unfold invT
  rw [← hle]
  cases h1 : ValidP s es.length with
  | false =>
    rw [h1] at cch
    refine pc_body2 true Tryz.func14 rfl rfl rfl (Nat.le_of_ble_eq_true rfl) (CellT.agg agg_ser) CellT.tmp ?_
    refine goA ?_
    refine evG ggA (ss_call (InB_of rfl) rfl rfl cch) ?_
    refine goA ?_
    exact rfl
  | true =>
  rw [h1] at cch
  obtain ⟨hL, hl24⟩ := h h1
  obtain ⟨a0, a1, a2⟩ := valid_iff.1 h1
  simp only [if_true]
  have co := rord_p hL (by omega) a0 a1 a2
  have cp := rprec_p a0 a1 a2
  have ck := known_p hL (by omega) a0 a1 a2
  have hla := lead_le l
  have hL2 := hL.drop (lead l)
  have hld : (l.drop (lead l)).length + lead l = l.length := by rw [List.length_drop]; omega
  have hd0 : ∀ q, (l.drop (lead l))[0]? = some q → q ≠ 0 := fun q hq => lead_ne l q (by rw [List.getElem?_drop] at hq; exact hq)
  by_cases hA : l.drop (lead l) = []
  · rw [if_pos hA]
    have hb : (s + (lead l : Int) == s + (es.length : Int)) = true := by rw [hA] at hld; simp at hld; simp; omega
    refine pc_body2 true Tryz.func14 rfl rfl rfl (Nat.le_of_ble_eq_true rfl) (CellT.agg agg_ser) CellT.tmp ?_
    refine goA ?_
    refine evG ggA (ss_call (InB_of rfl) rfl rfl cch) ?_
    refine goA ?_
    refine evG ggA (ss_call (InB_of rfl) rfl rfl co) ?_
    refine goA ?_
    refine evG ggA (ss_call (InB_of rfl) rfl rfl cp) ?_
    refine goA ?_
    exact rfl
  rw [if_neg hA]
  have hA0 : 0 < (l.drop (lead l)).length := List.length_pos_iff.2 hA
  have hb : (s + (lead l : Int) == s + (es.length : Int)) = false := by simp; omega
  have ci := inverted_p hL2 hA0 (by omega) (by
    have : (l.drop (lead l))[0]? = some (l.drop (lead l))[0] := List.getElem?_eq_getElem hA0
    rw [List.getD_eq_getElem?_getD, this]
    exact hd0 _ this) hK
  have hhl : ∀ q, q ∈ l.drop (lead l) → Ht q K := fun q hq => isL_ht hL hK.1 q (List.mem_of_mem_drop hq)
  have hivh := ht_iv hK.1 hhl (l.drop (lead l)).length (by omega)
  have hl2 := ivs_len (l.drop (lead l)) (l.drop (lead l)).length
  have hlen24 : (l.drop (lead l)).length ≤ 24 := by omega
  generalize hX : ivs (l.drop (lead l)) (l.drop (lead l)).length = X at *
  have hbuild := result_p (s := -(s + lead l)) (isL_enc (l := X) (k := 44493176832) (fun q hq => by
    obtain ⟨i, hi⟩ := List.getElem?_of_mem hq
    have hil : i < (l.drop (lead l)).length := by rw [← hl2]; exact (List.getElem?_eq_some_iff.1 hi).1
    have := hivh i hil
    rw [List.getD_eq_getElem?_getD, hi] at this
    exact this.mono (HB_le hK.2 (by omega)))) (by omega) (by omega) (by omega) (by omega)
  rw [serE_T] at hbuild
  have hneg : -(s + (lead l : Int)) = 0 - (s + lead l) := by omega
  rw [hneg] at hbuild ⊢
  clear hivh hd0 hhl hX
  refine pc_body2 true Tryz.func14 rfl rfl rfl (Nat.le_of_ble_eq_true rfl) (CellT.agg agg_ser) CellT.tmp ?_
  refine goA ?_
  refine evG ggA (ss_call (InB_of rfl) rfl rfl cch) ?_
  refine goA ?_
  refine evG ggA (ss_call (InB_of rfl) rfl rfl co) ?_
  refine goA ?_
  refine evG ggA (ss_call (InB_of rfl) rfl rfl cp) ?_
  refine goA ?_
  refine evG ggA (ss_call (InB_of rfl) rfl rfl co) ?_
  refine goA ?_
  refine evG ggA (ss_call (InB_of rfl) rfl rfl ck) ?_
  refine evG ggA (ss_call (InB_of rfl) rfl rfl ci) ?_
  refine evG ggA (ss_call (InB_of rfl) rfl rfl hbuild) ?_
  refine goA ?_
  exact rfl
end Ab
namespace Ab
open Go Go.RowKit Go.Proofs Hp
set_option maxRecDepth 100000

def quoT (s : Int) (l : List Rat) (t : Int) (m : List Rat) : Res :=
  if ValidP s l.length then (if (invT t m).2.2 = 0 then nrmT (mulR s l (invT t m).1 (invT t m).2.1) else (0, [], (invT t m).2.2)) else (0, [], 2)
theorem inv_ok {t : Int} {m : List Rat} (hm : ValidP t m.length = true → (∀ q, q ∈ m → Ht q 4) ∧ m.length ≤ 24) (h0 : (invT t m).2.2 = 0) : ValidP (invT t m).1 (invT t m).2.1.length = true ∧ (∀ q, q ∈ (invT t m).2.1 → Ht q 1308622848) ∧ (invT t m).2.1.length ≤ 24 := by
  unfold invT at h0 ⊢
  cases hv : ValidP t m.length with
  | false => rw [hv] at h0; cases h0
  | true =>
  rw [hv] at h0
  simp only [if_true] at h0 ⊢
  obtain ⟨a0, a1, a2⟩ := valid_iff.1 hv
  obtain ⟨hh, h24⟩ := hm hv
  by_cases hA : m.drop (lead m) = []
  · rw [if_pos hA] at h0; cases h0
  rw [if_neg hA] at h0 ⊢
  have hA0 : 0 < (m.drop (lead m)).length := List.length_pos_iff.2 hA
  have hla := lead_le m
  have hld : (m.drop (lead m)).length + lead m = m.length := by rw [List.length_drop]; omega
  have hhl : ∀ q, q ∈ m.drop (lead m) → Ht q 4 := fun q hq => hh q (List.mem_of_mem_drop hq)
  have hl2 := ivs_len (m.drop (lead m)) (m.drop (lead m)).length
  have hivh := ht_iv (by decide) hhl (m.drop (lead m)).length (by omega)
  have hX : ∀ q, q ∈ ivs (m.drop (lead m)) (m.drop (lead m)).length → Ht q 1308622848 := fun q hq => by
    obtain ⟨i, hi⟩ := List.getElem?_of_mem hq
    have hil : i < (m.drop (lead m)).length := by rw [← hl2]; exact (List.getElem?_eq_some_iff.1 hi).1
    have := hivh i hil
    rw [List.getD_eq_getElem?_getD, hi] at this
    refine this.mono ?_
    have h1 := HB_mono 4 (show i ≤ 23 by omega)
    have h2 : HB 4 23 = 1308622848 := rfl
    omega
  have hX0 : ∀ q, (ivs (m.drop (lead m)) (m.drop (lead m)).length)[0]? = some q → q ≠ 0 := fun q hq => by
    have h1 := ivs_get (m.drop (lead m)) (m.drop (lead m)).length 0 hA0
    rw [List.getD_eq_getElem?_getD, hq, if_pos rfl] at h1
    have h1 : q = 1 / (m.drop (lead m)).getD 0 0 := h1
    have h2 : (m.drop (lead m))[0]? = some (m.drop (lead m))[0] := List.getElem?_eq_getElem hA0
    have h3 : (m.drop (lead m)).getD 0 0 ≠ 0 := by
      rw [List.getD_eq_getElem?_getD, h2]
      exact lead_ne m _ (by rw [List.getElem?_drop] at h2; exact h2)
    intro h4
    rw [h4, Rat.div_def, Rat.one_mul] at h1
    exact h3 (by rw [← Rat.inv_inv ((m.drop (lead m)).getD 0 0), ← h1]; exact Rat.inv_zero)
  generalize ivs (m.drop (lead m)) (m.drop (lead m)).length = X at *
  by_cases hlo : -100 ≤ -(t + (lead m : Int))
  · obtain ⟨u, c, e1, e2, e3, e4, -, -, e7, -⟩ := nrm_out (s := -(t + (lead m : Int))) (l := X) (K := 1308622848) hlo (by omega) hX
    rw [e1]
    have hle : c.length ≤ X.length := by
      have hx : nrm (-(t + (lead m : Int))) X = some (u, c) := e1
      rw [nrm_valid hlo (by omega) (by omega)] at hx
      injection hx with hx
      injection hx with h1 h2
      rw [← h2, List.length_drop]; omega
    have hc24 : c.length ≤ 24 := by omega
    exact ⟨Out.v e2 e3 e4, e7, hc24⟩
  · exfalso
    have hl0 : lead X = 0 := lead_eq (fun i hi => absurd hi (Nat.not_lt_zero _)) hX0 (Nat.zero_le _)
    have hn : nrm (-(t + (lead m : Int))) X = none := by
      have h1 : nfrom (-(t + (lead m : Int))) = -(t + lead m) := by unfold nfrom; rw [if_neg (by omega)]
      have h2 : ncut (-(t + (lead m : Int))) X = X := by unfold ncut; rw [if_neg (by omega), List.take_of_length_le (by omega)]
      unfold nrm
      rw [h1, h2, hl0, if_pos (by omega)]
    rw [hn] at h0
    cases h0
/-- a result with its error -/
theorem serT_eq (r : Res) : serT r = .tup [serA r.1 (r.2.1.map encQ), .p (.int .i64 r.2.2)] := rfl
set_option maxHeartbeats 2000000 in
theorem quo_p {s t : Int} {es fs : List AV} {l m : List Rat} (ha : ValidP s es.length = true → IsL es 4 l ∧ l.length ≤ 24) (hb : ValidP t fs.length = true → IsL fs 4 m ∧ m.length ≤ 24) (hle : es.length = l.length) (hlf : fs.length = m.length) (i1 : InR s es.length) (i2 : InR t fs.length) : PC Tryz.prog 15 [serA s es, serA t fs] (serT (quoT s l t m)) := by
  have hva := valid_p i1.1 i1.2 i1.3
  have ci := inv_p hb hlf i2 (by decide)
  unfold quoT
  rw [← hle]
  cases h1 : ValidP s es.length with
  | false =>
    rw [h1] at hva
    refine pc_body2 true Tryz.func15 rfl rfl rfl (Nat.le_of_ble_eq_true rfl) (CellT.agg agg_ser) CellT.tmp ?_
    refine goA ?_
    refine evG ggA (ss_call (InB_of rfl) rfl rfl hva) ?_
    refine goA ?_
    exact rfl
  | true =>
  rw [h1] at hva
  simp only [if_true]
  obtain ⟨hL, h24⟩ := ha h1
  by_cases h0 : (invT t m).2.2 = 0
  · rw [if_pos h0]
    obtain ⟨vc, hc, hc24⟩ := inv_ok (fun v => by rw [← hlf] at v; exact ⟨isL_ht (hb v).1 (by decide), (hb v).2⟩) h0
    have cm := mul_g (M := 24) (t := (invT t m).1) (both_mk (hL.mono (show 4 ≤ 1308622848 by decide)) (isL_enc hc) i1 (inR_enc vc)) (by decide) (by decide) (by decide) (fun _ => by omega)
    rw [serE_T] at cm
    have hbn : ((invT t m).2.2 != 0) = false := by simp [h0]
    generalize (invT t m) = r at *
    obtain ⟨u, c, e⟩ := r
    clear ha hb hL hc vc
    refine pc_body2 true Tryz.func15 rfl rfl rfl (Nat.le_of_ble_eq_true rfl) (CellT.agg agg_ser) CellT.tmp ?_
    refine goA ?_
    refine evG ggA (ss_call (InB_of rfl) rfl rfl hva) ?_
    refine goA ?_
    refine evG ggA (ss_call (InB_of rfl) rfl rfl ci) ?_
    refine goA ?_
    refine evG ggA (ss_call (InB_of rfl) rfl rfl cm) ?_
    refine goA ?_
    exact rfl
  · rw [if_neg h0]
    have hbn : ((invT t m).2.2 != 0) = true := by simp [h0]
    generalize (invT t m) = r at *
    obtain ⟨u, c, e⟩ := r
    clear ha hb hL
    refine pc_body2 true Tryz.func15 rfl rfl rfl (Nat.le_of_ble_eq_true rfl) (CellT.agg agg_ser) CellT.tmp ?_
    refine goA ?_
    refine evG ggA (ss_call (InB_of rfl) rfl rfl hva) ?_
    refine goA ?_
    refine evG ggA (ss_call (InB_of rfl) rfl rfl ci) ?_
    refine goA ?_
    exact rfl
set_option maxHeartbeats 2000000 in
theorem rquo33_p {s t : Int} {es fs : List AV} {l m : List Rat} (ha : ValidP s es.length = true → IsL es 4 l ∧ l.length ≤ 24) (hb : ValidP t fs.length = true → IsL fs 4 m ∧ m.length ≤ 24) (hle : es.length = l.length) (hlf : fs.length = m.length) (i1 : InR s es.length) (i2 : InR t fs.length) : PC Tryz.prog 16 [serA s es, serA t fs] (serT (quoT s l t m)) := by
  have ctw := two_p i1 i2
  have ci := rinv_p hb hlf i2 (by decide)
  unfold quoT
  rw [← hle]
  cases hv : ValidP s es.length && ValidP t fs.length with
  | false =>
    rw [hv] at ctw
    have e : (if ValidP s es.length = true then (if (invT t m).2.2 = 0 then nrmT (mulR s l (invT t m).1 (invT t m).2.1) else (0, [], (invT t m).2.2)) else (0, [], 2)) = ((0, [], 2) : Res) := by
      cases h1 : ValidP s es.length with
      | false => rfl
      | true =>
        have h2 : ValidP t m.length = false := by rw [h1, hlf] at hv; exact hv
        have h3 : invT t m = (0, [], 2) := by unfold invT; rw [h2]; rfl
        rw [h3]
        rfl
    rw [e]
    refine pc_body2 true Tryz.func16 rfl rfl rfl (Nat.le_of_ble_eq_true rfl) (CellT.agg agg_ser) CellT.tmp ?_
    refine goA ?_
    refine evG ggA (ss_call (InB_of rfl) rfl rfl ctw) ?_
    refine goA ?_
    exact rfl
  | true =>
  rw [hv] at ctw
  simp only [Bool.and_eq_true] at hv
  obtain ⟨hL, h24⟩ := ha hv.1
  rw [if_pos hv.1]
  by_cases h0 : (invT t m).2.2 = 0
  · rw [if_pos h0]
    obtain ⟨vc, hc, hc24⟩ := inv_ok (fun v => by rw [← hlf] at v; exact ⟨isL_ht (hb v).1 (by decide), (hb v).2⟩) h0
    have cm := rmul33_p (M := 24) (t := (invT t m).1) (both_mk (hL.mono (show 4 ≤ 1308622848 by decide)) (isL_enc hc) i1 (inR_enc vc)) (by decide) (by decide) (by decide) (fun _ => by omega)
    rw [serE_T] at cm
    have hbn : ((invT t m).2.2 != 0) = false := by simp [h0]
    generalize (invT t m) = r at *
    obtain ⟨u, c, e⟩ := r
    clear ha hb hL hc vc
    refine pc_body2 true Tryz.func16 rfl rfl rfl (Nat.le_of_ble_eq_true rfl) (CellT.agg agg_ser) CellT.tmp ?_
    refine goA ?_
    refine evG ggA (ss_call (InB_of rfl) rfl rfl ctw) ?_
    refine goA ?_
    refine evG ggA (ss_call (InB_of rfl) rfl rfl ci) ?_
    refine goA ?_
    refine evG ggA (ss_call (InB_of rfl) rfl rfl cm) ?_
    refine goA ?_
    exact rfl
  · rw [if_neg h0]
    have hbn : ((invT t m).2.2 != 0) = true := by simp [h0]
    generalize (invT t m) = r at *
    obtain ⟨u, c, e⟩ := r
    clear ha hb hL
    refine pc_body2 true Tryz.func16 rfl rfl rfl (Nat.le_of_ble_eq_true rfl) (CellT.agg agg_ser) CellT.tmp ?_
    refine goA ?_
    refine evG ggA (ss_call (InB_of rfl) rfl rfl ctw) ?_
    refine goA ?_
    refine evG ggA (ss_call (InB_of rfl) rfl rfl ci) ?_
    refine goA ?_
    exact rfl
/-- results with an error, compared with themselves -/
theorem sameT_p {r : Res} {K : Nat} (h : ∀ q, q ∈ r.2.1 → Ht q K) (hK : K ≤ 1099511627776) (hl : r.2.1.length ≤ 1000000) : PC Tryz.prog 17 [serA r.1 (r.2.1.map encQ), .p (.int .i64 r.2.2), serA r.1 (r.2.1.map encQ), .p (.int .i64 r.2.2)] (.p (.bool true)) := by
  have c := sameQ_p (s := r.1) (t := r.1) (m := r.2.1) h (by omega) (by omega)
  rw [decide_eq_true ⟨rfl, rfl⟩] at c
  obtain ⟨f, l, e⟩ := r
  have hb : (e == e) = true := by simp
  have goal : PC Tryz.prog 17 [serA f (l.map encQ), .p (.int .i64 e), serA f (l.map encQ), .p (.int .i64 e)] (.p (.bool (e == e))) := by
    refine pc_body1 true Tryz.func17 rfl rfl rfl (Nat.le_of_ble_eq_true rfl) CellT.tmp ?_
    refine goA ?_
    refine evG ggA (ss_call (InB_of rfl) rfl rfl c) ?_
    refine goA ?_
    exact rfl
  rw [hb] at goal
  exact goal
theorem nrm_ht {f : Int} {L : List Rat} {K : Nat} (hL : ∀ q, q ∈ L → Ht q K) (hlen : L.length ≤ 1000000) : (∀ q, q ∈ sL (nrm f L) → Ht q K) ∧ (sL (nrm f L)).length ≤ 1000000 := by
  unfold nrm
  split
  · exact none_ht
  · have hc : ∀ q, q ∈ ncut f L → q ∈ L := fun q hq => by
      unfold ncut at hq
      split at hq
      · simp at hq
      · exact List.mem_of_mem_take hq
    have hn : (ncut f L).length ≤ L.length := by
      unfold ncut
      split
      · exact Nat.zero_le _
      · rw [List.length_take]; omega
    refine ⟨fun q hq => hL q (hc q (List.mem_of_mem_drop hq)), ?_⟩
    show ((ncut f L).drop (lead (ncut f L))).length ≤ _
    rw [List.length_drop]; omega
theorem mulR_ht {s t : Int} {l m : List Rat} {K N : Nat} (hK : 1 ≤ K) (h : ValidP s l.length = true → ValidP t m.length = true → (∀ q, q ∈ l → Ht q K) ∧ (∀ q, q ∈ m → Ht q K) ∧ l.length ≤ N) : (∀ q, q ∈ sL (mulR s l t m) → Ht q ((2 * K + 1) * N + 1)) ∧ (sL (mulR s l t m)).length ≤ 1000000 := by
  unfold mulR
  cases h1 : ValidP s l.length && ValidP t m.length with
  | false => exact none_ht
  | true =>
    simp only [Bool.and_eq_true] at h1
    obtain ⟨h2, h3, h4⟩ := h h1.1 h1.2
    obtain ⟨a0, a1, a2⟩ := valid_iff.1 h1.1
    simp only [if_true]
    unfold mulN
    refine nrm_ht (fun q hq => ?_) (by rw [tk_len]; unfold mlen; rw [List.length_drop]; omega)
    obtain ⟨i, hi, rfl⟩ := tk_mem hq
    have hiN : i + 1 ≤ N := by
      unfold mlen at hi
      rw [List.length_drop] at hi
      omega
    exact (ht_cs hK (fun q hq => h2 q (List.mem_of_mem_drop hq)) (fun q hq => h3 q (List.mem_of_mem_drop hq)) i (i + 1)).mono (Nat.succ_le_succ (Nat.mul_le_mul_left _ hiN))
theorem invT_ht {s : Int} {l : List Rat} (h : ValidP s l.length = true → (∀ q, q ∈ l → Ht q 4) ∧ l.length ≤ 24) : (∀ q, q ∈ (invT s l).2.1 → Ht q 44493176832) ∧ (invT s l).2.1.length ≤ 1000000 := by
  unfold invT
  split
  · rename_i hv
    obtain ⟨hh, h24⟩ := h hv
    split
    · exact ⟨fun q hq => by simp at hq, Nat.zero_le _⟩
    · have hlen : (l.drop (lead l)).length ≤ 24 := by rw [List.length_drop]; omega
      refine nrm_ht (fun q hq => ?_) (by rw [ivs_len]; omega)
      obtain ⟨i, hi⟩ := List.getElem?_of_mem hq
      have hil : i < (l.drop (lead l)).length := by have := (List.getElem?_eq_some_iff.1 hi).1; rw [ivs_len] at this; exact this
      have := ht_iv (l := l.drop (lead l)) (by decide) (fun q hq => hh q (List.mem_of_mem_drop hq)) (l.drop (lead l)).length hlen i hil
      rw [List.getD_eq_getElem?_getD, hi] at this
      exact this.mono (HB_le (by decide) (by omega))
  · exact ⟨fun q hq => by simp at hq, Nat.zero_le _⟩
theorem quoT_ht {s t : Int} {l m : List Rat} (h : ValidP s l.length = true → (∀ q, q ∈ l → Ht q 4) ∧ l.length ≤ 24) (hm : ValidP t m.length = true → (∀ q, q ∈ m → Ht q 4) ∧ m.length ≤ 24) : (∀ q, q ∈ (quoT s l t m).2.1 → Ht q 62813896729) ∧ (quoT s l t m).2.1.length ≤ 1000000 := by
  unfold quoT
  split
  · rename_i hv
    split
    · rename_i h0
      obtain ⟨-, h2, -⟩ := inv_ok hm h0
      exact mulR_ht (K := 1308622848) (N := 24) (by decide) fun v _ => ⟨fun q hq => ((h v).1 q hq).mono (by decide), h2, (h v).2⟩
    · exact ⟨fun q hq => by simp at hq, Nat.zero_le _⟩
  · exact ⟨fun q hq => by simp at hq, Nat.zero_le _⟩
end Ab
namespace Ab
open Go Go.RowKit Go.Proofs Hp
set_option maxRecDepth 100000

/-- what is not great is small, or not valid -/
theorem goodN {n : Nat} {a : Ser} (ha : SerOK a) (h : (ValidP a.from' (a.coef.map rawA).length && longB n (a.coef.map rawA)) = false) : ValidP a.from' (a.coef.map rawA).length = true → IsL (a.coef.map rawA) 4 (a.coef.map ratO) ∧ (a.coef.map ratO).length ≤ n := fun hv => by
  rw [hv, Bool.true_and] at h
  obtain ⟨h1, h2⟩ := isL_long ha.dig h
  exact ⟨h1, by rw [List.length_map]; exact h2⟩
set_option maxHeartbeats 4000000 in
theorem products_p (a b : Ser) (ha : SerOK a) (hb : SerOK b) : PC Tryz.prog 3 [serO a, serO b] (.p (.bool true)) := by
  have g1 := great_p 24 (pr_ok ha).1 (by decide) (pr_ok ha).2
  have g2 := great_p 24 (pr_ok hb).1 (by decide) (pr_ok hb).2
  have aw := awake_p
  unfold pr at g1 g2
  have k1 := goodN (n := 24) ha
  have k2 := goodN (n := 24) hb
  have r1 := inR_ser ha
  have r2 := inR_ser hb
  have le1 : (a.coef.map rawA).length = (a.coef.map ratO).length := by simp
  have le2 : (b.coef.map rawA).length = (b.coef.map ratO).length := by simp
  unfold serO
  simp only at g1 g2
  generalize a.coef.map ratO = l at *
  generalize b.coef.map ratO = m at *
  generalize a.coef.map rawA = es at *
  generalize a.from' = s at *
  generalize b.coef.map rawA = fs at *
  generalize b.from' = t at *
  cases hg1 : ValidP s es.length && longB 24 es with
  | true =>
    rw [hg1] at g1
    clear k1 k2
    refine pc_body1 true Tryz.func3 rfl rfl rfl (Nat.le_of_ble_eq_true rfl) CellT.tmp ?_
    refine goA ?_
    refine evG ggA (ss_call (InB_of rfl) rfl rfl g1) ?_
    refine goA ?_
    refine evG ggA (ss_call (InB_of rfl) rfl rfl aw) ?_
    refine goA ?_
    exact rfl
  | false =>
  rw [hg1] at g1
  cases hg2 : ValidP t fs.length && longB 24 fs with
  | true =>
    rw [hg2] at g2
    clear k1 k2
    refine pc_body1 true Tryz.func3 rfl rfl rfl (Nat.le_of_ble_eq_true rfl) CellT.tmp ?_
    refine goA ?_
    refine evG ggA (ss_call (InB_of rfl) rfl rfl g1) ?_
    refine goA ?_
    refine evG ggA (ss_call (InB_of rfl) rfl rfl g2) ?_
    refine goA ?_
    refine evG ggA (ss_call (InB_of rfl) rfl rfl aw) ?_
    refine goA ?_
    exact rfl
  | false =>
  rw [hg2] at g2
  have k1 := k1 hg1
  have k2 := k2 hg2
  have hB : Both s es t fs 4 l m := ⟨fun v w => ⟨(k1 v).1, (k2 w).1⟩, le1, le2, r1, r2⟩
  have hh1 : ValidP s l.length = true → (∀ q, q ∈ l → Ht q 4) ∧ l.length ≤ 24 := fun v => by
    rw [← le1] at v
    exact ⟨isL_ht (k1 v).1 (by decide), (k1 v).2⟩
  have hh2 : ValidP t m.length = true → (∀ q, q ∈ m → Ht q 4) ∧ m.length ≤ 24 := fun v => by
    rw [← le2] at v
    exact ⟨isL_ht (k2 v).1 (by decide), (k2 v).2⟩
  have p1 := mul_p hB (by decide)
  have p2 := rmul33_p (M := 24) hB (by decide) (by decide) (by decide) (fun v => by rw [le1]; exact (k1 v).2)
  have p3 := inv_p k1 le1 r1 (show 1 ≤ 4 ∧ 4 ≤ 100 by decide)
  have p4 := rinv_p k1 le1 r1 (show 1 ≤ 4 ∧ 4 ≤ 100 by decide)
  have p5 := quo_p k1 k2 le1 le2 r1 r2
  have p6 := rquo33_p k1 k2 le1 le2 r1 r2
  have h1 := mulR_ht (s := s) (t := t) (l := l) (m := m) (K := 4) (N := 24) (by decide) (fun v w => ⟨(hh1 v).1, (hh2 w).1, (hh1 v).2⟩)
  have h2 := invT_ht hh1
  have h3 := quoT_ht hh1 hh2
  have q1 := sameT_p (r := nrmT (mulR s l t m)) h1.1 (by decide) h1.2
  have q2 := sameT_p h2.1 (by decide) h2.2
  have q3 := sameT_p h3.1 (by decide) h3.2
  rw [serE_T] at p1 p2
  generalize nrmT (mulR s l t m) = R1 at *
  generalize invT s l = R2 at *
  generalize quoT s l t m = R3 at *
  obtain ⟨f1, l1, e1⟩ := R1
  obtain ⟨f2, l2, e2⟩ := R2
  obtain ⟨f3, l3, e3⟩ := R3
  clear hB hh1 hh2 k1 k2 h1 h2 h3 r1 r2 le1 le2
  refine pc_body1 true Tryz.func3 rfl rfl rfl (Nat.le_of_ble_eq_true rfl) CellT.tmp ?_
  refine goA ?_
  refine evG ggA (ss_call (InB_of rfl) rfl rfl g1) ?_
  refine goA ?_
  refine evG ggA (ss_call (InB_of rfl) rfl rfl g2) ?_
  refine goA ?_
  refine evG ggA (ss_call (InB_of rfl) rfl rfl p1) ?_
  refine goA ?_
  refine evG ggA (ss_call (InB_of rfl) rfl rfl p2) ?_
  refine goA ?_
  refine evG ggA (ss_call (InB_of rfl) rfl rfl p3) ?_
  refine goA ?_
  refine evG ggA (ss_call (InB_of rfl) rfl rfl p4) ?_
  refine goA ?_
  refine evG ggA (ss_call (InB_of rfl) rfl rfl p5) ?_
  refine goA ?_
  refine evG ggA (ss_call (InB_of rfl) rfl rfl p6) ?_
  refine goA ?_
  refine evG ggA (ss_call (InB_of rfl) rfl rfl q1) ?_
  refine goA ?_
  refine evG ggA (ss_call (InB_of rfl) rfl rfl q2) ?_
  refine goA ?_
  refine evG ggA (ss_call (InB_of rfl) rfl rfl q3) ?_
  refine goA ?_
  refine evG ggA (ss_call (InB_of rfl) rfl rfl aw) ?_
  refine goA ?_
  exact rfl
end Ab
