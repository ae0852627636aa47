/- Package ref02: Sign, Ratio, Quo; package ref33: Empty, Mul; in abstract values. -/
import Derived.Test.YtmcfohngblbpbaaGreatZumB
namespace Ab
open Go Go.RowKit Go.Proofs Hp
set_option maxRecDepth 100000

theorem rsign2_p {a : AV} {k : Nat} {q : Rat} (h : IsV a k q) (hk : k ≤ 17592186044416) : ∃ sg : Int, (sg = 0 ↔ q = 0) ∧ PW Tryz.prog 119 [a] (.p (.int .i64 sg)) := by
  obtain ⟨cs, ds, n, d, rfl, h1, h2, rfl⟩ := h
  have c1 := refsign_p ⟨cs, rfl, h1⟩ hk
  have c2 := refsign_p ⟨ds, rfl, h2⟩ hk
  obtain ⟨m1, m2, m3⟩ := sgn_mul_range n d
  refine ⟨sgn n * sgn d, m3, ?_⟩
  obtain ⟨g, x, rfl, -⟩ := h1
  obtain ⟨g', x', rfl, -⟩ := h2
  refine pc_body1 false Tryz.func119 rfl rfl rfl (Nat.le_of_ble_eq_true rfl) CellT.tmp ?_
  refine goA ?_
  refine evG ggA (ss_call (InB_of rfl) rfl rfl c1) ?_
  refine goA ?_
  refine evG ggA (ss_call (InB_of rfl) rfl rfl c2) ?_
  refine goA ?_
  exact rfl
theorem rat_div_eq (p q : Rat) : p / q = Rat.divInt (p.num * q.den) (p.den * q.num) := by
  rw [Rat.div_def, Rat.inv_def]
  conv => lhs; rw [← Rat.num_divInt_den p]
  rw [Rat.divInt_mul_divInt]
theorem ratio_p {a b : AV} {k l : Nat} {p q : Rat} (ha : IsV a k p) (hb : IsV b l q) (h1 : 1 ≤ k) (h2 : 1 ≤ l) (hk : k + l ≤ 274877906944) : PW Tryz.prog 120 [a, b] (encQ (p / q)) := by
  have hp := isV_ht ha h1
  have hq := isV_ht hb h2
  have n1 := refnormal_p ha (by omega)
  have n2 := refnormal_p hb (by omega)
  have dp : ((p.den : Nat) : Int).natAbs < pw k := by rw [Int.natAbs_natCast]; exact hp.2
  have dq : ((q.den : Nat) : Int).natAbs < pw l := by rw [Int.natAbs_natCast]; exact hq.2
  have c1 := refmul_p (isI_encI hp.1) (isI_encI dq) (by omega) (by omega)
  have c2 := refmul_p (isI_encI dp) (isI_encI hq.1) (by omega) (by omega)
  have c3 := over_p (isI_encI (lt_mul hp.1 dq)) (isI_encI (lt_mul dp hq.1)) hk
  rw [rat_div_eq]
  obtain ⟨g, x, g', x', rfl⟩ := isV_cells ha
  obtain ⟨j, y, j', y', rfl⟩ := isV_cells hb
  clear ha hb hp hq dp dq
  unfold encI at c1 c2 c3
  unfold encQ at n1 n2 c3 ⊢
  refine pc_body1 false Tryz.func120 rfl rfl rfl (Nat.le_of_ble_eq_true rfl) (CellT.agg agg_rat) ?_
  refine goA ?_
  refine evG ggA (ss_call (InB_of rfl) rfl rfl n1) ?_
  refine goA ?_
  refine evG ggA (ss_call (InB_of rfl) rfl rfl n2) ?_
  refine goA ?_
  refine evG ggA (ss_call (InB_of rfl) rfl rfl c1) ?_
  refine goA ?_
  refine evG ggA (ss_call (InB_of rfl) rfl rfl c2) ?_
  refine evG ggA (ss_call (InB_of rfl) rfl rfl c3) ?_
  refine goA ?_
  exact rfl
theorem refquo2_p {a b : AV} {k l : Nat} {p q : Rat} (ha : IsV a k p) (hb : IsV b l q) (h1 : 1 ≤ k) (h2 : 1 ≤ l) (hk : k + l ≤ 274877906944) (h0 : q ≠ 0) : PW Tryz.prog 93 [a, b] (.tup [encQ (p / q), .p (.int .i64 0)]) := by
  obtain ⟨sg, hsg, c1⟩ := rsign2_p hb (by omega)
  have c2 := ratio_p ha hb h1 h2 hk
  have hb1 : (sg == 0) = false := by
    have : ¬ sg = 0 := fun e => h0 (hsg.1 e)
    simp [this]
  obtain ⟨g, x, g', x', rfl⟩ := isV_cells ha
  obtain ⟨j, y, j', y', rfl⟩ := isV_cells hb
  unfold encQ at c2 ⊢
  refine pc_body2 false Tryz.func93 rfl rfl rfl (Nat.le_of_ble_eq_true rfl) (CellT.agg agg_rat) CellT.tmp ?_
  refine goA ?_
  refine evG ggA (ss_call (InB_of rfl) rfl rfl c1) ?_
  refine goA ?_
  refine evG ggA (ss_call (InB_of rfl) rfl rfl c2) ?_
  refine goA ?_
  exact rfl
theorem empty_p (p : Int) : PC Tryz.prog 53 [.p (.int .i64 p)] (serA p []) := by
  refine pc_body1 true Tryz.func53 rfl rfl rfl (Nat.le_of_ble_eq_true rfl) (CellT.agg agg_ser) ?_
  refine goA ?_
  exact rfl
theorem cf_at (s : Int) (l : List Rat) (j : Nat) : cf s l (s + lead l + j) = (l.drop (lead l)).getD j 0 := by
  unfold cf
  rw [if_neg (by omega), show (s + (lead l : Int) + (j : Int) - s).toNat = lead l + j by omega]
  simp [List.getD_eq_getElem?_getD]
theorem nrm_end {s : Int} {l : List Rat} (h : 1000 ≤ s) : nrm s l = some (1000, []) := by
  have h1 : nfrom s = 1000 := by unfold nfrom; split <;> omega
  have h2 : ncut s l = [] := by
    unfold ncut
    split
    · rfl
    · rw [show (1000 - s).toNat = 0 by omega, List.take_zero]
  unfold nrm
  rw [h1, h2]
  rfl
set_option maxHeartbeats 4000000 in
theorem rmul33_p {s t : Int} {es fs : List AV} {l m : List Rat} {K M : Nat} (h : Both s es t fs K l m) (hK1 : 1 ≤ K) (hM1 : 1 ≤ M) (hW0 : (2 * K + 1) * M + 1 ≤ 137438953472) (hAM0 : ValidP s es.length = true → es.length ≤ M) : PC Tryz.prog 12 [serA s es, serA t fs] (serE (mulR s l t m)) := by
  have hK : 1 ≤ K ∧ K ≤ 68719476735 := ⟨hK1, by have := Nat.mul_le_mul_left (2 * K + 1) hM1; omega⟩
  obtain ⟨h0, hle, hlf, i1, i2⟩ := h
  have ctw := two_p i1 i2
  rw [serE_eq]
  unfold mulR
  rw [← hle, ← hlf]
  cases hv : ValidP s es.length && ValidP t fs.length with
  | false =>
    rw [hv] at ctw
    refine pc_body2 true Tryz.func12 rfl rfl rfl (Nat.le_of_ble_eq_true rfl) (CellT.agg agg_ser) CellT.tmp ?_
    refine goA ?_
    refine evG ggA (ss_call (InB_of rfl) rfl rfl ctw) ?_
    refine goA ?_
    exact rfl
  | true =>
  rw [hv] at ctw
  simp only [Bool.and_eq_true] at hv
  have hAM := hAM0 hv.1
  clear hAM0
  obtain ⟨W, hWd⟩ : ∃ W, W = (2 * K + 1) * M + 1 := ⟨_, rfl⟩
  rw [← hWd] at hW0
  obtain ⟨hL, hM⟩ := h0 hv.1 hv.2
  obtain ⟨a0, a1, a2⟩ := valid_iff.1 hv.1
  obtain ⟨b0, b1, b2⟩ := valid_iff.1 hv.2
  simp only [if_true]
  have opa := rord_p hL (by omega) a0 a1 a2
  have opb := rord_p hM (by omega) b0 b1 b2
  have ppa := rprec_p a0 a1 a2
  have ppb := rprec_p b0 b1 b2
  have hla := lead_le l
  have hlb := lead_le m
  have hhl : ∀ q, q ∈ l.drop (lead l) → Ht q K := fun q hq => isL_ht hL hK.1 q (List.mem_of_mem_drop hq)
  have hhm : ∀ q, q ∈ m.drop (lead m) → Ht q K := fun q hq => isL_ht hM hK.1 q (List.mem_of_mem_drop hq)
  have hld : (l.drop (lead l)).length + lead l = l.length := by rw [List.length_drop]; omega
  have hmd : (m.drop (lead m)).length + lead m = m.length := by rw [List.length_drop]; omega
  have cfa := cf_at s l
  have cfb := cf_at t m
  generalize l.drop (lead l) = A at *
  generalize m.drop (lead m) = C at *
  generalize hsa : s + (lead l : Int) = sa at *
  generalize htb' : t + (lead m : Int) = tb at *
  have hfr : -200 ≤ sa + tb ∧ sa + tb ≤ 2000 := by omega
  obtain ⟨P, hP⟩ : ∃ P, P = min (s + (es.length : Int) + tb) (t + (fs.length : Int) + sa) := ⟨_, rfl⟩
  refine pc_body2 true Tryz.func12 rfl rfl rfl (Nat.le_of_ble_eq_true rfl) (CellT.agg agg_ser) CellT.tmp ?_
  refine r1A ?_
  refine T.seqI (fun s1 => s1 = mkS [(2, .ptr 2 0), (3, .ptr 3 0), (4, .ptr 4 0)] [(2, .var [.v (.p (.int .i64 s)), .v (.sl es)]), (3, .var [.v (.p (.int .i64 t)), .v (.sl fs)]), (4, var0)] 77 true) ?_ ?_
  · refine goA ?_
    refine evG ggA (ss_call (InB_of rfl) rfl rfl ctw) ?_
    refine goA ?_
    exact midQ_intro (by exact entA) rfl
  rintro _ rfl
  refine T.seq ?_
  refine regA ?_
  refine runA ?_
  refine evG ggA (ss_call (InB_of rfl) rfl rfl opa) ?_
  refine runA ?_
  refine evG ggA (ss_call (InB_of rfl) rfl rfl opb) ?_
  refine runA ?_
  refine ev_nil ?_
  refine seqQ_n ?_
  refine T.seqI (fun s1 => s1 = mkS [(2, .ptr 2 0), (3, .ptr 3 0), (4, .ptr 4 0), (7, .v (.p (.int .i64 (sa + tb)))), (8, .v (.p (.int .i64 P)))] [(2, .var [.v (.p (.int .i64 s)), .v (.sl es)]), (3, .var [.v (.p (.int .i64 t)), .v (.sl fs)]), (4, var0)] 77 true) ?_ ?_
  · refine goA ?_
    refine evG ggA (ss_call (InB_of rfl) rfl rfl ppa) ?_
    refine goA ?_
    refine evG ggA (ss_call (InB_of rfl) rfl rfl opb) ?_
    refine goA ?_
    refine evG ggA (ss_call (InB_of rfl) rfl rfl ppb) ?_
    refine goA ?_
    refine evG ggA (ss_call (InB_of rfl) rfl rfl opa) ?_
    refine goA ?_
    rw [← hP]
    exact midQ_intro (by exact entA) rfl
  rintro _ rfl
  unfold mulN
  by_cases h1000 : 1000 ≤ sa + tb
  · have hb : decide (sa + tb ≥ 1000) = true := by simp; omega
    have ce := empty_p 1000
    rw [nrm_end h1000]
    refine goA ?_
    refine evG ggA (ss_call (InB_of rfl) rfl rfl ce) ?_
    refine goA ?_
    exact rfl
  have hb0 : decide (sa + tb ≥ 1000) = false := by simp; omega
  generalize hN : mlen (sa + tb) A.length C.length = N
  have hNe : (N : Int) = max 0 (min (min (A.length : Int) (C.length : Int)) (1000 - (sa + tb))) := by rw [← hN]; unfold mlen; omega
  have hPN : min P 1000 = sa + tb + N := by omega
  have hN1 : N ≤ A.length ∧ N ≤ C.length := by omega
  have hAl : A.length ≤ M := by omega
  generalize hfrom : sa + tb = fr at *
  refine T.seqI (fun s1 => s1 = mkS [(2, .ptr 2 0), (3, .ptr 3 0), (4, .ptr 4 0), (7, .v (.p (.int .i64 fr))), (8, .v (.p (.int .i64 P)))] [(2, .var [.v (.p (.int .i64 s)), .v (.sl es)]), (3, .var [.v (.p (.int .i64 t)), .v (.sl fs)]), (4, var0)] 77 true) ?_ ?_
  · refine goA ?_
    exact midQ_intro (by exact entA) rfl
  rintro _ rfl
  have cz := q_p 0 (by decide) (by decide)
  rw [show ((0 : Int) : Rat) = 0 from rfl] at cz
  refine r1A ?_
  refine T.seqI (fun s1 => s1 = mkS [(4, .ptr 4 0), (7, .v (.p (.int .i64 fr))), (9, .own 100 N)] [(4, var0), (100, .lst 4 47 ((tk (conv A C) N).map encQ))] 77 true) ?_ ?_
  · refine r1A ?_
    refine T.block ?_
    refine T.loop (fun n s1 => ∃ k : Nat, n = N - k ∧ k ≤ N ∧ s1 = mkS [(2, .ptr 2 0), (3, .ptr 3 0), (4, .ptr 4 0), (7, .v (.p (.int .i64 fr))), (8, .v (.p (.int .i64 P))), (9, .own 100 k), (10, .v (.p (.int .i64 (fr + k))))] [(2, .var [.v (.p (.int .i64 s)), .v (.sl es)]), (3, .var [.v (.p (.int .i64 t)), .v (.sl fs)]), (4, var0), (100, .lst 4 47 ((tk (conv A C) k).map encQ))] 77 true) N
      (s' := mkS [(2, .ptr 2 0), (3, .ptr 3 0), (4, .ptr 4 0), (7, .v (.p (.int .i64 fr))), (8, .v (.p (.int .i64 P))), (9, .own 100 0), (10, .v (.p (.int .i64 fr)))] [(2, .var [.v (.p (.int .i64 s)), .v (.sl es)]), (3, .var [.v (.p (.int .i64 t)), .v (.sl fs)]), (4, var0), (100, .lst 4 47 ((tk (conv A C) 0).map encQ))] 77 true) (by exact entA) ⟨0, rfl, Nat.zero_le _, by simp⟩ ?_
    rintro n _ ⟨k, rfl, hk, rfl⟩
    by_cases hlt : k < N
    · have hb : decide (fr + (k : Int) < min P 1000) = true := by rw [hPN]; simp; omega
      refine T.seqI (fun s1 => s1 = mkS [(2, .ptr 2 0), (3, .ptr 3 0), (4, .ptr 4 0), (7, .v (.p (.int .i64 fr))), (8, .v (.p (.int .i64 P))), (9, .own 100 k), (10, .v (.p (.int .i64 (fr + k))))] [(2, .var [.v (.p (.int .i64 s)), .v (.sl es)]), (3, .var [.v (.p (.int .i64 t)), .v (.sl fs)]), (4, var0), (100, .lst 4 47 ((tk (conv A C) k).map encQ))] 77 true) ?_ ?_
      · refine goA ?_
        exact midQ_intro (by exact entA) rfl
      rintro _ rfl
      refine T.seq ?_
      refine T.block ?_
      refine T.seq ?_
      refine regA ?_
      refine runA ?_
      refine evG ggA (ss_call (InB_of rfl) rfl rfl cz) ?_
      refine runA ?_
      refine ev_nil ?_
      refine seqQ_n ?_
      refine T.seqI (fun s1 => s1 = mkS [(2, .ptr 2 0), (3, .ptr 3 0), (4, .ptr 4 0), (7, .v (.p (.int .i64 fr))), (8, .v (.p (.int .i64 P))), (9, .own 100 k), (10, .v (.p (.int .i64 (fr + k)))), (11, .ptr 11 0)] [(2, .var [.v (.p (.int .i64 s)), .v (.sl es)]), (3, .var [.v (.p (.int .i64 t)), .v (.sl fs)]), (4, var0), (11, qvar (conv A C k)), (100, .lst 4 47 ((tk (conv A C) k).map encQ))] 77 true) ?_ ?_
      · refine T.seq ?_
        refine regA ?_
        refine runA ?_
        refine evG ggA (ss_call (InB_of rfl) rfl rfl opa) ?_
        refine runA ?_
        refine ev_nil ?_
        refine seqQ_n ?_
        refine T.block ?_
        refine T.loop (fun n s1 => ∃ j : Nat, n = k + 1 - j ∧ j ≤ k + 1 ∧ s1 = mkS [(2, .ptr 2 0), (3, .ptr 3 0), (4, .ptr 4 0), (7, .v (.p (.int .i64 fr))), (8, .v (.p (.int .i64 P))), (9, .own 100 k), (10, .v (.p (.int .i64 (fr + k)))), (11, .ptr 11 0), (12, .v (.p (.int .i64 (sa + j))))] [(2, .var [.v (.p (.int .i64 s)), .v (.sl es)]), (3, .var [.v (.p (.int .i64 t)), .v (.sl fs)]), (4, var0), (11, qvar (cs A C k j)), (100, .lst 4 47 ((tk (conv A C) k).map encQ))] 77 true) (k + 1)
          (s' := mkS [(2, .ptr 2 0), (3, .ptr 3 0), (4, .ptr 4 0), (7, .v (.p (.int .i64 fr))), (8, .v (.p (.int .i64 P))), (9, .own 100 k), (10, .v (.p (.int .i64 (fr + k)))), (11, .ptr 11 0), (12, .v (.p (.int .i64 sa)))] [(2, .var [.v (.p (.int .i64 s)), .v (.sl es)]), (3, .var [.v (.p (.int .i64 t)), .v (.sl fs)]), (4, var0), (11, qvar (cs A C k 0)), (100, .lst 4 47 ((tk (conv A C) k).map encQ))] 77 true) (by exact entA) ⟨0, rfl, Nat.zero_le _, by simp⟩ ?_
        rintro n _ ⟨j, rfl, hj, rfl⟩
        by_cases hjk : j ≤ k
        · have hb2 : decide (sa + (j : Int) ≤ fr + (k : Int) - tb) = true := by simp; omega
          have t1 := getD_ht hK.1 hhl j
          have t2 := getD_ht hK.1 hhm (k - j)
          have k1 := coef_p (n := sa + j) hL (by omega) a0 a1 a2 (by omega) (by omega)
          have k2 := coef_p (n := fr + (k : Int) - (sa + (j : Int))) hM (by omega) b0 b1 b2 (by omega) (by omega)
          have e1 : cf s l (sa + j) = A.getD j 0 := cfa j
          have e2 : cf t m (fr + (k : Int) - (sa + (j : Int))) = C.getD (k - j) 0 := by
            rw [show fr + (k : Int) - (sa + (j : Int)) = tb + ((k - j : Nat) : Int) by omega]
            exact cfb (k - j)
          rw [e1] at k1
          rw [e2] at k2
          have c3 : PC Tryz.prog 55 _ _ := (refmul2_p (isV_encQ t1) (isV_encQ t2) (by omega)).up
          have hcsh : Ht (cs A C k j) W := (ht_cs hK.1 hhl hhm k j).mono (by rw [hWd]; exact Nat.succ_le_succ (Nat.mul_le_mul_left _ (by omega)))
          have c4 : PC Tryz.prog 54 _ _ := (refadd2_p (isV_encQ hcsh) (isV_encQ (ht_mul t1 t2 hK.1)) (by omega) (by omega) (by omega)).up
          have hcs : cs A C k j + A.getD j 0 * C.getD (k - j) 0 = cs A C k (j + 1) := rfl
          rw [hcs] at c4
          clear hhl hhm cfa cfb hcsh t1 t2
          refine goA ?_
          refine evG ggA (ss_call (InB_of rfl) rfl rfl opb) ?_
          refine goA ?_
          refine evG ggA (ss_call (InB_of rfl) rfl rfl k1) ?_
          refine goA ?_
          refine evG ggA (ss_call (InB_of rfl) rfl rfl k2) ?_
          refine evG ggA (ss_call (InB_of rfl) rfl rfl c3) ?_
          refine evG ggA (ss_call (InB_of rfl) rfl rfl c4) ?_
          refine goA ?_
          exact loopQ_intro (k := k + 1 - (j + 1)) (s' := mkS [(2, .ptr 2 0), (3, .ptr 3 0), (4, .ptr 4 0), (7, .v (.p (.int .i64 fr))), (8, .v (.p (.int .i64 P))), (9, .own 100 k), (10, .v (.p (.int .i64 (fr + k)))), (11, .ptr 11 0), (12, .v (.p (.int .i64 (sa + (j : Int) + 1))))] [(2, .var [.v (.p (.int .i64 s)), .v (.sl es)]), (3, .var [.v (.p (.int .i64 t)), .v (.sl fs)]), (4, var0), (11, qvar (cs A C k (j + 1))), (100, .lst 4 47 ((tk (conv A C) k).map encQ))] 77 true) (by omega) (by exact entA) ⟨j + 1, rfl, by omega, by rw [Int.natCast_succ, ← Int.add_assoc]⟩
        · obtain rfl : j = k + 1 := by omega
          have hb2 : decide (sa + ((k + 1 : Nat) : Int) ≤ fr + (k : Int) - tb) = false := by simp; omega
          refine goA ?_
          refine evG ggA (ss_call (InB_of rfl) rfl rfl opb) ?_
          refine goA ?_
          exact midQ_intro (by exact entA) rfl
      rintro _ rfl
      refine goA ?_
      (refine evG ggA (ss_bslice (InB_of rfl) (make_tab rfl) rfl rfl rfl rfl (one_ok rfl rfl) (Nat.le_of_ble_eq_true rfl)) ?_; refine evG ggA (ss_snoc (InB_of rfl) (make_tab rfl) rfl rfl (by first | rfl | assumption | (simp; done) | (simp; omega)) rfl (by omega) (Nat.le_of_ble_eq_true rfl) rfl) ?_)
      refine goA ?_
      exact loopQ_intro (k := N - (k + 1)) (s' := mkS [(2, .ptr 2 0), (3, .ptr 3 0), (4, .ptr 4 0), (7, .v (.p (.int .i64 fr))), (8, .v (.p (.int .i64 P))), (9, .own 100 (k + 1)), (10, .v (.p (.int .i64 (fr + (k : Int) + 1))))] [(2, .var [.v (.p (.int .i64 s)), .v (.sl es)]), (3, .var [.v (.p (.int .i64 t)), .v (.sl fs)]), (4, var0), (100, .lst 4 47 ((tk (conv A C) k ++ [conv A C k]).map encQ))] 77 true) (by omega) (by exact entA) ⟨k + 1, rfl, hlt, by rw [tk_succ, Int.natCast_succ, ← Int.add_assoc]⟩
    · obtain rfl : k = N := by omega
      have hb : decide (fr + (k : Int) < min P 1000) = false := by rw [hPN]; simp
      refine goA ?_
      exact midQ_intro (s' := mkS [(4, .ptr 4 0), (7, .v (.p (.int .i64 fr))), (9, .own 100 k)] [(4, var0), (100, .lst 4 47 ((tk (conv A C) k).map encQ))] 77 true) (by exact entA) rfl
  rintro _ rfl
  have hbuild := result_p (s := fr) (isL_enc (l := tk (conv A C) N) (k := W) (fun q hq => by obtain ⟨i, hi, rfl⟩ := tk_mem hq; exact (ht_cs hK.1 hhl hhm i (i + 1)).mono (by rw [hWd]; exact Nat.succ_le_succ (Nat.mul_le_mul_left _ (by omega))))) (by omega) (by omega) (by omega) (by rw [tk_len]; omega)
  rw [serE_eq] at hbuild
  refine T.weak (s' := mkS [(4, .ptr 4 0), (7, .v (.p (.int .i64 fr))), (9, .v (.sl ((tk (conv A C) N).map encQ)))] [(4, var0)] 77 true) (by exact entA) ?_
  refine goA ?_
  refine evG ggA (ss_call (InB_of rfl) rfl rfl hbuild) ?_
  refine goA ?_
  exact rfl
end Ab
