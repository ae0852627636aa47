/- Inverse and Quo of package series, Inverse and Mul of the document, with heights by value. Product of package series and of the document, with heights by value. Power of package series and of the document, with heights by value. -/
import Derived.Test.YtaeeifonadgmcaaGreatDoorZJ
import Derived.Test.YtaeeifonadgmcaaGreatDoorOCG
import Derived.Test.YtaeeifonadgmcaaGreatDoorWo
set_option linter.all false
namespace Ab
open Go Go.RowKit Go.Proofs Hp
set_option maxRecDepth 100000
theorem rsign2_p {a : AV} {k : Nat} {q : Rat} (h : IsV a k q) (hk : k ≤ 17592186044416) : ∃ dsg : Int, (dsg = 0 ↔ q = 0) ∧ PW Tryz.prog 105 [a] (.p (.int .i64 dsg)) := by
 obtain ⟨cs, ds, n, d, rfl, h1, h2, rfl⟩ := h
 have c1 := refsign_p ⟨cs, rfl, h1⟩ hk
 have c2 := refsign_p ⟨ds, rfl, h2⟩ hk
 obtain ⟨m1, m2, m3⟩ := Zeo n d
 refine ⟨sgn n * sgn d, m3, ?_⟩
 obtain ⟨g, x, rfl, -⟩ := h1
 obtain ⟨g', x', rfl, -⟩ := h2
 refine Zaf false Tryz.func105 rfl rfl rfl (Nat.le_of_ble_eq_true rfl) Zah.tmp ?_
 refine goA ?_
 refine evG ggA (Zab (Zaa rfl) rfl rfl c1) ?_
 refine goA ?_
 refine evG ggA (Zab (Zaa rfl) rfl rfl c2) ?_
 refine goA ?_
 exact rfl
theorem rat_div_eq (p q : Rat) : p / q = Rat.divInt (p.num * q.den) (p.den * q.num) := by
 rw [Rat.div_def, Rat.inv_def]
 conv => lhs; rw [← Rat.num_divInt_den p]
 rw [Rat.divInt_mul_divInt]
theorem ratio_p {a b : AV} {k l : Nat} {p q : Rat} (ha : IsV a k p) (hb : IsV b l q) (h1 : 1 ≤ k) (h2 : 1 ≤ l) (hk : k + l ≤ 274877906944) : PW Tryz.prog 107 [a, b] (encQ (p / q)) := by
 have hp := Zdr ha h1
 have hq := Zdr hb h2
 have n1 := Zcv ha (by omega)
 have n2 := Zcv hb (by omega)
 have dp : ((p.den : Nat) : Int).natAbs < pw k := by rw [Int.natAbs_natCast]; exact hp.2
 have dq : ((q.den : Nat) : Int).natAbs < pw l := by rw [Int.natAbs_natCast]; exact hq.2
 have c1 := Zdn (Zay hp.1) (Zay dq) (by omega) (by omega)
 have c2 := Zdn (Zay dp) (Zay hq.1) (by omega) (by omega)
 have c3 := over_p (Zay (lt_mul hp.1 dq)) (Zay (lt_mul dp hq.1)) hk
 rw [rat_div_eq]
 obtain ⟨g, x, g', x', rfl⟩ := Zbw ha
 obtain ⟨j, y, j', y', rfl⟩ := Zbw hb
 clear ha hb hp hq dp dq
 unfold encI at c1 c2 c3
 unfold encQ at n1 n2 c3 ⊢
 refine Zaf false Tryz.func107 rfl rfl rfl (Nat.le_of_ble_eq_true rfl) (Zah.agg Zbf) ?_
 refine goA ?_
 refine evG ggA (Zab (Zaa rfl) rfl rfl n1) ?_
 refine goA ?_
 refine evG ggA (Zab (Zaa rfl) rfl rfl n2) ?_
 refine goA ?_
 refine evG ggA (Zab (Zaa rfl) rfl rfl c1) ?_
 refine goA ?_
 refine evG ggA (Zab (Zaa rfl) rfl rfl c2) ?_
 refine evG ggA (Zab (Zaa rfl) rfl rfl c3) ?_
 refine goA ?_
 exact rfl
theorem refquo2_p {a b : AV} {k l : Nat} {p q : Rat} (ha : IsV a k p) (hb : IsV b l q) (h1 : 1 ≤ k) (h2 : 1 ≤ l) (hk : k + l ≤ 274877906944) (h0 : q ≠ 0) : PW Tryz.prog 76 [a, b] (.tup [encQ (p / q), .p (.int .i64 0)]) := by
 obtain ⟨dsg, hsg, c1⟩ := rsign2_p hb (by omega)
 have c2 := ratio_p ha hb h1 h2 hk
 have hb1 : (dsg == 0) = false := by
  have : ¬ dsg = 0 := fun e => h0 (hsg.1 e)
  simp [this]
 obtain ⟨g, x, g', x', rfl⟩ := Zbw ha
 obtain ⟨j, y, j', y', rfl⟩ := Zbw hb
 unfold encQ at c2 ⊢
 refine Zak false Tryz.func76 rfl rfl rfl (Nat.le_of_ble_eq_true rfl) (Zah.agg Zbf) Zah.tmp ?_
 refine goA ?_
 refine evG ggA (Zab (Zaa rfl) rfl rfl c1) ?_
 refine goA ?_
 refine evG ggA (Zab (Zaa rfl) rfl rfl c2) ?_
 refine goA ?_
 exact rfl
theorem empty_p (p : Int) : PC Tryz.prog 47 [.p (.int .i64 p)] (serA p []) := by
 refine Zaf true Tryz.func47 rfl rfl rfl (Nat.le_of_ble_eq_true rfl) (Zah.agg Zar) ?_
 refine goA ?_
 exact rfl
theorem cf_at (s : Int) (l : List Rat) (j : Nat) : cf s l (s + lead l + j) = (l.drop (lead l)).getD j 0 := by
 unfold cf
 rw [if_neg (by omega), show (s + (lead l : Int) + (j : Int) - s).toNat = lead l + j by omega]
 simp [List.getD_eq_getElem?_getD]
theorem nrm_end {s : Int} {l : List Rat} (h : 1000 ≤ s) : nrm s l = some (1000, []) := by
 have h1 : Zdc s = 1000 := by unfold Zdc; split <;> omega
 have h2 : ncut s l = [] := by
  unfold ncut
  split
  ·rfl
  ·rw [show (1000 - s).toNat = 0 by omega, List.take_zero]
 unfold nrm
 rw [h1, h2]
 rfl
set_option maxHeartbeats 4000000 in
theorem rmul33_p {s t : Int} {es fs : List AV} {l m : List Rat} {K M : Nat} (h : Both s es t fs K l m) (hK1 : 1 ≤ K) (hM1 : 1 ≤ M) (hW0 : (2 * K + 1) * M + 1 ≤ 137438953472) (hAM0 : Zaq s es.length = true → es.length ≤ M) : PC Tryz.prog 41 [serA s es, serA t fs] (serE (mulR s l t m)) := by
  have hK : 1 ≤ K ∧ K ≤ 68719476735 := ⟨hK1, by have := Nat.mul_le_mul_left (2 * K + 1) hM1; omega⟩
  obtain ⟨h0, hle, hlf, i1, i2⟩ := h
  have ctw := two_p i1 i2
  rw [Zbp]
  unfold mulR
  rw [← hle, ← hlf]
  cases hv : Zaq s es.length && Zaq t fs.length with
  | false =>
    rw [hv] at ctw
    refine Zak true Tryz.func41 rfl rfl rfl (Nat.le_of_ble_eq_true rfl) (Zah.agg Zar) Zah.tmp ?_
    refine goA ?_
    refine evG ggA (Zab (Zaa rfl) rfl rfl ctw) ?_
    refine goA ?_
    exact rfl
  | true =>
  rw [hv] at ctw
  simp only [Bool.and_eq_true] at hv
  have hAM := hAM0 hv.1
  clear hAM0
  obtain ⟨W, hWd⟩ : ∃ W, W = (2 * K + 1) * M + 1 := ⟨_, rfl⟩
  rw [← hWd] at hW0
  obtain ⟨hL, hM⟩ := h0 hv.1 hv.2
  obtain ⟨a0, a1, a2⟩ := Zas.1 hv.1
  obtain ⟨b0, b1, b2⟩ := Zas.1 hv.2
  simp only [if_true]
  have opa := rord_p hL (by omega) a0 a1 a2
  have opb := rord_p hM (by omega) b0 b1 b2
  have ppa := Zga a0 a1 a2
  have ppb := Zga b0 b1 b2
  have hla := Zb7 l
  have hlb := Zb7 m
  have hhl : ∀ q, q ∈ l.drop (lead l) → Ht q K := fun q hq => Zdk hL hK.1 q (List.mem_of_mem_drop hq)
  have hhm : ∀ q, q ∈ m.drop (lead m) → Ht q K := fun q hq => Zdk hM hK.1 q (List.mem_of_mem_drop hq)
  have hld : (l.drop (lead l)).length + lead l = l.length := by rw [List.length_drop]; omega
  have hmd : (m.drop (lead m)).length + lead m = m.length := by rw [List.length_drop]; omega
  have cfa := cf_at s l
  have cfb := cf_at t m
  generalize l.drop (lead l) = A at *
  generalize m.drop (lead m) = C at *
  generalize hsa : s + (lead l : Int) = sa at *
  generalize htb' : t + (lead m : Int) = tb at *
  have hfr : -200 ≤ sa + tb ∧ sa + tb ≤ 2000 := by omega
  obtain ⟨P, hP⟩ : ∃ P, P = min (s + (es.length : Int) + tb) (t + (fs.length : Int) + sa) := ⟨_, rfl⟩
  refine Zak true Tryz.func41 rfl rfl rfl (Nat.le_of_ble_eq_true rfl) (Zah.agg Zar) Zah.tmp ?_
  refine r1A ?_
  refine T.seqI (fun s1 => s1 = mkS [(2, .ptr 2 0), (3, .ptr 3 0), (4, .ptr 4 0)] [(2, .var [.v (.p (.int .i64 s)), .v (.sl es)]), (3, .var [.v (.p (.int .i64 t)), .v (.sl fs)]), (4, var0)] 77 true) ?_ ?_
  · refine goA ?_
    refine evG ggA (Zab (Zaa rfl) rfl rfl ctw) ?_
    refine goA ?_
    exact Zac (by exact entA) rfl
  rintro _ rfl
  refine T.seq ?_
  refine regA ?_
  refine runA ?_
  refine evG ggA (Zab (Zaa rfl) rfl rfl opa) ?_
  refine runA ?_
  refine evG ggA (Zab (Zaa rfl) rfl rfl opb) ?_
  refine runA ?_
  refine Zaw ?_
  refine Za8 ?_
  refine T.seqI (fun s1 => s1 = mkS [(2, .ptr 2 0), (3, .ptr 3 0), (4, .ptr 4 0), (7, .v (.p (.int .i64 (sa + tb)))), (8, .v (.p (.int .i64 P)))] [(2, .var [.v (.p (.int .i64 s)), .v (.sl es)]), (3, .var [.v (.p (.int .i64 t)), .v (.sl fs)]), (4, var0)] 77 true) ?_ ?_
  · refine goA ?_
    refine evG ggA (Zab (Zaa rfl) rfl rfl ppa) ?_
    refine goA ?_
    refine evG ggA (Zab (Zaa rfl) rfl rfl opb) ?_
    refine goA ?_
    refine evG ggA (Zab (Zaa rfl) rfl rfl ppb) ?_
    refine goA ?_
    refine evG ggA (Zab (Zaa rfl) rfl rfl opa) ?_
    refine goA ?_
    rw [← hP]
    exact Zac (by exact entA) rfl
  rintro _ rfl
  unfold mulN
  by_cases h1000 : 1000 ≤ sa + tb
  · have hb : decide (sa + tb ≥ 1000) = true := by simp; omega
    have ce := empty_p 1000
    rw [nrm_end h1000]
    refine goA ?_
    refine evG ggA (Zab (Zaa rfl) rfl rfl ce) ?_
    refine goA ?_
    exact rfl
  have hb0 : decide (sa + tb ≥ 1000) = false := by simp; omega
  generalize hN : mlen (sa + tb) A.length C.length = N
  have hNe : (N : Int) = max 0 (min (min (A.length : Int) (C.length : Int)) (1000 - (sa + tb))) := by rw [← hN]; unfold mlen; omega
  have hPN : min P 1000 = sa + tb + N := by omega
  have hN1 : N ≤ A.length ∧ N ≤ C.length := by omega
  have hAl : A.length ≤ M := by omega
  generalize hfrom : sa + tb = fr at *
  refine T.seqI (fun s1 => s1 = mkS [(2, .ptr 2 0), (3, .ptr 3 0), (4, .ptr 4 0), (7, .v (.p (.int .i64 fr))), (8, .v (.p (.int .i64 P)))] [(2, .var [.v (.p (.int .i64 s)), .v (.sl es)]), (3, .var [.v (.p (.int .i64 t)), .v (.sl fs)]), (4, var0)] 77 true) ?_ ?_
  · refine goA ?_
    exact Zac (by exact entA) rfl
  rintro _ rfl
  have cz := q_p 0 (by decide) (by decide)
  rw [show ((0 : Int) : Rat) = 0 from rfl] at cz
  refine r1A ?_
  refine T.seqI (fun s1 => s1 = mkS [(4, .ptr 4 0), (7, .v (.p (.int .i64 fr))), (9, .own 100 N)] [(4, var0), (100, .lst 4 48 ((tk (conv A C) N).map encQ))] 77 true) ?_ ?_
  · refine r1A ?_
    refine T.block ?_
    refine T.loop (fun n s1 => ∃ k : Nat, n = N - k ∧ k ≤ N ∧ s1 = mkS [(2, .ptr 2 0), (3, .ptr 3 0), (4, .ptr 4 0), (7, .v (.p (.int .i64 fr))), (8, .v (.p (.int .i64 P))), (9, .own 100 k), (10, .v (.p (.int .i64 (fr + k))))] [(2, .var [.v (.p (.int .i64 s)), .v (.sl es)]), (3, .var [.v (.p (.int .i64 t)), .v (.sl fs)]), (4, var0), (100, .lst 4 48 ((tk (conv A C) k).map encQ))] 77 true) N
      (s' := mkS [(2, .ptr 2 0), (3, .ptr 3 0), (4, .ptr 4 0), (7, .v (.p (.int .i64 fr))), (8, .v (.p (.int .i64 P))), (9, .own 100 0), (10, .v (.p (.int .i64 fr)))] [(2, .var [.v (.p (.int .i64 s)), .v (.sl es)]), (3, .var [.v (.p (.int .i64 t)), .v (.sl fs)]), (4, var0), (100, .lst 4 48 ((tk (conv A C) 0).map encQ))] 77 true) (by exact entA) ⟨0, rfl, Nat.zero_le _, by simp⟩ ?_
    rintro n _ ⟨k, rfl, hk, rfl⟩
    by_cases hlt : k < N
    · have hb : decide (fr + (k : Int) < min P 1000) = true := by rw [hPN]; simp; omega
      refine T.seqI (fun s1 => s1 = mkS [(2, .ptr 2 0), (3, .ptr 3 0), (4, .ptr 4 0), (7, .v (.p (.int .i64 fr))), (8, .v (.p (.int .i64 P))), (9, .own 100 k), (10, .v (.p (.int .i64 (fr + k))))] [(2, .var [.v (.p (.int .i64 s)), .v (.sl es)]), (3, .var [.v (.p (.int .i64 t)), .v (.sl fs)]), (4, var0), (100, .lst 4 48 ((tk (conv A C) k).map encQ))] 77 true) ?_ ?_
      · refine goA ?_
        exact Zac (by exact entA) rfl
      rintro _ rfl
      refine T.seq ?_
      refine T.block ?_
      refine T.seq ?_
      refine regA ?_
      refine runA ?_
      refine evG ggA (Zab (Zaa rfl) rfl rfl cz) ?_
      refine runA ?_
      refine Zaw ?_
      refine Za8 ?_
      refine T.seqI (fun s1 => s1 = mkS [(2, .ptr 2 0), (3, .ptr 3 0), (4, .ptr 4 0), (7, .v (.p (.int .i64 fr))), (8, .v (.p (.int .i64 P))), (9, .own 100 k), (10, .v (.p (.int .i64 (fr + k)))), (11, .ptr 11 0)] [(2, .var [.v (.p (.int .i64 s)), .v (.sl es)]), (3, .var [.v (.p (.int .i64 t)), .v (.sl fs)]), (4, var0), (11, qvar (conv A C k)), (100, .lst 4 48 ((tk (conv A C) k).map encQ))] 77 true) ?_ ?_
      · refine T.seq ?_
        refine regA ?_
        refine runA ?_
        refine evG ggA (Zab (Zaa rfl) rfl rfl opa) ?_
        refine runA ?_
        refine Zaw ?_
        refine Za8 ?_
        refine T.block ?_
        refine T.loop (fun n s1 => ∃ j : Nat, n = k + 1 - j ∧ j ≤ k + 1 ∧ s1 = mkS [(2, .ptr 2 0), (3, .ptr 3 0), (4, .ptr 4 0), (7, .v (.p (.int .i64 fr))), (8, .v (.p (.int .i64 P))), (9, .own 100 k), (10, .v (.p (.int .i64 (fr + k)))), (11, .ptr 11 0), (12, .v (.p (.int .i64 (sa + j))))] [(2, .var [.v (.p (.int .i64 s)), .v (.sl es)]), (3, .var [.v (.p (.int .i64 t)), .v (.sl fs)]), (4, var0), (11, qvar (cs A C k j)), (100, .lst 4 48 ((tk (conv A C) k).map encQ))] 77 true) (k + 1)
          (s' := mkS [(2, .ptr 2 0), (3, .ptr 3 0), (4, .ptr 4 0), (7, .v (.p (.int .i64 fr))), (8, .v (.p (.int .i64 P))), (9, .own 100 k), (10, .v (.p (.int .i64 (fr + k)))), (11, .ptr 11 0), (12, .v (.p (.int .i64 sa)))] [(2, .var [.v (.p (.int .i64 s)), .v (.sl es)]), (3, .var [.v (.p (.int .i64 t)), .v (.sl fs)]), (4, var0), (11, qvar (cs A C k 0)), (100, .lst 4 48 ((tk (conv A C) k).map encQ))] 77 true) (by exact entA) ⟨0, rfl, Nat.zero_le _, by simp⟩ ?_
        rintro n _ ⟨j, rfl, hj, rfl⟩
        by_cases hjk : j ≤ k
        · have hb2 : decide (sa + (j : Int) ≤ fr + (k : Int) - tb) = true := by simp; omega
          have t1 := getD_ht hK.1 hhl j
          have t2 := getD_ht hK.1 hhm (k - j)
          have k1 := coef_p (n := sa + j) hL (by omega) a0 a1 a2 (by omega) (by omega)
          have k2 := coef_p (n := fr + (k : Int) - (sa + (j : Int))) hM (by omega) b0 b1 b2 (by omega) (by omega)
          have e1 : cf s l (sa + j) = A.getD j 0 := cfa j
          have e2 : cf t m (fr + (k : Int) - (sa + (j : Int))) = C.getD (k - j) 0 := by
            rw [show fr + (k : Int) - (sa + (j : Int)) = tb + ((k - j : Nat) : Int) by omega]
            exact cfb (k - j)
          rw [e1] at k1
          rw [e2] at k2
          have c3 : PC Tryz.prog 81 _ _ := (Zbv (Zaj t1) (Zaj t2) (by omega)).up
          have hcsh : Ht (cs A C k j) W := (ht_cs hK.1 hhl hhm k j).mono (by rw [hWd]; exact Nat.succ_le_succ (Nat.mul_le_mul_left _ (by omega)))
          have c4 : PC Tryz.prog 80 _ _ := (Zfk (Zaj hcsh) (Zaj (Zci t1 t2 hK.1)) (by omega) (by omega) (by omega)).up
          have hcs : cs A C k j + A.getD j 0 * C.getD (k - j) 0 = cs A C k (j + 1) := rfl
          rw [hcs] at c4
          clear hhl hhm cfa cfb hcsh t1 t2
          refine goA ?_
          refine evG ggA (Zab (Zaa rfl) rfl rfl opb) ?_
          refine goA ?_
          refine evG ggA (Zab (Zaa rfl) rfl rfl k1) ?_
          refine goA ?_
          refine evG ggA (Zab (Zaa rfl) rfl rfl k2) ?_
          refine evG ggA (Zab (Zaa rfl) rfl rfl c3) ?_
          refine evG ggA (Zab (Zaa rfl) rfl rfl c4) ?_
          refine goA ?_
          exact Zae (k := k + 1 - (j + 1)) (s' := mkS [(2, .ptr 2 0), (3, .ptr 3 0), (4, .ptr 4 0), (7, .v (.p (.int .i64 fr))), (8, .v (.p (.int .i64 P))), (9, .own 100 k), (10, .v (.p (.int .i64 (fr + k)))), (11, .ptr 11 0), (12, .v (.p (.int .i64 (sa + (j : Int) + 1))))] [(2, .var [.v (.p (.int .i64 s)), .v (.sl es)]), (3, .var [.v (.p (.int .i64 t)), .v (.sl fs)]), (4, var0), (11, qvar (cs A C k (j + 1))), (100, .lst 4 48 ((tk (conv A C) k).map encQ))] 77 true) (by omega) (by exact entA) ⟨j + 1, rfl, by omega, by rw [Int.natCast_succ, ← Int.add_assoc]⟩
        · obtain rfl : j = k + 1 := by omega
          have hb2 : decide (sa + ((k + 1 : Nat) : Int) ≤ fr + (k : Int) - tb) = false := by simp; omega
          refine goA ?_
          refine evG ggA (Zab (Zaa rfl) rfl rfl opb) ?_
          refine goA ?_
          exact Zac (by exact entA) rfl
      rintro _ rfl
      refine goA ?_
      (refine evG ggA (Zat (Zaa rfl) (Zai rfl) rfl rfl rfl rfl (Zb8 rfl rfl) (Nat.le_of_ble_eq_true rfl)) ?_; refine evG ggA (Zcl (Zaa rfl) (Zai rfl) rfl rfl (by first | rfl | assumption | (simp; done) | (simp; omega)) rfl (by omega) (Nat.le_of_ble_eq_true rfl) rfl) ?_)
      refine goA ?_
      exact Zae (k := N - (k + 1)) (s' := mkS [(2, .ptr 2 0), (3, .ptr 3 0), (4, .ptr 4 0), (7, .v (.p (.int .i64 fr))), (8, .v (.p (.int .i64 P))), (9, .own 100 (k + 1)), (10, .v (.p (.int .i64 (fr + (k : Int) + 1))))] [(2, .var [.v (.p (.int .i64 s)), .v (.sl es)]), (3, .var [.v (.p (.int .i64 t)), .v (.sl fs)]), (4, var0), (100, .lst 4 48 ((tk (conv A C) k ++ [conv A C k]).map encQ))] 77 true) (by omega) (by exact entA) ⟨k + 1, rfl, hlt, by rw [Zdh, Int.natCast_succ, ← Int.add_assoc]⟩
    · obtain rfl : k = N := by omega
      have hb : decide (fr + (k : Int) < min P 1000) = false := by rw [hPN]; simp
      refine goA ?_
      exact Zac (s' := mkS [(4, .ptr 4 0), (7, .v (.p (.int .i64 fr))), (9, .own 100 k)] [(4, var0), (100, .lst 4 48 ((tk (conv A C) k).map encQ))] 77 true) (by exact entA) rfl
  rintro _ rfl
  have hbuild := Zgp (s := fr) (Zbs (l := tk (conv A C) N) (k := W) (fun q hq => by obtain ⟨i, hi, rfl⟩ := Zdv hq; exact (ht_cs hK.1 hhl hhm i (i + 1)).mono (by rw [hWd]; exact Nat.succ_le_succ (Nat.mul_le_mul_left _ (by omega))))) (by omega) (by omega) (by omega) (by rw [tk_len]; omega)
  rw [Zbp] at hbuild
  refine T.weak (s' := mkS [(4, .ptr 4 0), (7, .v (.p (.int .i64 fr))), (9, .v (.sl ((tk (conv A C) N).map encQ)))] [(4, var0)] 77 true) (by exact entA) ?_
  refine goA ?_
  refine evG ggA (Zab (Zaa rfl) rfl rfl hbuild) ?_
  refine goA ?_
  exact rfl
end Ab
namespace Ab
open Go Go.RowKit Go.Proofs Hp
set_option maxRecDepth 100000
end Ab
namespace Ab
open Go Go.RowKit Go.Proofs Hp
set_option maxRecDepth 100000
theorem ht_dv {q r : Rat} {k l : Nat} (hq : Ht q k) (hr : Ht r l) (hk : 1 ≤ k) (hl : 1 ≤ l) : Ht (q / r) (k + l) := by
 rw [Rat.div_def]; exact Zci hq (ht_inv hr hl) hk
def dsg (c : List Rat) (i : Nat) : Nat → Rat
 | 0 => 0
 | d + 1 => if (i + 1) % (d + 1) = 0 then dsg c i d + (((d : Int) + 1 : Int) : Rat) * c.getD d 0 else dsg c i d
def sgs (c : List Rat) (k : Nat) : List Rat := tk (fun i => dsg c i (i + 1)) k
def prc (L : List Rat) : Nat → List Rat
 | 0 => [1]
 | m + 1 => prc L m ++ [-(iss (0 :: L) (prc L m) (m + 1) (m + 1)) / (((m : Int) + 1 : Int) : Rat)]
theorem prc_len (L : List Rat) : ∀ m, (prc L m).length = m + 1
 | 0 => rfl
 | m + 1 => by rw [prc, List.length_append, prc_len L m]; rfl
theorem rep_range' {α : Type} (n : Nat) (x : α) {g : Nat → α} (h : ∀ k, k < n → g k = x) : List.replicate n x = (List.range n).map g := by
 apply List.ext_getElem
 ·simp
 ·intro i h1 h2
  have : i < n := by simpa using h1
  simp [h i this]
theorem range_set' {α : Type} (n i : Nat) (x : α) {g g' : Nat → α} (h0 : g' i = x) (h : ∀ k, k < n → k ≠ i → g' k = g k) : ((List.range n).map g).set i x = (List.range n).map g' := by
 apply List.ext_getElem
 ·simp
 ·intro k h1 h2
  have hk : k < n := by simpa using h1
  rw [List.getElem_set]
  split
  ·rename_i e; subst e; simp [h0]
  ·rename_i e; simp [h k hk (fun e2 => e e2.symm)]
theorem range_congr' {α : Type} (n : Nat) {g g' : Nat → α} (h : ∀ k, k < n → g k = g' k) : (List.range n).map g = (List.range n).map g' := by
 apply List.ext_getElem
 ·simp
 ·intro k h1 h2
  have hk : k < n := by simpa using h1
  simp [h k hk]
end Ab
namespace Ab
open Go Go.RowKit Go.Proofs Hp
set_option maxRecDepth 100000
def thq (f : Nat → Rat) (k : Nat) : Rat := ((k : Int) : Rat) * f k
def one' (k : Nat) : Rat := if k = 0 then 1 else 0
theorem nc_congr {f f' g g' : Nat → Rat} {k : Nat} (hf : ∀ j, j ≤ k → f j = f' j) (hg : ∀ j, j ≤ k → g j = g' j) : nc f g k = nc f' g' k :=
 Zbi fun j hj => by rw [hf j (by omega), hg (k - j) (by omega)]
theorem nc_addr (f g h : Nat → Rat) (k : Nat) : nc f (fun j => g j + h j) k = nc f g k + nc f h k := by
 unfold nc
 rw [← su_add]
 exact Zbi fun j _ => Rat.mul_add _ _ _
theorem nc_smulr (c : Rat) (f g : Nat → Rat) (k : Nat) : nc f (fun j => c * g j) k = c * nc f g k := by
 unfold nc
 rw [← su_mul]
 exact Zbi fun j _ => by grind
theorem nc_smull (c : Rat) (f g : Nat → Rat) (k : Nat) : nc (fun j => c * f j) g k = c * nc f g k := by
 rw [nc_comm, nc_smulr, nc_comm]
theorem nc_fun (f g : Nat → Rat) : nc f g = nc g f := funext fun k => nc_comm f g k
theorem nc_ass (f g h : Nat → Rat) : nc (nc f g) h = nc f (nc g h) := funext fun k => nc_assoc f g h k
theorem nc_leib (f g : Nat → Rat) (k : Nat) : thq (nc f g) k = nc (thq f) g k + nc f (thq g) k := by
 unfold thq nc
 rw [← su_mul, ← su_add]
 refine Zbi fun j hj => ?_
 have e : ((k : Int) : Rat) = ((j : Int) : Rat) + (((k - j : Nat) : Int) : Rat) := by
  rw [← Rat.intCast_add]
  congr 1
  omega
 rw [e]
 grind
def pq (u : Nat → Rat) : Nat → Nat → Rat
 | 0 => one'
 | i + 1 => nc (pq u i) u
theorem thq_one (k : Nat) : thq one' k = 0 := by
 unfold thq one'
 by_cases h : k = 0
 ·subst h; simp
 ·rw [if_neg h, Rat.mul_zero]
theorem pow_id {N : Nat} {a u : Nat → Rat} {σ : Rat} (hu : ∀ k, k < N → nc a (thq u) k = σ * nc (thq a) u k) : ∀ i k, k < N → nc a (thq (pq u i)) k = (σ * ((i : Int) : Rat)) * nc (thq a) (pq u i) k
  | 0, k, _ => by
    have e : nc a (thq (pq u 0)) k = 0 := Zfc fun j _ => by
      show a j * thq one' (k - j) = 0
      rw [thq_one, Rat.mul_zero]
    rw [e]
    simp
  | i + 1, k, hk => by
    have ih := pow_id hu i
    have e1 : nc a (thq (pq u (i + 1))) k = nc a (nc (thq (pq u i)) u) k + nc a (nc (pq u i) (thq u)) k := by
      rw [← nc_addr]
      exact nc_congr (fun _ _ => rfl) fun j _ => nc_leib _ _ j
    have e2 : nc a (nc (thq (pq u i)) u) k = (σ * ((i : Int) : Rat)) * nc (thq a) (nc (pq u i) u) k := by
      rw [← nc_ass a, ← nc_ass (thq a), ← nc_smull]
      exact nc_congr (fun j hj => ih j (by omega)) fun _ _ => rfl
    have e3 : nc a (nc (pq u i) (thq u)) k = σ * nc (thq a) (nc (pq u i) u) k := by
      rw [← nc_ass a, nc_fun a (pq u i), nc_ass (pq u i), ← nc_ass (thq a), nc_fun (thq a) (pq u i), nc_ass (pq u i), ← nc_smulr]
      exact nc_congr (fun _ _ => rfl) fun j hj => hu j (by omega)
    have e4 : (((i + 1 : Nat) : Int) : Rat) = ((i : Int) : Rat) + 1 := by
      rw [show ((i + 1 : Nat) : Int) = (i : Int) + 1 from rfl, Rat.intCast_add]
      rfl
    rw [e1, e2, e3, e4]
    show _ = _ * nc (thq a) (nc (pq u i) u) k
    grind
def msum (A X : List Rat) (n : Int) (k : Nat) : Nat → Rat
 | 0 => 0
 | j + 1 => msum A X n k j + (((((j : Int) + 1) * n - k + ((j : Int) + 1)) : Int) : Rat) * (A.getD (j + 1) 0 * X.getD (k - (j + 1)) 0)
def mil (A : List Rat) (c : Rat) (n : Int) : Nat → List Rat
 | 0 => [c]
 | m + 1 => mil A c n m ++ [1 / A.getD 0 0 * msum A (mil A c n m) n (m + 1) (m + 1) / (((m : Int) + 1 : Int) : Rat)]
theorem mil_len (A : List Rat) (c : Rat) (n : Int) : ∀ m, (mil A c n m).length = m + 1
 | 0 => rfl
 | m + 1 => by rw [mil, List.length_append, mil_len A c n m]; rfl
theorem msum_su (A X : List Rat) (n : Int) (k : Nat) : ∀ j, msum A X n k j = su (fun i => (((((i : Int) + 1) * n - k + ((i : Int) + 1)) : Int) : Rat) * (A.getD (i + 1) 0 * X.getD (k - (i + 1)) 0)) j
 | 0 => rfl
 | j + 1 => by rw [msum, su, msum_su A X n k j]
theorem mil_eq {A : List Rat} {p : Nat → Rat} {n : Int} {M : Nat} (h0 : A.getD 0 0 ≠ 0) (hp : ∀ k, k ≤ M → nc (fun j => A.getD j 0) (thq p) k = (n : Rat) * nc (thq fun j => A.getD j 0) p k) :
    ∀ m, m ≤ M → mil A (p 0) n m = tk p (m + 1)
  | 0, _ => rfl
  | m + 1, hm => by
    have ih := mil_eq h0 hp m (by omega)
    rw [mil, ih, Zdh p (m + 1)]
    congr 2
    have hk := hp (m + 1) hm
    have z : thq (fun j => A.getD j 0) 0 = 0 := by unfold thq; simp
    have hk1 : nc (fun j => A.getD j 0) (thq p) (m + 1) = A.getD 0 0 * thq p (m + 1) + su (fun j => A.getD (j + 1) 0 * thq p (m + 1 - (j + 1))) (m + 1) := by unfold nc; rw [su_front]; rfl
    have hk2 : nc (thq fun j => A.getD j 0) p (m + 1) = su (fun j => thq (fun j => A.getD j 0) (j + 1) * p (m + 1 - (j + 1))) (m + 1) := by
      unfold nc
      rw [su_front, z, Rat.zero_mul, Rat.zero_add]
    rw [hk1, hk2, ← su_mul] at hk
    have key : msum A (tk p (m + 1)) n (m + 1) (m + 1) = A.getD 0 0 * thq p (m + 1) := by
      have e1 : A.getD 0 0 * thq p (m + 1) = su (fun j => (n : Rat) * (thq (fun j => A.getD j 0) (j + 1) * p (m + 1 - (j + 1)))) (m + 1) + (-1) * su (fun j => A.getD (j + 1) 0 * thq p (m + 1 - (j + 1))) (m + 1) := by
        rw [← hk]
        grind
      rw [e1, ← su_mul, ← su_add, msum_su]
      refine Zbi fun j hj => ?_
      rw [show (tk p (m + 1)).getD (m + 1 - (j + 1)) 0 = p (m + 1 - (j + 1)) by unfold tk; simp [List.getD_eq_getElem?_getD, show m - j < m + 1 by omega, show m + 1 - (j + 1) = m - j by omega]]
      unfold thq
      have e2 : (((((j : Int) + 1) * n - ((m + 1 : Nat) : Int) + ((j : Int) + 1)) : Int) : Rat) = (n : Rat) * (((j + 1 : Nat) : Int) : Rat) - (((m + 1 - (j + 1) : Nat) : Int) : Rat) := by
        rw [← Rat.intCast_mul, ← Rat.intCast_sub]
        congr 1
        have : ((m + 1 - (j + 1) : Nat) : Int) = ((m + 1 : Nat) : Int) - ((j : Int) + 1) := by omega
        rw [this, show ((j + 1 : Nat) : Int) = (j : Int) + 1 from rfl, Int.mul_comm n]
        omega
      rw [e2]
      grind
    rw [key]
    unfold thq
    have hne : (((m : Int) + 1 : Int) : Rat) ≠ 0 := fun e => by
      have := Rat.intCast_eq_zero_iff.1 e
      omega
    show 1 / A.getD 0 0 * (A.getD 0 0 * ((((m : Int) + 1 : Int) : Rat) * p (m + 1))) / (((m : Int) + 1 : Int) : Rat) = _
    grind
def rpw (x : Rat) : Nat → Rat
 | 0 => 1
 | k + 1 => rpw x k * x
def bas (x : Rat) (n : Int) : Rat := if n < 0 then 1 / x else x
def powL (A : List Rat) (n : Int) (m : Nat) : List Rat := mil A (rpw (bas (A.getD 0 0) n) n.natAbs) n m
theorem mil_take (A : List Rat) (c : Rat) (n : Int) : ∀ M m, m ≤ M → (mil A c n M).take (m + 1) = mil A c n m
  | 0, m, h => by
    obtain rfl : m = 0 := by omega
    rfl
  | M + 1, m, h => by
    have hl := mil_len A c n M
    by_cases h1 : m = M + 1
    · subst h1
      rw [List.take_of_length_le (by rw [mil_len]; omega)]
    · rw [mil, List.take_append_of_le_length (by omega)]
      exact mil_take A c n M m (by omega)
theorem lead00 {l : List Rat} (h : l.getD 0 0 ≠ 0) : lead l = 0 := by
  cases l with
  | nil => exact absurd rfl h
  | cons q r =>
    unfold lead
    rw [if_neg (show ¬ q = 0 from h)]
theorem inv_nc' {A : List Rat} {N : Nat} (h0 : A.getD 0 0 ≠ 0) (k : Nat) (hk : k < N) : nc (fun j => A.getD j 0) (fun j => (ivs A N).getD j 0) k = one' k := by
  unfold nc
  rw [su_front]
  show A.getD 0 0 * (ivs A N).getD (k - 0) 0 + su (fun j => A.getD (j + 1) 0 * (ivs A N).getD (k - (j + 1)) 0) k = _
  rw [Nat.sub_zero, ivs_get A N k hk]
  have hc := Rat.mul_inv_cancel _ h0
  have h1 : A.getD 0 0 * (1 / A.getD 0 0) = 1 := by rw [Rat.div_def, Rat.one_mul]; exact hc
  unfold one'
  by_cases hk0 : k = 0
  · subst hk0
    rw [if_pos rfl, if_pos rfl, su, h1, Rat.add_zero]
  · rw [if_neg hk0, if_neg hk0]
    have e : iss A (ivs A k) k k = su (fun j => A.getD (j + 1) 0 * (ivs A N).getD (k - (j + 1)) 0) k := by
      have key : ∀ j, j ≤ k → iss A (ivs A k) k j = su (fun j => A.getD (j + 1) 0 * (ivs A N).getD (k - (j + 1)) 0) j := by
        intro j
        induction j with
        | zero => intro _; rfl
        | succ j ih =>
          intro hj
          rw [iss, su, ih (by omega), ivs_get A k _ (by omega), ivs_get A N _ (by omega)]
      exact key k (Nat.le_refl k)
    rw [← e]
    generalize iss A (ivs A k) k k = S at *
    generalize 1 / A.getD 0 0 = fi at *
    have : A.getD 0 0 * -(fi * S) = -((A.getD 0 0 * fi) * S) := by grind
    rw [this, h1]
    grind
def ubase (A : List Rat) (n : Int) : List Rat := if n < 0 then ivs A A.length else A
def sgi (n : Int) (i : Nat) : Int := if n < 0 then -(i : Int) else (i : Int)
theorem pq0 (u : Nat → Rat) : ∀ i, pq u i 0 = rpw (u 0) i
  | 0 => rfl
  | i + 1 => by
    show nc (pq u i) u 0 = rpw (u 0) i * u 0
    unfold nc
    rw [su, su, Rat.zero_add, pq0 u i]
theorem rpw_bas (x : Rat) (n : Int) (i : Nat) : rpw (bas x (sgi n i)) (sgi n i).natAbs = rpw (bas x n) i := by
 unfold sgi
 by_cases hn : n < 0
 ·rw [if_pos hn]
  by_cases hi : i = 0
  ·subst hi; rfl
  ·have e1 : bas x (-(i : Int)) = bas x n := by unfold bas; rw [if_pos (by omega), if_pos hn]
   rw [e1]
   congr 1
   omega
 ·rw [if_neg hn]
  have e1 : bas x (i : Int) = bas x n := by unfold bas; rw [if_neg (by omega), if_neg hn]
  rw [e1]
  congr 1
theorem pow_eq {A : List Rat} (h0 : A.getD 0 0 ≠ 0) (hN : 0 < A.length) (n : Int) (i : Nat) : tk (pq (fun j => (ubase A n).getD j 0) i) A.length = powL A (sgi n i) (A.length - 1) := by
 have hu0 : (ubase A n).getD 0 0 = bas (A.getD 0 0) n := by
  unfold ubase bas
  split
  ·rw [ivs_get A _ 0 hN, if_pos rfl]
  ·rfl
 have hid : ∀ k, k < A.length → nc (fun j => A.getD j 0) (thq (pq (fun j => (ubase A n).getD j 0) i)) k = ((sgi n i : Int) : Rat) * nc (thq fun j => A.getD j 0) (pq (fun j => (ubase A n).getD j 0) i) k := by
  intro k hk
  by_cases hn : n < 0
  ·have e := pow_id (N := A.length) (a := fun j => A.getD j 0) (u := fun j => (ubase A n).getD j 0) (σ := -1) (fun k hk => by
    have hl := nc_leib (fun j => A.getD j 0) (fun j => (ubase A n).getD j 0) k
    have hz : thq (nc (fun j => A.getD j 0) (fun j => (ubase A n).getD j 0)) k = 0 := by
     unfold ubase
     rw [if_pos hn]
     have : thq (nc (fun j => A.getD j 0) (fun j => (ivs A A.length).getD j 0)) k = thq one' k := by
      unfold thq
      rw [inv_nc' h0 k hk]
     rw [this, thq_one]
    rw [hz] at hl
    grind) i k hk
   rw [e]
   unfold sgi
   rw [if_pos hn, Rat.intCast_neg]
   congr 1
   grind
  ·have e := pow_id (N := A.length) (a := fun j => A.getD j 0) (u := fun j => (ubase A n).getD j 0) (σ := 1) (fun k hk => by
    unfold ubase
    rw [if_neg hn, Rat.one_mul, nc_comm]) i k hk
   rw [e]
   unfold sgi
   rw [if_neg hn, Rat.one_mul]
 have key := mil_eq (A := A) (p := pq (fun j => (ubase A n).getD j 0) i) (n := sgi n i) (M := A.length - 1) h0 (fun k hk => hid k (by omega)) (A.length - 1) (Nat.le_refl _)
 rw [show A.length - 1 + 1 = A.length by omega, pq0] at key
 unfold powL
 rw [rpw_bas, ← hu0]
 exact key.symm
theorem tk_get' {f : Nat → Rat} {n i : Nat} (h : i < n) : ((List.range n).map f).getD i 0 = f i := by
 rw [List.getD_eq_getElem?_getD, List.getElem?_map, List.getElem?_range h]
 rfl
end Ab
