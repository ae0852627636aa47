import Derived.Test.YtdbkmjahbgcjbaaGreatDoorZJ
import Derived.Test.YtdbkmjahbgcjbaaGreatDoorGood
set_option linter.all false
namespace Ab
open Go Go.RowKit Go.Proofs Hp
set_option maxRecDepth 100000
theorem ht_iss2 {l x : List Rat} {P Q : Nat} (hP : 1 ≤ P) (hQ : 1 ≤ Q) (hl : ∀ q, q ∈ l → Ht q P) (hx : ∀ q, q ∈ x → Ht q Q) (k : Nat) : ∀ j, Ht (iss l x k j) (1 + j * (P + Q + 1))
 | 0 => (ht0 (Nat.le_refl _)).mono (by omega)
 | j + 1 => (ht_add (ht_iss2 hP hQ hl hx k j) (ht_mul (getD_ht hP hl (j + 1)) (getD_ht hQ hx (k - (j + 1))) hP)).mono (by rw [Nat.add_mul j 1]; omega)
set_option maxHeartbeats 400000 in
theorem invV_p {s : Int} {es : List AV} {l : List Rat} {K : Nat} (h : ValidP s es.length = true → IsL es K l ∧ l.length ≤ 200) (hle : es.length = l.length) (hr : InR s es.length) (hK : 1 ≤ K ∧ K ≤ 1000000) {Q : Nat} (hQ : 1 ≤ Q ∧ Q ≤ 1000000) (hX0 : ValidP s es.length = true → ∀ k, k ≤ (l.drop (lead l)).length → ∀ q, q ∈ ivs (l.drop (lead l)) k → Ht q Q) : PC Tryz.prog 173 [serA s es] (serT (invT s l)) := by
  obtain ⟨i1, i2, i3⟩ := hr
  have hva := valid_p i1 i2 i3
  unfold invT
  rw [← hle]
  cases h1 : ValidP s es.length with
  | false =>
    rw [h1] at hva
    refine pc_body2 true Tryz.func173 rfl rfl rfl (Nat.le_of_ble_eq_true rfl) (CellT.agg agg_ser) CellT.tmp ?_
    refine goA ?_
    refine evG ggA (ss_call (InB_of rfl) rfl rfl hva) ?_
    refine goA ?_
    exact rfl
  | true =>
  rw [h1] at hva
  obtain ⟨hL, hl24⟩ := h h1
  have hQv := hX0 h1
  obtain ⟨a0, a1, a2⟩ := valid_iff.1 h1
  simp only [if_true]
  have hta := tidy_p hL (by omega) a0 a1 a2
  have hla := lead_le l
  have hhl : ∀ q, q ∈ l.drop (lead l) → Ht q K := fun q hq => isL_ht hL hK.1 q (List.mem_of_mem_drop hq)
  have hld : (l.drop (lead l)).length + lead l = l.length := by rw [List.length_drop]; omega
  have hne := lead_ne l
  have hd0 : ∀ q, (l.drop (lead l))[0]? = some q → q ≠ 0 := fun q hq => hne q (by rw [List.getElem?_drop] at hq; exact hq)
  generalize l.drop (lead l) = A at *
  generalize hsa : s + (lead l : Int) = sa at *
  by_cases hA : A = []
  · subst hA
    simp only [if_true]
    refine pc_body2 true Tryz.func173 rfl rfl rfl (Nat.le_of_ble_eq_true rfl) (CellT.agg agg_ser) CellT.tmp ?_
    refine goA ?_
    refine evG ggA (ss_call (InB_of rfl) rfl rfl hva) ?_
    refine goA ?_
    refine evG ggA (ss_call (InB_of rfl) rfl rfl hta) ?_
    refine goA ?_
    exact rfl
  rw [if_neg hA]
  have hA0 : 0 < A.length := List.length_pos_iff.2 hA
  have hbne : (((A.map encQ).length : Int) == 0) = false := by simp; exact hA
  obtain ⟨q0, hq0⟩ : ∃ q, A[0]? = some q := ⟨_, List.getElem?_eq_getElem hA0⟩
  have g0 : A.getD 0 0 = q0 := by rw [List.getD_eq_getElem?_getD, hq0]; rfl
  have t0 := hhl q0 (List.mem_of_getElem? hq0)
  have c1 := rof_p 1 (by decide) (by decide)
  have c2 := rquo_p (isV_encQ (ht_int (c := 1) (by decide))) (by omega) (isV_encQ t0) (by omega) (hd0 q0 hq0)
  rw [show ((1 : Int) : Rat) = 1 from rfl] at c1 c2
  have hof := rof_p 0 (by decide) (by decide)
  rw [show ((0 : Int) : Rat) = 0 from rfl] at hof
  generalize hfi : 1 / q0 = fi at *
  have tfi : Ht fi K := by rw [← hfi, Rat.div_def, Rat.one_mul]; exact ht_inv t0 hK.1
  have n0 := enc_at hq0
  have hiv1 : ivs A 1 = [fi] := by rw [ivs, g0, hfi]
  refine pc_body2 true Tryz.func173 rfl rfl rfl (Nat.le_of_ble_eq_true rfl) (CellT.agg agg_ser) CellT.tmp ?_
  refine goA ?_
  refine evG ggA (ss_call (InB_of rfl) rfl rfl hva) ?_
  refine goA ?_
  refine evG ggA (ss_call (InB_of rfl) rfl rfl hta) ?_
  refine goA ?_
  refine evG ggA (ss_call (InB_of rfl) rfl rfl c1) ?_
  refine goA ?_
  refine evG ggA (ss_index_sl (InB_of rfl) (elem_tab rfl) rfl rfl (by decide) n0 rfl) ?_
  refine goA ?_
  refine evG ggA (ss_call (InB_of rfl) rfl rfl c2) ?_
  refine runA ?_
  refine ev_nil ?_
  refine seqQ_n ?_
  refine T.weak (s' := mkS [(1, .ptr 1 0), (2, .ptr 2 0), (4, .ptr 4 0)] [(1, svar sa A), (2, var0), (4, qvar fi)] 73 true) (by exact entA) ?_
  refine T.seq ?_
  refine regA ?_
  refine runA ?_
  refine evG ggA (ss_bslice_own 31 (InB_of rfl) rfl (make_tab rfl) rfl rfl rfl rfl (one_ok rfl rfl) (Nat.le_of_ble_eq_true rfl) (by decide) (fun _ a ha => by rw [List.mem_singleton] at ha; subst ha; exact encQ_nu fi)) ?_
  refine runA ?_
  refine ev_nil ?_
  refine seqQ_n ?_
  refine T.seqI (fun s1 => s1 = mkS [(1, .ptr 1 0), (2, .ptr 2 0), (6, .own 31 A.length)] [(1, svar sa A), (2, var0), (31, .lst 4 56 ((ivs A A.length).map encQ))] 73 true) ?_ ?_
  · refine r1A ?_
    refine T.block ?_
    refine T.loop (fun n s1 => ∃ k : Nat, n = A.length - k ∧ 1 ≤ k ∧ k ≤ A.length ∧ s1 = mkS [(1, .ptr 1 0), (2, .ptr 2 0), (4, .ptr 4 0), (6, .own 31 k), (7, .v (.p (.int .i64 k)))] [(1, svar sa A), (2, var0), (4, qvar fi), (31, .lst 4 56 ((ivs A k).map encQ))] 73 true) (A.length - 1)
      (s' := mkS [(1, .ptr 1 0), (2, .ptr 2 0), (4, .ptr 4 0), (6, .own 31 1), (7, .v (.p (.int .i64 (1 : Nat))))] [(1, svar sa A), (2, var0), (4, qvar fi), (31, .lst 4 56 ([fi].map encQ))] 73 true) (by exact entA) ⟨1, rfl, Nat.le_refl _, hA0, by rw [hiv1]⟩ ?_
    rintro n _ ⟨k, rfl, hk1, hk, rfl⟩
    have hlen31 : (ivs A k).length = k := ivs_len A k
    by_cases hlt : k < A.length
    · have hb : decide ((k : Int) < ((A.map encQ).length : Int)) = true := by simp; omega
      have hxk : ∀ i, i < k → Ht ((ivs A k).getD i 0) Q := fun i _ => getD_ht hQ.1 (hQv k (by omega)) i
      have hissh : ∀ j, j ≤ k → Ht (iss A (ivs A k) k j) (1 + j * (K + Q + 1)) := fun j _ => ht_iss2 hK.1 hQ.1 hhl (hQv k (by omega)) k j
      refine T.seq ?_
      refine T.seq ?_
      refine regA ?_
      refine runA ?_
      refine ev_nil ?_
      refine seqQ_n ?_
      refine T.condT rfl hb ?_
      refine T.skip ?_
      refine seqQ_n ?_
      refine T.seq ?_
      refine T.block ?_
      refine T.seq ?_
      refine regA ?_
      refine runA ?_
      refine evG ggA (ss_call (InB_of rfl) rfl rfl hof) ?_
      refine runA ?_
      refine ev_nil ?_
      refine seqQ_n ?_
      generalize hX : ivs A k = X at *
      refine T.seqI (fun s1 => s1 = mkS [(1, .ptr 1 0), (2, .ptr 2 0), (4, .ptr 4 0), (6, .own 31 k), (7, .v (.p (.int .i64 k))), (8, .ptr 8 0)] [(1, svar sa A), (2, var0), (4, qvar fi), (8, qvar (iss A X k k)), (31, .lst 4 56 (X.map encQ))] 73 true) ?_ ?_
      · refine r1A ?_
        refine T.block ?_
        refine T.loop (fun n s1 => ∃ j : Nat, n = k - j ∧ j ≤ k ∧ s1 = mkS [(1, .ptr 1 0), (2, .ptr 2 0), (4, .ptr 4 0), (6, .own 31 k), (7, .v (.p (.int .i64 k))), (8, .ptr 8 0), (9, .v (.p (.int .i64 ((j : Int) + 1))))] [(1, svar sa A), (2, var0), (4, qvar fi), (8, qvar (iss A X k j)), (31, .lst 4 56 (X.map encQ))] 73 true) k
          (s' := mkS [(1, .ptr 1 0), (2, .ptr 2 0), (4, .ptr 4 0), (6, .own 31 k), (7, .v (.p (.int .i64 k))), (8, .ptr 8 0), (9, .v (.p (.int .i64 1)))] [(1, svar sa A), (2, var0), (4, qvar fi), (8, qvar (iss A X k 0)), (31, .lst 4 56 (X.map encQ))] 73 true) (by exact entA) ⟨0, rfl, Nat.zero_le _, rfl⟩ ?_
        rintro n _ ⟨j, rfl, hj, rfl⟩
        by_cases hjk : j < k
        · have hb2 : decide ((j : Int) + 1 ≤ (k : Int)) = true := by simp; omega
          obtain ⟨q1, hq1⟩ : ∃ q, A[j + 1]? = some q := ⟨_, List.getElem?_eq_getElem (by omega)⟩
          obtain ⟨q2, hq2⟩ : ∃ q, X[k - (j + 1)]? = some q := ⟨_, List.getElem?_eq_getElem (by omega)⟩
          have g1 : A.getD (j + 1) 0 = q1 := by rw [List.getD_eq_getElem?_getD, hq1]; rfl
          have g2 : X.getD (k - (j + 1)) 0 = q2 := by rw [List.getD_eq_getElem?_getD, hq2]; rfl
          have t1 := hhl q1 (List.mem_of_getElem? hq1)
          have t2 : Ht q2 Q := by rw [← g2]; exact hxk _ (by omega)
          have n1 : (A.map encQ)[((j : Int) + 1).toNat]? = some (encQ q1) := by rw [show ((j : Int) + 1).toNat = j + 1 by omega]; exact enc_at hq1
          have n2 : (X.map encQ)[((k : Int) - ((j : Int) + 1)).toNat]? = some (encQ q2) := by rw [show ((k : Int) - ((j : Int) + 1)).toNat = k - (j + 1) by omega]; exact enc_at hq2
          have hx0 : (X.map encQ).length = k := by rw [List.length_map, hlen31]
          have c3 := rmul_p (isV_encQ t1) (by omega) (isV_encQ t2) (by omega)
          have hish : Ht (iss A X k j) (1000000000) := (hissh j (by omega)).mono (by have : j * (K + Q + 1) ≤ 200 * (K + Q + 1) := Nat.mul_le_mul_right _ (by omega); omega)
          have c4 := radd_p (isV_encQ hish) (by omega) (isV_encQ (ht_mul t1 t2 hK.1)) (by omega)
          have hcs : iss A X k (j + 1) = iss A X k j + q1 * q2 := by show iss A X k j + A.getD (j + 1) 0 * X.getD (k - (j + 1)) 0 = _; rw [g1, g2]
          rw [← hcs] at c4
          refine goA ?_
          refine evG ggA (ss_index_sl (InB_of rfl) (elem_tab rfl) rfl rfl (by omega) n1 rfl) ?_
          refine goA ?_
          refine evG ggA (ss_index_own (InB_of rfl) (elem_tab rfl) rfl rfl hx0 rfl (by omega) (by omega)) ?_
          refine evG ggA (ss_load_opagg (InB_of rfl) (agg_tab rfl) rfl rfl hx0 n2) ?_
          refine evG ggA (ss_call (InB_of rfl) rfl rfl c3) ?_
          refine evG ggA (ss_call (InB_of rfl) rfl rfl c4) ?_
          refine goA ?_
          exact loopQ_intro (k := k - (j + 1)) (s' := mkS [(1, .ptr 1 0), (2, .ptr 2 0), (4, .ptr 4 0), (6, .own 31 k), (7, .v (.p (.int .i64 k))), (8, .ptr 8 0), (9, .v (.p (.int .i64 ((j : Int) + 1 + 1))))] [(1, svar sa A), (2, var0), (4, qvar fi), (8, qvar (iss A X k (j + 1))), (31, .lst 4 56 (X.map encQ))] 73 true) (by omega) (by exact entA) ⟨j + 1, rfl, by omega, rfl⟩
        · obtain rfl : j = k := by omega
          have hb2 : decide ((j : Int) + 1 ≤ (j : Int)) = false := by simp; omega
          refine goA ?_
          exact midQ_intro (by exact entA) rfl
      rintro _ rfl
      have his : Ht (iss A X k k) (1000000000) := (hissh k (Nat.le_refl _)).mono (by have : k * (K + Q + 1) ≤ 200 * (K + Q + 1) := Nat.mul_le_mul_right _ (by omega); omega)
      have c5 := rmul_p (isV_encQ tfi) (by omega) (isV_encQ his) (by omega)
      have c6 := rneg_p (isV_encQ (ht_mul tfi his hK.1)) (by omega)
      have hstep : ivs A (k + 1) = X ++ [-(fi * iss A X k k)] := by
        obtain ⟨k', rfl⟩ : ∃ k', k = k' + 1 := ⟨k - 1, by omega⟩
        rw [ivs, hX, g0, hfi]
      refine regA ?_
      refine runA ?_
      refine evG ggA (ss_call (InB_of rfl) rfl rfl c5) ?_
      refine evG ggA (ss_call (InB_of rfl) rfl rfl c6) ?_
      (refine evG ggA (ss_bslice (InB_of rfl) (make_tab rfl) rfl rfl rfl rfl (one_ok rfl rfl) (Nat.le_of_ble_eq_true rfl)) ?_; refine evG ggA (ss_snoc (InB_of rfl) (make_tab rfl) rfl rfl (by first | rfl | assumption | (simp; done) | (simp; omega)) rfl (by omega) (Nat.le_of_ble_eq_true rfl) rfl) ?_)
      refine goA ?_
      exact loopQ_intro (k := A.length - (k + 1)) (s' := mkS [(1, .ptr 1 0), (2, .ptr 2 0), (4, .ptr 4 0), (6, .own 31 (k + 1)), (7, .v (.p (.int .i64 ((k : Int) + 1))))] [(1, svar sa A), (2, var0), (4, qvar fi), (31, .lst 4 56 ((X ++ [-(fi * iss A X k k)]).map encQ))] 73 true) (by omega) (by exact entA) ⟨k + 1, rfl, by omega, hlt, by rw [hstep]; rfl⟩
    · obtain rfl : k = A.length := by omega
      have hb : decide ((A.length : Int) < ((A.map encQ).length : Int)) = false := by simp
      refine goA ?_
      exact midQ_intro (s' := mkS [(1, .ptr 1 0), (2, .ptr 2 0), (6, .own 31 A.length)] [(1, svar sa A), (2, var0), (31, .lst 4 56 ((ivs A A.length).map encQ))] 73 true) (by exact entA) rfl
  rintro _ rfl
  have hl2 := ivs_len A A.length
  have hQA := hQv A.length (Nat.le_refl _)
  generalize hX : ivs A A.length = X at *
  have hbuild := build_p (s := -sa) (isL_enc (l := X) (k := Q) hQA) (by omega) (by omega) (by omega) (by omega)
  rw [serE_T] at hbuild
  have hneg : -sa = 0 - sa := by omega
  rw [hneg] at hbuild ⊢
  have hx0 : (X.map encQ).length = A.length := by rw [List.length_map, hl2]
  refine T.weak (s' := mkS [(1, .ptr 1 0), (2, .ptr 2 0), (6, .v (.sl (X.map encQ)))] [(1, svar sa A), (2, var0)] 73 true) (by exact entA) ?_
  refine goA ?_
  refine evG ggA (ss_call (InB_of rfl) rfl rfl hbuild) ?_
  refine goA ?_
  exact rfl
theorem rsign2_p {a : AV} {k : Nat} {q : Rat} (h : IsV a k q) (hk : k ≤ 17592186044416) : ∃ dsg : Int, (dsg = 0 ↔ q = 0) ∧ PW Tryz.prog 86 [a] (.p (.int .i64 dsg)) := by
 obtain ⟨cs, ds, n, d, rfl, h1, h2, rfl⟩ := h
 have c1 := refsign_p ⟨cs, rfl, h1⟩ hk
 have c2 := refsign_p ⟨ds, rfl, h2⟩ hk
 obtain ⟨m1, m2, m3⟩ := sgn_mul_range n d
 refine ⟨sgn n * sgn d, m3, ?_⟩
 obtain ⟨g, x, rfl, -⟩ := h1
 obtain ⟨g', x', rfl, -⟩ := h2
 refine pc_body1 false Tryz.func86 rfl rfl rfl (Nat.le_of_ble_eq_true rfl) CellT.tmp ?_
 refine goA ?_
 refine evG ggA (ss_call (InB_of rfl) rfl rfl c1) ?_
 refine goA ?_
 refine evG ggA (ss_call (InB_of rfl) rfl rfl c2) ?_
 refine goA ?_
 exact rfl
theorem rat_div_eq (p q : Rat) : p / q = Rat.divInt (p.num * q.den) (p.den * q.num) := by
 rw [Rat.div_def, Rat.inv_def]
 conv => lhs; rw [← Rat.num_divInt_den p]
 rw [Rat.divInt_mul_divInt]
theorem ratio_p {a b : AV} {k l : Nat} {p q : Rat} (ha : IsV a k p) (hb : IsV b l q) (h1 : 1 ≤ k) (h2 : 1 ≤ l) (hk : k + l ≤ 274877906944) : PW Tryz.prog 219 [a, b] (encQ (p / q)) := by
 have hp := isV_ht ha h1
 have hq := isV_ht hb h2
 have n1 := refnormal_p ha (by omega)
 have n2 := refnormal_p hb (by omega)
 have dp : ((p.den : Nat) : Int).natAbs < pw k := by rw [Int.natAbs_natCast]; exact hp.2
 have dq : ((q.den : Nat) : Int).natAbs < pw l := by rw [Int.natAbs_natCast]; exact hq.2
 have c1 := refmul_p (isI_encI hp.1) (isI_encI dq) (by omega) (by omega)
 have c2 := refmul_p (isI_encI dp) (isI_encI hq.1) (by omega) (by omega)
 have c3 := over_p (isI_encI (lt_mul hp.1 dq)) (isI_encI (lt_mul dp hq.1)) hk
 rw [rat_div_eq]
 obtain ⟨g, x, g', x', rfl⟩ := isV_cells ha
 obtain ⟨j, y, j', y', rfl⟩ := isV_cells hb
 clear ha hb hp hq dp dq
 unfold encI at c1 c2 c3
 unfold encQ at n1 n2 c3 ⊢
 refine pc_body1 false Tryz.func219 rfl rfl rfl (Nat.le_of_ble_eq_true rfl) (CellT.agg agg_rat) ?_
 refine goA ?_
 refine evG ggA (ss_call (InB_of rfl) rfl rfl n1) ?_
 refine goA ?_
 refine evG ggA (ss_call (InB_of rfl) rfl rfl n2) ?_
 refine goA ?_
 refine evG ggA (ss_call (InB_of rfl) rfl rfl c1) ?_
 refine goA ?_
 refine evG ggA (ss_call (InB_of rfl) rfl rfl c2) ?_
 refine evG ggA (ss_call (InB_of rfl) rfl rfl c3) ?_
 refine goA ?_
 exact rfl
theorem refquo2_p {a b : AV} {k l : Nat} {p q : Rat} (ha : IsV a k p) (hb : IsV b l q) (h1 : 1 ≤ k) (h2 : 1 ≤ l) (hk : k + l ≤ 274877906944) (h0 : q ≠ 0) : PW Tryz.prog 175 [a, b] (.tup [encQ (p / q), .p (.int .i64 0)]) := by
 obtain ⟨dsg, hsg, c1⟩ := rsign2_p hb (by omega)
 have c2 := ratio_p ha hb h1 h2 hk
 have hb1 : (dsg == 0) = false := by
  have : ¬ dsg = 0 := fun e => h0 (hsg.1 e)
  simp [this]
 obtain ⟨g, x, g', x', rfl⟩ := isV_cells ha
 obtain ⟨j, y, j', y', rfl⟩ := isV_cells hb
 unfold encQ at c2 ⊢
 refine pc_body2 false Tryz.func175 rfl rfl rfl (Nat.le_of_ble_eq_true rfl) (CellT.agg agg_rat) CellT.tmp ?_
 refine goA ?_
 refine evG ggA (ss_call (InB_of rfl) rfl rfl c1) ?_
 refine goA ?_
 refine evG ggA (ss_call (InB_of rfl) rfl rfl c2) ?_
 refine goA ?_
 exact rfl
theorem empty_p (p : Int) : PC Tryz.prog 92 [.p (.int .i64 p)] (serA p []) := by
 refine pc_body1 true Tryz.func92 rfl rfl rfl (Nat.le_of_ble_eq_true rfl) (CellT.agg agg_ser) ?_
 refine goA ?_
 exact rfl
theorem cf_at (s : Int) (l : List Rat) (j : Nat) : cf s l (s + lead l + j) = (l.drop (lead l)).getD j 0 := by
 unfold cf
 rw [if_neg (by omega), show (s + (lead l : Int) + (j : Int) - s).toNat = lead l + j by omega]
 simp [List.getD_eq_getElem?_getD]
theorem nrm_end {s : Int} {l : List Rat} (h : 1000 ≤ s) : nrm s l = some (1000, []) := by
 have h1 : nfrom s = 1000 := by unfold nfrom; split <;> omega
 have h2 : ncut s l = [] := by
  unfold ncut
  split
  ·rfl
  ·rw [show (1000 - s).toNat = 0 by omega, List.take_zero]
 unfold nrm
 rw [h1, h2]
 rfl
set_option maxHeartbeats 4000000 in
theorem rmul33_p {s t : Int} {es fs : List AV} {l m : List Rat} {K M : Nat} (h : Both s es t fs K l m) (hK1 : 1 ≤ K) (hM1 : 1 ≤ M) (hW0 : (2 * K + 1) * M + 1 ≤ 137438953472) (hAM0 : ValidP s es.length = true → es.length ≤ M) : PC Tryz.prog 98 [serA s es, serA t fs] (serE (mulR s l t m)) := by
  have hK : 1 ≤ K ∧ K ≤ 68719476735 := ⟨hK1, by have := Nat.mul_le_mul_left (2 * K + 1) hM1; omega⟩
  obtain ⟨h0, hle, hlf, i1, i2⟩ := h
  have ctw := two_p i1 i2
  rw [serE_eq]
  unfold mulR
  rw [← hle, ← hlf]
  cases hv : ValidP s es.length && ValidP t fs.length with
  | false =>
    rw [hv] at ctw
    refine pc_body2 true Tryz.func98 rfl rfl rfl (Nat.le_of_ble_eq_true rfl) (CellT.agg agg_ser) CellT.tmp ?_
    refine goA ?_
    refine evG ggA (ss_call (InB_of rfl) rfl rfl ctw) ?_
    refine goA ?_
    exact rfl
  | true =>
  rw [hv] at ctw
  simp only [Bool.and_eq_true] at hv
  have hAM := hAM0 hv.1
  clear hAM0
  obtain ⟨W, hWd⟩ : ∃ W, W = (2 * K + 1) * M + 1 := ⟨_, rfl⟩
  rw [← hWd] at hW0
  obtain ⟨hL, hM⟩ := h0 hv.1 hv.2
  obtain ⟨a0, a1, a2⟩ := valid_iff.1 hv.1
  obtain ⟨b0, b1, b2⟩ := valid_iff.1 hv.2
  simp only [if_true]
  have opa := rord_p hL (by omega) a0 a1 a2
  have opb := rord_p hM (by omega) b0 b1 b2
  have ppa := rprec_p a0 a1 a2
  have ppb := rprec_p b0 b1 b2
  have hla := lead_le l
  have hlb := lead_le m
  have hhl : ∀ q, q ∈ l.drop (lead l) → Ht q K := fun q hq => isL_ht hL hK.1 q (List.mem_of_mem_drop hq)
  have hhm : ∀ q, q ∈ m.drop (lead m) → Ht q K := fun q hq => isL_ht hM hK.1 q (List.mem_of_mem_drop hq)
  have hld : (l.drop (lead l)).length + lead l = l.length := by rw [List.length_drop]; omega
  have hmd : (m.drop (lead m)).length + lead m = m.length := by rw [List.length_drop]; omega
  have cfa := cf_at s l
  have cfb := cf_at t m
  generalize l.drop (lead l) = A at *
  generalize m.drop (lead m) = C at *
  generalize hsa : s + (lead l : Int) = sa at *
  generalize htb' : t + (lead m : Int) = tb at *
  have hfr : -200 ≤ sa + tb ∧ sa + tb ≤ 2000 := by omega
  obtain ⟨P, hP⟩ : ∃ P, P = min (s + (es.length : Int) + tb) (t + (fs.length : Int) + sa) := ⟨_, rfl⟩
  refine pc_body2 true Tryz.func98 rfl rfl rfl (Nat.le_of_ble_eq_true rfl) (CellT.agg agg_ser) CellT.tmp ?_
  refine r1A ?_
  refine T.seqI (fun s1 => s1 = mkS [(2, .ptr 2 0), (3, .ptr 3 0), (4, .ptr 4 0)] [(2, .var [.v (.p (.int .i64 s)), .v (.sl es)]), (3, .var [.v (.p (.int .i64 t)), .v (.sl fs)]), (4, var0)] 77 true) ?_ ?_
  · refine goA ?_
    refine evG ggA (ss_call (InB_of rfl) rfl rfl ctw) ?_
    refine goA ?_
    exact midQ_intro (by exact entA) rfl
  rintro _ rfl
  refine T.seq ?_
  refine regA ?_
  refine runA ?_
  refine evG ggA (ss_call (InB_of rfl) rfl rfl opa) ?_
  refine runA ?_
  refine evG ggA (ss_call (InB_of rfl) rfl rfl opb) ?_
  refine runA ?_
  refine ev_nil ?_
  refine seqQ_n ?_
  refine T.seqI (fun s1 => s1 = mkS [(2, .ptr 2 0), (3, .ptr 3 0), (4, .ptr 4 0), (7, .v (.p (.int .i64 (sa + tb)))), (8, .v (.p (.int .i64 P)))] [(2, .var [.v (.p (.int .i64 s)), .v (.sl es)]), (3, .var [.v (.p (.int .i64 t)), .v (.sl fs)]), (4, var0)] 77 true) ?_ ?_
  · refine goA ?_
    refine evG ggA (ss_call (InB_of rfl) rfl rfl ppa) ?_
    refine goA ?_
    refine evG ggA (ss_call (InB_of rfl) rfl rfl opb) ?_
    refine goA ?_
    refine evG ggA (ss_call (InB_of rfl) rfl rfl ppb) ?_
    refine goA ?_
    refine evG ggA (ss_call (InB_of rfl) rfl rfl opa) ?_
    refine goA ?_
    rw [← hP]
    exact midQ_intro (by exact entA) rfl
  rintro _ rfl
  unfold mulN
  by_cases h1000 : 1000 ≤ sa + tb
  · have hb : decide (sa + tb ≥ 1000) = true := by simp; omega
    have ce := empty_p 1000
    rw [nrm_end h1000]
    refine goA ?_
    refine evG ggA (ss_call (InB_of rfl) rfl rfl ce) ?_
    refine goA ?_
    exact rfl
  have hb0 : decide (sa + tb ≥ 1000) = false := by simp; omega
  generalize hN : mlen (sa + tb) A.length C.length = N
  have hNe : (N : Int) = max 0 (min (min (A.length : Int) (C.length : Int)) (1000 - (sa + tb))) := by rw [← hN]; unfold mlen; omega
  have hPN : min P 1000 = sa + tb + N := by omega
  have hN1 : N ≤ A.length ∧ N ≤ C.length := by omega
  have hAl : A.length ≤ M := by omega
  generalize hfrom : sa + tb = fr at *
  refine T.seqI (fun s1 => s1 = mkS [(2, .ptr 2 0), (3, .ptr 3 0), (4, .ptr 4 0), (7, .v (.p (.int .i64 fr))), (8, .v (.p (.int .i64 P)))] [(2, .var [.v (.p (.int .i64 s)), .v (.sl es)]), (3, .var [.v (.p (.int .i64 t)), .v (.sl fs)]), (4, var0)] 77 true) ?_ ?_
  · refine goA ?_
    exact midQ_intro (by exact entA) rfl
  rintro _ rfl
  have cz := q_p 0 (by decide) (by decide)
  rw [show ((0 : Int) : Rat) = 0 from rfl] at cz
  refine r1A ?_
  refine T.seqI (fun s1 => s1 = mkS [(4, .ptr 4 0), (7, .v (.p (.int .i64 fr))), (9, .own 100 N)] [(4, var0), (100, .lst 4 56 ((tk (conv A C) N).map encQ))] 77 true) ?_ ?_
  · refine r1A ?_
    refine T.block ?_
    refine T.loop (fun n s1 => ∃ k : Nat, n = N - k ∧ k ≤ N ∧ s1 = mkS [(2, .ptr 2 0), (3, .ptr 3 0), (4, .ptr 4 0), (7, .v (.p (.int .i64 fr))), (8, .v (.p (.int .i64 P))), (9, .own 100 k), (10, .v (.p (.int .i64 (fr + k))))] [(2, .var [.v (.p (.int .i64 s)), .v (.sl es)]), (3, .var [.v (.p (.int .i64 t)), .v (.sl fs)]), (4, var0), (100, .lst 4 56 ((tk (conv A C) k).map encQ))] 77 true) N
      (s' := mkS [(2, .ptr 2 0), (3, .ptr 3 0), (4, .ptr 4 0), (7, .v (.p (.int .i64 fr))), (8, .v (.p (.int .i64 P))), (9, .own 100 0), (10, .v (.p (.int .i64 fr)))] [(2, .var [.v (.p (.int .i64 s)), .v (.sl es)]), (3, .var [.v (.p (.int .i64 t)), .v (.sl fs)]), (4, var0), (100, .lst 4 56 ((tk (conv A C) 0).map encQ))] 77 true) (by exact entA) ⟨0, rfl, Nat.zero_le _, by simp⟩ ?_
    rintro n _ ⟨k, rfl, hk, rfl⟩
    by_cases hlt : k < N
    · have hb : decide (fr + (k : Int) < min P 1000) = true := by rw [hPN]; simp; omega
      refine T.seqI (fun s1 => s1 = mkS [(2, .ptr 2 0), (3, .ptr 3 0), (4, .ptr 4 0), (7, .v (.p (.int .i64 fr))), (8, .v (.p (.int .i64 P))), (9, .own 100 k), (10, .v (.p (.int .i64 (fr + k))))] [(2, .var [.v (.p (.int .i64 s)), .v (.sl es)]), (3, .var [.v (.p (.int .i64 t)), .v (.sl fs)]), (4, var0), (100, .lst 4 56 ((tk (conv A C) k).map encQ))] 77 true) ?_ ?_
      · refine goA ?_
        exact midQ_intro (by exact entA) rfl
      rintro _ rfl
      refine T.seq ?_
      refine T.block ?_
      refine T.seq ?_
      refine regA ?_
      refine runA ?_
      refine evG ggA (ss_call (InB_of rfl) rfl rfl cz) ?_
      refine runA ?_
      refine ev_nil ?_
      refine seqQ_n ?_
      refine T.seqI (fun s1 => s1 = mkS [(2, .ptr 2 0), (3, .ptr 3 0), (4, .ptr 4 0), (7, .v (.p (.int .i64 fr))), (8, .v (.p (.int .i64 P))), (9, .own 100 k), (10, .v (.p (.int .i64 (fr + k)))), (11, .ptr 11 0)] [(2, .var [.v (.p (.int .i64 s)), .v (.sl es)]), (3, .var [.v (.p (.int .i64 t)), .v (.sl fs)]), (4, var0), (11, qvar (conv A C k)), (100, .lst 4 56 ((tk (conv A C) k).map encQ))] 77 true) ?_ ?_
      · refine T.seq ?_
        refine regA ?_
        refine runA ?_
        refine evG ggA (ss_call (InB_of rfl) rfl rfl opa) ?_
        refine runA ?_
        refine ev_nil ?_
        refine seqQ_n ?_
        refine T.block ?_
        refine T.loop (fun n s1 => ∃ j : Nat, n = k + 1 - j ∧ j ≤ k + 1 ∧ s1 = mkS [(2, .ptr 2 0), (3, .ptr 3 0), (4, .ptr 4 0), (7, .v (.p (.int .i64 fr))), (8, .v (.p (.int .i64 P))), (9, .own 100 k), (10, .v (.p (.int .i64 (fr + k)))), (11, .ptr 11 0), (12, .v (.p (.int .i64 (sa + j))))] [(2, .var [.v (.p (.int .i64 s)), .v (.sl es)]), (3, .var [.v (.p (.int .i64 t)), .v (.sl fs)]), (4, var0), (11, qvar (cs A C k j)), (100, .lst 4 56 ((tk (conv A C) k).map encQ))] 77 true) (k + 1)
          (s' := mkS [(2, .ptr 2 0), (3, .ptr 3 0), (4, .ptr 4 0), (7, .v (.p (.int .i64 fr))), (8, .v (.p (.int .i64 P))), (9, .own 100 k), (10, .v (.p (.int .i64 (fr + k)))), (11, .ptr 11 0), (12, .v (.p (.int .i64 sa)))] [(2, .var [.v (.p (.int .i64 s)), .v (.sl es)]), (3, .var [.v (.p (.int .i64 t)), .v (.sl fs)]), (4, var0), (11, qvar (cs A C k 0)), (100, .lst 4 56 ((tk (conv A C) k).map encQ))] 77 true) (by exact entA) ⟨0, rfl, Nat.zero_le _, by simp⟩ ?_
        rintro n _ ⟨j, rfl, hj, rfl⟩
        by_cases hjk : j ≤ k
        · have hb2 : decide (sa + (j : Int) ≤ fr + (k : Int) - tb) = true := by simp; omega
          have t1 := getD_ht hK.1 hhl j
          have t2 := getD_ht hK.1 hhm (k - j)
          have k1 := coef_p (n := sa + j) hL (by omega) a0 a1 a2 (by omega) (by omega)
          have k2 := coef_p (n := fr + (k : Int) - (sa + (j : Int))) hM (by omega) b0 b1 b2 (by omega) (by omega)
          have e1 : cf s l (sa + j) = A.getD j 0 := cfa j
          have e2 : cf t m (fr + (k : Int) - (sa + (j : Int))) = C.getD (k - j) 0 := by
            rw [show fr + (k : Int) - (sa + (j : Int)) = tb + ((k - j : Nat) : Int) by omega]
            exact cfb (k - j)
          rw [e1] at k1
          rw [e2] at k2
          have c3 : PC Tryz.prog 42 _ _ := (refmul2_p (isV_encQ t1) (isV_encQ t2) (by omega)).up
          have hcsh : Ht (cs A C k j) W := (ht_cs hK.1 hhl hhm k j).mono (by rw [hWd]; exact Nat.succ_le_succ (Nat.mul_le_mul_left _ (by omega)))
          have c4 : PC Tryz.prog 171 _ _ := (refadd2_p (isV_encQ hcsh) (isV_encQ (ht_mul t1 t2 hK.1)) (by omega) (by omega) (by omega)).up
          have hcs : cs A C k j + A.getD j 0 * C.getD (k - j) 0 = cs A C k (j + 1) := rfl
          rw [hcs] at c4
          clear hhl hhm cfa cfb hcsh t1 t2
          refine goA ?_
          refine evG ggA (ss_call (InB_of rfl) rfl rfl opb) ?_
          refine goA ?_
          refine evG ggA (ss_call (InB_of rfl) rfl rfl k1) ?_
          refine goA ?_
          refine evG ggA (ss_call (InB_of rfl) rfl rfl k2) ?_
          refine evG ggA (ss_call (InB_of rfl) rfl rfl c3) ?_
          refine evG ggA (ss_call (InB_of rfl) rfl rfl c4) ?_
          refine goA ?_
          exact loopQ_intro (k := k + 1 - (j + 1)) (s' := mkS [(2, .ptr 2 0), (3, .ptr 3 0), (4, .ptr 4 0), (7, .v (.p (.int .i64 fr))), (8, .v (.p (.int .i64 P))), (9, .own 100 k), (10, .v (.p (.int .i64 (fr + k)))), (11, .ptr 11 0), (12, .v (.p (.int .i64 (sa + (j : Int) + 1))))] [(2, .var [.v (.p (.int .i64 s)), .v (.sl es)]), (3, .var [.v (.p (.int .i64 t)), .v (.sl fs)]), (4, var0), (11, qvar (cs A C k (j + 1))), (100, .lst 4 56 ((tk (conv A C) k).map encQ))] 77 true) (by omega) (by exact entA) ⟨j + 1, rfl, by omega, by rw [Int.natCast_succ, ← Int.add_assoc]⟩
        · obtain rfl : j = k + 1 := by omega
          have hb2 : decide (sa + ((k + 1 : Nat) : Int) ≤ fr + (k : Int) - tb) = false := by simp; omega
          refine goA ?_
          refine evG ggA (ss_call (InB_of rfl) rfl rfl opb) ?_
          refine goA ?_
          exact midQ_intro (by exact entA) rfl
      rintro _ rfl
      refine goA ?_
      (refine evG ggA (ss_bslice (InB_of rfl) (make_tab rfl) rfl rfl rfl rfl (one_ok rfl rfl) (Nat.le_of_ble_eq_true rfl)) ?_; refine evG ggA (ss_snoc (InB_of rfl) (make_tab rfl) rfl rfl (by first | rfl | assumption | (simp; done) | (simp; omega)) rfl (by omega) (Nat.le_of_ble_eq_true rfl) rfl) ?_)
      refine goA ?_
      exact loopQ_intro (k := N - (k + 1)) (s' := mkS [(2, .ptr 2 0), (3, .ptr 3 0), (4, .ptr 4 0), (7, .v (.p (.int .i64 fr))), (8, .v (.p (.int .i64 P))), (9, .own 100 (k + 1)), (10, .v (.p (.int .i64 (fr + (k : Int) + 1))))] [(2, .var [.v (.p (.int .i64 s)), .v (.sl es)]), (3, .var [.v (.p (.int .i64 t)), .v (.sl fs)]), (4, var0), (100, .lst 4 56 ((tk (conv A C) k ++ [conv A C k]).map encQ))] 77 true) (by omega) (by exact entA) ⟨k + 1, rfl, hlt, by rw [tk_succ, Int.natCast_succ, ← Int.add_assoc]⟩
    · obtain rfl : k = N := by omega
      have hb : decide (fr + (k : Int) < min P 1000) = false := by rw [hPN]; simp
      refine goA ?_
      exact midQ_intro (s' := mkS [(4, .ptr 4 0), (7, .v (.p (.int .i64 fr))), (9, .own 100 k)] [(4, var0), (100, .lst 4 56 ((tk (conv A C) k).map encQ))] 77 true) (by exact entA) rfl
  rintro _ rfl
  have hbuild := result_p (s := fr) (isL_enc (l := tk (conv A C) N) (k := W) (fun q hq => by obtain ⟨i, hi, rfl⟩ := tk_mem hq; exact (ht_cs hK.1 hhl hhm i (i + 1)).mono (by rw [hWd]; exact Nat.succ_le_succ (Nat.mul_le_mul_left _ (by omega))))) (by omega) (by omega) (by omega) (by rw [tk_len]; omega)
  rw [serE_eq] at hbuild
  refine T.weak (s' := mkS [(4, .ptr 4 0), (7, .v (.p (.int .i64 fr))), (9, .v (.sl ((tk (conv A C) N).map encQ)))] [(4, var0)] 77 true) (by exact entA) ?_
  refine goA ?_
  refine evG ggA (ss_call (InB_of rfl) rfl rfl hbuild) ?_
  refine goA ?_
  exact rfl
end Ab
namespace Ab
open Go Go.RowKit Go.Proofs Hp
set_option maxRecDepth 100000
theorem known_p {s : Int} {es : List AV} {l : List Rat} {K : Nat} (h : IsL es K l) (hK : K ≤ 274877906944) (a0 : -100 ≤ s) (a1 : s ≤ 1000) (a2 : (es.length : Int) ≤ 1000 - s) : PC Tryz.prog 177 [serA s es] (.sl (es.drop (lead l))) := by
 have co := rord_p h hK a0 a1 a2
 have hle := h.get.1
 have hla := lead_le l
 have e : es.drop (lead l) = es.drop (s + (lead l : Int) - s).toNat := by congr 1; omega
 rw [e]
 refine pc_body1 true Tryz.func177 rfl rfl rfl (Nat.le_of_ble_eq_true rfl) CellT.tmp ?_
 refine goA ?_
 refine evG ggA (ss_call (InB_of rfl) rfl rfl co) ?_
 refine goA ?_
 refine evG ggA (ss_slice_l (InB_of rfl) (elem_tab rfl) rfl (isL_cells h) rfl (by omega) (by omega)) ?_
 refine goA ?_
 exact rfl
theorem neg_form (x y : Rat) : (0 - x) * y = -(y * x) := by
 rw [Rat.sub_eq_add_neg, Rat.zero_add, Rat.neg_mul, Rat.mul_comm]
set_option maxHeartbeats 4000000 in
theorem invertedV_p {es : List AV} {A : List Rat} {K : Nat} (h : IsL es K A) (hA0 : 0 < A.length) (hA : A.length ≤ 200) (hd0 : A.getD 0 0 ≠ 0) (hK : 1 ≤ K ∧ K ≤ 1000000) {Q : Nat} (hQ : 1 ≤ Q ∧ Q ≤ 1000000) (hQv : ∀ k, k ≤ A.length → ∀ q, q ∈ ivs A k → Ht q Q) : PC Tryz.prog 178 [.sl es] (.sl ((ivs A A.length).map encQ)) := by
 have hle := h.get.1
 have hhl := isL_ht h hK.1
 obtain ⟨g, xs, g', xs', q0, e1, e2, e3⟩ := h.at (i := 0) (by omega)
 have g0 : A.getD 0 0 = q0 := by rw [List.getD_eq_getElem?_getD, e2]; rfl
 have t0 := hhl q0 (List.mem_of_getElem? e2)
 have c1 := q_p 1 (by decide) (by decide)
 have c2 : PC Tryz.prog 175 _ _ := (refquo2_p (isV_encQ (ht_int (c := 1) (by decide))) e3 (Nat.le_refl 1) hK.1 (by omega) (by rw [← g0]; exact hd0)).up
 rw [show ((1 : Int) : Rat) = 1 from rfl] at c1 c2
 have cz := q_p 0 (by decide) (by decide)
 rw [show ((0 : Int) : Rat) = 0 from rfl] at cz
 generalize hfi : 1 / q0 = fi at *
 have tfi : Ht fi K := by rw [← hfi, Rat.div_def, Rat.one_mul]; exact ht_inv t0 hK.1
 have hiv1 : ivs A 1 = [fi] := by rw [ivs, g0, hfi]
 refine pc_body1 true Tryz.func178 rfl rfl rfl (Nat.le_of_ble_eq_true rfl) CellT.tmp ?_
 refine goA ?_
 refine evG ggA (ss_call (InB_of rfl) rfl rfl c1) ?_
 refine goA ?_
 refine evG ggA (ss_index_sl (InB_of rfl) (elem_tab rfl) rfl rfl (by decide) e1 rfl) ?_
 refine goA ?_
 refine evG ggA (ss_call (InB_of rfl) rfl rfl c2) ?_
 refine runA ?_
 refine ev_nil ?_
 refine seqQ_n ?_
 refine T.weak (s' := mkS [(0, .v (.sl es)), (3, .ptr 3 0)] [(3, qvar fi)] 53 true) (by exact entA) ?_
 refine T.seq ?_
 refine regA ?_
 refine runA ?_
 refine evG ggA (ss_bslice_own 31 (InB_of rfl) rfl (make_tab rfl) rfl rfl rfl rfl (one_ok rfl rfl) (Nat.le_of_ble_eq_true rfl) (by decide) (fun _ a ha => by rw [List.mem_singleton] at ha; subst ha; exact encQ_nu fi)) ?_
 refine runA ?_
 refine ev_nil ?_
 refine seqQ_n ?_
 refine T.seqI (fun s1 => s1 = mkS [(5, .own 31 A.length)] [(31, .lst 4 56 ((ivs A A.length).map encQ))] 53 true) ?_ ?_
 ·refine r1A ?_
  refine T.block ?_
  refine T.loop (fun n s1 => ∃ k : Nat, n = A.length - k ∧ 1 ≤ k ∧ k ≤ A.length ∧ s1 = mkS [(0, .v (.sl es)), (3, .ptr 3 0), (5, .own 31 k), (6, .v (.p (.int .i64 k)))] [(3, qvar fi), (31, .lst 4 56 ((ivs A k).map encQ))] 53 true) (A.length - 1)
   (s' := mkS [(0, .v (.sl es)), (3, .ptr 3 0), (5, .own 31 1), (6, .v (.p (.int .i64 (1 : Nat))))] [(3, qvar fi), (31, .lst 4 56 ([fi].map encQ))] 53 true) (by exact entA) ⟨1, rfl, Nat.le_refl _, hA0, by rw [hiv1]⟩ ?_
  rintro n _ ⟨k, rfl, hk1, hk, rfl⟩
  have hlen31 : (ivs A k).length = k := ivs_len A k
  by_cases hlt : k < A.length
  ·have hb : decide ((k : Int) < (es.length : Int)) = true := by simp; omega
   have hxk : ∀ i, i < k → Ht ((ivs A k).getD i 0) Q := fun i _ => getD_ht hQ.1 (hQv k (by omega)) i
   have hissh : ∀ j, j ≤ k → Ht (iss A (ivs A k) k j) (1 + j * (K + Q + 1)) := fun j _ => ht_iss2 hK.1 hQ.1 hhl (hQv k (by omega)) k j
   have hivn : ivs A (k + 1) = ivs A k ++ [(0 - iss A (ivs A k) k k) * fi] := by
    obtain ⟨k', rfl⟩ : ∃ k', k = k' + 1 := ⟨k - 1, by omega⟩
    rw [neg_form, ivs, g0, hfi]
   refine T.seqI (fun s1 => s1 = mkS [(0, .v (.sl es)), (3, .ptr 3 0), (5, .own 31 k), (6, .v (.p (.int .i64 k)))] [(3, qvar fi), (31, .lst 4 56 ((ivs A k).map encQ))] 53 true) ?_ ?_
   ·refine goA ?_
    exact midQ_intro (by exact entA) rfl
   rintro _ rfl
   refine T.seq ?_
   refine T.block ?_
   refine T.seq ?_
   refine regA ?_
   refine runA ?_
   refine evG ggA (ss_call (InB_of rfl) rfl rfl cz) ?_
   refine runA ?_
   refine ev_nil ?_
   refine seqQ_n ?_
   generalize hX : ivs A k = X at *
   refine T.seqI (fun s1 => s1 = mkS [(0, .v (.sl es)), (3, .ptr 3 0), (5, .own 31 k), (6, .v (.p (.int .i64 k))), (7, .ptr 7 0)] [(3, qvar fi), (7, qvar (iss A X k k)), (31, .lst 4 56 (X.map encQ))] 53 true) ?_ ?_
   ·refine r1A ?_
    refine T.block ?_
    refine T.loop (fun n s1 => ∃ j : Nat, n = k - j ∧ j ≤ k ∧ s1 = mkS [(0, .v (.sl es)), (3, .ptr 3 0), (5, .own 31 k), (6, .v (.p (.int .i64 k))), (7, .ptr 7 0), (8, .v (.p (.int .i64 ((j : Int) + 1))))] [(3, qvar fi), (7, qvar (iss A X k j)), (31, .lst 4 56 (X.map encQ))] 53 true) k
     (s' := mkS [(0, .v (.sl es)), (3, .ptr 3 0), (5, .own 31 k), (6, .v (.p (.int .i64 k))), (7, .ptr 7 0), (8, .v (.p (.int .i64 1)))] [(3, qvar fi), (7, qvar (iss A X k 0)), (31, .lst 4 56 (X.map encQ))] 53 true) (by exact entA) ⟨0, rfl, Nat.zero_le _, rfl⟩ ?_
    rintro n _ ⟨j, rfl, hj, rfl⟩
    by_cases hjk : j < k
    ·have hb2 : decide ((j : Int) + 1 ≤ (k : Int)) = true := by simp; omega
     obtain ⟨y, ys, y', ys', q1, n0, hq1, v1⟩ := h.at (i := j + 1) (by omega)
     obtain ⟨q2, hq2⟩ : ∃ q, X[k - (j + 1)]? = some q := ⟨_, List.getElem?_eq_getElem (by omega)⟩
     have g1 : A.getD (j + 1) 0 = q1 := by rw [List.getD_eq_getElem?_getD, hq1]; rfl
     have g2 : X.getD (k - (j + 1)) 0 = q2 := by rw [List.getD_eq_getElem?_getD, hq2]; rfl
     have t1 := hhl q1 (List.mem_of_getElem? hq1)
     have t2 : Ht q2 Q := by rw [← g2]; exact hxk _ (by omega)
     have n1 : es[((j : Int) + 1).toNat]? = some (.agg [.p (.bool y), .sl ys, .p (.bool y'), .sl ys']) := by rw [show ((j : Int) + 1).toNat = j + 1 by omega]; exact n0
     have n2 : (X.map encQ)[((k : Int) - ((j : Int) + 1)).toNat]? = some (encQ q2) := by rw [show ((k : Int) - ((j : Int) + 1)).toNat = k - (j + 1) by omega]; exact enc_at hq2
     have hx0 : (X.map encQ).length = k := by rw [List.length_map, hlen31]
     have c3 : PC Tryz.prog 42 _ _ := (refmul2_p v1 (isV_encQ t2) (by omega)).up
     have hish : Ht (iss A X k j) (1000000000) := (hissh j (by omega)).mono (by have : j * (K + Q + 1) ≤ 200 * (K + Q + 1) := Nat.mul_le_mul_right _ (by omega); omega)
     have c4 : PC Tryz.prog 171 _ _ := (refadd2_p (isV_encQ hish) (isV_encQ (ht_mul t1 t2 hK.1)) (by omega) (by omega) (by omega)).up
     have his : iss A X k j + q1 * q2 = iss A X k (j + 1) := by show _ = iss A X k j + A.getD (j + 1) 0 * X.getD (k - (j + 1)) 0; rw [g1, g2]
     rw [his] at c4
     clear hxk hissh hhl
     refine goA ?_
     refine evG ggA (ss_index_sl (InB_of rfl) (elem_tab rfl) rfl rfl (by omega) n1 rfl) ?_
     refine goA ?_
     refine evG ggA (ss_index_own (InB_of rfl) (elem_tab rfl) rfl rfl hx0 rfl (by omega) (by omega)) ?_
     refine evG ggA (ss_load_opagg (InB_of rfl) (agg_tab rfl) rfl rfl hx0 n2) ?_
     refine evG ggA (ss_call (InB_of rfl) rfl rfl c3) ?_
     refine evG ggA (ss_call (InB_of rfl) rfl rfl c4) ?_
     refine goA ?_
     exact loopQ_intro (k := k - (j + 1)) (s' := mkS [(0, .v (.sl es)), (3, .ptr 3 0), (5, .own 31 k), (6, .v (.p (.int .i64 k))), (7, .ptr 7 0), (8, .v (.p (.int .i64 ((j : Int) + 1 + 1))))] [(3, qvar fi), (7, qvar (iss A X k (j + 1))), (31, .lst 4 56 (X.map encQ))] 53 true) (by omega) (by exact entA) ⟨j + 1, rfl, by omega, rfl⟩
    ·obtain rfl : j = k := by omega
     have hb2 : decide ((j : Int) + 1 ≤ (j : Int)) = false := by simp; omega
     refine goA ?_
     exact midQ_intro (s' := mkS [(0, .v (.sl es)), (3, .ptr 3 0), (5, .own 31 j), (6, .v (.p (.int .i64 j))), (7, .ptr 7 0)] [(3, qvar fi), (7, qvar (iss A X j j)), (31, .lst 4 56 (X.map encQ))] 53 true) (by exact entA) rfl
   rintro _ rfl
   have hish : Ht (iss A X k k) (1000000000) := (hissh k (by omega)).mono (by have : k * (K + Q + 1) ≤ 200 * (K + Q + 1) := Nat.mul_le_mul_right _ (by omega); omega)
   have hz1 : Ht (0 : Rat) 1 := ht0 (Nat.le_refl 1)
   have c5 : PC Tryz.prog 214 _ _ := (refsub2_p (isV_encQ hz1) (isV_encQ hish) (Nat.le_refl 1) (by omega) (by omega)).up
   have hsh : Ht (0 - iss A X k k) (1000000000) := by rw [Rat.sub_eq_add_neg, Rat.zero_add]; exact ht_neg hish
   have c6 : PC Tryz.prog 42 _ _ := (refmul2_p (isV_encQ hsh) (isV_encQ tfi) (by omega)).up
   clear hxk hissh hhl
   refine goA ?_
   refine evG ggA (ss_call (InB_of rfl) rfl rfl cz) ?_
   refine goA ?_
   refine evG ggA (ss_call (InB_of rfl) rfl rfl c5) ?_
   refine goA ?_
   refine evG ggA (ss_call (InB_of rfl) rfl rfl c6) ?_
   (refine evG ggA (ss_bslice (InB_of rfl) (make_tab rfl) rfl rfl rfl rfl (one_ok rfl rfl) (Nat.le_of_ble_eq_true rfl)) ?_; refine evG ggA (ss_snoc (InB_of rfl) (make_tab rfl) rfl rfl (by first | rfl | assumption | (simp; done) | (simp; omega)) rfl (by omega) (Nat.le_of_ble_eq_true rfl) rfl) ?_)
   refine goA ?_
   exact loopQ_intro (k := A.length - (k + 1)) (s' := mkS [(0, .v (.sl es)), (3, .ptr 3 0), (5, .own 31 (k + 1)), (6, .v (.p (.int .i64 ((k : Int) + 1))))] [(3, qvar fi), (31, .lst 4 56 ((X ++ [(0 - iss A X k k) * fi]).map encQ))] 53 true) (by omega) (by exact entA) ⟨k + 1, rfl, by omega, hlt, by rw [hivn]; rfl⟩
  ·obtain rfl : k = A.length := by omega
   have hb : decide ((A.length : Int) < (es.length : Int)) = false := by simp; omega
   refine goA ?_
   exact midQ_intro (s' := mkS [(5, .own 31 A.length)] [(31, .lst 4 56 ((ivs A A.length).map encQ))] 53 true) (by exact entA) rfl
 rintro _ rfl
 have hx0 : ((ivs A A.length).map encQ).length = A.length := by rw [List.length_map, ivs_len]
 refine T.weak (s' := mkS [(5, .v (.sl ((ivs A A.length).map encQ)))] [] 53 true) (by exact entA) ?_
 refine goA ?_
 exact rfl
theorem rinvV_p {s : Int} {es : List AV} {l : List Rat} {K : Nat} (h : ValidP s es.length = true → IsL es K l ∧ l.length ≤ 200) (hle : es.length = l.length) (hr : InR s es.length) (hK : 1 ≤ K ∧ K ≤ 1000000) {Q : Nat} (hQ : 1 ≤ Q ∧ Q ≤ 1000000) (hX0 : ValidP s es.length = true → ∀ k, k ≤ (l.drop (lead l)).length → ∀ q, q ∈ ivs (l.drop (lead l)) k → Ht q Q) : PC Tryz.prog 97 [serA s es] (serT (invT s l)) := by
  have cch := check_p (es := es) hr.1 hr.2 hr.3
  unfold invT
  rw [← hle]
  cases h1 : ValidP s es.length with
  | false =>
    rw [h1] at cch
    refine pc_body2 true Tryz.func97 rfl rfl rfl (Nat.le_of_ble_eq_true rfl) (CellT.agg agg_ser) CellT.tmp ?_
    refine goA ?_
    refine evG ggA (ss_call (InB_of rfl) rfl rfl cch) ?_
    refine goA ?_
    exact rfl
  | true =>
  rw [h1] at cch
  obtain ⟨hL, hl24⟩ := h h1
  have hQv := hX0 h1
  obtain ⟨a0, a1, a2⟩ := valid_iff.1 h1
  simp only [if_true]
  have co := rord_p hL (by omega) a0 a1 a2
  have cp := rprec_p a0 a1 a2
  have ck := known_p hL (by omega) a0 a1 a2
  have hla := lead_le l
  have hL2 := hL.drop (lead l)
  have hld : (l.drop (lead l)).length + lead l = l.length := by rw [List.length_drop]; omega
  have hd0 : ∀ q, (l.drop (lead l))[0]? = some q → q ≠ 0 := fun q hq => lead_ne l q (by rw [List.getElem?_drop] at hq; exact hq)
  by_cases hA : l.drop (lead l) = []
  · rw [if_pos hA]
    have hb : (s + (lead l : Int) == s + (es.length : Int)) = true := by rw [hA] at hld; simp at hld; simp; omega
    refine pc_body2 true Tryz.func97 rfl rfl rfl (Nat.le_of_ble_eq_true rfl) (CellT.agg agg_ser) CellT.tmp ?_
    refine goA ?_
    refine evG ggA (ss_call (InB_of rfl) rfl rfl cch) ?_
    refine goA ?_
    refine evG ggA (ss_call (InB_of rfl) rfl rfl co) ?_
    refine goA ?_
    refine evG ggA (ss_call (InB_of rfl) rfl rfl cp) ?_
    refine goA ?_
    exact rfl
  rw [if_neg hA]
  have hA0 : 0 < (l.drop (lead l)).length := List.length_pos_iff.2 hA
  have hb : (s + (lead l : Int) == s + (es.length : Int)) = false := by simp; omega
  have ci := invertedV_p hL2 hA0 (by omega) (by
    have : (l.drop (lead l))[0]? = some (l.drop (lead l))[0] := List.getElem?_eq_getElem hA0
    rw [List.getD_eq_getElem?_getD, this]
    exact hd0 _ this) hK hQ hQv
  have hhl : ∀ q, q ∈ l.drop (lead l) → Ht q K := fun q hq => isL_ht hL hK.1 q (List.mem_of_mem_drop hq)
  have hQA := hQv (l.drop (lead l)).length (Nat.le_refl _)
  have hl2 := ivs_len (l.drop (lead l)) (l.drop (lead l)).length
  have hlen24 : (l.drop (lead l)).length ≤ 200 := by omega
  generalize hX : ivs (l.drop (lead l)) (l.drop (lead l)).length = X at *
  have hbuild := result_p (s := -(s + lead l)) (isL_enc (l := X) (k := Q) hQA) (by omega) (by omega) (by omega) (by omega)
  rw [serE_T] at hbuild
  have hneg : -(s + (lead l : Int)) = 0 - (s + lead l) := by omega
  rw [hneg] at hbuild ⊢
  clear hd0 hhl hX
  refine pc_body2 true Tryz.func97 rfl rfl rfl (Nat.le_of_ble_eq_true rfl) (CellT.agg agg_ser) CellT.tmp ?_
  refine goA ?_
  refine evG ggA (ss_call (InB_of rfl) rfl rfl cch) ?_
  refine goA ?_
  refine evG ggA (ss_call (InB_of rfl) rfl rfl co) ?_
  refine goA ?_
  refine evG ggA (ss_call (InB_of rfl) rfl rfl cp) ?_
  refine goA ?_
  refine evG ggA (ss_call (InB_of rfl) rfl rfl co) ?_
  refine goA ?_
  refine evG ggA (ss_call (InB_of rfl) rfl rfl ck) ?_
  refine evG ggA (ss_call (InB_of rfl) rfl rfl ci) ?_
  refine evG ggA (ss_call (InB_of rfl) rfl rfl hbuild) ?_
  refine goA ?_
  exact rfl
def quoT (s : Int) (l : List Rat) (t : Int) (m : List Rat) : Res :=
 if ValidP s l.length then (if (invT t m).2.2 = 0 then nrmT (mulR s l (invT t m).1 (invT t m).2.1) else (0, [], (invT t m).2.2)) else (0, [], 2)
set_option maxHeartbeats 2000000 in
theorem quoV_p {s t : Int} {es fs : List AV} {l m : List Rat} {K Q : Nat} (hK : 1 ≤ K ∧ K ≤ 1000000) (hQ : 1 ≤ Q ∧ Q ≤ 1000000) (hX0 : ValidP t fs.length = true → ∀ k, k ≤ (m.drop (lead m)).length → ∀ q, q ∈ ivs (m.drop (lead m)) k → Ht q Q) (hI : (invT t m).2.2 = 0 → ValidP (invT t m).1 (invT t m).2.1.length = true ∧ (∀ q, q ∈ (invT t m).2.1 → Ht q Q) ∧ (invT t m).2.1.length ≤ 200) (hKQ : K ≤ Q) (ha : ValidP s es.length = true → IsL es K l ∧ l.length ≤ 200) (hb : ValidP t fs.length = true → IsL fs K m ∧ m.length ≤ 200) (hle : es.length = l.length) (hlf : fs.length = m.length) (i1 : InR s es.length) (i2 : InR t fs.length) : PC Tryz.prog 94 [serA s es, serA t fs] (serT (quoT s l t m)) := by
  have hva := valid_p i1.1 i1.2 i1.3
  have ci := invV_p hb hlf i2 hK hQ hX0
  unfold quoT
  rw [← hle]
  cases h1 : ValidP s es.length with
  | false =>
    rw [h1] at hva
    refine pc_body2 true Tryz.func94 rfl rfl rfl (Nat.le_of_ble_eq_true rfl) (CellT.agg agg_ser) CellT.tmp ?_
    refine goA ?_
    refine evG ggA (ss_call (InB_of rfl) rfl rfl hva) ?_
    refine goA ?_
    exact rfl
  | true =>
  rw [h1] at hva
  simp only [if_true]
  obtain ⟨hL, h24⟩ := ha h1
  by_cases h0 : (invT t m).2.2 = 0
  · rw [if_pos h0]
    obtain ⟨vc, hc, hc24⟩ := hI h0
    have cm := mul_g (M := 200) (t := (invT t m).1) (both_mk (hL.mono hKQ) (isL_enc hc) i1 (inR_enc vc)) hQ.1 (by decide) (by omega) (fun _ => by omega)
    rw [serE_T] at cm
    have hbn : ((invT t m).2.2 != 0) = false := by simp [h0]
    generalize (invT t m) = r at *
    obtain ⟨u, c, e⟩ := r
    clear ha hb hL hc vc hX0 hI
    refine pc_body2 true Tryz.func94 rfl rfl rfl (Nat.le_of_ble_eq_true rfl) (CellT.agg agg_ser) CellT.tmp ?_
    refine goA ?_
    refine evG ggA (ss_call (InB_of rfl) rfl rfl hva) ?_
    refine goA ?_
    refine evG ggA (ss_call (InB_of rfl) rfl rfl ci) ?_
    refine goA ?_
    refine evG ggA (ss_call (InB_of rfl) rfl rfl cm) ?_
    refine goA ?_
    exact rfl
  · rw [if_neg h0]
    have hbn : ((invT t m).2.2 != 0) = true := by simp [h0]
    generalize (invT t m) = r at *
    obtain ⟨u, c, e⟩ := r
    clear ha hb hL hX0 hI
    refine pc_body2 true Tryz.func94 rfl rfl rfl (Nat.le_of_ble_eq_true rfl) (CellT.agg agg_ser) CellT.tmp ?_
    refine goA ?_
    refine evG ggA (ss_call (InB_of rfl) rfl rfl hva) ?_
    refine goA ?_
    refine evG ggA (ss_call (InB_of rfl) rfl rfl ci) ?_
    refine goA ?_
    exact rfl
end Ab
