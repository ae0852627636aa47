/- The inverse of a series: the walk, in abstract values. -/
import Derived.Test.YtajhaoapcapgeaaGreatDoorInvA
set_option linter.all false
namespace Ab
open Go Go.RowKit Go.Proofs Hp
set_option maxRecDepth 100000
set_option maxHeartbeats 400000 in
theorem inv_p {s : Int} {es : List AV} {l : List Rat} {K : Nat} (h : ValidP s es.length = true → IsL es K l ∧ l.length ≤ 24) (hle : es.length = l.length) (hr : InR s es.length) (hK : 1 ≤ K ∧ K ≤ 100) : PC Tryz.prog 52 [serA s es] (serT (invT s l)) := by
  obtain ⟨i1, i2, i3⟩ := hr
  have hva := valid_p i1 i2 i3
  unfold invT
  rw [← hle]
  cases h1 : ValidP s es.length with
  | false =>
    rw [h1] at hva
    refine pc_body2 true Tryz.func52 rfl rfl rfl (Nat.le_of_ble_eq_true rfl) (CellT.agg agg_ser) CellT.tmp ?_
    refine goA ?_
    refine evG ggA (ss_call (InB_of rfl) rfl rfl hva) ?_
    refine goA ?_
    exact rfl
  | true =>
  rw [h1] at hva
  obtain ⟨hL, hl24⟩ := h h1
  obtain ⟨a0, a1, a2⟩ := valid_iff.1 h1
  simp only [if_true]
  have hta := tidy_p hL (by omega) a0 a1 a2
  have hla := lead_le l
  have hhl : ∀ q, q ∈ l.drop (lead l) → Ht q K := fun q hq => isL_ht hL hK.1 q (List.mem_of_mem_drop hq)
  have hld : (l.drop (lead l)).length + lead l = l.length := by rw [List.length_drop]; omega
  have hne := lead_ne l
  have hd0 : ∀ q, (l.drop (lead l))[0]? = some q → q ≠ 0 := fun q hq => hne q (by rw [List.getElem?_drop] at hq; exact hq)
  generalize l.drop (lead l) = A at *
  generalize hsa : s + (lead l : Int) = sa at *
  by_cases hA : A = []
  · subst hA
    simp only [if_true]
    refine pc_body2 true Tryz.func52 rfl rfl rfl (Nat.le_of_ble_eq_true rfl) (CellT.agg agg_ser) CellT.tmp ?_
    refine goA ?_
    refine evG ggA (ss_call (InB_of rfl) rfl rfl hva) ?_
    refine goA ?_
    refine evG ggA (ss_call (InB_of rfl) rfl rfl hta) ?_
    refine goA ?_
    exact rfl
  rw [if_neg hA]
  have hA0 : 0 < A.length := List.length_pos_iff.2 hA
  have hbne : (((A.map encQ).length : Int) == 0) = false := by simp; exact hA
  obtain ⟨q0, hq0⟩ : ∃ q, A[0]? = some q := ⟨_, List.getElem?_eq_getElem hA0⟩
  have g0 : A.getD 0 0 = q0 := by rw [List.getD_eq_getElem?_getD, hq0]; rfl
  have t0 := hhl q0 (List.mem_of_getElem? hq0)
  have c1 := rof_p 1 (by decide) (by decide)
  have c2 := rquo_p (isV_encQ (ht_int (c := 1) (by decide))) (by omega) (isV_encQ t0) (by omega) (hd0 q0 hq0)
  rw [show ((1 : Int) : Rat) = 1 from rfl] at c1 c2
  have hof := rof_p 0 (by decide) (by decide)
  rw [show ((0 : Int) : Rat) = 0 from rfl] at hof
  generalize hfi : 1 / q0 = fi at *
  have tfi : Ht fi K := by rw [← hfi, Rat.div_def, Rat.one_mul]; exact ht_inv t0 hK.1
  have n0 := enc_at hq0
  have hivh := ht_iv hK.1 hhl A.length (by omega)
  have hiv1 : ivs A 1 = [fi] := by rw [ivs, g0, hfi]
  refine pc_body2 true Tryz.func52 rfl rfl rfl (Nat.le_of_ble_eq_true rfl) (CellT.agg agg_ser) CellT.tmp ?_
  refine goA ?_
  refine evG ggA (ss_call (InB_of rfl) rfl rfl hva) ?_
  refine goA ?_
  refine evG ggA (ss_call (InB_of rfl) rfl rfl hta) ?_
  refine goA ?_
  refine evG ggA (ss_call (InB_of rfl) rfl rfl c1) ?_
  refine goA ?_
  refine evG ggA (ss_index_sl (InB_of rfl) (elem_tab rfl) rfl rfl (by decide) n0 rfl) ?_
  refine goA ?_
  refine evG ggA (ss_call (InB_of rfl) rfl rfl c2) ?_
  refine runA ?_
  refine ev_nil ?_
  refine seqQ_n ?_
  refine T.weak (s' := mkS [(1, .ptr 1 0), (2, .ptr 2 0), (4, .ptr 4 0)] [(1, svar sa A), (2, var0), (4, qvar fi)] 73 true) (by exact entA) ?_
  refine T.seq ?_
  refine regA ?_
  refine runA ?_
  refine evG ggA (ss_bslice_own 31 (InB_of rfl) rfl (make_tab rfl) rfl rfl rfl rfl (one_ok rfl rfl) (Nat.le_of_ble_eq_true rfl) (by decide) (fun _ a ha => by rw [List.mem_singleton] at ha; subst ha; exact encQ_nu fi)) ?_
  refine runA ?_
  refine ev_nil ?_
  refine seqQ_n ?_
  refine T.seqI (fun s1 => s1 = mkS [(1, .ptr 1 0), (2, .ptr 2 0), (6, .own 31 A.length)] [(1, svar sa A), (2, var0), (31, .lst 4 49 ((ivs A A.length).map encQ))] 73 true) ?_ ?_
  · refine r1A ?_
    refine T.block ?_
    refine T.loop (fun n s1 => ∃ k : Nat, n = A.length - k ∧ 1 ≤ k ∧ k ≤ A.length ∧ s1 = mkS [(1, .ptr 1 0), (2, .ptr 2 0), (4, .ptr 4 0), (6, .own 31 k), (7, .v (.p (.int .i64 k)))] [(1, svar sa A), (2, var0), (4, qvar fi), (31, .lst 4 49 ((ivs A k).map encQ))] 73 true) (A.length - 1)
      (s' := mkS [(1, .ptr 1 0), (2, .ptr 2 0), (4, .ptr 4 0), (6, .own 31 1), (7, .v (.p (.int .i64 (1 : Nat))))] [(1, svar sa A), (2, var0), (4, qvar fi), (31, .lst 4 49 ([fi].map encQ))] 73 true) (by exact entA) ⟨1, rfl, Nat.le_refl _, hA0, by rw [hiv1]⟩ ?_
    rintro n _ ⟨k, rfl, hk1, hk, rfl⟩
    have hlen31 : (ivs A k).length = k := ivs_len A k
    by_cases hlt : k < A.length
    · have hb : decide ((k : Int) < ((A.map encQ).length : Int)) = true := by simp; omega
      have hxk : ∀ i, i < k → Ht ((ivs A k).getD i 0) (HB K i) := ht_iv hK.1 hhl k (by omega)
      have hissh := ht_iss hK.1 hhl hxk
      have hHBk : HB K k ≤ 44493176832 := HB_le hK.2 (by omega)
      refine T.seq ?_
      refine T.seq ?_
      refine regA ?_
      refine runA ?_
      refine ev_nil ?_
      refine seqQ_n ?_
      refine T.condT rfl hb ?_
      refine T.skip ?_
      refine seqQ_n ?_
      refine T.seq ?_
      refine T.block ?_
      refine T.seq ?_
      refine regA ?_
      refine runA ?_
      refine evG ggA (ss_call (InB_of rfl) rfl rfl hof) ?_
      refine runA ?_
      refine ev_nil ?_
      refine seqQ_n ?_
      generalize hX : ivs A k = X at *
      refine T.seqI (fun s1 => s1 = mkS [(1, .ptr 1 0), (2, .ptr 2 0), (4, .ptr 4 0), (6, .own 31 k), (7, .v (.p (.int .i64 k))), (8, .ptr 8 0)] [(1, svar sa A), (2, var0), (4, qvar fi), (8, qvar (iss A X k k)), (31, .lst 4 49 (X.map encQ))] 73 true) ?_ ?_
      · refine r1A ?_
        refine T.block ?_
        refine T.loop (fun n s1 => ∃ j : Nat, n = k - j ∧ j ≤ k ∧ s1 = mkS [(1, .ptr 1 0), (2, .ptr 2 0), (4, .ptr 4 0), (6, .own 31 k), (7, .v (.p (.int .i64 k))), (8, .ptr 8 0), (9, .v (.p (.int .i64 ((j : Int) + 1))))] [(1, svar sa A), (2, var0), (4, qvar fi), (8, qvar (iss A X k j)), (31, .lst 4 49 (X.map encQ))] 73 true) k
          (s' := mkS [(1, .ptr 1 0), (2, .ptr 2 0), (4, .ptr 4 0), (6, .own 31 k), (7, .v (.p (.int .i64 k))), (8, .ptr 8 0), (9, .v (.p (.int .i64 1)))] [(1, svar sa A), (2, var0), (4, qvar fi), (8, qvar (iss A X k 0)), (31, .lst 4 49 (X.map encQ))] 73 true) (by exact entA) ⟨0, rfl, Nat.zero_le _, rfl⟩ ?_
        rintro n _ ⟨j, rfl, hj, rfl⟩
        by_cases hjk : j < k
        · have hb2 : decide ((j : Int) + 1 ≤ (k : Int)) = true := by simp; omega
          obtain ⟨q1, hq1⟩ : ∃ q, A[j + 1]? = some q := ⟨_, List.getElem?_eq_getElem (by omega)⟩
          obtain ⟨q2, hq2⟩ : ∃ q, X[k - (j + 1)]? = some q := ⟨_, List.getElem?_eq_getElem (by omega)⟩
          have g1 : A.getD (j + 1) 0 = q1 := by rw [List.getD_eq_getElem?_getD, hq1]; rfl
          have g2 : X.getD (k - (j + 1)) 0 = q2 := by rw [List.getD_eq_getElem?_getD, hq2]; rfl
          have t1 := hhl q1 (List.mem_of_getElem? hq1)
          have t2 : Ht q2 (HB K k) := by rw [← g2]; exact (hxk _ (by omega)).mono (HB_mono K (by omega))
          have n1 : (A.map encQ)[((j : Int) + 1).toNat]? = some (encQ q1) := by rw [show ((j : Int) + 1).toNat = j + 1 by omega]; exact enc_at hq1
          have n2 : (X.map encQ)[((k : Int) - ((j : Int) + 1)).toNat]? = some (encQ q2) := by rw [show ((k : Int) - ((j : Int) + 1)).toNat = k - (j + 1) by omega]; exact enc_at hq2
          have hx0 : (X.map encQ).length = k := by rw [List.length_map, hlen31]
          have c3 := rmul_p (isV_encQ t1) (by omega) (isV_encQ t2) (by omega)
          have hish : Ht (iss A X k j) (44493176832 + 24 * 101 + 1) := (hissh j (by omega)).mono (by have : j * (K + 1) ≤ 24 * (K + 1) := Nat.mul_le_mul_right _ (by omega); omega)
          have c4 := radd_p (isV_encQ hish) (by omega) (isV_encQ (ht_mul t1 t2 hK.1)) (by omega)
          have hcs : iss A X k (j + 1) = iss A X k j + q1 * q2 := by show iss A X k j + A.getD (j + 1) 0 * X.getD (k - (j + 1)) 0 = _; rw [g1, g2]
          rw [← hcs] at c4
          refine goA ?_
          refine evG ggA (ss_index_sl (InB_of rfl) (elem_tab rfl) rfl rfl (by omega) n1 rfl) ?_
          refine goA ?_
          refine evG ggA (ss_index_own (InB_of rfl) (elem_tab rfl) rfl rfl hx0 rfl (by omega) (by omega)) ?_
          refine evG ggA (ss_load_opagg (InB_of rfl) (agg_tab rfl) rfl rfl hx0 n2) ?_
          refine evG ggA (ss_call (InB_of rfl) rfl rfl c3) ?_
          refine evG ggA (ss_call (InB_of rfl) rfl rfl c4) ?_
          refine goA ?_
          exact loopQ_intro (k := k - (j + 1)) (s' := mkS [(1, .ptr 1 0), (2, .ptr 2 0), (4, .ptr 4 0), (6, .own 31 k), (7, .v (.p (.int .i64 k))), (8, .ptr 8 0), (9, .v (.p (.int .i64 ((j : Int) + 1 + 1))))] [(1, svar sa A), (2, var0), (4, qvar fi), (8, qvar (iss A X k (j + 1))), (31, .lst 4 49 (X.map encQ))] 73 true) (by omega) (by exact entA) ⟨j + 1, rfl, by omega, rfl⟩
        · obtain rfl : j = k := by omega
          have hb2 : decide ((j : Int) + 1 ≤ (j : Int)) = false := by simp; omega
          refine goA ?_
          exact midQ_intro (by exact entA) rfl
      rintro _ rfl
      have his : Ht (iss A X k k) (44493176832 + 24 * 101 + 1) := (hissh k (Nat.le_refl _)).mono (by have : k * (K + 1) ≤ 24 * (K + 1) := Nat.mul_le_mul_right _ (by omega); omega)
      have c5 := rmul_p (isV_encQ tfi) (by omega) (isV_encQ his) (by omega)
      have c6 := rneg_p (isV_encQ (ht_mul tfi his hK.1)) (by omega)
      have hstep : ivs A (k + 1) = X ++ [-(fi * iss A X k k)] := by
        obtain ⟨k', rfl⟩ : ∃ k', k = k' + 1 := ⟨k - 1, by omega⟩
        rw [ivs, hX, g0, hfi]
      refine regA ?_
      refine runA ?_
      refine evG ggA (ss_call (InB_of rfl) rfl rfl c5) ?_
      refine evG ggA (ss_call (InB_of rfl) rfl rfl c6) ?_
      (refine evG ggA (ss_bslice (InB_of rfl) (make_tab rfl) rfl rfl rfl rfl (one_ok rfl rfl) (Nat.le_of_ble_eq_true rfl)) ?_; refine evG ggA (ss_snoc (InB_of rfl) (make_tab rfl) rfl rfl (by first | rfl | assumption | (simp; done) | (simp; omega)) rfl (by omega) (Nat.le_of_ble_eq_true rfl) rfl) ?_)
      refine goA ?_
      exact loopQ_intro (k := A.length - (k + 1)) (s' := mkS [(1, .ptr 1 0), (2, .ptr 2 0), (4, .ptr 4 0), (6, .own 31 (k + 1)), (7, .v (.p (.int .i64 ((k : Int) + 1))))] [(1, svar sa A), (2, var0), (4, qvar fi), (31, .lst 4 49 ((X ++ [-(fi * iss A X k k)]).map encQ))] 73 true) (by omega) (by exact entA) ⟨k + 1, rfl, by omega, hlt, by rw [hstep]; rfl⟩
    · obtain rfl : k = A.length := by omega
      have hb : decide ((A.length : Int) < ((A.map encQ).length : Int)) = false := by simp
      refine goA ?_
      exact midQ_intro (s' := mkS [(1, .ptr 1 0), (2, .ptr 2 0), (6, .own 31 A.length)] [(1, svar sa A), (2, var0), (31, .lst 4 49 ((ivs A A.length).map encQ))] 73 true) (by exact entA) rfl
  rintro _ rfl
  have hl2 := ivs_len A A.length
  generalize hX : ivs A A.length = X at *
  have hbuild := build_p (s := -sa) (isL_enc (l := X) (k := 44493176832) (fun q hq => by
    obtain ⟨i, hi⟩ := List.getElem?_of_mem hq
    have hil : i < A.length := by rw [← hl2]; exact (List.getElem?_eq_some_iff.1 hi).1
    have := hivh i hil
    rw [List.getD_eq_getElem?_getD, hi] at this
    exact this.mono (HB_le hK.2 (by omega)))) (by omega) (by omega) (by omega) (by omega)
  rw [serE_T] at hbuild
  have hneg : -sa = 0 - sa := by omega
  rw [hneg] at hbuild ⊢
  have hx0 : (X.map encQ).length = A.length := by rw [List.length_map, hl2]
  refine T.weak (s' := mkS [(1, .ptr 1 0), (2, .ptr 2 0), (6, .v (.sl (X.map encQ)))] [(1, svar sa A), (2, var0)] 73 true) (by exact entA) ?_
  refine goA ?_
  refine evG ggA (ss_call (InB_of rfl) rfl rfl hbuild) ?_
  refine goA ?_
  exact rfl
end Ab
