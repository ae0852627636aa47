/- Package ref33: known, inverted, Inverse; in abstract values. -/
import Derived.Test.YtmcfohngblbpbaaGreatZrodA
namespace Ab
open Go Go.RowKit Go.Proofs Hp
set_option maxRecDepth 100000

theorem known_p {s : Int} {es : List AV} {l : List Rat} {K : Nat} (h : IsL es K l) (hK : K ≤ 274877906944) (a0 : -100 ≤ s) (a1 : s ≤ 1000) (a2 : (es.length : Int) ≤ 1000 - s) : PC Tryz.prog 61 [serA s es] (.sl (es.drop (lead l))) := by
  have co := rord_p h hK a0 a1 a2
  have hle := h.get.1
  have hla := lead_le l
  have e : es.drop (lead l) = es.drop (s + (lead l : Int) - s).toNat := by congr 1; omega
  rw [e]
  refine pc_body1 true Tryz.func61 rfl rfl rfl (Nat.le_of_ble_eq_true rfl) CellT.tmp ?_
  refine goA ?_
  refine evG ggA (ss_call (InB_of rfl) rfl rfl co) ?_
  refine goA ?_
  refine evG ggA (ss_slice_l (InB_of rfl) (elem_tab rfl) rfl (isL_cells h) rfl (by omega) (by omega)) ?_
  refine goA ?_
  exact rfl
theorem neg_form (x y : Rat) : (0 - x) * y = -(y * x) := by
  rw [Rat.sub_eq_add_neg, Rat.zero_add, Rat.neg_mul, Rat.mul_comm]
set_option maxHeartbeats 4000000 in
theorem inverted_p {es : List AV} {A : List Rat} {K : Nat} (h : IsL es K A) (hA0 : 0 < A.length) (hA : A.length ≤ 24) (hd0 : A.getD 0 0 ≠ 0) (hK : 1 ≤ K ∧ K ≤ 100) : PC Tryz.prog 60 [.sl es] (.sl ((ivs A A.length).map encQ)) := by
  have hle := h.get.1
  have hhl := isL_ht h hK.1
  obtain ⟨g, xs, g', xs', q0, e1, e2, e3⟩ := h.at (i := 0) (by omega)
  have g0 : A.getD 0 0 = q0 := by rw [List.getD_eq_getElem?_getD, e2]; rfl
  have t0 := hhl q0 (List.mem_of_getElem? e2)
  have c1 := q_p 1 (by decide) (by decide)
  have c2 : PC Tryz.prog 93 _ _ := (refquo2_p (isV_encQ (ht_int (c := 1) (by decide))) e3 (Nat.le_refl 1) hK.1 (by omega) (by rw [← g0]; exact hd0)).up
  rw [show ((1 : Int) : Rat) = 1 from rfl] at c1 c2
  have cz := q_p 0 (by decide) (by decide)
  rw [show ((0 : Int) : Rat) = 0 from rfl] at cz
  generalize hfi : 1 / q0 = fi at *
  have tfi : Ht fi K := by rw [← hfi, Rat.div_def, Rat.one_mul]; exact ht_inv t0 hK.1
  have hiv1 : ivs A 1 = [fi] := by rw [ivs, g0, hfi]
  refine pc_body1 true Tryz.func60 rfl rfl rfl (Nat.le_of_ble_eq_true rfl) CellT.tmp ?_
  refine goA ?_
  refine evG ggA (ss_call (InB_of rfl) rfl rfl c1) ?_
  refine goA ?_
  refine evG ggA (ss_index_sl (InB_of rfl) (elem_tab rfl) rfl rfl (by decide) e1 rfl) ?_
  refine goA ?_
  refine evG ggA (ss_call (InB_of rfl) rfl rfl c2) ?_
  refine runA ?_
  refine ev_nil ?_
  refine seqQ_n ?_
  refine T.weak (s' := mkS [(0, .v (.sl es)), (3, .ptr 3 0)] [(3, qvar fi)] 53 true) (by exact entA) ?_
  refine T.seq ?_
  refine regA ?_
  refine runA ?_
  refine evG ggA (ss_bslice_own 31 (InB_of rfl) rfl (make_tab rfl) rfl rfl rfl rfl (one_ok rfl rfl) (Nat.le_of_ble_eq_true rfl) (by decide) (fun _ a ha => by rw [List.mem_singleton] at ha; subst ha; exact encQ_nu fi)) ?_
  refine runA ?_
  refine ev_nil ?_
  refine seqQ_n ?_
  refine T.seqI (fun s1 => s1 = mkS [(5, .own 31 A.length)] [(31, .lst 4 47 ((ivs A A.length).map encQ))] 53 true) ?_ ?_
  · refine r1A ?_
    refine T.block ?_
    refine T.loop (fun n s1 => ∃ k : Nat, n = A.length - k ∧ 1 ≤ k ∧ k ≤ A.length ∧ s1 = mkS [(0, .v (.sl es)), (3, .ptr 3 0), (5, .own 31 k), (6, .v (.p (.int .i64 k)))] [(3, qvar fi), (31, .lst 4 47 ((ivs A k).map encQ))] 53 true) (A.length - 1)
      (s' := mkS [(0, .v (.sl es)), (3, .ptr 3 0), (5, .own 31 1), (6, .v (.p (.int .i64 (1 : Nat))))] [(3, qvar fi), (31, .lst 4 47 ([fi].map encQ))] 53 true) (by exact entA) ⟨1, rfl, Nat.le_refl _, hA0, by rw [hiv1]⟩ ?_
    rintro n _ ⟨k, rfl, hk1, hk, rfl⟩
    have hlen31 : (ivs A k).length = k := ivs_len A k
    by_cases hlt : k < A.length
    · have hb : decide ((k : Int) < (es.length : Int)) = true := by simp; omega
      have hxk : ∀ i, i < k → Ht ((ivs A k).getD i 0) (HB K i) := ht_iv hK.1 hhl k (by omega)
      have hissh := ht_iss hK.1 hhl hxk
      have hHBk : HB K k ≤ 44493176832 := HB_le hK.2 (by omega)
      have hivn : ivs A (k + 1) = ivs A k ++ [(0 - iss A (ivs A k) k k) * fi] := by
        obtain ⟨k', rfl⟩ : ∃ k', k = k' + 1 := ⟨k - 1, by omega⟩
        rw [neg_form, ivs, g0, hfi]
      refine T.seqI (fun s1 => s1 = mkS [(0, .v (.sl es)), (3, .ptr 3 0), (5, .own 31 k), (6, .v (.p (.int .i64 k)))] [(3, qvar fi), (31, .lst 4 47 ((ivs A k).map encQ))] 53 true) ?_ ?_
      · refine goA ?_
        exact midQ_intro (by exact entA) rfl
      rintro _ rfl
      refine T.seq ?_
      refine T.block ?_
      refine T.seq ?_
      refine regA ?_
      refine runA ?_
      refine evG ggA (ss_call (InB_of rfl) rfl rfl cz) ?_
      refine runA ?_
      refine ev_nil ?_
      refine seqQ_n ?_
      generalize hX : ivs A k = X at *
      refine T.seqI (fun s1 => s1 = mkS [(0, .v (.sl es)), (3, .ptr 3 0), (5, .own 31 k), (6, .v (.p (.int .i64 k))), (7, .ptr 7 0)] [(3, qvar fi), (7, qvar (iss A X k k)), (31, .lst 4 47 (X.map encQ))] 53 true) ?_ ?_
      · refine r1A ?_
        refine T.block ?_
        refine T.loop (fun n s1 => ∃ j : Nat, n = k - j ∧ j ≤ k ∧ s1 = mkS [(0, .v (.sl es)), (3, .ptr 3 0), (5, .own 31 k), (6, .v (.p (.int .i64 k))), (7, .ptr 7 0), (8, .v (.p (.int .i64 ((j : Int) + 1))))] [(3, qvar fi), (7, qvar (iss A X k j)), (31, .lst 4 47 (X.map encQ))] 53 true) k
          (s' := mkS [(0, .v (.sl es)), (3, .ptr 3 0), (5, .own 31 k), (6, .v (.p (.int .i64 k))), (7, .ptr 7 0), (8, .v (.p (.int .i64 1)))] [(3, qvar fi), (7, qvar (iss A X k 0)), (31, .lst 4 47 (X.map encQ))] 53 true) (by exact entA) ⟨0, rfl, Nat.zero_le _, rfl⟩ ?_
        rintro n _ ⟨j, rfl, hj, rfl⟩
        by_cases hjk : j < k
        · have hb2 : decide ((j : Int) + 1 ≤ (k : Int)) = true := by simp; omega
          obtain ⟨y, ys, y', ys', q1, n0, hq1, v1⟩ := h.at (i := j + 1) (by omega)
          obtain ⟨q2, hq2⟩ : ∃ q, X[k - (j + 1)]? = some q := ⟨_, List.getElem?_eq_getElem (by omega)⟩
          have g1 : A.getD (j + 1) 0 = q1 := by rw [List.getD_eq_getElem?_getD, hq1]; rfl
          have g2 : X.getD (k - (j + 1)) 0 = q2 := by rw [List.getD_eq_getElem?_getD, hq2]; rfl
          have t1 := hhl q1 (List.mem_of_getElem? hq1)
          have t2 : Ht q2 (HB K k) := by rw [← g2]; exact (hxk _ (by omega)).mono (HB_mono K (by omega))
          have n1 : es[((j : Int) + 1).toNat]? = some (.agg [.p (.bool y), .sl ys, .p (.bool y'), .sl ys']) := by rw [show ((j : Int) + 1).toNat = j + 1 by omega]; exact n0
          have n2 : (X.map encQ)[((k : Int) - ((j : Int) + 1)).toNat]? = some (encQ q2) := by rw [show ((k : Int) - ((j : Int) + 1)).toNat = k - (j + 1) by omega]; exact enc_at hq2
          have hx0 : (X.map encQ).length = k := by rw [List.length_map, hlen31]
          have c3 : PC Tryz.prog 55 _ _ := (refmul2_p v1 (isV_encQ t2) (by omega)).up
          have hish : Ht (iss A X k j) (44493176832 + 24 * 101 + 1) := (hissh j (by omega)).mono (by have : j * (K + 1) ≤ 24 * (K + 1) := Nat.mul_le_mul_right _ (by omega); omega)
          have c4 : PC Tryz.prog 54 _ _ := (refadd2_p (isV_encQ hish) (isV_encQ (ht_mul t1 t2 hK.1)) (by omega) (by omega) (by omega)).up
          have his : iss A X k j + q1 * q2 = iss A X k (j + 1) := by show _ = iss A X k j + A.getD (j + 1) 0 * X.getD (k - (j + 1)) 0; rw [g1, g2]
          rw [his] at c4
          clear hxk hissh hhl
          refine goA ?_
          refine evG ggA (ss_index_sl (InB_of rfl) (elem_tab rfl) rfl rfl (by omega) n1 rfl) ?_
          refine goA ?_
          refine evG ggA (ss_index_own (InB_of rfl) (elem_tab rfl) rfl rfl hx0 rfl (by omega) (by omega)) ?_
          refine evG ggA (ss_load_opagg (InB_of rfl) (agg_tab rfl) rfl rfl hx0 n2) ?_
          refine evG ggA (ss_call (InB_of rfl) rfl rfl c3) ?_
          refine evG ggA (ss_call (InB_of rfl) rfl rfl c4) ?_
          refine goA ?_
          exact loopQ_intro (k := k - (j + 1)) (s' := mkS [(0, .v (.sl es)), (3, .ptr 3 0), (5, .own 31 k), (6, .v (.p (.int .i64 k))), (7, .ptr 7 0), (8, .v (.p (.int .i64 ((j : Int) + 1 + 1))))] [(3, qvar fi), (7, qvar (iss A X k (j + 1))), (31, .lst 4 47 (X.map encQ))] 53 true) (by omega) (by exact entA) ⟨j + 1, rfl, by omega, rfl⟩
        · obtain rfl : j = k := by omega
          have hb2 : decide ((j : Int) + 1 ≤ (j : Int)) = false := by simp; omega
          refine goA ?_
          exact midQ_intro (s' := mkS [(0, .v (.sl es)), (3, .ptr 3 0), (5, .own 31 j), (6, .v (.p (.int .i64 j))), (7, .ptr 7 0)] [(3, qvar fi), (7, qvar (iss A X j j)), (31, .lst 4 47 (X.map encQ))] 53 true) (by exact entA) rfl
      rintro _ rfl
      have hish : Ht (iss A X k k) (44493176832 + 24 * 101 + 1) := (hissh k (by omega)).mono (by have : k * (K + 1) ≤ 24 * (K + 1) := Nat.mul_le_mul_right _ (by omega); omega)
      have hz1 : Ht (0 : Rat) 1 := ht0 (Nat.le_refl 1)
      have c5 : PC Tryz.prog 75 _ _ := (refsub2_p (isV_encQ hz1) (isV_encQ hish) (Nat.le_refl 1) (by omega) (by omega)).up
      have hsh : Ht (0 - iss A X k k) (44493176832 + 24 * 101 + 1) := by rw [Rat.sub_eq_add_neg, Rat.zero_add]; exact ht_neg hish
      have c6 : PC Tryz.prog 55 _ _ := (refmul2_p (isV_encQ hsh) (isV_encQ tfi) (by omega)).up
      clear hxk hissh hhl
      refine goA ?_
      refine evG ggA (ss_call (InB_of rfl) rfl rfl cz) ?_
      refine goA ?_
      refine evG ggA (ss_call (InB_of rfl) rfl rfl c5) ?_
      refine goA ?_
      refine evG ggA (ss_call (InB_of rfl) rfl rfl c6) ?_
      (refine evG ggA (ss_bslice (InB_of rfl) (make_tab rfl) rfl rfl rfl rfl (one_ok rfl rfl) (Nat.le_of_ble_eq_true rfl)) ?_; refine evG ggA (ss_snoc (InB_of rfl) (make_tab rfl) rfl rfl (by first | rfl | assumption | (simp; done) | (simp; omega)) rfl (by omega) (Nat.le_of_ble_eq_true rfl) rfl) ?_)
      refine goA ?_
      exact loopQ_intro (k := A.length - (k + 1)) (s' := mkS [(0, .v (.sl es)), (3, .ptr 3 0), (5, .own 31 (k + 1)), (6, .v (.p (.int .i64 ((k : Int) + 1))))] [(3, qvar fi), (31, .lst 4 47 ((X ++ [(0 - iss A X k k) * fi]).map encQ))] 53 true) (by omega) (by exact entA) ⟨k + 1, rfl, by omega, hlt, by rw [hivn]; rfl⟩
    · obtain rfl : k = A.length := by omega
      have hb : decide ((A.length : Int) < (es.length : Int)) = false := by simp; omega
      refine goA ?_
      exact midQ_intro (s' := mkS [(5, .own 31 A.length)] [(31, .lst 4 47 ((ivs A A.length).map encQ))] 53 true) (by exact entA) rfl
  rintro _ rfl
  have hx0 : ((ivs A A.length).map encQ).length = A.length := by rw [List.length_map, ivs_len]
  refine T.weak (s' := mkS [(5, .v (.sl ((ivs A A.length).map encQ)))] [] 53 true) (by exact entA) ?_
  refine goA ?_
  exact rfl
theorem rinv_p {s : Int} {es : List AV} {l : List Rat} {K : Nat} (h : ValidP s es.length = true → IsL es K l ∧ l.length ≤ 24) (hle : es.length = l.length) (hr : InR s es.length) (hK : 1 ≤ K ∧ K ≤ 100) : PC Tryz.prog 14 [serA s es] (serT (invT s l)) := by
  have cch := check_p (es := es) hr.1 hr.2 hr.3
  unfold invT
  rw [← hle]
  cases h1 : ValidP s es.length with
  | false =>
    rw [h1] at cch
    refine pc_body2 true Tryz.func14 rfl rfl rfl (Nat.le_of_ble_eq_true rfl) (CellT.agg agg_ser) CellT.tmp ?_
    refine goA ?_
    refine evG ggA (ss_call (InB_of rfl) rfl rfl cch) ?_
    refine goA ?_
    exact rfl
  | true =>
  rw [h1] at cch
  obtain ⟨hL, hl24⟩ := h h1
  obtain ⟨a0, a1, a2⟩ := valid_iff.1 h1
  simp only [if_true]
  have co := rord_p hL (by omega) a0 a1 a2
  have cp := rprec_p a0 a1 a2
  have ck := known_p hL (by omega) a0 a1 a2
  have hla := lead_le l
  have hL2 := hL.drop (lead l)
  have hld : (l.drop (lead l)).length + lead l = l.length := by rw [List.length_drop]; omega
  have hd0 : ∀ q, (l.drop (lead l))[0]? = some q → q ≠ 0 := fun q hq => lead_ne l q (by rw [List.getElem?_drop] at hq; exact hq)
  by_cases hA : l.drop (lead l) = []
  · rw [if_pos hA]
    have hb : (s + (lead l : Int) == s + (es.length : Int)) = true := by rw [hA] at hld; simp at hld; simp; omega
    refine pc_body2 true Tryz.func14 rfl rfl rfl (Nat.le_of_ble_eq_true rfl) (CellT.agg agg_ser) CellT.tmp ?_
    refine goA ?_
    refine evG ggA (ss_call (InB_of rfl) rfl rfl cch) ?_
    refine goA ?_
    refine evG ggA (ss_call (InB_of rfl) rfl rfl co) ?_
    refine goA ?_
    refine evG ggA (ss_call (InB_of rfl) rfl rfl cp) ?_
    refine goA ?_
    exact rfl
  rw [if_neg hA]
  have hA0 : 0 < (l.drop (lead l)).length := List.length_pos_iff.2 hA
  have hb : (s + (lead l : Int) == s + (es.length : Int)) = false := by simp; omega
  have ci := inverted_p hL2 hA0 (by omega) (by
    have : (l.drop (lead l))[0]? = some (l.drop (lead l))[0] := List.getElem?_eq_getElem hA0
    rw [List.getD_eq_getElem?_getD, this]
    exact hd0 _ this) hK
  have hhl : ∀ q, q ∈ l.drop (lead l) → Ht q K := fun q hq => isL_ht hL hK.1 q (List.mem_of_mem_drop hq)
  have hivh := ht_iv hK.1 hhl (l.drop (lead l)).length (by omega)
  have hl2 := ivs_len (l.drop (lead l)) (l.drop (lead l)).length
  have hlen24 : (l.drop (lead l)).length ≤ 24 := by omega
  generalize hX : ivs (l.drop (lead l)) (l.drop (lead l)).length = X at *
  have hbuild := result_p (s := -(s + lead l)) (isL_enc (l := X) (k := 44493176832) (fun q hq => by
    obtain ⟨i, hi⟩ := List.getElem?_of_mem hq
    have hil : i < (l.drop (lead l)).length := by rw [← hl2]; exact (List.getElem?_eq_some_iff.1 hi).1
    have := hivh i hil
    rw [List.getD_eq_getElem?_getD, hi] at this
    exact this.mono (HB_le hK.2 (by omega)))) (by omega) (by omega) (by omega) (by omega)
  rw [serE_T] at hbuild
  have hneg : -(s + (lead l : Int)) = 0 - (s + lead l) := by omega
  rw [hneg] at hbuild ⊢
  clear hivh hd0 hhl hX
  refine pc_body2 true Tryz.func14 rfl rfl rfl (Nat.le_of_ble_eq_true rfl) (CellT.agg agg_ser) CellT.tmp ?_
  refine goA ?_
  refine evG ggA (ss_call (InB_of rfl) rfl rfl cch) ?_
  refine goA ?_
  refine evG ggA (ss_call (InB_of rfl) rfl rfl co) ?_
  refine goA ?_
  refine evG ggA (ss_call (InB_of rfl) rfl rfl cp) ?_
  refine goA ?_
  refine evG ggA (ss_call (InB_of rfl) rfl rfl co) ?_
  refine goA ?_
  refine evG ggA (ss_call (InB_of rfl) rfl rfl ck) ?_
  refine evG ggA (ss_call (InB_of rfl) rfl rfl ci) ?_
  refine evG ggA (ss_call (InB_of rfl) rfl rfl hbuild) ?_
  refine goA ?_
  exact rfl
end Ab
