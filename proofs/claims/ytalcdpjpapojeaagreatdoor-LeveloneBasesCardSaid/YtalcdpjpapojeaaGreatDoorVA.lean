/- Inverse and Quo of package series, Inverse and Mul of the. -/
import Derived.Test.YtalcdpjpapojeaaGreatDoorZJ
import Derived.Test.YtalcdpjpapojeaaGreatDoorOCG
import Derived.Test.YtalcdpjpapojeaaGreatDoorWo
set_option linter.all false
namespace Ab
open Go Go.RowKit Go.Proofs Hp
set_option maxRecDepth 100000
theorem ht_iss2 {l x : List Rat} {P Q : Nat} (hP : 1 ≤ P) (hQ : 1 ≤ Q) (hl : ∀ q, q ∈ l → Ht q P) (hx : ∀ q, q ∈ x → Ht q Q) (k : Nat) : ∀ j, Ht (iss l x k j) (1 + j * (P + Q + 1))
 | 0 => (ht0 (Nat.le_refl _)).mono oM
 | j + 1 => (Zgy (ht_iss2 hP hQ hl hx k j) (Zbq (Zcl hP hl (j + 1)) (Zcl hQ hx (k - (j + 1))) hP)).mono (by rw [Nat.add_mul j 1]; omega)
set_option maxHeartbeats 400000 in
theorem invV_p {s : Int} {es : List AV} {l : List Rat} {K : Nat} (h : Zap s es.length = true → IsL es K l ∧ l.length ≤ 200) (hle : es.length = l.length) (hr : InR s es.length) (hK : 1 ≤ K ∧ K ≤ 1000000) {Q : Nat} (hQ : 1 ≤ Q ∧ Q ≤ 1000000) (hX0 : Zap s es.length = true → ∀ k, k ≤ (l.drop (lead l)).length → ∀ q, q ∈ ivs (l.drop (lead l)) k → Ht q Q) : PC Tryz.prog 104 [serA s es] (serT (invT s l)) := by
  obtain ⟨i1, i2, i3⟩ := hr
  have hva := Zdt i1 i2 i3
  unfold invT
  rw [← hle]
  cases h1 : Zap s es.length with
  | false =>
    rw [h1] at hva
    refine pb2 Tryz.func104 (Zac.agg Zaj) Zac.tmp ?_
    refine goA ?_
    refine clG hva ?_
    exact rfl
  | true =>
  rw [h1] at hva
  obtain ⟨hL, hl24⟩ := h h1
  have hQv := hX0 h1
  obtain ⟨a0, a1, a2⟩ := Za2.1 h1
  simp only [if_true]
  have hta := tidy_p hL oM a0 a1 a2
  have hla := Zc2 l
  have hhl : ∀ q, q ∈ l.drop (lead l) → Ht q K := fun q hq => Zdz hL hK.1 q (List.mem_of_mem_drop hq)
  have hld : (l.drop (lead l)).length + lead l = l.length := by rw [List.length_drop]; omega
  have hne := Zga l
  have hd0 : ∀ q, (l.drop (lead l))[0]? = some q → q ≠ 0 := fun q hq => hne q (by rw [List.getElem?_drop] at hq; exact hq)
  generalize l.drop (lead l) = A at *
  generalize hsa : s + (lead l : Int) = sa at *
  by_cases hA : A = []
  · subst hA
    simp only [if_true]
    refine pb2 Tryz.func104 (Zac.agg Zaj) Zac.tmp ?_
    refine goA ?_
    refine clG hva ?_
    refine clG hta ?_
    exact rfl
  rw [if_neg hA]
  have hA0 : 0 < A.length := List.length_pos_iff.2 hA
  have hbne : (((A.map encQ).length : Int) == 0) = false := by simp; exact hA
  obtain ⟨q0, hq0⟩ : ∃ q, A[0]? = some q := ⟨_, List.getElem?_eq_getElem hA0⟩
  have g0 : A.getD 0 0 = q0 := by rw [List.getD_eq_getElem?_getD, hq0]; rfl
  have t0 := hhl q0 (List.mem_of_getElem? hq0)
  have c1 := Zdh 1 dC dC
  have c2 := rquo_p (Zad (Zcq (c := 1) dC)) oM (Zad t0) oM (hd0 q0 hq0)
  rw [show ((1 : Int) : Rat) = 1 from rfl] at c1 c2
  have hof := Zdh 0 dC dC
  rw [show ((0 : Int) : Rat) = 0 from rfl] at hof
  generalize hfi : 1 / q0 = fi at *
  have tfi : Ht fi K := by rw [← hfi, Rat.div_def, Rat.one_mul]; exact ht_inv t0 hK.1
  have n0 := Zec hq0
  have hiv1 : ivs A 1 = [fi] := by rw [ivs, g0, hfi]
  refine pb2 Tryz.func104 (Zac.agg Zaj) Zac.tmp ?_
  refine goA ?_
  refine clG hva ?_
  refine clG hta ?_
  refine clG c1 ?_
  refine evG ggA (Zbh (Zaa rfl) (Zag rfl) rfl rfl dC n0 rfl) ?_
  refine goA ?_
  refine clA c2 ?_
  refine runA ?_
  refine Zao ?_
  refine Za1 ?_
  refine T.weak (s' := mkS [(1, .ptr 1 0), (2, .ptr 2 0), (4, .ptr 4 0)] [(1, svar sa A), (2, var0), (4, qvar fi)] 73 true) entA ?_
  refine T.seq ?_
  refine regA ?_
  refine runA ?_
  refine evG ggA (Zb8 31 (Zaa rfl) rfl (Zaf rfl) rfl rfl rfl rfl (Zci rfl rfl) (Nat.le_of_ble_eq_true rfl) dC (fun _ a ha => by rw [List.mem_singleton] at ha; subst ha; exact Ze3 fi)) ?_
  refine runA ?_
  refine Zao ?_
  refine Za1 ?_
  refine T.seqE (mkS [(1, .ptr 1 0), (2, .ptr 2 0), (6, .own 31 A.length)] [(1, svar sa A), (2, var0), (31, .lst 4 39 ((ivs A A.length).map encQ))] 73 true) ?_ ?_
  · refine r1A ?_
    refine T.block ?_
    refine T.loop (fun n s1 => ∃ k : Nat, n = A.length - k ∧ 1 ≤ k ∧ k ≤ A.length ∧ s1 = mkS [(1, .ptr 1 0), (2, .ptr 2 0), (4, .ptr 4 0), (6, .own 31 k), (7, .v (iV k))] [(1, svar sa A), (2, var0), (4, qvar fi), (31, .lst 4 39 ((ivs A k).map encQ))] 73 true) (A.length - 1)
      (s' := mkS [(1, .ptr 1 0), (2, .ptr 2 0), (4, .ptr 4 0), (6, .own 31 1), (7, .v (iV (1 : Nat)))] [(1, svar sa A), (2, var0), (4, qvar fi), (31, .lst 4 39 ([fi].map encQ))] 73 true) entA ⟨1, rfl, Nat.le_refl _, hA0, by rw [hiv1]⟩ ?_
    rintro n _ ⟨k, rfl, hk1, hk, rfl⟩
    have hlen31 : (ivs A k).length = k := Zgb A k
    by_cases hlt : k < A.length
    · have hb : decide ((k : Int) < ((A.map encQ).length : Int)) = true := by simp; omega
      have hxk : ∀ i, i < k → Ht ((ivs A k).getD i 0) Q := fun i _ => Zcl hQ.1 (hQv k oM) i
      have hissh : ∀ j, j ≤ k → Ht (iss A (ivs A k) k j) (1 + j * (K + Q + 1)) := fun j _ => ht_iss2 hK.1 hQ.1 hhl (hQv k oM) k j
      refine T.seq ?_
      refine T.seq ?_
      refine regA ?_
      refine runA ?_
      refine Zao ?_
      refine Za1 ?_
      refine T.condT rfl hb ?_
      refine T.skip ?_
      refine Za1 ?_
      refine T.seq ?_
      refine T.block ?_
      refine T.seq ?_
      refine regA ?_
      refine runA ?_
      refine clA hof ?_
      refine runA ?_
      refine Zao ?_
      refine Za1 ?_
      generalize hX : ivs A k = X at *
      refine T.seqE (mkS [(1, .ptr 1 0), (2, .ptr 2 0), (4, .ptr 4 0), (6, .own 31 k), (7, .v (iV k)), (8, .ptr 8 0)] [(1, svar sa A), (2, var0), (4, qvar fi), (8, qvar (iss A X k k)), (31, .lst 4 39 (X.map encQ))] 73 true) ?_ ?_
      · refine r1A ?_
        refine T.block ?_
        refine T.loop (fun n s1 => ∃ j : Nat, n = k - j ∧ j ≤ k ∧ s1 = mkS [(1, .ptr 1 0), (2, .ptr 2 0), (4, .ptr 4 0), (6, .own 31 k), (7, .v (iV k)), (8, .ptr 8 0), (9, .v (iV ((j : Int) + 1)))] [(1, svar sa A), (2, var0), (4, qvar fi), (8, qvar (iss A X k j)), (31, .lst 4 39 (X.map encQ))] 73 true) k
          (s' := mkS [(1, .ptr 1 0), (2, .ptr 2 0), (4, .ptr 4 0), (6, .own 31 k), (7, .v (iV k)), (8, .ptr 8 0), (9, .v (iV 1))] [(1, svar sa A), (2, var0), (4, qvar fi), (8, qvar (iss A X k 0)), (31, .lst 4 39 (X.map encQ))] 73 true) entA ⟨0, rfl, Nat.zero_le _, rfl⟩ ?_
        rintro n _ ⟨j, rfl, hj, rfl⟩
        by_cases hjk : j < k
        · have hb2 : decide ((j : Int) + 1 ≤ (k : Int)) = true := by simp; omega
          obtain ⟨q1, hq1⟩ : ∃ q, A[j + 1]? = some q := ⟨_, List.getElem?_eq_getElem oM⟩
          obtain ⟨q2, hq2⟩ : ∃ q, X[k - (j + 1)]? = some q := ⟨_, List.getElem?_eq_getElem oM⟩
          have g1 : A.getD (j + 1) 0 = q1 := by rw [List.getD_eq_getElem?_getD, hq1]; rfl
          have g2 : X.getD (k - (j + 1)) 0 = q2 := by rw [List.getD_eq_getElem?_getD, hq2]; rfl
          have t1 := hhl q1 (List.mem_of_getElem? hq1)
          have t2 : Ht q2 Q := by rw [← g2]; exact hxk _ oM
          have n1 : (A.map encQ)[((j : Int) + 1).toNat]? = some (encQ q1) := by rw [show ((j : Int) + 1).toNat = j + 1 by omega]; exact Zec hq1
          have n2 : (X.map encQ)[((k : Int) - ((j : Int) + 1)).toNat]? = some (encQ q2) := by rw [show ((k : Int) - ((j : Int) + 1)).toNat = k - (j + 1) by omega]; exact Zec hq2
          have hx0 : (X.map encQ).length = k := by rw [List.length_map, hlen31]
          have c3 := Zdw (Zad t1) oM (Zad t2) oM
          have hish : Ht (iss A X k j) (1000000000) := (hissh j oM).mono (by have : j * (K + Q + 1) ≤ 200 * (K + Q + 1) := Nat.mul_le_mul_right _ oM; omega)
          have c4 := radd_p (Zad hish) oM (Zad (Zbq t1 t2 hK.1)) oM
          have hcs : iss A X k (j + 1) = iss A X k j + q1 * q2 := by show iss A X k j + A.getD (j + 1) 0 * X.getD (k - (j + 1)) 0 = _; rw [g1, g2]
          rw [← hcs] at c4
          refine goA ?_
          refine ixG n1 ?_
          refine evG ggA (Zah (Zaa rfl) (Zag rfl) rfl rfl hx0 rfl oM oM) ?_
          refine evG ggA (Zan (Zaa rfl) (Zbc rfl) rfl rfl hx0 n2) ?_
          refine clA c3 ?_
          refine clG c4 ?_
          exact Zab (k := k - (j + 1)) (s' := mkS [(1, .ptr 1 0), (2, .ptr 2 0), (4, .ptr 4 0), (6, .own 31 k), (7, .v (iV k)), (8, .ptr 8 0), (9, .v (iV ((j : Int) + 1 + 1)))] [(1, svar sa A), (2, var0), (4, qvar fi), (8, qvar (iss A X k (j + 1))), (31, .lst 4 39 (X.map encQ))] 73 true) oM entA ⟨j + 1, rfl, oM, rfl⟩
        · obtain rfl : j = k := oM
          have hb2 : decide ((j : Int) + 1 ≤ (j : Int)) = false := by simp; omega
          refine goA ?_
          exact midE
      have his : Ht (iss A X k k) (1000000000) := (hissh k (Nat.le_refl _)).mono (by have : k * (K + Q + 1) ≤ 200 * (K + Q + 1) := Nat.mul_le_mul_right _ oM; omega)
      have c5 := Zdw (Zad tfi) oM (Zad his) oM
      have c6 := rneg_p (Zad (Zbq tfi his hK.1)) oM
      have hstep : ivs A (k + 1) = X ++ [-(fi * iss A X k k)] := by
        obtain ⟨k', rfl⟩ : ∃ k', k = k' + 1 := ⟨k - 1, oM⟩
        rw [ivs, hX, g0, hfi]
      refine regA ?_
      refine runA ?_
      refine clA c5 ?_
      refine clA c6 ?_
      refine appA ?_
      refine goA ?_
      exact Zab (k := A.length - (k + 1)) (s' := mkS [(1, .ptr 1 0), (2, .ptr 2 0), (4, .ptr 4 0), (6, .own 31 (k + 1)), (7, .v (iV ((k : Int) + 1)))] [(1, svar sa A), (2, var0), (4, qvar fi), (31, .lst 4 39 ((X ++ [-(fi * iss A X k k)]).map encQ))] 73 true) oM entA ⟨k + 1, rfl, oM, hlt, by rw [hstep]; rfl⟩
    · obtain rfl : k = A.length := oM
      have hb : decide ((A.length : Int) < ((A.map encQ).length : Int)) = false := by simp
      refine goA ?_
      exact Zae (s' := mkS [(1, .ptr 1 0), (2, .ptr 2 0), (6, .own 31 A.length)] [(1, svar sa A), (2, var0), (31, .lst 4 39 ((ivs A A.length).map encQ))] 73 true) entA rfl
  have hl2 := Zgb A A.length
  have hQA := hQv A.length (Nat.le_refl _)
  generalize hX : ivs A A.length = X at *
  have hbuild := Ze7 (s := -sa) (Zbb (l := X) (k := Q) hQA) oM oM oM oM
  rw [serE_T] at hbuild
  have hneg : -sa = 0 - sa := oM
  rw [hneg] at hbuild ⊢
  have hx0 : (X.map encQ).length = A.length := by rw [List.length_map, hl2]
  refine T.weak (s' := mkS [(1, .ptr 1 0), (2, .ptr 2 0), (6, .v (.sl (X.map encQ)))] [(1, svar sa A), (2, var0)] 73 true) entA ?_
  refine goA ?_
  refine clG hbuild ?_
  exact rfl
theorem Zgo {a : AV} {k : Nat} {q : Rat} (h : IsV a k q) (hk : k ≤ 17592186044416) : ∃ dsg : Int, (dsg = 0 ↔ q = 0) ∧ PW Tryz.prog 24 [a] (.p (.int .i64 dsg)) := by
 obtain ⟨cs, ds, n, d, rfl, h1, h2, rfl⟩ := h
 have c1 := refsign_p ⟨cs, rfl, h1⟩ hk
 have c2 := refsign_p ⟨ds, rfl, h2⟩ hk
 obtain ⟨m1, m2, m3⟩ := Zew n d
 refine ⟨sgn n * sgn d, m3, ?_⟩
 obtain ⟨g, x, rfl, -⟩ := h1
 obtain ⟨g', x', rfl, -⟩ := h2
 refine Zaz false Tryz.func24 rfl rfl rfl (Nat.le_of_ble_eq_true rfl) Zac.tmp ?_
 refine goA ?_
 refine clG c1 ?_
 refine clG c2 ?_
 exact rfl
theorem rat_div_eq (p q : Rat) : p / q = Rat.divInt (p.num * q.den) (p.den * q.num) := by
 rw [Rat.div_def, Rat.inv_def]
 conv => lhs; rw [← Rat.num_divInt_den p]
 rw [Rat.divInt_mul_divInt]
theorem ratio_p {a b : AV} {k l : Nat} {p q : Rat} (ha : IsV a k p) (hb : IsV b l q) (h1 : 1 ≤ k) (h2 : 1 ≤ l) (hk : k + l ≤ 274877906944) : PW Tryz.prog 114 [a, b] (encQ (p / q)) := by
 have hp := Zfc ha h1
 have hq := Zfc hb h2
 have n1 := Zca ha oM
 have n2 := Zca hb oM
 have dp : ((p.den : Nat) : Int).natAbs < pw k := by rw [Int.natAbs_natCast]; exact hp.2
 have dq : ((q.den : Nat) : Int).natAbs < pw l := by rw [Int.natAbs_natCast]; exact hq.2
 have c1 := Zdo (Zar hp.1) (Zar dq) oM oM
 have c2 := Zdo (Zar dp) (Zar hq.1) oM oM
 have c3 := over_p (Zar (lt_mul hp.1 dq)) (Zar (lt_mul dp hq.1)) hk
 rw [rat_div_eq]
 obtain ⟨g, x, g', x', rfl⟩ := Zax ha
 obtain ⟨j, y, j', y', rfl⟩ := Zax hb
 clear ha hb hp hq dp dq
 unfold encI at c1 c2 c3
 unfold encQ at n1 n2 c3 ⊢
 refine Zaz false Tryz.func114 rfl rfl rfl (Nat.le_of_ble_eq_true rfl) (Zac.agg Zbg) ?_
 refine goA ?_
 refine clG n1 ?_
 refine clG n2 ?_
 refine clG c1 ?_
 refine clA c2 ?_
 refine clG c3 ?_
 exact rfl
theorem refquo2_p {a b : AV} {k l : Nat} {p q : Rat} (ha : IsV a k p) (hb : IsV b l q) (h1 : 1 ≤ k) (h2 : 1 ≤ l) (hk : k + l ≤ 274877906944) (h0 : q ≠ 0) : PW Tryz.prog 77 [a, b] (.tup [encQ (p / q), .p (.int .i64 0)]) := by
 obtain ⟨dsg, hsg, c1⟩ := Zgo hb oM
 have c2 := ratio_p ha hb h1 h2 hk
 have hb1 : (dsg == 0) = false := by
  have : ¬ dsg = 0 := fun e => h0 (hsg.1 e)
  simp [this]
 obtain ⟨g, x, g', x', rfl⟩ := Zax ha
 obtain ⟨j, y, j', y', rfl⟩ := Zax hb
 unfold encQ at c2 ⊢
 refine pc_body2 false Tryz.func77 rfl rfl rfl (Nat.le_of_ble_eq_true rfl) (Zac.agg Zbg) Zac.tmp ?_
 refine goA ?_
 refine clG c1 ?_
 refine clG c2 ?_
 exact rfl
theorem empty_p (p : Int) : PC Tryz.prog 107 [.p (.int .i64 p)] (serA p []) := by
 refine pb1 Tryz.func107 (Zac.agg Zaj) ?_
 refine goA ?_
 exact rfl
theorem cf_at (s : Int) (l : List Rat) (j : Nat) : cf s l (s + lead l + j) = (l.drop (lead l)).getD j 0 := by
 unfold cf
 rw [if_neg oM, show (s + (lead l : Int) + (j : Int) - s).toNat = lead l + j by omega]
 simp [List.getD_eq_getElem?_getD]
theorem nrm_end {s : Int} {l : List Rat} (h : 1000 ≤ s) : nrm s l = some (1000, []) := by
 have h1 : Zdq s = 1000 := by unfold Zdq; split <;> omega
 have h2 : ncut s l = [] := by
  unfold ncut
  split
  ·rfl
  ·rw [show (1000 - s).toNat = 0 by omega, List.take_zero]
 unfold nrm
 rw [h1, h2]
 rfl
set_option maxHeartbeats 4000000 in
theorem rmul33_p {s t : Int} {es fs : List AV} {l m : List Rat} {K M : Nat} (h : Both s es t fs K l m) (hK1 : 1 ≤ K) (hM1 : 1 ≤ M) (hW0 : (2 * K + 1) * M + 1 ≤ 137438953472) (hAM0 : Zap s es.length = true → es.length ≤ M) : PC Tryz.prog 109 [serA s es, serA t fs] (serE (mulR s l t m)) := by
  have hK : 1 ≤ K ∧ K ≤ 68719476735 := ⟨hK1, by have := Nat.mul_le_mul_left (2 * K + 1) hM1; omega⟩
  obtain ⟨h0, hle, hlf, i1, i2⟩ := h
  have ctw := two_p i1 i2
  rw [Zbm]
  unfold mulR
  rw [← hle, ← hlf]
  cases hv : Zap s es.length && Zap t fs.length with
  | false =>
    rw [hv] at ctw
    refine pb2 Tryz.func109 (Zac.agg Zaj) Zac.tmp ?_
    refine goA ?_
    refine clG ctw ?_
    exact rfl
  | true =>
  rw [hv] at ctw
  simp only [Bool.and_eq_true] at hv
  have hAM := hAM0 hv.1
  clear hAM0
  obtain ⟨W, hWd⟩ : ∃ W, W = (2 * K + 1) * M + 1 := ⟨_, rfl⟩
  rw [← hWd] at hW0
  obtain ⟨hL, hM⟩ := h0 hv.1 hv.2
  obtain ⟨a0, a1, a2⟩ := Za2.1 hv.1
  obtain ⟨b0, b1, b2⟩ := Za2.1 hv.2
  simp only [if_true]
  have opa := rord_p hL oM a0 a1 a2
  have opb := rord_p hM oM b0 b1 b2
  have ppa := rprec_p a0 a1 a2
  have ppb := rprec_p b0 b1 b2
  have hla := Zc2 l
  have hlb := Zc2 m
  have hhl : ∀ q, q ∈ l.drop (lead l) → Ht q K := fun q hq => Zdz hL hK.1 q (List.mem_of_mem_drop hq)
  have hhm : ∀ q, q ∈ m.drop (lead m) → Ht q K := fun q hq => Zdz hM hK.1 q (List.mem_of_mem_drop hq)
  have hld : (l.drop (lead l)).length + lead l = l.length := by rw [List.length_drop]; omega
  have hmd : (m.drop (lead m)).length + lead m = m.length := by rw [List.length_drop]; omega
  have cfa := cf_at s l
  have cfb := cf_at t m
  generalize l.drop (lead l) = A at *
  generalize m.drop (lead m) = C at *
  generalize hsa : s + (lead l : Int) = sa at *
  generalize htb' : t + (lead m : Int) = tb at *
  have hfr : -200 ≤ sa + tb ∧ sa + tb ≤ 2000 := oM
  obtain ⟨P, hP⟩ : ∃ P, P = min (s + (es.length : Int) + tb) (t + (fs.length : Int) + sa) := ⟨_, rfl⟩
  refine pb2 Tryz.func109 (Zac.agg Zaj) Zac.tmp ?_
  refine r1A ?_
  refine T.seqE (mkS [(2, .ptr 2 0), (3, .ptr 3 0), (4, .ptr 4 0)] [(2, .var [.v (iV s), .v (.sl es)]), (3, .var [.v (iV t), .v (.sl fs)]), (4, var0)] 77 true) ?_ ?_
  · refine goA ?_
    refine clG ctw ?_
    exact midE
  refine T.seq ?_
  refine regA ?_
  refine runA ?_
  refine clA opa ?_
  refine runA ?_
  refine clA opb ?_
  refine runA ?_
  refine Zao ?_
  refine Za1 ?_
  refine T.seqE (mkS [(2, .ptr 2 0), (3, .ptr 3 0), (4, .ptr 4 0), (7, .v (iV (sa + tb))), (8, .v (iV P))] [(2, .var [.v (iV s), .v (.sl es)]), (3, .var [.v (iV t), .v (.sl fs)]), (4, var0)] 77 true) ?_ ?_
  · refine goA ?_
    refine clG ppa ?_
    refine clG opb ?_
    refine clG ppb ?_
    refine clG opa ?_
    rw [← hP]
    exact midE
  unfold mulN
  by_cases h1000 : 1000 ≤ sa + tb
  · have hb : decide (sa + tb ≥ 1000) = true := by simp; omega
    have ce := empty_p 1000
    rw [nrm_end h1000]
    refine goA ?_
    refine clG ce ?_
    exact rfl
  have hb0 : decide (sa + tb ≥ 1000) = false := by simp; omega
  generalize hN : mlen (sa + tb) A.length C.length = N
  have hNe : (N : Int) = max 0 (min (min (A.length : Int) (C.length : Int)) (1000 - (sa + tb))) := by rw [← hN]; unfold mlen; omega
  have hPN : min P 1000 = sa + tb + N := oM
  have hN1 : N ≤ A.length ∧ N ≤ C.length := oM
  have hAl : A.length ≤ M := oM
  generalize hfrom : sa + tb = fr at *
  refine T.seqE (mkS [(2, .ptr 2 0), (3, .ptr 3 0), (4, .ptr 4 0), (7, .v (iV fr)), (8, .v (iV P))] [(2, .var [.v (iV s), .v (.sl es)]), (3, .var [.v (iV t), .v (.sl fs)]), (4, var0)] 77 true) ?_ ?_
  · refine goA ?_
    exact midE
  have cz := q_p 0 dC dC
  rw [show ((0 : Int) : Rat) = 0 from rfl] at cz
  refine r1A ?_
  refine T.seqE (mkS [(4, .ptr 4 0), (7, .v (iV fr)), (9, .own 100 N)] [(4, var0), (100, .lst 4 39 ((tk (conv A C) N).map encQ))] 77 true) ?_ ?_
  · refine r1A ?_
    refine T.block ?_
    refine T.loop (fun n s1 => ∃ k : Nat, n = N - k ∧ k ≤ N ∧ s1 = mkS [(2, .ptr 2 0), (3, .ptr 3 0), (4, .ptr 4 0), (7, .v (iV fr)), (8, .v (iV P)), (9, .own 100 k), (10, .v (iV (fr + k)))] [(2, .var [.v (iV s), .v (.sl es)]), (3, .var [.v (iV t), .v (.sl fs)]), (4, var0), (100, .lst 4 39 ((tk (conv A C) k).map encQ))] 77 true) N
      (s' := mkS [(2, .ptr 2 0), (3, .ptr 3 0), (4, .ptr 4 0), (7, .v (iV fr)), (8, .v (iV P)), (9, .own 100 0), (10, .v (iV fr))] [(2, .var [.v (iV s), .v (.sl es)]), (3, .var [.v (iV t), .v (.sl fs)]), (4, var0), (100, .lst 4 39 ((tk (conv A C) 0).map encQ))] 77 true) entA ⟨0, rfl, Nat.zero_le _, by simp⟩ ?_
    rintro n _ ⟨k, rfl, hk, rfl⟩
    by_cases hlt : k < N
    · have hb : decide (fr + (k : Int) < min P 1000) = true := by rw [hPN]; simp; omega
      refine T.seqE (mkS [(2, .ptr 2 0), (3, .ptr 3 0), (4, .ptr 4 0), (7, .v (iV fr)), (8, .v (iV P)), (9, .own 100 k), (10, .v (iV (fr + k)))] [(2, .var [.v (iV s), .v (.sl es)]), (3, .var [.v (iV t), .v (.sl fs)]), (4, var0), (100, .lst 4 39 ((tk (conv A C) k).map encQ))] 77 true) ?_ ?_
      · refine goA ?_
        exact midE
      refine T.seq ?_
      refine T.block ?_
      refine T.seq ?_
      refine regA ?_
      refine runA ?_
      refine clA cz ?_
      refine runA ?_
      refine Zao ?_
      refine Za1 ?_
      refine T.seqE (mkS [(2, .ptr 2 0), (3, .ptr 3 0), (4, .ptr 4 0), (7, .v (iV fr)), (8, .v (iV P)), (9, .own 100 k), (10, .v (iV (fr + k))), (11, .ptr 11 0)] [(2, .var [.v (iV s), .v (.sl es)]), (3, .var [.v (iV t), .v (.sl fs)]), (4, var0), (11, qvar (conv A C k)), (100, .lst 4 39 ((tk (conv A C) k).map encQ))] 77 true) ?_ ?_
      · refine T.seq ?_
        refine regA ?_
        refine runA ?_
        refine clA opa ?_
        refine runA ?_
        refine Zao ?_
        refine Za1 ?_
        refine T.block ?_
        refine T.loop (fun n s1 => ∃ j : Nat, n = k + 1 - j ∧ j ≤ k + 1 ∧ s1 = mkS [(2, .ptr 2 0), (3, .ptr 3 0), (4, .ptr 4 0), (7, .v (iV fr)), (8, .v (iV P)), (9, .own 100 k), (10, .v (iV (fr + k))), (11, .ptr 11 0), (12, .v (iV (sa + j)))] [(2, .var [.v (iV s), .v (.sl es)]), (3, .var [.v (iV t), .v (.sl fs)]), (4, var0), (11, qvar (cs A C k j)), (100, .lst 4 39 ((tk (conv A C) k).map encQ))] 77 true) (k + 1)
          (s' := mkS [(2, .ptr 2 0), (3, .ptr 3 0), (4, .ptr 4 0), (7, .v (iV fr)), (8, .v (iV P)), (9, .own 100 k), (10, .v (iV (fr + k))), (11, .ptr 11 0), (12, .v (iV sa))] [(2, .var [.v (iV s), .v (.sl es)]), (3, .var [.v (iV t), .v (.sl fs)]), (4, var0), (11, qvar (cs A C k 0)), (100, .lst 4 39 ((tk (conv A C) k).map encQ))] 77 true) entA ⟨0, rfl, Nat.zero_le _, by simp⟩ ?_
        rintro n _ ⟨j, rfl, hj, rfl⟩
        by_cases hjk : j ≤ k
        · have hb2 : decide (sa + (j : Int) ≤ fr + (k : Int) - tb) = true := by simp; omega
          have t1 := Zcl hK.1 hhl j
          have t2 := Zcl hK.1 hhm (k - j)
          have k1 := coef_p (n := sa + j) hL oM a0 a1 a2 oM oM
          have k2 := coef_p (n := fr + (k : Int) - (sa + (j : Int))) hM oM b0 b1 b2 oM oM
          have e1 : cf s l (sa + j) = A.getD j 0 := cfa j
          have e2 : cf t m (fr + (k : Int) - (sa + (j : Int))) = C.getD (k - j) 0 := by
            rw [show fr + (k : Int) - (sa + (j : Int)) = tb + ((k - j : Nat) : Int) by omega]
            exact cfb (k - j)
          rw [e1] at k1
          rw [e2] at k2
          have c3 : PC Tryz.prog 78 _ _ := (Zb7 (Zad t1) (Zad t2) oM).up
          have hcsh : Ht (cs A C k j) W := (ht_cs hK.1 hhl hhm k j).mono (by rw [hWd]; exact Nat.succ_le_succ (Nat.mul_le_mul_left _ oM))
          have c4 : PC Tryz.prog 116 _ _ := (Zdx (Zad hcsh) (Zad (Zbq t1 t2 hK.1)) oM oM oM).up
          have hcs : cs A C k j + A.getD j 0 * C.getD (k - j) 0 = cs A C k (j + 1) := rfl
          rw [hcs] at c4
          clear hhl hhm cfa cfb hcsh t1 t2
          refine goA ?_
          refine clG opb ?_
          refine clG k1 ?_
          refine clA k2 ?_
          refine clA c3 ?_
          refine clG c4 ?_
          exact Zab (k := k + 1 - (j + 1)) (s' := mkS [(2, .ptr 2 0), (3, .ptr 3 0), (4, .ptr 4 0), (7, .v (iV fr)), (8, .v (iV P)), (9, .own 100 k), (10, .v (iV (fr + k))), (11, .ptr 11 0), (12, .v (iV (sa + (j : Int) + 1)))] [(2, .var [.v (iV s), .v (.sl es)]), (3, .var [.v (iV t), .v (.sl fs)]), (4, var0), (11, qvar (cs A C k (j + 1))), (100, .lst 4 39 ((tk (conv A C) k).map encQ))] 77 true) oM entA ⟨j + 1, rfl, oM, by rw [Int.natCast_succ, ← Int.add_assoc]⟩
        · obtain rfl : j = k + 1 := oM
          have hb2 : decide (sa + ((k + 1 : Nat) : Int) ≤ fr + (k : Int) - tb) = false := by simp; omega
          refine goA ?_
          refine clG opb ?_
          exact midE
      refine goA ?_
      refine appA ?_
      refine goA ?_
      exact Zab (k := N - (k + 1)) (s' := mkS [(2, .ptr 2 0), (3, .ptr 3 0), (4, .ptr 4 0), (7, .v (iV fr)), (8, .v (iV P)), (9, .own 100 (k + 1)), (10, .v (iV (fr + (k : Int) + 1)))] [(2, .var [.v (iV s), .v (.sl es)]), (3, .var [.v (iV t), .v (.sl fs)]), (4, var0), (100, .lst 4 39 ((tk (conv A C) k ++ [conv A C k]).map encQ))] 77 true) oM entA ⟨k + 1, rfl, hlt, by rw [Zdu, Int.natCast_succ, ← Int.add_assoc]⟩
    · obtain rfl : k = N := oM
      have hb : decide (fr + (k : Int) < min P 1000) = false := by rw [hPN]; simp
      refine goA ?_
      exact Zae (s' := mkS [(4, .ptr 4 0), (7, .v (iV fr)), (9, .own 100 k)] [(4, var0), (100, .lst 4 39 ((tk (conv A C) k).map encQ))] 77 true) entA rfl
  have hbuild := Zey (s := fr) (Zbb (l := tk (conv A C) N) (k := W) (fun q hq => by obtain ⟨i, hi, rfl⟩ := Zfb hq; exact (ht_cs hK.1 hhl hhm i (i + 1)).mono (by rw [hWd]; exact Nat.succ_le_succ (Nat.mul_le_mul_left _ oM)))) oM oM oM (by rw [tk_len]; omega)
  rw [Zbm] at hbuild
  refine T.weak (s' := mkS [(4, .ptr 4 0), (7, .v (iV fr)), (9, .v (.sl ((tk (conv A C) N).map encQ)))] [(4, var0)] 77 true) entA ?_
  refine goA ?_
  refine clG hbuild ?_
  exact rfl
def quoT (s : Int) (l : List Rat) (t : Int) (m : List Rat) : Res :=
 if Zap s l.length then (if (invT t m).2.2 = 0 then nrmT (mulR s l (invT t m).1 (invT t m).2.1) else (0, [], (invT t m).2.2)) else (0, [], 2)
set_option maxHeartbeats 2000000 in
theorem quoV_p {s t : Int} {es fs : List AV} {l m : List Rat} {K Q : Nat} (hK : 1 ≤ K ∧ K ≤ 1000000) (hQ : 1 ≤ Q ∧ Q ≤ 1000000) (hX0 : Zap t fs.length = true → ∀ k, k ≤ (m.drop (lead m)).length → ∀ q, q ∈ ivs (m.drop (lead m)) k → Ht q Q) (hI : (invT t m).2.2 = 0 → Zap (invT t m).1 (invT t m).2.1.length = true ∧ (∀ q, q ∈ (invT t m).2.1 → Ht q Q) ∧ (invT t m).2.1.length ≤ 200) (hKQ : K ≤ Q) (ha : Zap s es.length = true → IsL es K l ∧ l.length ≤ 200) (hb : Zap t fs.length = true → IsL fs K m ∧ m.length ≤ 200) (hle : es.length = l.length) (hlf : fs.length = m.length) (i1 : InR s es.length) (i2 : InR t fs.length) : PC Tryz.prog 68 [serA s es, serA t fs] (serT (quoT s l t m)) := by
  have hva := Zdt i1.1 i1.2 i1.3
  have ci := invV_p hb hlf i2 hK hQ hX0
  unfold quoT
  rw [← hle]
  cases h1 : Zap s es.length with
  | false =>
    rw [h1] at hva
    refine pb2 Tryz.func68 (Zac.agg Zaj) Zac.tmp ?_
    refine goA ?_
    refine clG hva ?_
    exact rfl
  | true =>
  rw [h1] at hva
  simp only [if_true]
  obtain ⟨hL, h24⟩ := ha h1
  by_cases h0 : (invT t m).2.2 = 0
  · rw [if_pos h0]
    obtain ⟨vc, hc, hc24⟩ := hI h0
    have cm := mul_g (M := 200) (t := (invT t m).1) (both_mk (hL.mono hKQ) (Zbb hc) i1 (inR_enc vc)) hQ.1 dC oM (fun _ => oM)
    rw [serE_T] at cm
    have hbn : ((invT t m).2.2 != 0) = false := by simp [h0]
    generalize (invT t m) = r at *
    obtain ⟨u, c, e⟩ := r
    clear ha hb hL hc vc hX0 hI
    refine pb2 Tryz.func68 (Zac.agg Zaj) Zac.tmp ?_
    refine goA ?_
    refine clG hva ?_
    refine clG ci ?_
    refine clG cm ?_
    exact rfl
  · rw [if_neg h0]
    have hbn : ((invT t m).2.2 != 0) = true := by simp [h0]
    generalize (invT t m) = r at *
    obtain ⟨u, c, e⟩ := r
    clear ha hb hL hX0 hI
    refine pb2 Tryz.func68 (Zac.agg Zaj) Zac.tmp ?_
    refine goA ?_
    refine clG hva ?_
    refine clG ci ?_
    exact rfl
theorem ht_n (m : Nat) (hm : m ≤ 100000) : Ht (((m : Int) + 1 : Int) : Rat) 1 := Zcq oM
theorem ht_dv {q r : Rat} {k l : Nat} (hq : Ht q k) (hr : Ht r l) (hk : 1 ≤ k) (hl : 1 ≤ l) : Ht (q / r) (k + l) := by
 rw [Rat.div_def]; exact Zbq hq (ht_inv hr hl) hk
def dsg (c : List Rat) (i : Nat) : Nat → Rat
 | 0 => 0
 | d + 1 => if (i + 1) % (d + 1) = 0 then dsg c i d + (((d : Int) + 1 : Int) : Rat) * c.getD d 0 else dsg c i d
def sgs (c : List Rat) (k : Nat) : List Rat := tk (fun i => dsg c i (i + 1)) k
def prc (L : List Rat) : Nat → List Rat
 | 0 => [1]
 | m + 1 => prc L m ++ [-(iss (0 :: L) (prc L m) (m + 1) (m + 1)) / (((m : Int) + 1 : Int) : Rat)]
def PV (h : Int) (n : Nat) : Bool := decide (-100 ≤ h) && decide (h ≤ 1000) && decide ((n : Int) ≤ 1000 - h - 1)
def prodR (h : Int) (c : List Rat) : Option (Int × List Rat) := if PV h c.length then nrm h (prc (sgs c c.length) c.length) else none
theorem prc_len (L : List Rat) : ∀ m, (prc L m).length = m + 1
 | 0 => rfl
 | m + 1 => by rw [prc, List.length_append, prc_len L m]; rfl
theorem sgs_len (c : List Rat) (k : Nat) : (sgs c k).length = k := by unfold sgs tk; simp
theorem sg_skip (c : List Rat) {i d : Nat} (h : ¬ (i + 1) % (d + 1) = 0) : dsg c i (d + 1) = dsg c i d := by rw [dsg, if_neg h]
theorem sg_far (c : List Rat) (i : Nat) : ∀ d, i + 1 ≤ d → dsg c i d = dsg c i (i + 1) := fun d h => by
  induction h with
  | refl => rfl
  | step h ih =>
    rename_i k
    rw [sg_skip c (d := k) (by rw [Nat.mod_eq_of_lt (by have : i + 1 ≤ k := h; omega)]; omega)]
    exact ih
theorem ht_sg {c : List Rat} {K i : Nat} (hK : 1 ≤ K) (hc : ∀ q, q ∈ c → Ht q K) : ∀ d, d ≤ 100000 → Ht (dsg c i d) (1 + d * (K + 2))
  | 0, _ => (ht0 (Nat.le_refl 1)).mono oM
  | d + 1, h => by
    have ih := ht_sg (i := i) hK hc d oM
    rw [dsg]
    split
    · exact (Zgy ih (Zbq (ht_n d oM) (Zcl hK hc d) (Nat.le_refl 1))).mono (by rw [Nat.add_mul d 1]; omega)
    · exact ih.mono (by rw [Nat.add_mul d 1]; omega)
theorem rep_range' {α : Type} (n : Nat) (x : α) {g : Nat → α} (h : ∀ k, k < n → g k = x) : List.replicate n x = (List.range n).map g := by
 apply List.ext_getElem
 ·simp
 ·intro i h1 h2
  have : i < n := by simpa using h1
  simp [h i this]
theorem range_set' {α : Type} (n i : Nat) (x : α) {g g' : Nat → α} (h0 : g' i = x) (h : ∀ k, k < n → k ≠ i → g' k = g k) : ((List.range n).map g).set i x = (List.range n).map g' := by
 apply List.ext_getElem
 ·simp
 ·intro k h1 h2
  have hk : k < n := by simpa using h1
  rw [List.getElem_set]
  split
  ·rename_i e; subst e; simp [h0]
  ·rename_i e; simp [h k hk (fun e2 => e e2.symm)]
theorem Zfl {α : Type} (n : Nat) {g g' : Nat → α} (h : ∀ k, k < n → g k = g' k) : (List.range n).map g = (List.range n).map g' := by
 apply List.ext_getElem
 ·simp
 ·intro k h1 h2
  have hk : k < n := by simpa using h1
  simp [h k hk]
def proG (c : List Rat) (d cur k : Nat) : AV := if k = 0 then rz else if k < cur then encQ (dsg c (k - 1) (d + 1)) else if d = 0 then rz else encQ (dsg c (k - 1) d)
theorem proG_V {c : List Rat} {d cur k K : Nat} (hk : 1 ≤ k) (hc : cur ≤ k) (h : Ht (dsg c (k - 1) d) K) : IsV (proG c d cur k) K (dsg c (k - 1) d) := by
 unfold proG
 rw [if_neg oM, if_neg oM]
 by_cases hd : d = 0
 ·subst hd; rw [if_pos rfl]; exact isV_rz K
 ·rw [if_neg hd]; exact Zad h
theorem pro_start (c : List Rat) (d k : Nat) : proG c (d + 1) (d + 2) k = proG c (d + 1) 0 k := by
 unfold proG
 by_cases h0 : k = 0
 ·rw [if_pos h0, if_pos h0]
 ·rw [if_neg h0, if_neg h0, if_neg (Nat.not_lt_zero k), if_neg (show ¬ d + 1 = 0 by omega)]
  by_cases h1 : k < d + 2
  ·rw [if_pos h1, sg_skip c (by rw [show k - 1 + 1 = k by omega, Nat.mod_eq_of_lt oM]; omega)]
  ·rw [if_neg h1]
theorem pro_next (c : List Rat) (d N k : Nat) (hk : k < N + 1) (cur : Nat) (hc : N < cur) : proG c d cur k = proG c (d + 1) 0 k := by
 unfold proG
 by_cases h0 : k = 0
 ·rw [if_pos h0, if_pos h0]
 ·rw [if_neg h0, if_neg h0, if_neg (Nat.not_lt_zero k), if_neg (show ¬ d + 1 = 0 by omega), if_pos (show k < cur by omega)]
theorem pro_step (c : List Rat) {d cur k : Nat} (hd : cur % (d + 1) = 0) (hk : k ≠ cur) : proG c d (cur + (d + 1)) k = proG c d cur k := by
 unfold proG
 by_cases h0 : k = 0
 ·rw [if_pos h0, if_pos h0]
 ·rw [if_neg h0, if_neg h0]
  by_cases h1 : k < cur
  ·rw [if_pos h1, if_pos oM]
  ·rw [if_neg h1]
   by_cases h2 : k < cur + (d + 1)
   ·rw [if_pos h2]
    obtain ⟨e, he⟩ : ∃ e, k = cur + (e + 1) := ⟨k - cur - 1, oM⟩
    have hne : ¬ (k - 1 + 1) % (d + 1) = 0 := by
     rw [show k - 1 + 1 = cur + (e + 1) by omega, Nat.add_mod, hd, Nat.zero_add, Nat.mod_mod, Nat.mod_eq_of_lt oM]
     omega
    rw [sg_skip c hne, if_neg oM]
   ·rw [if_neg h2]
set_option maxHeartbeats 8000000 in
theorem prod_p {h : Int} {es : List AV} {c : List Rat} {K P Q : Nat} (hL0 : PV h es.length = true → IsL es K c ∧ c.length ≤ 160) (hle : es.length = c.length) (h0 : -9223372036854775808 ≤ h) (h1 : h ≤ 9223372036854775807) (hn : es.length ≤ 9223372036854775807) (hK : 1 ≤ K ∧ K ≤ 1000000) (hP : 1 ≤ P ∧ P ≤ 1000000) (hQ : 1 ≤ Q ∧ Q ≤ 1000000)
  (hS : PV h es.length = true → ∀ q, q ∈ sgs c c.length → Ht q P) (hX : PV h es.length = true → ∀ m, m ≤ c.length → ∀ q, q ∈ prc (sgs c c.length) m → Ht q Q) : PC Tryz.prog 66 [.p (.int .i64 h), .sl es] (serE (prodR h c)) := by
 rw [Zbm]
 unfold prodR
 rw [← hle]
 by_cases a0 : -100 ≤ h
 case neg =>
  have e : PV h es.length = false := by unfold PV; simp [a0]
  rw [e]
  have hb : decide (h < -100) = true := by simp; omega
  refine pb2 Tryz.func66 (Zac.agg Zaj) Zac.tmp ?_
  refine goA ?_
  exact rfl
 have hb0 : decide (h < -100) = false := by simp; omega
 by_cases a1 : h ≤ 1000
 case neg =>
  have e : PV h es.length = false := by unfold PV; simp [a1]
  rw [e]
  have hb : decide (h > 1000) = true := by simp; omega
  refine pb2 Tryz.func66 (Zac.agg Zaj) Zac.tmp ?_
  refine goA ?_
  exact rfl
 have hb1 : decide (h > 1000) = false := by simp; omega
 by_cases a2 : (es.length : Int) ≤ 1000 - h - 1
 case neg =>
  have e : PV h es.length = false := by unfold PV; simp [a2]
  rw [e]
  have hb : decide ((es.length : Int) > 1000 - h - 1) = true := by simp; omega
  refine pb2 Tryz.func66 (Zac.agg Zaj) Zac.tmp ?_
  refine goA ?_
  exact rfl
 have hb2 : decide ((es.length : Int) > 1000 - h - 1) = false := by simp; omega
 have e : PV h es.length = true := by unfold PV; simp [a0, a1, a2]
 obtain ⟨hL, hl14⟩ := hL0 e
 have hS := hS e
 have hX := hX e
 rw [e]
 simp only [if_true]
 clear hL0 e
 rw [hle]
 have hcl := Zdz hL hK.1
 generalize hN : c.length = N at *
 have hgd : ∀ i, i < N → (sgs c N).getD i 0 = dsg c i N := fun i hi => by
  unfold sgs tk
  rw [sg_far c i N oM]
  simp [List.getD_eq_getElem?_getD, hi]
 have hsl := sgs_len c N
 have hone : Ht (1 : Rat) 1 := Zcq (c := 1) dC
 have c1 := Zdh 1 dC dC
 rw [show ((1 : Int) : Rat) = 1 from rfl] at c1
 have cz := Zdh 0 dC dC
 rw [show ((0 : Int) : Rat) = 0 from rfl] at cz
 have hsgh : ∀ i d, d ≤ N → Ht (dsg c i d) 200000000000 := fun i d hd => (ht_sg hK.1 hcl d oM).mono (by
  have : d * (K + 2) ≤ 160 * (K + 2) := Nat.mul_le_mul_right _ oM
  omega)
 have hproV : ∀ d cur k, d ≤ N → 1 ≤ k → cur ≤ k → IsV (proG c d cur k) 200000000000 (dsg c (k - 1) d) := fun d cur k hd hk hc => proG_V hk hc (hsgh _ _ hd)
 have hp0 : ∀ k, k < N + 1 → proG c 0 0 k = rz := fun k _ => by unfold proG; split; rfl; rw [if_neg (Nat.not_lt_zero k), if_pos rfl]
 have hp1 : ∀ d, d < N → (List.range (N + 1)).map (proG c d (d + 1)) = (List.range (N + 1)).map (proG c d 0) := fun d hd => Zfl _ fun k _ => by
  rcases d with _ | d
  ·unfold proG
   by_cases h0 : k = 0
   ·rw [if_pos h0, if_pos h0]
   ·rw [if_neg h0, if_neg h0, if_neg (show ¬ k < 0 + 1 by omega), if_neg (Nat.not_lt_zero k)]
  ·exact pro_start c d k
 have hp2 : ∀ d cur, N < cur → (List.range (N + 1)).map (proG c d cur) = (List.range (N + 1)).map (proG c (d + 1) 0) := fun d cur hc => Zfl _ fun k hk => pro_next c d N k hk cur hc
 have hp3 : ∀ d cur, cur % (d + 1) = 0 → 1 ≤ cur → cur ≤ N → ((List.range (N + 1)).map (proG c d cur)).set cur (encQ (dsg c (cur - 1) (d + 1))) = (List.range (N + 1)).map (proG c d (cur + (d + 1))) := fun d cur hm hc hcN => range_set' _ _ _ (by
   unfold proG
   rw [if_neg oM, if_pos oM]) fun k _ hk => pro_step c hm hk
 have hpN : ∀ i, i < N → ((List.range (N + 1)).map (proG c N 0))[i + 1]? = some (encQ (dsg c i N)) := fun i hi => by
  rw [List.getElem?_map, List.getElem?_range oM]
  show some (proG c N 0 (i + 1)) = _
  unfold proG
  rw [if_neg oM, if_neg oM, if_neg oM, Nat.add_sub_cancel]
 have hget : ∀ d cur k, k ≤ N → ((List.range (N + 1)).map (proG c d cur))[k]? = some (proG c d cur k) := fun d cur k hk => by
  rw [List.getElem?_map, List.getElem?_range oM]; rfl
 have hGl : ∀ d cur, ((List.range (N + 1)).map (proG c d cur)).length = N + 1 := fun d cur => by simp
 have hsgs : ∀ d i, (i + 1) % (d + 1) = 0 → dsg c i (d + 1) = dsg c i d + (((d : Int) + 1 : Int) : Rat) * c.getD d 0 := fun d i hm => by rw [dsg, if_pos hm]
 generalize proG c = G at *
 generalize dsg c = SG at *
 generalize hLL : sgs c N = L at *
 refine pb2 Tryz.func66 (Zac.agg Zaj) Zac.tmp ?_
 refine r1A ?_
 refine T.seqE (mkS [(0, .v (iV h)), (1, .v (.sl es)), (4, .ptr 4 0)] [(4, var0)] 109 true) ?_ ?_
 ·refine goA ?_
  exact midE
 have hw : (es.length : Int) + 1 = ((N + 1 : Nat) : Int) := oM
 refine T.seqE (mkS [(0, .v (iV h)), (1, .v (.sl es)), (4, .ptr 4 0), (6, .own 30 (N + 1))] [(4, var0), (30, .lst 4 39 ((List.range (N + 1)).map (G 0 0)))] 109 true) ?_ ?_
 ·refine goA ?_
  refine evG ggA (Zdv 30 (e0 := rz) (Zaa rfl) (Zaf rfl) rfl rfl rfl oM oM oM oM rfl rfl rfl) ?_
  refine goA ?_
  have e2 : ((es.length : Int) + 1).toNat = N + 1 := oM
  have hrep : List.replicate ((es.length : Int) + 1).toNat rz = (List.range (N + 1)).map (G 0 0) := by rw [e2]; exact rep_range' (N + 1) rz hp0
  exact Zae (s' := mkS [(0, .v (iV h)), (1, .v (.sl es)), (4, .ptr 4 0), (6, .own 30 ((es.length : Int) + 1).toNat)] [(4, var0), (30, .lst 4 39 (List.replicate ((es.length : Int) + 1).toNat rz))] 109 true) entA (by rw [hrep, e2])
 refine T.seqE (mkS [(0, .v (iV h)), (1, .v (.sl es)), (4, .ptr 4 0), (6, .own 30 (N + 1))] [(4, var0), (30, .lst 4 39 ((List.range (N + 1)).map (G N 0)))] 109 true) ?_ ?_
 ·refine r1A ?_
  refine T.block ?_
  refine T.loop (fun n s1 => ∃ d : Nat, n = N - d ∧ d ≤ N ∧ s1 = mkS [(0, .v (iV h)), (1, .v (.sl es)), (4, .ptr 4 0), (6, .own 30 (N + 1)), (7, .v (iV ((d : Int) + 1)))] [(4, var0), (30, .lst 4 39 ((List.range (N + 1)).map (G d 0)))] 109 true) N
   (s' := mkS [(0, .v (iV h)), (1, .v (.sl es)), (4, .ptr 4 0), (6, .own 30 (N + 1)), (7, .v (iV 1))] [(4, var0), (30, .lst 4 39 ((List.range (N + 1)).map (G 0 0)))] 109 true) entA ⟨0, rfl, Nat.zero_le _, rfl⟩ ?_
  rintro n _ ⟨d, rfl, hd, rfl⟩
  by_cases hlt : d < N
  ·have hb : decide ((d : Int) + 1 ≤ (es.length : Int)) = true := by simp; omega
   obtain ⟨y, ys, y', ys', q1, n0, hq1, v1⟩ := hL.at (i := d) oM
   have g1 : c.getD d 0 = q1 := by rw [List.getD_eq_getElem?_getD, hq1]; rfl
   have n1 : es[((d : Int) + 1 - 1).toNat]? = some (.agg [.p (.bool y), .sl ys, .p (.bool y'), .sl ys']) := by rw [show ((d : Int) + 1 - 1).toNat = d by omega]; exact n0
   have cd := Zdh ((d : Int) + 1) oM oM
   have htd := ht_n d oM
   have t1 := hcl q1 (List.mem_of_getElem? hq1)
   have cm := Zdw (Zad htd) oM v1 oM
   have htp := Zbq htd t1 (Nat.le_refl 1)
   have hsgd := hsgs d
   rw [g1] at hsgd
   generalize (((d : Int) + 1 : Int) : Rat) * q1 = pt at *
   refine T.seqE (mkS [(0, .v (iV h)), (1, .v (.sl es)), (4, .ptr 4 0), (6, .own 30 (N + 1)), (7, .v (iV ((d : Int) + 1)))] [(4, var0), (30, .lst 4 39 ((List.range (N + 1)).map (G d 0)))] 109 true) ?_ ?_
   ·refine goA ?_
    exact midE
   refine T.seq ?_
   refine T.block ?_
   refine T.seqE (mkS [(0, .v (iV h)), (1, .v (.sl es)), (4, .ptr 4 0), (6, .own 30 (N + 1)), (7, .v (iV ((d : Int) + 1))), (8, .ptr 8 0)] [(4, var0), (8, qvar pt), (30, .lst 4 39 ((List.range (N + 1)).map (G d (d + 1))))] 109 true) ?_ ?_
   ·refine goA ?_
    refine clG cd ?_
    refine ixG n1 ?_
    refine clG cm ?_
    exact Zae (s' := mkS [(0, .v (iV h)), (1, .v (.sl es)), (4, .ptr 4 0), (6, .own 30 (N + 1)), (7, .v (iV ((d : Int) + 1))), (8, .ptr 8 0)] [(4, var0), (8, qvar pt), (30, .lst 4 39 ((List.range (N + 1)).map (G d 0)))] 109 true) entA (by rw [hp1 d hlt])
   refine r1A ?_
   refine T.block ?_
   refine T.loop (fun n s1 => ∃ cur : Nat, n = N + 1 - cur ∧ 1 ≤ cur ∧ cur ≤ N + N ∧ cur % (d + 1) = 0 ∧ s1 = mkS [(0, .v (iV h)), (1, .v (.sl es)), (4, .ptr 4 0), (6, .own 30 (N + 1)), (7, .v (iV ((d : Int) + 1))), (8, .ptr 8 0), (9, .v (iV (cur : Int)))] [(4, var0), (8, qvar pt), (30, .lst 4 39 ((List.range (N + 1)).map (G d cur)))] 109 true) (N + 1 - (d + 1))
    (s' := mkS [(0, .v (iV h)), (1, .v (.sl es)), (4, .ptr 4 0), (6, .own 30 (N + 1)), (7, .v (iV ((d : Int) + 1))), (8, .ptr 8 0), (9, .v (iV ((d : Int) + 1)))] [(4, var0), (8, qvar pt), (30, .lst 4 39 ((List.range (N + 1)).map (G d (d + 1))))] 109 true) entA ⟨d + 1, rfl, oM, oM, Nat.mod_self _, rfl⟩ ?_
   rintro n _ ⟨cur, rfl, hc0, hc1, hcm, rfl⟩
   by_cases hcu : cur ≤ N
   ·have hb3 : decide ((cur : Int) ≤ (es.length : Int)) = true := by simp; omega
    have hV := hproV d cur cur hd hc0 (Nat.le_refl _)
    have ca := radd_p hV oM (Zad htp) oM
    rw [← hsgd (cur - 1) (by rw [show cur - 1 + 1 = cur by omega]; exact hcm)] at ca
    have hse := hget d cur cur hcu
    obtain ⟨g, xs, g', xs', hx⟩ := Zax hV
    rw [hx] at ca hse
    have hse' : ((List.range (N + 1)).map (G d cur))[((cur : Nat) : Int).toNat]? = some (.agg [.p (.bool g), .sl xs, .p (.bool g'), .sl xs']) := by rw [Int.toNat_natCast]; exact hse
    have hset := hp3 d cur hcm hc0 hcu
    have hgl := hGl d cur
    clear hS hX hgd hsgh hproV hp0 hp1 hp2 hp3 hpN hget hGl hsgs hsgd hcl
    refine goA ?_
    refine evG ggA (Zah (Zaa rfl) (Zag rfl) rfl rfl hgl rfl oM oM) ?_
    refine evG ggA (Zan (Zaa rfl) (Zbc rfl) rfl rfl hgl hse') ?_
    refine goA ?_
    refine clG ca ?_
    refine evG ggA (Zah (Zaa rfl) (Zag rfl) rfl rfl hgl rfl oM oM) ?_
    refine evG ggA (Zbd rfl (Zbp rfl) rfl rfl hgl oM rfl rfl (fun l e => by cases e) (List.all_eq_true.2 (Ze3 _))) ?_
    refine goA ?_
    exact Zab (k := N + 1 - (cur + (d + 1))) (s' := mkS [(0, .v (iV h)), (1, .v (.sl es)), (4, .ptr 4 0), (6, .own 30 (N + 1)), (7, .v (iV ((d : Int) + 1))), (8, .ptr 8 0), (9, .v (iV ((cur : Int) + ((d : Int) + 1))))] [(4, var0), (8, qvar pt), (30, .lst 4 39 (((List.range (N + 1)).map (G d cur)).set ((cur : Nat) : Int).toNat (encQ (SG (cur - 1) (d + 1)))))] 109 true) oM entA ⟨cur + (d + 1), rfl, oM, oM, by rw [Nat.add_mod_right]; exact hcm, by rw [Int.toNat_natCast, hset]; rfl⟩
   ·have hb3 : decide ((cur : Int) ≤ (es.length : Int)) = false := by simp; omega
    have hnx := hp2 d cur oM
    clear hS hX hgd hsgh hproV hp0 hp1 hp2 hp3 hpN hget hGl hsgs hsgd hcl
    refine goA ?_
    exact Zab (k := N - (d + 1)) (s' := mkS [(0, .v (iV h)), (1, .v (.sl es)), (4, .ptr 4 0), (6, .own 30 (N + 1)), (7, .v (iV ((d : Int) + 1 + 1)))] [(4, var0), (30, .lst 4 39 ((List.range (N + 1)).map (G d cur)))] 109 true) oM entA ⟨d + 1, rfl, hlt, by rw [hnx]; rfl⟩
  ·obtain rfl : d = N := oM
   have hb : decide ((d : Int) + 1 ≤ (es.length : Int)) = false := by simp; omega
   refine goA ?_
   exact midE
 have hGN := hGl N 0
 have hpN' : ∀ i, i < N → ((List.range (N + 1)).map (G N 0))[i + 1]? = some (encQ (L.getD i 0)) := fun i hi => by rw [hpN i hi, hgd i hi]
 clear hpN hgd hsgh hproV hp0 hp1 hp2 hp3 hget hGl hsgs hcl
 generalize (List.range (N + 1)).map (G N 0) = ES at *
 refine T.weak (s' := mkS [(0, .v (iV h)), (1, .v (.sl es)), (4, .ptr 4 0), (6, .v (.sl ES))] [(4, var0)] 109 true) entA ?_
 refine T.seq ?_
 refine regA ?_
 refine runA ?_
 refine clA c1 ?_
 refine runA ?_
 refine evG ggA (Zb8 31 (Zaa rfl) rfl (Zaf rfl) rfl rfl rfl rfl (Zci rfl rfl) (Nat.le_of_ble_eq_true rfl) dC (fun _ a ha => by rw [List.mem_singleton] at ha; subst ha; exact Ze3 1)) ?_
 refine runA ?_
 refine Zao ?_
 refine Za1 ?_
 have hL0 : ∀ q, q ∈ (0 :: L) → Ht q P := fun q hq => by
  rcases List.mem_cons.1 hq with rfl | hq
  ·exact ht0 hP.1
  ·exact hS q hq
 refine T.seqE (mkS [(0, .v (iV h)), (4, .ptr 4 0), (10, .own 31 (N + 1))] [(4, var0), (31, .lst 4 39 ((prc L N).map encQ))] 109 true) ?_ ?_
 ·refine r1A ?_
  refine T.block ?_
  refine T.loop (fun n s1 => ∃ m : Nat, n = N - m ∧ m ≤ N ∧ s1 = mkS [(0, .v (iV h)), (1, .v (.sl es)), (4, .ptr 4 0), (6, .v (.sl ES)), (10, .own 31 (m + 1)), (11, .v (iV ((m : Int) + 1)))] [(4, var0), (31, .lst 4 39 ((prc L m).map encQ))] 109 true) N
   (s' := mkS [(0, .v (iV h)), (1, .v (.sl es)), (4, .ptr 4 0), (6, .v (.sl ES)), (10, .own 31 1), (11, .v (iV 1))] [(4, var0), (31, .lst 4 39 (([1] : List Rat).map encQ))] 109 true) entA ⟨0, rfl, Nat.zero_le _, rfl⟩ ?_
  rintro n _ ⟨m, rfl, hm, rfl⟩
  by_cases hlt : m < N
  ·have hb : decide ((m : Int) + 1 ≤ (es.length : Int)) = true := by simp; omega
   have hXm := hX m hm
   have hpl := prc_len L m
   have hpn : prc L (m + 1) = prc L m ++ [-(iss (0 :: L) (prc L m) (m + 1) (m + 1)) / (((m : Int) + 1 : Int) : Rat)] := rfl
   generalize hXX : prc L m = X at *
   have hih := ht_iss2 hP.1 hQ.1 hL0 hXm (m + 1)
   have hihb : ∀ j, j ≤ m + 1 → Ht (-(iss (0 :: L) X (m + 1) j)) 300000000000 := fun j hj => ht_neg ((hih j).mono (by
    have : j * (P + Q + 1) ≤ 160 * (P + Q + 1) := Nat.mul_le_mul_right _ oM
    omega))
   have hse : ∀ j, -(iss (0 :: L) X (m + 1) (j + 1)) = -(iss (0 :: L) X (m + 1) j) - L.getD j 0 * X.getD (m - j) 0 := fun j => by
    show -(iss (0 :: L) X (m + 1) j + L.getD j 0 * X.getD (m + 1 - (j + 1)) 0) = _
    rw [Rat.neg_add, Rat.sub_eq_add_neg, show m + 1 - (j + 1) = m - j by omega]
   have hs0 : -(iss (0 :: L) X (m + 1) 0) = 0 := Rat.neg_zero
   clear hih
   obtain ⟨S, hSd⟩ : ∃ S : Nat → Rat, S = fun j => -(iss (0 :: L) X (m + 1) j) := ⟨_, rfl⟩
   have hSj : ∀ j, -(iss (0 :: L) X (m + 1) j) = S j := fun j => by rw [hSd]
   simp only [hSj] at hpn hihb hse hs0
   clear hSd hSj
   refine T.seqE (mkS [(0, .v (iV h)), (1, .v (.sl es)), (4, .ptr 4 0), (6, .v (.sl ES)), (10, .own 31 (m + 1)), (11, .v (iV ((m : Int) + 1)))] [(4, var0), (31, .lst 4 39 (X.map encQ))] 109 true) ?_ ?_
   ·refine goA ?_
    exact midE
   refine T.seq ?_
   refine T.block ?_
   refine T.seqE (mkS [(0, .v (iV h)), (1, .v (.sl es)), (4, .ptr 4 0), (6, .v (.sl ES)), (10, .own 31 (m + 1)), (11, .v (iV ((m : Int) + 1))), (12, .ptr 12 0)] [(4, var0), (12, qvar (S 0)), (31, .lst 4 39 (X.map encQ))] 109 true) ?_ ?_
   ·refine goA ?_
    refine clG cz ?_
    exact Zae (s' := mkS [(0, .v (iV h)), (1, .v (.sl es)), (4, .ptr 4 0), (6, .v (.sl ES)), (10, .own 31 (m + 1)), (11, .v (iV ((m : Int) + 1))), (12, .ptr 12 0)] [(4, var0), (12, qvar 0), (31, .lst 4 39 (X.map encQ))] 109 true) entA (by rw [hs0])
   refine T.seqE (mkS [(0, .v (iV h)), (1, .v (.sl es)), (4, .ptr 4 0), (6, .v (.sl ES)), (10, .own 31 (m + 1)), (11, .v (iV ((m : Int) + 1))), (12, .ptr 12 0)] [(4, var0), (12, qvar (S (m + 1))), (31, .lst 4 39 (X.map encQ))] 109 true) ?_ ?_
   ·refine r1A ?_
    refine T.block ?_
    refine T.loop (fun n s1 => ∃ j : Nat, n = m + 1 - j ∧ j ≤ m + 1 ∧ s1 = mkS [(0, .v (iV h)), (1, .v (.sl es)), (4, .ptr 4 0), (6, .v (.sl ES)), (10, .own 31 (m + 1)), (11, .v (iV ((m : Int) + 1))), (12, .ptr 12 0), (13, .v (iV ((j : Int) + 1)))] [(4, var0), (12, qvar (S j)), (31, .lst 4 39 (X.map encQ))] 109 true) (m + 1)
     (s' := mkS [(0, .v (iV h)), (1, .v (.sl es)), (4, .ptr 4 0), (6, .v (.sl ES)), (10, .own 31 (m + 1)), (11, .v (iV ((m : Int) + 1))), (12, .ptr 12 0), (13, .v (iV 1))] [(4, var0), (12, qvar (S 0)), (31, .lst 4 39 (X.map encQ))] 109 true) entA ⟨0, rfl, Nat.zero_le _, rfl⟩ ?_
    rintro n _ ⟨j, rfl, hj, rfl⟩
    by_cases hjm : j < m + 1
    ·have hb3 : decide ((j : Int) + 1 ≤ (m : Int) + 1) = true := by simp; omega
     have n1 : ES[((j : Int) + 1).toNat]? = some (encQ (L.getD j 0)) := by rw [show ((j : Int) + 1).toNat = j + 1 by omega]; exact hpN' j oM
     obtain ⟨q2, hq2⟩ : ∃ q, X[m - j]? = some q := ⟨_, List.getElem?_eq_getElem oM⟩
     have g2 : X.getD (m - j) 0 = q2 := by rw [List.getD_eq_getElem?_getD, hq2]; rfl
     have n2 : (X.map encQ)[((m : Int) + 1 - ((j : Int) + 1)).toNat]? = some (encQ q2) := by rw [show ((m : Int) + 1 - ((j : Int) + 1)).toNat = m - j by omega]; exact Zec hq2
     have t1 : Ht (L.getD j 0) P := Zcl hP.1 hS j
     have t2 := hXm q2 (List.mem_of_getElem? hq2)
     have hx0 : (X.map encQ).length = m + 1 := by rw [List.length_map, hpl]
     have c3 := Zdw (Zad t1) oM (Zad t2) oM
     have c4 := rsub_p (Zad (hihb j hj)) oM (Zad (Zbq t1 t2 hP.1)) oM
     rw [← g2, ← hse j, g2] at c4
     generalize L.getD j 0 = q1 at *
     clear hS hX hXm hihb hse hL0 hpN'
     refine goA ?_
     refine ixG n1 ?_
     refine evG ggA (Zah (Zaa rfl) (Zag rfl) rfl rfl hx0 rfl oM oM) ?_
     refine evG ggA (Zan (Zaa rfl) (Zbc rfl) rfl rfl hx0 n2) ?_
     refine clA c3 ?_
     refine clG c4 ?_
     exact Zab (k := m + 1 - (j + 1)) (s' := mkS [(0, .v (iV h)), (1, .v (.sl es)), (4, .ptr 4 0), (6, .v (.sl ES)), (10, .own 31 (m + 1)), (11, .v (iV ((m : Int) + 1))), (12, .ptr 12 0), (13, .v (iV ((j : Int) + 1 + 1)))] [(4, var0), (12, qvar (S (j + 1))), (31, .lst 4 39 (X.map encQ))] 109 true) oM entA ⟨j + 1, rfl, oM, rfl⟩
    ·obtain rfl : j = m + 1 := oM
     have hb3 : decide (((m + 1 : Nat) : Int) + 1 ≤ (m : Int) + 1) = false := by simp; omega
     clear hS hX hXm hihb hse hL0 hpN'
     refine goA ?_
     exact midE
   have htn := ht_n m oM
   have cn := Zdh ((m : Int) + 1) oM oM
   have c6 := rquo_p (Zad (hihb (m + 1) (Nat.le_refl _))) oM (Zad htn) oM (by
    intro e
    have := Rat.intCast_eq_zero_iff.1 e
    omega)
   have hx0 : (X.map encQ).length = m + 1 := by rw [List.length_map, hpl]
   clear hS hX hXm hihb hse hL0 hpN'
   refine goA ?_
   refine clG cn ?_
   refine clG c6 ?_
   refine appA ?_
   refine goA ?_
   exact Zab (k := N - (m + 1)) (s' := mkS [(0, .v (iV h)), (1, .v (.sl es)), (4, .ptr 4 0), (6, .v (.sl ES)), (10, .own 31 (m + 1 + 1)), (11, .v (iV ((m : Int) + 1 + 1)))] [(4, var0), (31, .lst 4 39 ((X ++ [S (m + 1) / (((m : Int) + 1 : Int) : Rat)]).map encQ))] 109 true) oM entA ⟨m + 1, rfl, hlt, by rw [hpn]; rfl⟩
  ·obtain rfl : m = N := oM
   have hb : decide ((m : Int) + 1 ≤ (es.length : Int)) = false := by simp; omega
   refine goA ?_
   exact midE
 have hl2 := prc_len L N
 have hXN := hX N (Nat.le_refl N)
 generalize prc L N = X at *
 have hbuild := Ze7 (s := h) (Zbb hXN) oM oM oM oM
 rw [Zbm] at hbuild
 have hx0 : (X.map encQ).length = N + 1 := by rw [List.length_map, hl2]
 refine T.weak (s' := mkS [(0, .v (iV h)), (4, .ptr 4 0), (10, .v (.sl (X.map encQ)))] [(4, var0)] 109 true) entA ?_
 refine goA ?_
 refine clG hbuild ?_
 exact rfl
def thq (f : Nat → Rat) (k : Nat) : Rat := ((k : Int) : Rat) * f k
def one' (k : Nat) : Rat := if k = 0 then 1 else 0
theorem nc_congr {f f' g g' : Nat → Rat} {k : Nat} (hf : ∀ j, j ≤ k → f j = f' j) (hg : ∀ j, j ≤ k → g j = g' j) : nc f g k = nc f' g' k :=
 Zbk fun j hj => by rw [hf j oM, hg (k - j) oM]
theorem nc_addr (f g h : Nat → Rat) (k : Nat) : nc f (fun j => g j + h j) k = nc f g k + nc f h k := by
 unfold nc
 rw [← su_add]
 exact Zbk fun j _ => Rat.mul_add _ _ _
theorem nc_smulr (c : Rat) (f g : Nat → Rat) (k : Nat) : nc f (fun j => c * g j) k = c * nc f g k := by
 unfold nc
 rw [← Zf0]
 exact Zbk fun j _ => by grind
theorem nc_smull (c : Rat) (f g : Nat → Rat) (k : Nat) : nc (fun j => c * f j) g k = c * nc f g k := by
 rw [nc_comm, nc_smulr, nc_comm]
theorem nc_fun (f g : Nat → Rat) : nc f g = nc g f := funext fun k => nc_comm f g k
theorem nc_ass (f g h : Nat → Rat) : nc (nc f g) h = nc f (nc g h) := funext fun k => nc_assoc f g h k
theorem nc_leib (f g : Nat → Rat) (k : Nat) : thq (nc f g) k = nc (thq f) g k + nc f (thq g) k := by
 unfold thq nc
 rw [← Zf0, ← su_add]
 refine Zbk fun j hj => ?_
 have e : ((k : Int) : Rat) = ((j : Int) : Rat) + (((k - j : Nat) : Int) : Rat) := by
  rw [← Rat.intCast_add]
  congr 1
  omega
 rw [e]
 grind
def pq (u : Nat → Rat) : Nat → Nat → Rat
 | 0 => one'
 | i + 1 => nc (pq u i) u
theorem thq_one (k : Nat) : thq one' k = 0 := by
 unfold thq one'
 by_cases h : k = 0
 ·subst h; simp
 ·rw [if_neg h, Rat.mul_zero]
theorem pow_id {N : Nat} {a u : Nat → Rat} {σ : Rat} (hu : ∀ k, k < N → nc a (thq u) k = σ * nc (thq a) u k) : ∀ i k, k < N → nc a (thq (pq u i)) k = (σ * ((i : Int) : Rat)) * nc (thq a) (pq u i) k
  | 0, k, _ => by
    have e : nc a (thq (pq u 0)) k = 0 := su_zero fun j _ => by
      show a j * thq one' (k - j) = 0
      rw [thq_one, Rat.mul_zero]
    rw [e]
    simp
  | i + 1, k, hk => by
    have ih := pow_id hu i
    have e1 : nc a (thq (pq u (i + 1))) k = nc a (nc (thq (pq u i)) u) k + nc a (nc (pq u i) (thq u)) k := by
      rw [← nc_addr]
      exact nc_congr (fun _ _ => rfl) fun j _ => nc_leib _ _ j
    have e2 : nc a (nc (thq (pq u i)) u) k = (σ * ((i : Int) : Rat)) * nc (thq a) (nc (pq u i) u) k := by
      rw [← nc_ass a, ← nc_ass (thq a), ← nc_smull]
      exact nc_congr (fun j hj => ih j oM) fun _ _ => rfl
    have e3 : nc a (nc (pq u i) (thq u)) k = σ * nc (thq a) (nc (pq u i) u) k := by
      rw [← nc_ass a, nc_fun a (pq u i), nc_ass (pq u i), ← nc_ass (thq a), nc_fun (thq a) (pq u i), nc_ass (pq u i), ← nc_smulr]
      exact nc_congr (fun _ _ => rfl) fun j hj => hu j oM
    have e4 : (((i + 1 : Nat) : Int) : Rat) = ((i : Int) : Rat) + 1 := by
      rw [show ((i + 1 : Nat) : Int) = (i : Int) + 1 from rfl, Rat.intCast_add]
      rfl
    rw [e1, e2, e3, e4]
    show _ = _ * nc (thq a) (nc (pq u i) u) k
    grind
def msum (A X : List Rat) (n : Int) (k : Nat) : Nat → Rat
 | 0 => 0
 | j + 1 => msum A X n k j + (((((j : Int) + 1) * n - k + ((j : Int) + 1)) : Int) : Rat) * (A.getD (j + 1) 0 * X.getD (k - (j + 1)) 0)
def mil (A : List Rat) (c : Rat) (n : Int) : Nat → List Rat
 | 0 => [c]
 | m + 1 => mil A c n m ++ [1 / A.getD 0 0 * msum A (mil A c n m) n (m + 1) (m + 1) / (((m : Int) + 1 : Int) : Rat)]
theorem mil_len (A : List Rat) (c : Rat) (n : Int) : ∀ m, (mil A c n m).length = m + 1
 | 0 => rfl
 | m + 1 => by rw [mil, List.length_append, mil_len A c n m]; rfl
theorem msum_su (A X : List Rat) (n : Int) (k : Nat) : ∀ j, msum A X n k j = su (fun i => (((((i : Int) + 1) * n - k + ((i : Int) + 1)) : Int) : Rat) * (A.getD (i + 1) 0 * X.getD (k - (i + 1)) 0)) j
 | 0 => rfl
 | j + 1 => by rw [msum, su, msum_su A X n k j]
theorem mil_eq {A : List Rat} {p : Nat → Rat} {n : Int} {M : Nat} (h0 : A.getD 0 0 ≠ 0) (hp : ∀ k, k ≤ M → nc (fun j => A.getD j 0) (thq p) k = (n : Rat) * nc (thq fun j => A.getD j 0) p k) :
    ∀ m, m ≤ M → mil A (p 0) n m = tk p (m + 1)
  | 0, _ => rfl
  | m + 1, hm => by
    have ih := mil_eq h0 hp m oM
    rw [mil, ih, Zdu p (m + 1)]
    congr 2
    have hk := hp (m + 1) hm
    have z : thq (fun j => A.getD j 0) 0 = 0 := by unfold thq; simp
    have hk1 : nc (fun j => A.getD j 0) (thq p) (m + 1) = A.getD 0 0 * thq p (m + 1) + su (fun j => A.getD (j + 1) 0 * thq p (m + 1 - (j + 1))) (m + 1) := by unfold nc; rw [su_front]; rfl
    have hk2 : nc (thq fun j => A.getD j 0) p (m + 1) = su (fun j => thq (fun j => A.getD j 0) (j + 1) * p (m + 1 - (j + 1))) (m + 1) := by
      unfold nc
      rw [su_front, z, Rat.zero_mul, Rat.zero_add]
    rw [hk1, hk2, ← Zf0] at hk
    have key : msum A (tk p (m + 1)) n (m + 1) (m + 1) = A.getD 0 0 * thq p (m + 1) := by
      have e1 : A.getD 0 0 * thq p (m + 1) = su (fun j => (n : Rat) * (thq (fun j => A.getD j 0) (j + 1) * p (m + 1 - (j + 1)))) (m + 1) + (-1) * su (fun j => A.getD (j + 1) 0 * thq p (m + 1 - (j + 1))) (m + 1) := by
        rw [← hk]
        grind
      rw [e1, ← Zf0, ← su_add, msum_su]
      refine Zbk fun j hj => ?_
      rw [show (tk p (m + 1)).getD (m + 1 - (j + 1)) 0 = p (m + 1 - (j + 1)) by unfold tk; simp [List.getD_eq_getElem?_getD, show m - j < m + 1 by omega, show m + 1 - (j + 1) = m - j by omega]]
      unfold thq
      have e2 : (((((j : Int) + 1) * n - ((m + 1 : Nat) : Int) + ((j : Int) + 1)) : Int) : Rat) = (n : Rat) * (((j + 1 : Nat) : Int) : Rat) - (((m + 1 - (j + 1) : Nat) : Int) : Rat) := by
        rw [← Rat.intCast_mul, ← Rat.intCast_sub]
        congr 1
        have : ((m + 1 - (j + 1) : Nat) : Int) = ((m + 1 : Nat) : Int) - ((j : Int) + 1) := oM
        rw [this, show ((j + 1 : Nat) : Int) = (j : Int) + 1 from rfl, Int.mul_comm n]
        omega
      rw [e2]
      grind
    rw [key]
    unfold thq
    have hne : (((m : Int) + 1 : Int) : Rat) ≠ 0 := fun e => by
      have := Rat.intCast_eq_zero_iff.1 e
      omega
    show 1 / A.getD 0 0 * (A.getD 0 0 * ((((m : Int) + 1 : Int) : Rat) * p (m + 1))) / (((m : Int) + 1 : Int) : Rat) = _
    grind
def rpw (x : Rat) : Nat → Rat
 | 0 => 1
 | k + 1 => rpw x k * x
def bas (x : Rat) (n : Int) : Rat := if n < 0 then 1 / x else x
theorem ht_rpw {x : Rat} {K : Nat} (hK : 1 ≤ K) (h : Ht x K) : ∀ k, Ht (rpw x k) (1 + k * K)
 | 0 => (Zcq (c := 1) dC).mono oM
 | k + 1 => (Zbq (ht_rpw hK h k) h oM).mono (by rw [Nat.add_mul]; omega)
theorem ht_bas {x : Rat} {K : Nat} (hK : 1 ≤ K) (h : Ht x K) (n : Int) : Ht (bas x n) K := by
 unfold bas
 split
 ·rw [Rat.div_def, Rat.one_mul]; exact ht_inv h hK
 ·exact h
set_option maxHeartbeats 1000000 in
theorem vpower_p {a : AV} {x : Rat} {K : Nat} {n : Int} (ha : IsV a K x) (hx : x ≠ 0) (hK : 1 ≤ K ∧ K ≤ 1000000) (n0 : -200 ≤ n) (n1 : n ≤ 200) : PC Tryz.prog 103 [a, .p (.int .i64 n)] (encQ (rpw (bas x n) n.natAbs)) := by
 have h1 : Ht (1 : Rat) 1 := Zcq (c := 1) dC
 have c1 := Zdh 1 dC dC
 rw [show ((1 : Int) : Rat) = 1 from rfl] at c1
 have cq := rquo_p (Zad h1) oM ha oM hx
 have htx := Zfc ha hK.1
 have hbas := ht_bas hK.1 htx n
 have hpw := ht_rpw hK.1 hbas
 have hpos : n < 0 → bas x n = 1 / x := fun h => by unfold bas; rw [if_pos h]
 have hneg : ¬ n < 0 → bas x n = x := fun h => by unfold bas; rw [if_neg h]
 obtain ⟨g, xs, g', xs', rfl⟩ := Zax ha
 generalize hy : bas x n = y at *
 have hr0 : rpw y 0 = 1 := rfl
 have hrs : ∀ k, rpw y (k + 1) = rpw y k * y := fun k => rfl
 generalize rpw y = P at *
 refine pb1 Tryz.func103 (Zac.agg Zbg) ?_
 refine r1A ?_
 refine T.seqI (fun s1 => ∃ g ds g' ds', IsV (.agg [.p (.bool g), .sl ds, .p (.bool g'), .sl ds']) K y ∧ s1 = mkS [(1, .v (iV (n.natAbs : Nat))), (2, .ptr 2 0), (4, .ptr 4 0)] [(2, .var [.v (.p (.bool g)), .v (.sl ds), .v (.p (.bool g')), .v (.sl ds')]), (4, varQ)] 25 true) ?_ ?_
 ·by_cases hn : n < 0
  ·have hb : decide (n < 0) = true := by simp [hn]
   have e : 0 - n = (n.natAbs : Int) := oM
   have hyy := hpos hn
   rw [hyy] at hbas
   refine goA ?_
   refine clG c1 ?_
   refine clG cq ?_
   exact Zae (s' := mkS [(1, .v (iV (0 - n))), (2, .ptr 2 0), (4, .ptr 4 0)] [(2, qvar (1 / x)), (4, varQ)] 25 true) entA ⟨_, _, _, _, by rw [hyy]; exact Zad hbas, by rw [e]⟩
  ·have hb : decide (n < 0) = false := by simp; omega
   have e : n = (n.natAbs : Int) := oM
   have hyy := hneg hn
   refine goA ?_
   exact Zae (s' := mkS [(1, .v (iV n)), (2, .ptr 2 0), (4, .ptr 4 0)] [(2, .var [.v (.p (.bool g)), .v (.sl xs), .v (.p (.bool g')), .v (.sl xs')]), (4, varQ)] 25 true) entA ⟨_, _, _, _, by rw [hyy]; exact ha, by rw [← e]⟩
 rintro _ ⟨g, ds, g', ds', hv, rfl⟩
 generalize hN : n.natAbs = N at *
 have hNb : N ≤ 200 := oM
 clear cq hpos hneg ha
 refine T.seqE (mkS [(1, .v (iV (N : Nat))), (2, .ptr 2 0), (4, .ptr 4 0), (5, .ptr 5 0)] [(2, .var [.v (.p (.bool g)), .v (.sl ds), .v (.p (.bool g')), .v (.sl ds')]), (4, varQ), (5, qvar (P 0))] 25 true) ?_ ?_
 ·refine goA ?_
  refine clG c1 ?_
  exact Zae (s' := mkS [(1, .v (iV (N : Nat))), (2, .ptr 2 0), (4, .ptr 4 0), (5, .ptr 5 0)] [(2, .var [.v (.p (.bool g)), .v (.sl ds), .v (.p (.bool g')), .v (.sl ds')]), (4, varQ), (5, qvar 1)] 25 true) entA (by rw [hr0])
 refine T.seqE (mkS [(4, .ptr 4 0), (5, .ptr 5 0)] [(4, varQ), (5, qvar (P N))] 25 true) ?_ ?_
 ·refine r1A ?_
  refine T.block ?_
  refine T.loop (fun z s1 => ∃ k : Nat, z = N - k ∧ k ≤ N ∧ s1 = mkS [(2, .ptr 2 0), (4, .ptr 4 0), (5, .ptr 5 0), (17, .v (iV (N : Nat))), (18, .v (iV (k : Nat)))] [(2, .var [.v (.p (.bool g)), .v (.sl ds), .v (.p (.bool g')), .v (.sl ds')]), (4, varQ), (5, qvar (P k))] 25 true) N
   (s' := mkS [(2, .ptr 2 0), (4, .ptr 4 0), (5, .ptr 5 0), (17, .v (iV (N : Nat))), (18, .v (iV (0 : Nat)))] [(2, .var [.v (.p (.bool g)), .v (.sl ds), .v (.p (.bool g')), .v (.sl ds')]), (4, varQ), (5, qvar (P 0))] 25 true) entA ⟨0, rfl, Nat.zero_le _, rfl⟩ ?_
  rintro z _ ⟨k, rfl, hk, rfl⟩
  by_cases hlt : k < N
  ·have hb : decide ((k : Int) < (N : Int)) = true := by simp; omega
   have hkK : 1 + k * K ≤ 2199023255552 := by
    have : k * K ≤ 200 * 1000000 := Nat.mul_le_mul oM hK.2
    omega
   have cm := Zdw (Zad (hpw k)) hkK hv oM
   rw [← hrs k] at cm
   clear hpw hrs hv
   refine goA ?_
   refine clG cm ?_
   exact Zab (k := N - (k + 1)) (s' := mkS [(2, .ptr 2 0), (4, .ptr 4 0), (5, .ptr 5 0), (17, .v (iV (N : Nat))), (18, .v (iV ((k : Int) + 1)))] [(2, .var [.v (.p (.bool g)), .v (.sl ds), .v (.p (.bool g')), .v (.sl ds')]), (4, varQ), (5, qvar (P (k + 1)))] 25 true) oM entA ⟨k + 1, rfl, hlt, rfl⟩
  ·obtain rfl : k = N := oM
   have hb : decide ((k : Int) < (k : Int)) = false := by simp
   refine goA ?_
   exact Zae (s' := mkS [(4, .ptr 4 0), (5, .ptr 5 0)] [(4, varQ), (5, qvar (P k))] 25 true) entA rfl
 unfold encQ
 refine goA ?_
 exact rfl
def powL (A : List Rat) (n : Int) (m : Nat) : List Rat := mil A (rpw (bas (A.getD 0 0) n) n.natAbs) n m
def powT (s : Int) (l : List Rat) (n : Int) : Res :=
 if Zap s l.length && (decide (-200 ≤ n) && decide (n ≤ 200)) then
  (if l.drop (lead l) = [] then (if n < 0 then (0, [], 18) else nrmT (nrm (n * (s + lead l)) [])) else nrmT (nrm (n * (s + lead l)) (powL (l.drop (lead l)) n ((l.drop (lead l)).length - 1))))
 else (0, [], 2)
theorem rpw_ne {x : Rat} (h : x ≠ 0) : ∀ k, rpw x k ≠ 0
 | 0 => by show (1 : Rat) ≠ 0; decide
 | k + 1 => fun e => (Rat.mul_eq_zero.1 e).elim (rpw_ne h k) h
theorem bas_ne {x : Rat} (h : x ≠ 0) (n : Int) : bas x n ≠ 0 := by
 unfold bas
 split
 ·rw [Rat.div_def, Rat.one_mul]
  intro e
  have := Rat.mul_inv_cancel x h
  rw [e, Rat.mul_zero] at this
  exact absurd this dC
 ·exact h
theorem mil_take (A : List Rat) (c : Rat) (n : Int) : ∀ M m, m ≤ M → (mil A c n M).take (m + 1) = mil A c n m
  | 0, m, h => by
    obtain rfl : m = 0 := oM
    rfl
  | M + 1, m, h => by
    have hl := mil_len A c n M
    by_cases h1 : m = M + 1
    · subst h1
      rw [List.take_of_length_le (by rw [mil_len]; omega)]
    · rw [mil, List.take_append_of_le_length oM]
      exact mil_take A c n M m oM
theorem mil_get0 (A : List Rat) (c : Rat) (n : Int) (m : Nat) : (mil A c n m).getD 0 0 = c := by
 have h := mil_take A c n m 0 (Nat.zero_le _)
 have e : (mil A c n m).getD 0 0 = ((mil A c n m).take 1).getD 0 0 := by
  rw [List.getD_eq_getElem?_getD, List.getD_eq_getElem?_getD, List.getElem?_take, if_pos dC]
 rw [e, h]
 rfl
theorem lead00 {l : List Rat} (h : l.getD 0 0 ≠ 0) : lead l = 0 := by
  cases l with
  | nil => exact absurd rfl h
  | cons q r =>
    unfold lead
    rw [if_neg (show ¬ q = 0 from h)]
theorem nrm_low {f : Int} {L : List Rat} (h : f < -100) (h0 : L.getD 0 0 ≠ 0) : nrm f L = none := by
 have e1 : Zdq f = f := by unfold Zdq; rw [if_neg oM]
 have e2 : ncut f L = L.take (1000 - f).toNat := by unfold ncut; rw [if_neg oM]
 have e3 : lead (ncut f L) = 0 := lead00 (by
  rw [e2, List.getD_eq_getElem?_getD, List.getElem?_take, if_pos oM, ← List.getD_eq_getElem?_getD]
  exact h0)
 unfold nrm
 rw [e1, e3, if_pos oM]
theorem nrm_take {f : Int} {L : List Rat} {R : Nat} (h : f < 1000) (hR : (R : Int) = min (L.length : Int) (1000 - f)) : nrm f (L.take R) = nrm f L := by
 have e2 : ncut f (L.take R) = ncut f L := by
  unfold ncut
  rw [if_neg oM, if_neg oM, List.take_take]
  by_cases h2 : (L.length : Int) ≤ 1000 - f
  ·rw [List.take_of_length_le oM, List.take_of_length_le oM]
  ·congr 1
   omega
 unfold nrm
 rw [e2]
theorem ht_msum {A X : List Rat} {K Q k : Nat} {n : Int} (hK : 1 ≤ K) (hQ : 1 ≤ Q) (hA : ∀ q, q ∈ A → Ht q K) (hX : ∀ q, q ∈ X → Ht q Q) (n0 : -200 ≤ n) (n1 : n ≤ 200) (hk : k ≤ 1100) : ∀ j, j ≤ 1100 → Ht (msum A X n k j) (1 + j * (K + Q + 2))
  | 0, _ => (ht0 (Nat.le_refl _)).mono oM
  | j + 1, hj => by
    have hb : -300000 ≤ ((j : Int) + 1) * n ∧ ((j : Int) + 1) * n ≤ 300000 := by
      constructor
      · have := Int.mul_le_mul_of_nonneg_left n0 (show 0 ≤ (j : Int) + 1 by omega)
        omega
      · have := Int.mul_le_mul_of_nonneg_left n1 (show 0 ≤ (j : Int) + 1 by omega)
        omega
    exact (Zgy (ht_msum hK hQ hA hX n0 n1 hk j oM) (Zbq (Zcq (c := ((j : Int) + 1) * n - k + ((j : Int) + 1)) oM) (Zbq (Zcl hK hA (j + 1)) (Zcl hQ hX (k - (j + 1))) hK) (Nat.le_refl 1))).mono (by rw [Nat.add_mul j 1]; omega)
set_option maxHeartbeats 8000000 in
theorem spow_p {s n : Int} {es : List AV} {l : List Rat} {K Q : Nat} (h : Zap s es.length = true → IsL es K l ∧ l.length ≤ 100) (hle : es.length = l.length) (hr : InR s es.length) (hK : 1 ≤ K ∧ K ≤ 100) (hQ : 1 ≤ Q ∧ Q ≤ 1000000) (hn0 : -9223372036854775808 ≤ n) (hn1 : n ≤ 9223372036854775807)
    (hX : Zap s es.length = true → -200 ≤ n → n ≤ 200 → ∀ m, m + 1 ≤ (l.drop (lead l)).length → ∀ q, q ∈ powL (l.drop (lead l)) n m → Ht q Q) : PC Tryz.prog 67 [serA s es, .p (.int .i64 n)] (serT (powT s l n)) := by
  obtain ⟨i1, i2, i3⟩ := hr
  have hva := Zdt i1 i2 i3
  unfold powT
  rw [← hle]
  cases h1 : Zap s es.length with
  | false =>
    rw [h1] at hva
    refine pb2 Tryz.func67 (Zac.agg Zaj) Zac.tmp ?_
    refine goA ?_
    refine clG hva ?_
    exact rfl
  | true =>
  rw [h1] at hva
  by_cases a0 : -200 ≤ n
  case neg =>
    have e : (true && (decide (-200 ≤ n) && decide (n ≤ 200))) = false := by simp; omega
    have hb : decide (n < -200) = true := by simp; omega
    rw [e]
    refine pb2 Tryz.func67 (Zac.agg Zaj) Zac.tmp ?_
    refine goA ?_
    refine clG hva ?_
    exact rfl
  have hb0 : decide (n < -200) = false := by simp; omega
  by_cases a1 : n ≤ 200
  case neg =>
    have e : (true && (decide (-200 ≤ n) && decide (n ≤ 200))) = false := by simp; omega
    have hb : decide (n > 200) = true := by simp; omega
    rw [e]
    refine pb2 Tryz.func67 (Zac.agg Zaj) Zac.tmp ?_
    refine goA ?_
    refine clG hva ?_
    exact rfl
  have hb1 : decide (n > 200) = false := by simp; omega
  have e : (true && (decide (-200 ≤ n) && decide (n ≤ 200))) = true := by simp [a0, a1]
  rw [e]
  simp only [if_true]
  clear e
  obtain ⟨hL, hl14⟩ := h h1
  have hX := hX h1 a0 a1
  obtain ⟨v0, v1, v2⟩ := Za2.1 h1
  have hta := tidy_p hL oM v0 v1 v2
  have hla := Zc2 l
  have hhl : ∀ q, q ∈ l.drop (lead l) → Ht q K := fun q hq => Zdz hL hK.1 q (List.mem_of_mem_drop hq)
  have hld : (l.drop (lead l)).length + lead l = l.length := by rw [List.length_drop]; omega
  have hd0 : ∀ q, (l.drop (lead l))[0]? = some q → q ≠ 0 := fun q hq => Zga l q (by rw [List.getElem?_drop] at hq; exact hq)
  generalize l.drop (lead l) = A at *
  generalize hsa : s + (lead l : Int) = sa at *
  have hSA : -100 ≤ sa ∧ sa ≤ 1000 := oM
  have hns : -200000 ≤ n * sa ∧ n * sa ≤ 200000 := by
    have h3 : (n * sa).natAbs ≤ 200 * 1000 := by
      rw [Int.natAbs_mul]
      exact Nat.mul_le_mul oM oM
    omega
  by_cases hA : A = []
  · subst hA
    simp only [if_true]
    by_cases hn : n < 0
    · have hb : decide (n < 0) = true := by simp [hn]
      rw [if_pos hn]
      refine pb2 Tryz.func67 (Zac.agg Zaj) Zac.tmp ?_
      refine goA ?_
      refine clG hva ?_
      refine clG hta ?_
      exact rfl
    · have hb : decide (n < 0) = false := by simp; omega
      rw [if_neg hn]
      have hbuild := Ze7 (s := n * sa) (es := []) (l := []) (K := 1) trivial oM oM oM dC
      rw [serE_T] at hbuild
      refine pb2 Tryz.func67 (Zac.agg Zaj) Zac.tmp ?_
      refine goA ?_
      refine clG hva ?_
      refine clG hta ?_
      refine clG hbuild ?_
      exact rfl
  rw [if_neg hA]
  have hA0 : 0 < A.length := List.length_pos_iff.2 hA
  have hbne : (((A.map encQ).length : Int) == 0) = false := by simp; exact hA
  obtain ⟨q0, hq0⟩ : ∃ q, A[0]? = some q := ⟨_, List.getElem?_eq_getElem hA0⟩
  have g0 : A.getD 0 0 = q0 := by rw [List.getD_eq_getElem?_getD, hq0]; rfl
  have hne := hd0 q0 hq0
  have t0 := hhl q0 (List.mem_of_getElem? hq0)
  have n0' := Zec hq0
  have hpl0 : ∀ m, (powL A n m).getD 0 0 ≠ 0 := fun m => by
    unfold powL
    rw [mil_get0, g0]
    exact rpw_ne (bas_ne hne n) _
  generalize hF : n * sa = F at *
  by_cases hF1 : F ≥ 1000
  · have hb : decide (F ≥ 1000) = true := by simp [hF1]
    rw [nrm_end oM]
    refine pb2 Tryz.func67 (Zac.agg Zaj) Zac.tmp ?_
    refine goA ?_
    refine clG hva ?_
    refine clG hta ?_
    rw [hF]
    refine goA ?_
    exact rfl
  have hb2 : decide (F ≥ 1000) = false := by simp; omega
  by_cases hF2 : F < -100
  · have hb : decide (F < -100) = true := by simp [hF2]
    rw [nrm_low hF2 (hpl0 _)]
    refine pb2 Tryz.func67 (Zac.agg Zaj) Zac.tmp ?_
    refine goA ?_
    refine clG hva ?_
    refine clG hta ?_
    rw [hF]
    refine goA ?_
    exact rfl
  have hb3 : decide (F < -100) = false := by simp; omega
  obtain ⟨R, hR⟩ : ∃ R : Nat, ((R + 1 : Nat) : Int) = min (A.length : Int) (1000 - F) := ⟨(min (A.length : Int) (1000 - F)).toNat - 1, oM⟩
  have htk : nrm F (powL A n (A.length - 1)) = nrm F (powL A n R) := by
    rw [← nrm_take (f := F) (L := powL A n (A.length - 1)) (R := R + 1) oM (by unfold powL; rw [mil_len]; omega)]
    unfold powL
    rw [mil_take A _ n _ R oM]
  rw [htk]
  clear htk hpl0
  have t1 : Ht (1 : Rat) 1 := Zcq (c := 1) dC
  have c1 := Zdh 1 dC dC
  rw [show ((1 : Int) : Rat) = 1 from rfl] at c1
  have cz := Zdh 0 dC dC
  rw [show ((0 : Int) : Rat) = 0 from rfl] at cz
  have cpw := vpower_p (n := n) (Zad t0) hne oM a0 a1
  have cq := rquo_p (Zad t1) oM (Zad t0) oM hne
  have hp0 : powL A n 0 = [rpw (bas q0 n) n.natAbs] := by rw [← g0]; rfl
  generalize rpw (bas q0 n) n.natAbs = c0 at *
  have tfi : Ht (1 / q0) K := by rw [Rat.div_def, Rat.one_mul]; exact ht_inv t0 hK.1
  have hps : ∀ m, powL A n (m + 1) = powL A n m ++ [1 / q0 * msum A (powL A n m) n (m + 1) (m + 1) / (((m : Int) + 1 : Int) : Rat)] := fun m => by rw [← g0]; rfl
  have hpln : ∀ m, (powL A n m).length = m + 1 := fun m => mil_len _ _ _ m
  generalize 1 / q0 = fi at *
  generalize hPP : powL A n = P at *
  refine pb2 Tryz.func67 (Zac.agg Zaj) Zac.tmp ?_
  refine r1A ?_
  refine T.seqE (mkS [(1, .v (iV n)), (2, .ptr 2 0), (4, .ptr 4 0)] [(2, .var [.v (iV s), .v (.sl es)]), (4, var0)] 133 true) ?_ ?_
  · refine goA ?_
    refine clG hva ?_
    exact midE
  refine T.seqE (mkS [(1, .v (iV n)), (2, .ptr 2 0), (4, .ptr 4 0)] [(2, svar sa A), (4, var0)] 133 true) ?_ ?_
  · refine goA ?_
    refine clG hta ?_
    exact midE
  refine T.seqE (mkS [(1, .v (iV n)), (2, .ptr 2 0), (4, .ptr 4 0)] [(2, svar sa A), (4, var0)] 133 true) ?_ ?_
  · refine goA ?_
    exact midE
  refine T.seqE (mkS [(1, .v (iV n)), (2, .ptr 2 0), (4, .ptr 4 0), (6, .v (iV F))] [(2, svar sa A), (4, var0)] 133 true) ?_ ?_
  · refine goA ?_
    exact Zae (s' := mkS [(1, .v (iV n)), (2, .ptr 2 0), (4, .ptr 4 0), (6, .v (iV (n * sa)))] [(2, svar sa A), (4, var0)] 133 true) entA (by rw [hF])
  refine T.seqE (mkS [(1, .v (iV n)), (2, .ptr 2 0), (4, .ptr 4 0), (6, .v (iV F))] [(2, svar sa A), (4, var0)] 133 true) ?_ ?_
  · refine goA ?_
    exact midE
  refine T.seqE (mkS [(1, .v (iV n)), (2, .ptr 2 0), (4, .ptr 4 0), (6, .v (iV F))] [(2, svar sa A), (4, var0)] 133 true) ?_ ?_
  · refine goA ?_
    exact midE
  refine T.seqE (mkS [(1, .v (iV n)), (2, .ptr 2 0), (4, .ptr 4 0), (6, .v (iV F)), (7, .own 31 1)] [(2, svar sa A), (4, var0), (31, .lst 4 39 ((P 0).map encQ))] 133 true) ?_ ?_
  · refine goA ?_
    refine evG ggA (Zbh (Zaa rfl) (Zag rfl) rfl rfl dC n0' rfl) ?_
    refine goA ?_
    refine clA cpw ?_
    refine runA ?_
    refine evG ggA (Zb8 31 (Zaa rfl) rfl (Zaf rfl) rfl rfl rfl rfl (Zci rfl rfl) (Nat.le_of_ble_eq_true rfl) dC (fun _ a ha => by rw [List.mem_singleton] at ha; subst ha; exact Ze3 _)) ?_
    refine goA ?_
    exact Zae (s' := mkS [(1, .v (iV n)), (2, .ptr 2 0), (4, .ptr 4 0), (6, .v (iV F)), (7, .own 31 1)] [(2, svar sa A), (4, var0), (31, .lst 4 39 (([c0] : List Rat).map encQ))] 133 true) entA (by rw [hp0])
  refine T.seqE (mkS [(1, .v (iV n)), (2, .ptr 2 0), (4, .ptr 4 0), (6, .v (iV F)), (7, .own 31 1), (8, .ptr 8 0)] [(2, svar sa A), (4, var0), (8, qvar fi), (31, .lst 4 39 ((P 0).map encQ))] 133 true) ?_ ?_
  · refine goA ?_
    refine clG c1 ?_
    refine evG ggA (Zbh (Zaa rfl) (Zag rfl) rfl rfl dC n0' rfl) ?_
    refine goA ?_
    refine clG cq ?_
    exact midE
  clear cpw cq c1 hva hta
  refine T.seqE (mkS [(4, .ptr 4 0), (6, .v (iV F)), (7, .own 31 (R + 1))] [(4, var0), (31, .lst 4 39 ((P R).map encQ))] 133 true) ?_ ?_
  · refine r1A ?_
    refine T.block ?_
    refine T.loop (fun z s1 => ∃ m : Nat, z = R - m ∧ m ≤ R ∧ s1 = mkS [(1, .v (iV n)), (2, .ptr 2 0), (4, .ptr 4 0), (6, .v (iV F)), (7, .own 31 (m + 1)), (8, .ptr 8 0), (10, .v (iV ((m : Int) + 1)))] [(2, svar sa A), (4, var0), (8, qvar fi), (31, .lst 4 39 ((P m).map encQ))] 133 true) R
      (s' := mkS [(1, .v (iV n)), (2, .ptr 2 0), (4, .ptr 4 0), (6, .v (iV F)), (7, .own 31 1), (8, .ptr 8 0), (10, .v (iV 1))] [(2, svar sa A), (4, var0), (8, qvar fi), (31, .lst 4 39 ((P 0).map encQ))] 133 true) entA ⟨0, rfl, Nat.zero_le _, rfl⟩ ?_
    rintro z _ ⟨m, rfl, hm, rfl⟩
    by_cases hlt : m < R
    · have hb : decide ((m : Int) + 1 < min ((A.map encQ).length : Int) (1000 - F)) = true := by simp; omega
      have hXm := hX m oM
      have hpm := hps m
      have hpl := hpln m
      generalize hXX : P m = X at *
      have hms := ht_msum hK.1 hQ.1 hhl hXm a0 a1 (k := m + 1) oM
      have hmsb : ∀ j, j ≤ m + 1 → Ht (msum A X n (m + 1) j) 200000000000 := fun j hj => (hms j oM).mono (by
        have : j * (K + Q + 2) ≤ 100 * (K + Q + 2) := Nat.mul_le_mul_right _ oM
        omega)
      have hse : ∀ j, msum A X n (m + 1) (j + 1) = msum A X n (m + 1) j + (((((j : Int) + 1) * n - ((m + 1 : Nat) : Int) + ((j : Int) + 1)) : Int) : Rat) * (A.getD (j + 1) 0 * X.getD (m - j) 0) := fun j => by
        show msum A X n (m + 1) j + (((((j : Int) + 1) * n - ((m + 1 : Nat) : Int) + ((j : Int) + 1)) : Int) : Rat) * (A.getD (j + 1) 0 * X.getD (m + 1 - (j + 1)) 0) = _
        rw [show m + 1 - (j + 1) = m - j by omega]
      have hs0 : msum A X n (m + 1) 0 = 0 := rfl
      clear hms
      generalize msum A X n (m + 1) = S at *
      refine T.seqE (mkS [(1, .v (iV n)), (2, .ptr 2 0), (4, .ptr 4 0), (6, .v (iV F)), (7, .own 31 (m + 1)), (8, .ptr 8 0), (10, .v (iV ((m : Int) + 1)))] [(2, svar sa A), (4, var0), (8, qvar fi), (31, .lst 4 39 (X.map encQ))] 133 true) ?_ ?_
      · refine goA ?_
        exact midE
      refine T.seq ?_
      refine T.block ?_
      refine T.seqE (mkS [(1, .v (iV n)), (2, .ptr 2 0), (4, .ptr 4 0), (6, .v (iV F)), (7, .own 31 (m + 1)), (8, .ptr 8 0), (10, .v (iV ((m : Int) + 1))), (11, .ptr 11 0)] [(2, svar sa A), (4, var0), (8, qvar fi), (11, qvar (S 0)), (31, .lst 4 39 (X.map encQ))] 133 true) ?_ ?_
      · refine goA ?_
        refine clG cz ?_
        exact Zae (s' := mkS [(1, .v (iV n)), (2, .ptr 2 0), (4, .ptr 4 0), (6, .v (iV F)), (7, .own 31 (m + 1)), (8, .ptr 8 0), (10, .v (iV ((m : Int) + 1))), (11, .ptr 11 0)] [(2, svar sa A), (4, var0), (8, qvar fi), (11, qvar (0)), (31, .lst 4 39 (X.map encQ))] 133 true) entA (by rw [hs0])
      refine T.seqE (mkS [(1, .v (iV n)), (2, .ptr 2 0), (4, .ptr 4 0), (6, .v (iV F)), (7, .own 31 (m + 1)), (8, .ptr 8 0), (10, .v (iV ((m : Int) + 1))), (11, .ptr 11 0)] [(2, svar sa A), (4, var0), (8, qvar fi), (11, qvar (S (m + 1))), (31, .lst 4 39 (X.map encQ))] 133 true) ?_ ?_
      · refine r1A ?_
        refine T.block ?_
        refine T.loop (fun z s1 => ∃ j : Nat, z = m + 1 - j ∧ j ≤ m + 1 ∧ s1 = mkS [(1, .v (iV n)), (2, .ptr 2 0), (4, .ptr 4 0), (6, .v (iV F)), (7, .own 31 (m + 1)), (8, .ptr 8 0), (10, .v (iV ((m : Int) + 1))), (11, .ptr 11 0), (12, .v (iV ((j : Int) + 1)))] [(2, svar sa A), (4, var0), (8, qvar fi), (11, qvar (S j)), (31, .lst 4 39 (X.map encQ))] 133 true) (m + 1)
          (s' := mkS [(1, .v (iV n)), (2, .ptr 2 0), (4, .ptr 4 0), (6, .v (iV F)), (7, .own 31 (m + 1)), (8, .ptr 8 0), (10, .v (iV ((m : Int) + 1))), (11, .ptr 11 0), (12, .v (iV 1))] [(2, svar sa A), (4, var0), (8, qvar fi), (11, qvar (S 0)), (31, .lst 4 39 (X.map encQ))] 133 true) entA ⟨0, rfl, Nat.zero_le _, rfl⟩ ?_
        rintro z _ ⟨j, rfl, hj, rfl⟩
        by_cases hjm : j < m + 1
        · have hb3 : decide ((j : Int) + 1 ≤ (m : Int) + 1) = true := by simp; omega
          obtain ⟨q1, hq1⟩ : ∃ q, A[j + 1]? = some q := ⟨_, List.getElem?_eq_getElem oM⟩
          obtain ⟨q2, hq2⟩ : ∃ q, X[m - j]? = some q := ⟨_, List.getElem?_eq_getElem oM⟩
          have g1 : A.getD (j + 1) 0 = q1 := by rw [List.getD_eq_getElem?_getD, hq1]; rfl
          have g2 : X.getD (m - j) 0 = q2 := by rw [List.getD_eq_getElem?_getD, hq2]; rfl
          have t1 := hhl q1 (List.mem_of_getElem? hq1)
          have t2 := hXm q2 (List.mem_of_getElem? hq2)
          have n1 : (A.map encQ)[((j : Int) + 1).toNat]? = some (encQ q1) := by rw [show ((j : Int) + 1).toNat = j + 1 by omega]; exact Zec hq1
          have n2 : (X.map encQ)[((m : Int) + 1 - ((j : Int) + 1)).toNat]? = some (encQ q2) := by rw [show ((m : Int) + 1 - ((j : Int) + 1)).toNat = m - j by omega]; exact Zec hq2
          have hx0 : (X.map encQ).length = m + 1 := by rw [List.length_map, hpl]
          have hsej := hse j
          rw [g1, g2] at hsej
          obtain ⟨dsg, -, -, hsg, csg⟩ := rsign_p (Zad t1) oM
          by_cases hq0' : q1 = 0
          · have hb4 : (!(dsg == 0)) = false := by rw [hsg.2 hq0']; rfl
            have e : S (j + 1) = S j := by rw [hsej, hq0', Rat.zero_mul, Rat.mul_zero, Rat.add_zero]
            clear hmsb hse hX hXm hhl hps hpln hd0
            refine goA ?_
            refine ixG n1 ?_
            refine clG csg ?_
            exact Zab (k := m + 1 - (j + 1)) (s' := mkS [(1, .v (iV n)), (2, .ptr 2 0), (4, .ptr 4 0), (6, .v (iV F)), (7, .own 31 (m + 1)), (8, .ptr 8 0), (10, .v (iV ((m : Int) + 1))), (11, .ptr 11 0), (12, .v (iV ((j : Int) + 1 + 1)))] [(2, svar sa A), (4, var0), (8, qvar fi), (11, qvar (S j)), (31, .lst 4 39 (X.map encQ))] 133 true) oM entA ⟨j + 1, rfl, oM, by rw [e]; rfl⟩
          · have hb4 : (!(dsg == 0)) = true := by
              have : ¬ dsg = 0 := fun e => hq0' (hsg.1 e)
              simp [this]
            have hjn : -300000 ≤ ((j : Int) + 1) * n ∧ ((j : Int) + 1) * n ≤ 300000 := by
              have h3 : (((j : Int) + 1) * n).natAbs ≤ 1100 * 200 := by
                rw [Int.natAbs_mul]
                exact Nat.mul_le_mul oM oM
              omega
            have cf1 := Zdh (((j : Int) + 1) * n - ((m : Int) + 1) + ((j : Int) + 1)) oM oM
            have tf1 : Ht ((((((j : Int) + 1) * n - ((m : Int) + 1) + ((j : Int) + 1)) : Int)) : Rat) 1 := Zcq oM
            have c3 := Zdw (Zad t1) oM (Zad t2) oM
            have c4 := Zdw (Zad tf1) oM (Zad (Zbq t1 t2 hK.1)) oM
            have c5 := radd_p (Zad (hmsb j hj)) oM (Zad (Zbq tf1 (Zbq t1 t2 hK.1) (Nat.le_refl 1))) oM
            have hsej : S (j + 1) = S j + (((((j : Int) + 1) * n - ((m : Int) + 1) + ((j : Int) + 1)) : Int) : Rat) * (q1 * q2) := hsej
            rw [← hsej] at c5
            generalize hNN : ((j : Int) + 1) * n = jn at *
            clear hmsb hse hX hXm hhl hps hpln hd0 hsej
            refine goA ?_
            refine ixG n1 ?_
            refine clG csg ?_
            rw [hNN]
            refine goA ?_
            refine clG cf1 ?_
            refine ixG n1 ?_
            refine evG ggA (Zah (Zaa rfl) (Zag rfl) rfl rfl hx0 rfl oM oM) ?_
            refine evG ggA (Zan (Zaa rfl) (Zbc rfl) rfl rfl hx0 n2) ?_
            refine clA c3 ?_
            refine clA c4 ?_
            refine clG c5 ?_
            exact Zab (k := m + 1 - (j + 1)) (s' := mkS [(1, .v (iV n)), (2, .ptr 2 0), (4, .ptr 4 0), (6, .v (iV F)), (7, .own 31 (m + 1)), (8, .ptr 8 0), (10, .v (iV ((m : Int) + 1))), (11, .ptr 11 0), (12, .v (iV ((j : Int) + 1 + 1)))] [(2, svar sa A), (4, var0), (8, qvar fi), (11, qvar (S (j + 1))), (31, .lst 4 39 (X.map encQ))] 133 true) oM entA ⟨j + 1, rfl, oM, rfl⟩
        · obtain rfl : j = m + 1 := oM
          have hb3 : decide (((m + 1 : Nat) : Int) + 1 ≤ (m : Int) + 1) = false := by simp; omega
          clear hmsb hse hX hXm hhl hps hpln hd0
          refine goA ?_
          exact midE
      have htn := ht_n m oM
      have cn := Zdh ((m : Int) + 1) oM oM
      have hSm := hmsb (m + 1) (Nat.le_refl _)
      have c6 := Zdw (Zad tfi) oM (Zad hSm) oM
      have c7 := rquo_p (Zad (Zbq tfi hSm hK.1)) oM (Zad htn) oM (by
        intro e
        have := Rat.intCast_eq_zero_iff.1 e
        omega)
      have hx0 : (X.map encQ).length = m + 1 := by rw [List.length_map, hpl]
      clear hmsb hse hX hXm hhl hps hpln hd0
      refine goA ?_
      refine clG c6 ?_
      refine clG cn ?_
      refine clG c7 ?_
      refine appA ?_
      refine goA ?_
      exact Zab (k := R - (m + 1)) (s' := mkS [(1, .v (iV n)), (2, .ptr 2 0), (4, .ptr 4 0), (6, .v (iV F)), (7, .own 31 (m + 1 + 1)), (8, .ptr 8 0), (10, .v (iV ((m : Int) + 1 + 1)))] [(2, svar sa A), (4, var0), (8, qvar fi), (31, .lst 4 39 ((X ++ [fi * S (m + 1) / (((m : Int) + 1 : Int) : Rat)]).map encQ))] 133 true) oM entA ⟨m + 1, rfl, hlt, by rw [hpm]; rfl⟩
    · obtain rfl : m = R := oM
      have hb : decide ((m : Int) + 1 < min ((A.map encQ).length : Int) (1000 - F)) = false := by simp; omega
      refine goA ?_
      exact Zae (s' := mkS [(4, .ptr 4 0), (6, .v (iV F)), (7, .own 31 (m + 1))] [(4, var0), (31, .lst 4 39 ((P m).map encQ))] 133 true) entA rfl
  have hl2 := hpln R
  have hXR := hX R oM
  generalize P R = X at *
  have hbuild := Ze7 (s := F) (Zbb hXR) oM oM oM oM
  rw [serE_T] at hbuild
  have hx0 : (X.map encQ).length = R + 1 := by rw [List.length_map, hl2]
  refine T.weak (s' := mkS [(4, .ptr 4 0), (6, .v (iV F)), (7, .v (.sl (X.map encQ)))] [(4, var0)] 133 true) entA ?_
  refine goA ?_
  refine clG hbuild ?_
  exact rfl
theorem inv_nc' {A : List Rat} {N : Nat} (h0 : A.getD 0 0 ≠ 0) (k : Nat) (hk : k < N) : nc (fun j => A.getD j 0) (fun j => (ivs A N).getD j 0) k = one' k := by
  unfold nc
  rw [su_front]
  show A.getD 0 0 * (ivs A N).getD (k - 0) 0 + su (fun j => A.getD (j + 1) 0 * (ivs A N).getD (k - (j + 1)) 0) k = _
  rw [Nat.sub_zero, ivs_get A N k hk]
  have hc := Rat.mul_inv_cancel _ h0
  have h1 : A.getD 0 0 * (1 / A.getD 0 0) = 1 := by rw [Rat.div_def, Rat.one_mul]; exact hc
  unfold one'
  by_cases hk0 : k = 0
  · subst hk0
    rw [if_pos rfl, if_pos rfl, su, h1, Rat.add_zero]
  · rw [if_neg hk0, if_neg hk0]
    have e : iss A (ivs A k) k k = su (fun j => A.getD (j + 1) 0 * (ivs A N).getD (k - (j + 1)) 0) k := by
      have key : ∀ j, j ≤ k → iss A (ivs A k) k j = su (fun j => A.getD (j + 1) 0 * (ivs A N).getD (k - (j + 1)) 0) j := by
        intro j
        induction j with
        | zero => intro _; rfl
        | succ j ih =>
          intro hj
          rw [iss, su, ih oM, ivs_get A k _ oM, ivs_get A N _ oM]
      exact key k (Nat.le_refl k)
    rw [← e]
    generalize iss A (ivs A k) k k = S at *
    generalize 1 / A.getD 0 0 = fi at *
    have : A.getD 0 0 * -(fi * S) = -((A.getD 0 0 * fi) * S) := by grind
    rw [this, h1]
    grind
def ubase (A : List Rat) (n : Int) : List Rat := if n < 0 then ivs A A.length else A
def sgi (n : Int) (i : Nat) : Int := if n < 0 then -(i : Int) else (i : Int)
theorem pq0 (u : Nat → Rat) : ∀ i, pq u i 0 = rpw (u 0) i
  | 0 => rfl
  | i + 1 => by
    show nc (pq u i) u 0 = rpw (u 0) i * u 0
    unfold nc
    rw [su, su, Rat.zero_add, pq0 u i]
theorem rpw_bas (x : Rat) (n : Int) (i : Nat) : rpw (bas x (sgi n i)) (sgi n i).natAbs = rpw (bas x n) i := by
 unfold sgi
 by_cases hn : n < 0
 ·rw [if_pos hn]
  by_cases hi : i = 0
  ·subst hi; rfl
  ·have e1 : bas x (-(i : Int)) = bas x n := by unfold bas; rw [if_pos oM, if_pos hn]
   rw [e1]
   congr 1
   omega
 ·rw [if_neg hn]
  have e1 : bas x (i : Int) = bas x n := by unfold bas; rw [if_neg oM, if_neg hn]
  rw [e1]
  congr 1
theorem pow_eq {A : List Rat} (h0 : A.getD 0 0 ≠ 0) (hN : 0 < A.length) (n : Int) (i : Nat) : tk (pq (fun j => (ubase A n).getD j 0) i) A.length = powL A (sgi n i) (A.length - 1) := by
 have hu0 : (ubase A n).getD 0 0 = bas (A.getD 0 0) n := by
  unfold ubase bas
  split
  ·rw [ivs_get A _ 0 hN, if_pos rfl]
  ·rfl
 have hid : ∀ k, k < A.length → nc (fun j => A.getD j 0) (thq (pq (fun j => (ubase A n).getD j 0) i)) k = ((sgi n i : Int) : Rat) * nc (thq fun j => A.getD j 0) (pq (fun j => (ubase A n).getD j 0) i) k := by
  intro k hk
  by_cases hn : n < 0
  ·have e := pow_id (N := A.length) (a := fun j => A.getD j 0) (u := fun j => (ubase A n).getD j 0) (σ := -1) (fun k hk => by
    have hl := nc_leib (fun j => A.getD j 0) (fun j => (ubase A n).getD j 0) k
    have hz : thq (nc (fun j => A.getD j 0) (fun j => (ubase A n).getD j 0)) k = 0 := by
     unfold ubase
     rw [if_pos hn]
     have : thq (nc (fun j => A.getD j 0) (fun j => (ivs A A.length).getD j 0)) k = thq one' k := by
      unfold thq
      rw [inv_nc' h0 k hk]
     rw [this, thq_one]
    rw [hz] at hl
    grind) i k hk
   rw [e]
   unfold sgi
   rw [if_pos hn, Rat.intCast_neg]
   congr 1
   grind
  ·have e := pow_id (N := A.length) (a := fun j => A.getD j 0) (u := fun j => (ubase A n).getD j 0) (σ := 1) (fun k hk => by
    unfold ubase
    rw [if_neg hn, Rat.one_mul, nc_comm]) i k hk
   rw [e]
   unfold sgi
   rw [if_neg hn, Rat.one_mul]
 have key := mil_eq (A := A) (p := pq (fun j => (ubase A n).getD j 0) i) (n := sgi n i) (M := A.length - 1) h0 (fun k hk => hid k oM) (A.length - 1) (Nat.le_refl _)
 rw [show A.length - 1 + 1 = A.length by omega, pq0] at key
 unfold powL
 rw [rpw_bas, ← hu0]
 exact key.symm
theorem tk_get' {f : Nat → Rat} {n i : Nat} (h : i < n) : ((List.range n).map f).getD i 0 = f i := by
 rw [List.getD_eq_getElem?_getD, List.getElem?_map, List.getElem?_range h]
 rfl
end Ab
