/- The document's derivative of a polynomial: walked. -/
import Derived.Test.YtkbccidalhefaaaGreatQdA
import Derived.Test.YtkbccidalhefaaaGreatQrC
set_option linter.all false
namespace Ab
open Go Go.RowKit Go.Proofs Hp
set_option maxRecDepth 100000

theorem term38_p (a b c : Int) {q : Rat} : PC Tryz.prog 46 [iV a, iV b, iV c, encQ q] (.sl (PL [⟨a, b, c, q⟩])) := by
  have e : PL [⟨a, b, c, q⟩] = [.agg [iV a, iV b, iV c, .p (.bool (decide (q.num < 0))), .sl ((dgs q.num.natAbs).map u32), .p (.bool (decide ((q.den : Int) < 0))), .sl ((dgs (q.den : Int).natAbs).map u32)]] := rfl
  rw [e]
  have e2 : encQ q = rA q := rfl
  rw [e2]
  refine pc_body1 true Tryz.func46 rfl rfl rfl (Nat.le_of_ble_eq_true rfl) CellT.tmp ?_
  refine goA ?_
  refine evG ggA (ss_bslice (InB_of rfl) (make_tab rfl) rfl rfl rfl rfl (ones_ok rfl) (Nat.le_of_ble_eq_true rfl)) ?_
  refine goA ?_
  exact rfl
/-- normalized lists, added -/
theorem step_plus {W X : List QT} {H : Nat} (hW : ∀ k, Ht (qco W k) H) (hX : ∀ k, Ht (qco X k) H) (h1 : 1 ≤ H) (hH : H ≤ 40000000) (lW : W.length ≤ 40000) (lX : X.length ≤ 40000) : PC Tryz.prog 43 [.sl (PL (qnf W)), .sl (PL (qnf X))] (.sl (PL (qnf (W ++ X)))) := by
  have c := plus38_p (p := qnf W) (r := qnf X) (K := H) (H := H + H + 1) (Nat.le_trans (qnf_len _) lW) (Nat.le_trans (qnf_len _) lX) (fun A B e => pre_ht h1 h1 (qnf_d _) (qnf_d _) (nf_ht hW) (nf_ht hX) e) (nf_ht hW) (nf_ht hX) (by omega) (by omega)
  rw [nf_nf] at c
  exact c
theorem plusK {l m r : List QT} (h : okL l = true) (k : okL m = true) (hl : l.length ≤ 20) (hm : m.length ≤ 20) (e : (qnf (l ++ m)).map qtup = r.map qtup) : PC Tryz.prog 43 [.sl (PL l), .sl (PL m)] (.sl (PL r)) := by
  rw [← qtup_inj e]
  have h2 : ∀ t, t ∈ l ++ m → Ht t.q 2 := fun t ht => by
    rcases List.mem_append.1 ht with ht | ht
    · exact (okL_ht h t ht).2
    · exact (okL_ht k t ht).2
  exact plus38_p (K := 2) (H := 200) (by omega) (by omega) (fun A B e k => (crude_ht (by decide) h2 e k).mono (by rw [List.length_append]; omega)) (fun t ht => (okL_ht h t ht).2) (fun t ht => (okL_ht k t ht).2) (by decide) (by decide)
theorem dlit0 : PC Tryz.prog 43 [.sl (PL [⟨2, 0, 0, Rat.divInt 1 12⟩]), .sl (PL [⟨0, 1, 0, Rat.divInt (-1) 12⟩])] (.sl (PL dq0)) := plusK (by decide +kernel) (by decide +kernel) (by decide) (by decide) (by decide +kernel)
theorem dlit1 : PC Tryz.prog 43 [.sl (PL [⟨1, 1, 0, Rat.divInt 1 3⟩]), .sl (PL [⟨0, 0, 1, Rat.divInt (-1) 3⟩])] (.sl (PL dq1)) := plusK (by decide +kernel) (by decide +kernel) (by decide) (by decide) (by decide +kernel)
theorem dlit2 : PC Tryz.prog 43 [.sl (PL [⟨1, 0, 1, Rat.divInt 1 2⟩]), .sl (PL [⟨0, 2, 0, Rat.divInt (-1) 2⟩])] (.sl (PL dq2)) := plusK (by decide +kernel) (by decide +kernel) (by decide) (by decide) (by decide +kernel)
/-- one summand of the rule -/
theorem summand {a b c : Int} {u : Rat} {D W : List QT} {K H : Nat} (ht : QT.tn ⟨a, b, c, u⟩) (hu : Ht u (K + 1)) (hD : okL D = true) (lD : D.length = 2) (hK : 1 ≤ K ∧ K ≤ 1000000) (hH : H = 10 * K + 60) (hW : ∀ k, Ht (qco W k) H) (lW : W.length ≤ 40000) :
    PC Tryz.prog 45 [.sl (PL [⟨a, b, c, u⟩]), .sl (PL D)] (.sl (PL (qnf (qml [⟨a, b, c, u⟩] D)))) ∧ PC Tryz.prog 43 [.sl (PL (qnf W)), .sl (PL (qnf (qml [⟨a, b, c, u⟩] D)))] (.sl (PL (qnf (W ++ qml [⟨a, b, c, u⟩] D)))) ∧ ∀ k, Ht (qco (qml [⟨a, b, c, u⟩] D) k) (2 * K + 9) := by
  have hm : ∀ t, t ∈ qml [⟨a, b, c, u⟩] D → Ht t.q (K + 3) := fun t h => by
    obtain ⟨x, y, hx, hy, rfl⟩ := qml_mem h
    rw [List.mem_singleton.1 hx]
    exact (ht_mul hu (okL_ht hD y hy).2 (by omega)).mono (by omega)
  have hl : (qml [⟨a, b, c, u⟩] D).length = 2 := by rw [qml_len, lD]; rfl
  have hq : ∀ k, Ht (qco (qml [⟨a, b, c, u⟩] D) k) (2 * K + 9) := fun k => (qco_ht (by omega) k hm).mono (by rw [hl]; omega)
  refine ⟨product_p (K := K + 1) (H := 2 * K + 9) (by simp) (by omega) (by simp [lD]) (fun t h => by rw [List.mem_singleton.1 h]; exact ht) (fun t h => (okL_tn hD (qe t) (List.mem_map.2 ⟨t, h, rfl⟩)).1) (fun t h => by rw [List.mem_singleton.1 h]; exact hu) (fun t h => ((okL_ht hD t h).2).mono (by omega)) (by omega) (fun A B e k => (crude_ht (by omega) hm e k).mono (by rw [hl]; omega)) (fun t h => (hm t h).mono (by omega)) (by omega), step_plus hW (fun k => (hq k).mono (by omega)) (by omega) (by omega) lW (by omega), hq⟩
theorem l2 (c : Prop) [Decidable c] (u D : List QT) (h1 : u.length = 1) (h2 : D.length = 2) : (if c then qml u D else []).length ≤ 2 := by
  split
  · rw [qml_len, h1, h2]; omega
  · simp
theorem rdv_len : ∀ A : List QT, (rdv A).length ≤ 6 * A.length
  | [] => Nat.zero_le _
  | u :: A => by
    have ih := rdv_len A
    unfold rdv at ih ⊢
    rw [List.flatMap_cons, List.length_append, List.length_append, List.length_append, List.length_cons]
    have h1 : (rA1 u).length ≤ 2 := l2 (0 < u.a) (uA u) dq0 rfl rfl
    have h2 : (rB1 u).length ≤ 2 := l2 (0 < u.b) (uB u) dq1 rfl rfl
    have h3 : (rC1 u).length ≤ 2 := l2 (0 < u.c) (uC u) dq2 rfl rfl
    omega
set_option maxHeartbeats 16000000 in
theorem derived_p {p : List QT} {M : Int} {K : Nat} (hd : QD p) (hp : Pos M p) (hM : M ≤ 1000) (hl : p.length ≤ 1000) (hh : ∀ t, t ∈ p → Ht t.q K) (hK : 1 ≤ K ∧ K ≤ 1000000) : PC Tryz.prog 37 [.sl (PL p)] (.sl (PL (qnf (qdv p)))) := by
  rw [← qnf_eq fun k => rdv_co k hp]
  have f0 := lfrac_p (n := 1) (d := 12) (by unfold Bn; omega) (by decide) (by unfold Bn; omega)
  have f1 := lfrac_p (n := -1) (d := 12) (by unfold Bn; omega) (by decide) (by unfold Bn; omega)
  have f2 := lfrac_p (n := 1) (d := 3) (by unfold Bn; omega) (by decide) (by unfold Bn; omega)
  have f3 := lfrac_p (n := -1) (d := 3) (by unfold Bn; omega) (by decide) (by unfold Bn; omega)
  have f4 := lfrac_p (n := 1) (d := 2) (by unfold Bn; omega) (by decide) (by unfold Bn; omega)
  have f5 := lfrac_p (n := -1) (d := 2) (by unfold Bn; omega) (by decide) (by unfold Bn; omega)
  have t0 := term38_p 2 0 0 (q := Rat.divInt 1 12)
  have t1 := term38_p 0 1 0 (q := Rat.divInt (-1) 12)
  have t2 := term38_p 1 1 0 (q := Rat.divInt 1 3)
  have t3 := term38_p 0 0 1 (q := Rat.divInt (-1) 3)
  have t4 := term38_p 1 0 1 (q := Rat.divInt 1 2)
  have t5 := term38_p 0 2 0 (q := Rat.divInt (-1) 2)
  have d0 := dlit0
  have d1 := dlit1
  have d2 := dlit2
  have hxl := PL_len p
  obtain ⟨X, hX⟩ : ∃ X, X = PL p := ⟨_, rfl⟩
  rw [← hX] at hxl ⊢
  obtain ⟨D0, hD0⟩ : ∃ D, D = PL dq0 := ⟨_, rfl⟩
  obtain ⟨D1, hD1⟩ : ∃ D, D = PL dq1 := ⟨_, rfl⟩
  obtain ⟨D2, hD2⟩ : ∃ D, D = PL dq2 := ⟨_, rfl⟩
  rw [← hD0] at d0
  rw [← hD1] at d1
  rw [← hD2] at d2
  have n0 : [AV.sl D0, AV.sl D1, AV.sl D2][(0 : Int).toNat]? = some (.sl D0) := rfl
  have n1 : [AV.sl D0, AV.sl D1, AV.sl D2][(1 : Int).toNat]? = some (.sl D1) := rfl
  have n2 : [AV.sl D0, AV.sl D1, AV.sl D2][(2 : Int).toNat]? = some (.sl D2) := rfl
  refine pc_body1 true Tryz.func37 rfl rfl rfl (Nat.le_of_ble_eq_true rfl) CellT.tmp ?_
  refine r1A ?_
  refine T.seqI (fun s1 => s1 = mkS [(0, .v (.sl X)), (3, .v (.sl [.sl D0, .sl D1, .sl D2]))] [] 103 true) ?_ ?_
  · refine regA ?_
    generalize PL [⟨2, 0, 0, Rat.divInt 1 12⟩] = L0 at *
    generalize PL [⟨0, 1, 0, Rat.divInt (-1) 12⟩] = L1 at *
    generalize PL [⟨1, 1, 0, Rat.divInt 1 3⟩] = L2 at *
    generalize PL [⟨0, 0, 1, Rat.divInt (-1) 3⟩] = L3 at *
    generalize PL [⟨1, 0, 1, Rat.divInt 1 2⟩] = L4 at *
    generalize PL [⟨0, 2, 0, Rat.divInt (-1) 2⟩] = L5 at *
    generalize Rat.divInt 1 12 = q0 at *
    generalize Rat.divInt (-1) 12 = q1 at *
    generalize Rat.divInt 1 3 = q2 at *
    generalize Rat.divInt (-1) 3 = q3 at *
    generalize Rat.divInt 1 2 = q4 at *
    generalize Rat.divInt (-1) 2 = q5 at *
    refine evG ggA (ss_call (InB_of rfl) rfl rfl f0) ?_
    refine evG ggA (ss_call (InB_of rfl) rfl rfl t0) ?_
    refine evG ggA (ss_call (InB_of rfl) rfl rfl f1) ?_
    refine evG ggA (ss_call (InB_of rfl) rfl rfl t1) ?_
    refine evG ggA (ss_call (InB_of rfl) rfl rfl d0) ?_
    refine evG ggA (ss_call (InB_of rfl) rfl rfl f2) ?_
    refine evG ggA (ss_call (InB_of rfl) rfl rfl t2) ?_
    refine evG ggA (ss_call (InB_of rfl) rfl rfl f3) ?_
    refine evG ggA (ss_call (InB_of rfl) rfl rfl t3) ?_
    refine evG ggA (ss_call (InB_of rfl) rfl rfl d1) ?_
    refine evG ggA (ss_call (InB_of rfl) rfl rfl f4) ?_
    refine evG ggA (ss_call (InB_of rfl) rfl rfl t4) ?_
    refine evG ggA (ss_call (InB_of rfl) rfl rfl f5) ?_
    refine evG ggA (ss_call (InB_of rfl) rfl rfl t5) ?_
    refine evG ggA (ss_call (InB_of rfl) rfl rfl d2) ?_
    refine evG ggA (ss_bslice (InB_of rfl) (make_tab rfl) rfl rfl rfl rfl (ones_ok rfl) (Nat.le_of_ble_eq_true rfl)) ?_
    refine runA ?_
    refine ev_nil ?_
    exact midQ_intro (s' := mkS [(0, .v (.sl X)), (3, .v (.sl [.sl D0, .sl D1, .sl D2]))] [] 103 true) (by exact entA) rfl
  rintro _ rfl
  clear f0 f1 f2 f3 f4 f5 t0 t1 t2 t3 t4 t5 d0 d1 d2
  refine r1A ?_
  refine T.seqI (fun s1 => s1 = mkS [(4, .v (.sl (PL (qnf (rdv p)))))] [] 103 true) ?_ ?_
  · refine r1A ?_
    refine T.block ?_
    refine T.loop (fun N s1 => ∃ A B : List QT, p = A ++ B ∧ N = B.length ∧ s1 = mkS [(0, .v (.sl X)), (3, .v (.sl [.sl D0, .sl D1, .sl D2])), (4, .v (.sl (PL (qnf (rdv A))))), (5, .v (iV A.length))] [] 103 true) p.length
      (s' := mkS [(0, .v (.sl X)), (3, .v (.sl [.sl D0, .sl D1, .sl D2])), (4, .v (.sl [])), (5, .v (iV ((0 : Nat) : Int)))] [] 103 true) (by exact entA) ⟨[], p, rfl, rfl, rfl⟩ ?_
    rintro _ _ ⟨A, B, hAB, rfl, rfl⟩
    have hlA : p.length = A.length + B.length := by rw [hAB]; simp
    rcases B with _ | ⟨t, B⟩
    · have b1 : decide ((A.length : Int) < (X.length : Int)) = false := decide_eq_false (by simp at hlA; omega)
      have hA : p = A := by simpa using hAB
      subst hA
      refine goA ?_
      exact midQ_intro (s' := mkS [(4, .v (.sl (PL (qnf (rdv p)))))] [] 103 true) (by exact entA) rfl
    have b1 : decide ((A.length : Int) < (X.length : Int)) = true := decide_eq_true (by simp at hlA; omega)
    have hget : X[((A.length : Nat) : Int).toNat]? = some (qe t).av := by rw [hX]; exact av_idx hAB
    have hAB2 : p = (A ++ [t]) ++ B := by rw [hAB]; simp
    have hlB : B.length < (t :: B).length := by simp
    have hnx : ((A.length : Nat) : Int) + 1 = ((A ++ [t]).length : Nat) := by simp
    simp only [List.length_cons] at hlA
    have hpt := hp t (by rw [hAB]; simp)
    have hht := hh t (by rw [hAB]; simp)
    have hpA : Pos M A := fun u hu => hp u (by rw [hAB]; simp [hu])
    have hW0 : ∀ k, Ht (qco (rdv A) k) (4 * K + 11) := fun k => by
      rw [rdv_co k hpA]
      rw [hAB] at hd
      exact dv_ht hK.1 hd.app.1 (hpA.tn (by omega)) (fun u hu => hh u (by rw [hAB]; simp [hu])) k
    have lW0 := rdv_len A
    have h3 : rdv (A ++ [t]) = ((rdv A ++ rA1 t) ++ rB1 t) ++ rC1 t := by unfold rdv; simp
    have lA1 := l2 (0 < t.a) (uA t) dq0 rfl rfl
    have lB1 := l2 (0 < t.b) (uB t) dq1 rfl rfl
    obtain ⟨W0, eW0⟩ : ∃ W, W = rdv A := ⟨_, rfl⟩
    rw [← eW0] at h3 hW0 lW0 ⊢
    obtain ⟨W1, eW1⟩ : ∃ W, W = W0 ++ rA1 t := ⟨_, rfl⟩
    rw [← eW1] at h3
    obtain ⟨W2, eW2⟩ : ∃ W, W = W1 ++ rB1 t := ⟨_, rfl⟩
    rw [← eW2] at h3
    have hkk : ∀ z : Int, 0 ≤ z → z ≤ M → Ht ((z : Rat) * t.q) (K + 1) := fun z h0 h1 => (ht_mul (ht_int (by omega)) hht (by decide)).mono (by omega)
    have cQ : ∀ z : Int, 0 ≤ z → z ≤ M → PC Tryz.prog 29 [iV z] (encQ (z : Rat)) := fun z h0 h1 => q_p z (by omega) (by omega)
    have cM : ∀ z : Int, 0 ≤ z → z ≤ M → PC Tryz.prog 65 [encQ (z : Rat), encQ t.q] (encQ ((z : Rat) * t.q)) := fun z h0 h1 => (refmul2_p (isV_encQ (ht_int (c := z) (by omega))) (isV_encQ hht) (by omega)).up
    have lW1 : W1.length ≤ 6 * A.length + 2 := by rw [eW1, List.length_append]; unfold rA1; omega
    have lW2 : W2.length ≤ 6 * A.length + 4 := by rw [eW2, List.length_append]; unfold rB1; omega
    -- what each summand does
    have s1 : 0 < t.a → PC Tryz.prog 45 [.sl (PL (uA t)), .sl D0] (.sl (PL (qnf (qml (uA t) dq0)))) ∧ PC Tryz.prog 43 [.sl (PL (qnf W0)), .sl (PL (qnf (qml (uA t) dq0)))] (.sl (PL (qnf W1))) ∧ ∀ k, Ht (qco (qml (uA t) dq0) k) (2 * K + 9) := fun h => by
      rw [hD0, eW1, rA1, if_pos h]
      exact summand (by unfold QT.tn; simp only; omega) (hkk t.a hpt.1 hpt.2.2.2.1) (by decide +kernel) rfl hK rfl (fun k => (hW0 k).mono (by omega)) (by omega)
    have hW1 : ∀ k, Ht (qco W1 k) (6 * K + 21) := fun k => by
      rw [eW1, rA1]
      by_cases h : 0 < t.a
      · rw [if_pos h, qco_app]
        exact (ht_add (hW0 k) ((s1 h).2.2 k)).mono (by omega)
      · rw [if_neg h, List.append_nil]
        exact (hW0 k).mono (by omega)
    have s2 : 0 < t.b → PC Tryz.prog 45 [.sl (PL (uB t)), .sl D1] (.sl (PL (qnf (qml (uB t) dq1)))) ∧ PC Tryz.prog 43 [.sl (PL (qnf W1)), .sl (PL (qnf (qml (uB t) dq1)))] (.sl (PL (qnf W2))) ∧ ∀ k, Ht (qco (qml (uB t) dq1) k) (2 * K + 9) := fun h => by
      rw [hD1, eW2, rB1, if_pos h]
      exact summand (by unfold QT.tn; simp only; omega) (hkk t.b hpt.2.1 hpt.2.2.2.2.1) (by decide +kernel) rfl hK rfl (fun k => (hW1 k).mono (by omega)) (by omega)
    have hW2 : ∀ k, Ht (qco W2 k) (8 * K + 31) := fun k => by
      rw [eW2, rB1]
      by_cases h : 0 < t.b
      · rw [if_pos h, qco_app]
        exact (ht_add (hW1 k) ((s2 h).2.2 k)).mono (by omega)
      · rw [if_neg h, List.append_nil]
        exact (hW1 k).mono (by omega)
    have s3 : 0 < t.c → PC Tryz.prog 45 [.sl (PL (uC t)), .sl D2] (.sl (PL (qnf (qml (uC t) dq2)))) ∧ PC Tryz.prog 43 [.sl (PL (qnf W2)), .sl (PL (qnf (qml (uC t) dq2)))] (.sl (PL (qnf (rdv (A ++ [t])))) ) ∧ ∀ k, Ht (qco (qml (uC t) dq2) k) (2 * K + 9) := fun h => by
      rw [hD2, h3, rC1, if_pos h]
      exact summand (by unfold QT.tn; simp only; omega) (hkk t.c hpt.2.2.1 hpt.2.2.2.2.2) (by decide +kernel) rfl hK rfl (fun k => (hW2 k).mono (by omega)) (by omega)
    have e1 : ¬ 0 < t.a → W1 = W0 := fun h => by rw [eW1, rA1, if_neg h, List.append_nil]
    have e2 : ¬ 0 < t.b → W2 = W1 := fun h => by rw [eW2, rB1, if_neg h, List.append_nil]
    have e3 : ¬ 0 < t.c → rdv (A ++ [t]) = W2 := fun h => by rw [h3, rC1, if_neg h, List.append_nil]
    have hfin : ∃ A' B' : List QT, p = A' ++ B' ∧ B.length = B'.length ∧ mkS [(0, .v (.sl X)), (3, .v (.sl [.sl D0, .sl D1, .sl D2])), (4, .v (.sl (PL (qnf (rdv (A ++ [t])))))), (5, .v (iV ((A ++ [t]).length : Nat)))] [] 103 true = mkS [(0, .v (.sl X)), (3, .v (.sl [.sl D0, .sl D1, .sl D2])), (4, .v (.sl (PL (qnf (rdv A'))))), (5, .v (iV A'.length))] [] 103 true := ⟨A ++ [t], B, hAB2, rfl, rfl⟩
    clear hAB hAB2 h3 eW1 eW2 eW0 hW0 hW1 hW2 lW0 lW1 lW2 lA1 lB1 hpA hkk
    obtain ⟨ea, eb, ec, eq⟩ := t
    simp only [uA, uB, uC] at s1 s2 s3 e1 e2 e3 cM hpt hht
    have hget : X[((A.length : Nat) : Int).toNat]? = some (.agg [iV ea, iV eb, iV ec, .p (.bool (decide (eq.num < 0))), .sl ((dgs eq.num.natAbs).map u32), .p (.bool (decide ((eq.den : Int) < 0))), .sl ((dgs (eq.den : Int).natAbs).map u32)]) := hget
    obtain ⟨g, hg⟩ : ∃ g, g = decide (eq.num < 0) := ⟨_, rfl⟩
    obtain ⟨dd, hdd⟩ : ∃ g, g = (dgs eq.num.natAbs).map u32 := ⟨_, rfl⟩
    obtain ⟨g', hg'⟩ : ∃ g, g = decide ((eq.den : Int) < 0) := ⟨_, rfl⟩
    obtain ⟨dd', hdd'⟩ : ∃ g, g = (dgs (eq.den : Int).natAbs).map u32 := ⟨_, rfl⟩
    have he : encQ eq = .agg [.p (.bool g), .sl dd, .p (.bool g'), .sl dd'] := by rw [hg, hdd, hg', hdd']; rfl
    rw [← hg, ← hdd, ← hg', ← hdd'] at hget
    rw [he] at cM
    clear hg hdd hg' hdd' he hht
    refine T.seq ?_
    refine r1A ?_
    refine T.condT rfl b1 ?_
    refine T.skip ?_
    refine seqQ_n ?_
    refine T.seq ?_
    refine T.block ?_
    refine T.seq ?_
    refine regA ?_
    refine runA ?_
    refine evG ggA (ss_index_sl (InB_of rfl) (elem_tab rfl) rfl rfl (by omega) hget rfl) ?_
    refine runA ?_
    refine ev_nil ?_
    refine seqQ_n ?_
    refine T.seqI (fun s1 => s1 = mkS [(0, .v (.sl X)), (3, .v (.sl [.sl D0, .sl D1, .sl D2])), (4, .v (.sl (PL (qnf W1)))), (5, .v (iV A.length)), (6, .ptr 6 0)] [(6, tvQ ea eb ec g dd g' dd')] 103 true) ?_ ?_
    · by_cases h : 0 < ea
      · have b2 : decide (ea > 0) = true := decide_eq_true h
        obtain ⟨cp, cs, -⟩ := s1 h
        have c1 := cQ ea hpt.1 hpt.2.2.2.1
        have c2 := cM ea hpt.1 hpt.2.2.2.1
        have c3 := term38_p (ea - 1) eb ec (q := (ea : Rat) * eq)
        clear s1 s2 s3 e1 e2 e3 cQ cM hfin
        generalize PL [⟨ea - 1, eb, ec, (ea : Rat) * eq⟩] = L1 at *
        generalize PL (qnf (qml [⟨ea - 1, eb, ec, (ea : Rat) * eq⟩] dq0)) = L2 at *
        generalize PL (qnf W1) = L3 at *
        generalize PL (qnf W0) = L4 at *
        generalize (ea : Rat) * eq = q1 at *
        generalize (ea : Rat) = q2 at *
        refine goA ?_
        refine evG ggA (ss_call (InB_of rfl) rfl rfl c1) ?_
        refine goA ?_
        refine evG ggA (ss_call (InB_of rfl) rfl rfl c2) ?_
        refine goA ?_
        refine evG ggA (ss_call (InB_of rfl) rfl rfl c3) ?_
        refine goA ?_
        refine evG ggA (ss_index_sl (InB_of rfl) (elem_tab rfl) rfl rfl (by decide) n0 rfl) ?_
        refine goA ?_
        refine evG ggA (ss_call (InB_of rfl) rfl rfl cp) ?_
        refine goA ?_
        refine evG ggA (ss_call (InB_of rfl) rfl rfl cs) ?_
        refine goA ?_
        exact midQ_intro (s' := mkS [(0, .v (.sl X)), (3, .v (.sl [.sl D0, .sl D1, .sl D2])), (4, .v (.sl L3)), (5, .v (iV A.length)), (6, .ptr 6 0)] [(6, tvQ ea eb ec g dd g' dd')] 103 true) (by exact entA) rfl
      · have b2 : decide (ea > 0) = false := decide_eq_false h
        rw [e1 h]
        clear s1 s2 s3 e1 e2 e3 cQ cM hfin
        generalize PL (qnf W0) = L4 at *
        refine goA ?_
        exact midQ_intro (s' := mkS [(0, .v (.sl X)), (3, .v (.sl [.sl D0, .sl D1, .sl D2])), (4, .v (.sl L4)), (5, .v (iV A.length)), (6, .ptr 6 0)] [(6, tvQ ea eb ec g dd g' dd')] 103 true) (by exact entA) rfl
    rintro _ rfl
    refine T.seqI (fun s1 => s1 = mkS [(0, .v (.sl X)), (3, .v (.sl [.sl D0, .sl D1, .sl D2])), (4, .v (.sl (PL (qnf W2)))), (5, .v (iV A.length)), (6, .ptr 6 0)] [(6, tvQ ea eb ec g dd g' dd')] 103 true) ?_ ?_
    · by_cases h : 0 < eb
      · have b2 : decide (eb > 0) = true := decide_eq_true h
        obtain ⟨cp, cs, -⟩ := s2 h
        have c1 := cQ eb hpt.2.1 hpt.2.2.2.2.1
        have c2 := cM eb hpt.2.1 hpt.2.2.2.2.1
        have c3 := term38_p ea (eb - 1) ec (q := (eb : Rat) * eq)
        clear s1 s2 s3 e1 e2 e3 cQ cM hfin
        generalize PL [⟨ea, eb - 1, ec, (eb : Rat) * eq⟩] = L1 at *
        generalize PL (qnf (qml [⟨ea, eb - 1, ec, (eb : Rat) * eq⟩] dq1)) = L2 at *
        generalize PL (qnf W2) = L3 at *
        generalize PL (qnf W1) = L4 at *
        generalize (eb : Rat) * eq = q1 at *
        generalize (eb : Rat) = q2 at *
        refine goA ?_
        refine evG ggA (ss_call (InB_of rfl) rfl rfl c1) ?_
        refine goA ?_
        refine evG ggA (ss_call (InB_of rfl) rfl rfl c2) ?_
        refine goA ?_
        refine evG ggA (ss_call (InB_of rfl) rfl rfl c3) ?_
        refine goA ?_
        refine evG ggA (ss_index_sl (InB_of rfl) (elem_tab rfl) rfl rfl (by decide) n1 rfl) ?_
        refine goA ?_
        refine evG ggA (ss_call (InB_of rfl) rfl rfl cp) ?_
        refine goA ?_
        refine evG ggA (ss_call (InB_of rfl) rfl rfl cs) ?_
        refine goA ?_
        exact midQ_intro (s' := mkS [(0, .v (.sl X)), (3, .v (.sl [.sl D0, .sl D1, .sl D2])), (4, .v (.sl L3)), (5, .v (iV A.length)), (6, .ptr 6 0)] [(6, tvQ ea eb ec g dd g' dd')] 103 true) (by exact entA) rfl
      · have b2 : decide (eb > 0) = false := decide_eq_false h
        rw [e2 h]
        clear s1 s2 s3 e1 e2 e3 cQ cM hfin
        generalize PL (qnf W1) = L4 at *
        refine goA ?_
        exact midQ_intro (s' := mkS [(0, .v (.sl X)), (3, .v (.sl [.sl D0, .sl D1, .sl D2])), (4, .v (.sl L4)), (5, .v (iV A.length)), (6, .ptr 6 0)] [(6, tvQ ea eb ec g dd g' dd')] 103 true) (by exact entA) rfl
    rintro _ rfl
    by_cases h : 0 < ec
    · have b2 : decide (ec > 0) = true := decide_eq_true h
      obtain ⟨cp, cs, -⟩ := s3 h
      have c1 := cQ ec hpt.2.2.1 hpt.2.2.2.2.2
      have c2 := cM ec hpt.2.2.1 hpt.2.2.2.2.2
      have c3 := term38_p ea eb (ec - 1) (q := (ec : Rat) * eq)
      clear s1 s2 s3 e1 e2 e3 cQ cM
      generalize PL [⟨ea, eb, ec - 1, (ec : Rat) * eq⟩] = L1 at *
      generalize PL (qnf (qml [⟨ea, eb, ec - 1, (ec : Rat) * eq⟩] dq2)) = L2 at *
      generalize PL (qnf W2) = L4 at *
      generalize hL3 : PL (qnf (rdv (A ++ [⟨ea, eb, ec, eq⟩]))) = L3 at *
      generalize (ec : Rat) * eq = q1 at *
      generalize (ec : Rat) = q2 at *
      refine goA ?_
      refine evG ggA (ss_call (InB_of rfl) rfl rfl c1) ?_
      refine goA ?_
      refine evG ggA (ss_call (InB_of rfl) rfl rfl c2) ?_
      refine goA ?_
      refine evG ggA (ss_call (InB_of rfl) rfl rfl c3) ?_
      refine goA ?_
      refine evG ggA (ss_index_sl (InB_of rfl) (elem_tab rfl) rfl rfl (by decide) n2 rfl) ?_
      refine goA ?_
      refine evG ggA (ss_call (InB_of rfl) rfl rfl cp) ?_
      refine goA ?_
      refine evG ggA (ss_call (InB_of rfl) rfl rfl cs) ?_
      refine goA ?_
      rw [hnx]
      exact loopQ_intro (k := B.length) (s' := mkS [(0, .v (.sl X)), (3, .v (.sl [.sl D0, .sl D1, .sl D2])), (4, .v (.sl L3)), (5, .v (iV ((A ++ [(⟨ea, eb, ec, eq⟩ : QT)]).length : Nat)))] [] 103 true) hlB (by exact entA) hfin
    · have b2 : decide (ec > 0) = false := decide_eq_false h
      rw [e3 h] at hfin
      clear s1 s2 s3 e1 e2 e3 cQ cM
      generalize hL4 : PL (qnf W2) = L4 at *
      refine goA ?_
      rw [hnx]
      exact loopQ_intro (k := B.length) (s' := mkS [(0, .v (.sl X)), (3, .v (.sl [.sl D0, .sl D1, .sl D2])), (4, .v (.sl L4)), (5, .v (iV ((A ++ [(⟨ea, eb, ec, eq⟩ : QT)]).length : Nat)))] [] 103 true) hlB (by exact entA) hfin
  rintro _ rfl
  refine goA ?_
  exact rfl
end Ab
