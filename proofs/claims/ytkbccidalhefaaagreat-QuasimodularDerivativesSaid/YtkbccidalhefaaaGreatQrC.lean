/- The document's sum, multiple, product, greatest weight, purity and depth of polynomials: walked. -/
import Derived.Test.YtkbccidalhefaaaGreatQrA
import Derived.Test.YtkbccidalhefaaaGreatQrB
import Derived.Test.YtkbccidalhefaaaGreatQeB
set_option linter.all false
namespace Ab
open Go Go.RowKit Go.Proofs Hp
set_option maxRecDepth 100000

set_option maxHeartbeats 8000000 in
theorem normG_p {U : List QE} {H : Nat} (hU : U.length ≤ 100000) (ho : ∀ e, e ∈ U → e.ok H) (hH : 1 ≤ H ∧ H ≤ 100000000) (hpre : ∀ A B, U.map QE.t = A ++ B → ∀ k, Ht (qco A k) H) : PC Tryz.prog 35 [.sl (U.map QE.av)] (.sl (PL (qnf (U.map QE.t)))) := by
  have hl := av_len U
  obtain ⟨X, hX⟩ : ∃ X, X = U.map QE.av := ⟨_, rfl⟩
  rw [← hX] at hl ⊢
  refine pc_body1 true Tryz.func35 rfl rfl rfl (Nat.le_of_ble_eq_true rfl) CellT.tmp ?_
  refine goA ?_
  refine T.loop (fun N s1 => ∃ A B : List QE, U = A ++ B ∧ N = B.length ∧ s1 = mkS [(0, .v (.sl X)), (3, .v (.sl (PL (qnf (A.map QE.t))))), (4, .v (iV A.length))] [] 18 true) U.length
    (s' := mkS [(0, .v (.sl X)), (3, .v (.sl [])), (4, .v (iV ((0 : Nat) : Int)))] [] 18 true) (by exact entA) ⟨[], U, rfl, rfl, rfl⟩ ?_
  rintro _ _ ⟨A, B, hAB, rfl, rfl⟩
  have hlA : U.length = A.length + B.length := by rw [hAB]; simp
  rcases B with _ | ⟨e, B⟩
  · have b1 : decide ((A.length : Int) < (X.length : Int)) = false := decide_eq_false (by simp at hlA; omega)
    have hUA : U = A := by rw [hAB]; simp
    rw [hUA]
    refine goA ?_
    exact rfl
  have b1 : decide ((A.length : Int) < (X.length : Int)) = true := decide_eq_true (by simp at hlA; omega)
  have hget : X[((A.length : Nat) : Int).toNat]? = some e.av := by rw [hX, hAB]; exact av_get (by omega)
  have hAB2 : U = (A ++ [e]) ++ B := by rw [hAB]; simp
  have hlB : B.length < (e :: B).length := by simp
  have hnx : ((A.length : Nat) : Int) + 1 = ((A ++ [e]).length : Nat) := by simp
  simp only [List.length_cons] at hlA
  have hA2 := qnf_len (A.map QE.t)
  rw [List.length_map] at hA2
  have cp := put_p (p := qnf (A.map QE.t)) (e := e) (K := H) (nf_ht (hpre (A.map QE.t) ((e :: B).map QE.t) (by rw [hAB, List.map_append]))) (ho e (by rw [hAB]; simp)) hH (by omega)
  rw [show qput (qnf (A.map QE.t)) e.t = qnf ((A ++ [e]).map QE.t) by unfold qnf; rw [List.map_append, List.foldl_append]; rfl] at cp
  clear hAB ho hpre
  obtain ⟨ea, eb, ec, g, d, g', d', eq⟩ := e
  have hget : X[((A.length : Nat) : Int).toNat]? = some (.agg [iV ea, iV eb, iV ec, .p (.bool g), .sl d, .p (.bool g'), .sl d']) := hget
  have cp : PC Tryz.prog 64 [.sl (PL (qnf (A.map QE.t))), .agg [iV ea, iV eb, iV ec, .p (.bool g), .sl d, .p (.bool g'), .sl d']] (.sl (PL (qnf ((A ++ [(⟨ea, eb, ec, g, d, g', d', eq⟩ : QE)]).map QE.t)))) := cp
  refine goA ?_
  refine evG ggA (ss_index_sl (InB_of rfl) (elem_tab rfl) rfl rfl (by omega) hget rfl) ?_
  refine goA ?_
  refine evG ggA (ss_call (InB_of rfl) rfl rfl cp) ?_
  refine goA ?_
  rw [hnx]
  exact loopQ_intro (k := B.length) (s' := mkS [(0, .v (.sl X)), (3, .v (.sl (PL (qnf ((A ++ [(⟨ea, eb, ec, g, d, g', d', eq⟩ : QE)]).map QE.t))))), (4, .v (iV ((A ++ [(⟨ea, eb, ec, g, d, g', d', eq⟩ : QE)]).length : Nat)))] [] 18 true) hlB (by exact entA) ⟨A ++ [⟨ea, eb, ec, g, d, g', d', eq⟩], B, hAB2, rfl, rfl⟩
theorem normL_p {l : List QT} {H : Nat} (hl : l.length ≤ 100000) (hm : ∀ t, t ∈ l → Ht t.q H) (hH : 1 ≤ H ∧ H ≤ 100000000) (hpre : ∀ A B, l = A ++ B → ∀ k, Ht (qco A k) H) : PC Tryz.prog 35 [.sl (PL l)] (.sl (PL (qnf l))) := by
  have c := normG_p (U := l.map qe) (H := H) (by rw [List.length_map]; exact hl) (fun e he => by obtain ⟨t, ht, rfl⟩ := List.mem_map.1 he; exact qe_ok (hm t ht)) hH (by rw [qe_map]; exact hpre)
  rw [qe_map] at c
  exact c
theorem plus38_p {p r : List QT} {K H : Nat} (hp : p.length ≤ 40000) (hr : r.length ≤ 40000) (hpre : ∀ A B, p ++ r = A ++ B → ∀ k, Ht (qco A k) H) (a : ∀ t, t ∈ p → Ht t.q K) (b : ∀ t, t ∈ r → Ht t.q K) (hK : K ≤ H) (hH : 1 ≤ H ∧ H ≤ 100000000) : PC Tryz.prog 43 [.sl (PL p), .sl (PL r)] (.sl (PL (qnf (p ++ r)))) := by
  have cn := normL_p (l := p ++ r) (H := H) (by rw [List.length_append]; omega) (fun t ht => by
    rcases List.mem_append.1 ht with ht | ht
    · exact (a t ht).mono hK
    · exact (b t ht).mono hK) hH hpre
  have e : PL (p ++ r) = PL p ++ PL r := by unfold PL; rw [List.map_append, List.map_append]
  rw [e] at cn
  have lp := PL_len p
  have lr := PL_len r
  have hcp := av_cells (p.map qe)
  have hcr := av_cells (r.map qe)
  have hnp := av_nu (p.map qe)
  have hnr := av_nu (r.map qe)
  generalize qnf (p ++ r) = R at *
  clear hpre a b e
  have hX : (p.map qe).map QE.av = PL p := rfl
  have hY : (r.map qe).map QE.av = PL r := rfl
  rw [hX] at hcp hnp
  rw [hY] at hcr hnr
  generalize PL p = X at *
  generalize PL r = Y at *
  clear hX hY
  refine pc_body1 true Tryz.func43 rfl rfl rfl (Nat.le_of_ble_eq_true rfl) CellT.tmp ?_
  refine r1A ?_
  refine T.seq ?_
  refine T.regionW 5 ?_
  show EvL _ _ _ (_ :: _) _ _
  refine evG ggA (ss_bslice_own 100 (InB_of rfl) rfl (make_tab rfl) rfl rfl rfl rfl (fun x hx => by cases hx) (Nat.le_of_ble_eq_true rfl) (by decide) (fun _ a ha => by cases ha)) ?_
  refine runA ?_
  refine evG ggA (ss_append (InB_of rfl) (make_tab rfl) rfl rfl rfl rfl hcp (by decide) (by unfold maxLen; simp; omega) (by simp; omega) rfl (fun _ => hnp)) ?_
  refine runA ?_
  refine evG ggA (ss_append (InB_of rfl) (make_tab rfl) rfl rfl (by simp) rfl hcr (by decide) (by unfold maxLen; simp; omega) (by simp; omega) rfl (fun _ => hnr)) ?_
  refine ev_nil ?_
  refine ⟨mkS [(9, .v (.sl (X ++ Y)))] [] 11 true, by exact entA, ?_⟩
  show EvL _ _ _ (_ :: _) _ _
  refine evG ggA (ss_call (InB_of rfl) rfl rfl cn) ?_
  refine goA ?_
  exact rfl
set_option maxHeartbeats 8000000 in
theorem rtimes_p {U : List QE} {a : AV} {c : Rat} {K H : Nat} (ha : IsV a K c) (hU : U.length ≤ 100000) (ho : ∀ e, e ∈ U → e.ok K) (hK : 1 ≤ K ∧ K ≤ 100000000) (hpre : ∀ A B, (U.map QE.t).map (qsc c) = A ++ B → ∀ k, Ht (qco A k) H) (hm : ∀ t, t ∈ (U.map QE.t).map (qsc c) → Ht t.q H) (hH : 1 ≤ H ∧ H ≤ 100000000) :
    PC Tryz.prog 44 [a, .sl (U.map QE.av)] (.sl (PL (qnf ((U.map QE.t).map (qsc c))))) := by
  have cn := normL_p (l := (U.map QE.t).map (qsc c)) (H := H) (by simpa using hU) hm hH hpre
  clear hpre hm
  have hl := av_len U
  generalize hR : (U.map QE.t).map (qsc c) = R at *
  generalize hQ : qnf R = Q at *
  obtain ⟨X, hX⟩ : ∃ X, X = U.map QE.av := ⟨_, rfl⟩
  rw [← hX] at hl ⊢
  obtain ⟨cg, cd, cg', cd', rfl⟩ := isV_cells ha
  refine pc_body1 true Tryz.func44 rfl rfl rfl (Nat.le_of_ble_eq_true rfl) CellT.tmp ?_
  refine r1A ?_
  refine r1A ?_
  refine T.seqI (fun s1 => s1 = mkS [(5, .v (.sl (PL R)))] [] 29 true) ?_ ?_
  · refine r1A ?_
    refine T.block ?_
    refine T.loop (fun M s1 => ∃ (A B : List QE) (out : List QT), U = A ++ B ∧ M = B.length ∧ out.length = A.length ∧ out ++ (B.map QE.t).map (qsc c) = R ∧ s1 = mkS [(1, .v (.sl X)), (2, .ptr 2 0), (5, .own 100 out.length), (6, .v (iV A.length))] [(2, .var [.v (.p (.bool cg)), .v (.sl cd), .v (.p (.bool cg')), .v (.sl cd')]), (100, .lst 7 50 (PL out))] 29 true) U.length
      (s' := mkS [(1, .v (.sl X)), (2, .ptr 2 0), (5, .own 100 0), (6, .v (iV ((0 : Nat) : Int)))] [(2, .var [.v (.p (.bool cg)), .v (.sl cd), .v (.p (.bool cg')), .v (.sl cd')]), (100, .lst 7 50 [])] 29 true) (by exact entA) ⟨[], U, [], rfl, rfl, rfl, hR, rfl⟩ ?_
    rintro _ _ ⟨A, B, out, hAB, rfl, hol, hout, rfl⟩
    have hlA : U.length = A.length + B.length := by rw [hAB]; simp
    have hpo := PL_len out
    rcases B with _ | ⟨e, B⟩
    · have b1 : decide ((A.length : Int) < (X.length : Int)) = false := decide_eq_false (by simp at hlA; omega)
      have hout : out = R := by simpa using hout
      subst hout
      refine goA ?_
      exact midQ_intro (s' := mkS [(5, .v (.sl (PL out)))] [] 29 true) (by exact entA) rfl
    have b1 : decide ((A.length : Int) < (X.length : Int)) = true := decide_eq_true (by simp at hlA; omega)
    have hget : X[((A.length : Nat) : Int).toNat]? = some e.av := by rw [hX, hAB]; exact av_get (by omega)
    have hoe := ho e (by rw [hAB]; simp)
    have hAB2 : U = (A ++ [e]) ++ B := by rw [hAB]; simp
    have hlB : B.length < (e :: B).length := by simp
    have hnx : ((A.length : Nat) : Int) + 1 = ((A ++ [e]).length : Nat) := by simp
    have hout2 : (out ++ [qsc c e.t]) ++ (B.map QE.t).map (qsc c) = R := by rw [← hout]; simp
    have hol2 : (out ++ [qsc c e.t]).length = (A ++ [e]).length := by simp [hol]
    have hol3 : (out ++ [qsc c e.t]).length = out.length + 1 := by simp
    simp only [List.length_cons] at hlA
    clear hAB hout
    obtain ⟨ea, eb, ec, g, d, g', d', eq⟩ := e
    unfold QE.ok QE.r at hoe
    simp only [QE.t, qsc] at hoe hout2 hol2 hol3
    have hget : X[((A.length : Nat) : Int).toNat]? = some (.agg [iV ea, iV eb, iV ec, .p (.bool g), .sl d, .p (.bool g'), .sl d']) := hget
    have cm := (refmul2_p ha hoe (by omega)).up (dm := true)
    refine goA ?_
    refine evG ggA (ss_index_sl (InB_of rfl) (elem_tab rfl) rfl rfl (by omega) hget rfl) ?_
    refine goA ?_
    refine evG ggA (ss_call (InB_of rfl) rfl rfl cm) ?_
    refine goA ?_
    refine evG ggA (ss_bslice (InB_of rfl) (make_tab rfl) rfl rfl rfl rfl (ones_ok rfl) (Nat.le_of_ble_eq_true rfl)) ?_
    refine evG ggA (ss_snocB (a := (qe ⟨ea, eb, ec, c * eq⟩).av) (InB_of rfl) (make_tab rfl) rfl rfl hpo rfl rfl (by decide) rfl (by omega) (Nat.le_of_ble_eq_true rfl) rfl) ?_
    rw [PL_snoc]
    refine goA ?_
    rw [hnx, ← hol3]
    exact loopQ_intro (k := B.length) (s' := mkS [(1, .v (.sl X)), (2, .ptr 2 0), (5, .own 100 (out ++ [(⟨ea, eb, ec, c * eq⟩ : QT)]).length), (6, .v (iV ((A ++ [(⟨ea, eb, ec, g, d, g', d', eq⟩ : QE)]).length : Nat)))] [(2, .var [.v (.p (.bool cg)), .v (.sl cd), .v (.p (.bool cg')), .v (.sl cd')]), (100, .lst 7 50 (PL (out ++ [⟨ea, eb, ec, c * eq⟩])))] 29 true) hlB (by exact entA) ⟨A ++ [⟨ea, eb, ec, g, d, g', d', eq⟩], B, out ++ [⟨ea, eb, ec, c * eq⟩], hAB2, rfl, hol2, hout2, rfl⟩
  rintro _ rfl
  refine goA ?_
  refine evG ggA (ss_call (InB_of rfl) rfl rfl cn) ?_
  refine goA ?_
  exact rfl
set_option maxHeartbeats 16000000 in
theorem product_p {p r : List QT} {K H : Nat} (lp : p.length ≤ 100000) (lr : r.length ≤ 100000) (lm : p.length * r.length ≤ 90000) (ea : ∀ t, t ∈ p → t.tn) (eb : ∀ t, t ∈ r → t.tn) (a : ∀ t, t ∈ p → Ht t.q K) (b : ∀ t, t ∈ r → Ht t.q K) (hK : 1 ≤ K ∧ K ≤ 100000000) (hpre : ∀ A B, qml p r = A ++ B → ∀ k, Ht (qco A k) H) (hm : ∀ t, t ∈ qml p r → Ht t.q H) (hH : 1 ≤ H ∧ H ≤ 100000000) :
    PC Tryz.prog 45 [.sl (PL p), .sl (PL r)] (.sl (PL (qnf (qml p r)))) := by
  have hxl := PL_len p
  have hyl := PL_len r
  have hlm : (qml p r).length ≤ 90000 := by rw [qml_len]; exact lm
  have hput : ∀ (A : List QT) (t : QT) (B : List QT), qml p r = (A ++ [t]) ++ B → PC Tryz.prog 64 [.sl (PL (qnf A)), (qe t).av] (.sl (PL (qnf (A ++ [t])))) := fun A t B e => by
    have hl := congrArg List.length e
    simp only [List.length_append] at hl
    have cp := put_p (p := qnf A) (e := qe t) (K := H) (nf_ht (hpre A ([t] ++ B) (by rw [e, List.append_assoc]))) (qe_ok (hm t (by rw [e]; simp))) hH (by have := qnf_len A; omega)
    rw [show qput (qnf A) (qe t).t = qnf (A ++ [t]) by unfold qnf; rw [List.foldl_append]; rfl] at cp
    exact cp
  clear hpre hm lm hlm
  obtain ⟨X, hX⟩ : ∃ X, X = PL p := ⟨_, rfl⟩
  obtain ⟨Y, hY⟩ : ∃ Y, Y = PL r := ⟨_, rfl⟩
  rw [← hX] at hxl ⊢
  rw [← hY] at hyl ⊢
  refine pc_body1 true Tryz.func45 rfl rfl rfl (Nat.le_of_ble_eq_true rfl) CellT.tmp ?_
  refine r1A ?_
  refine r1A ?_
  refine T.seqI (fun s1 => s1 = mkS [(5, .v (.sl (PL (qnf (qml p r)))))] [] 68 true) ?_ ?_
  · refine r1A ?_
    refine T.block ?_
    refine T.loop (fun M s1 => ∃ (A B : List QT), p = A ++ B ∧ M = B.length ∧ s1 = mkS [(0, .v (.sl X)), (1, .v (.sl Y)), (5, .v (.sl (PL (qnf (qml A r))))), (6, .v (iV A.length))] [] 68 true) p.length
      (s' := mkS [(0, .v (.sl X)), (1, .v (.sl Y)), (5, .v (.sl [])), (6, .v (iV ((0 : Nat) : Int)))] [] 68 true) (by exact entA) ⟨[], p, rfl, rfl, rfl⟩ ?_
    rintro _ _ ⟨A, B, hAB, rfl, rfl⟩
    have hlA : p.length = A.length + B.length := by rw [hAB]; simp
    rcases B with _ | ⟨s, B⟩
    · have b1 : decide ((A.length : Int) < (X.length : Int)) = false := decide_eq_false (by simp at hlA; omega)
      have hA : p = A := by simpa using hAB
      subst hA
      refine goA ?_
      exact midQ_intro (s' := mkS [(5, .v (.sl (PL (qnf (qml p r)))))] [] 68 true) (by exact entA) rfl
    have b1 : decide ((A.length : Int) < (X.length : Int)) = true := decide_eq_true (by simp at hlA; omega)
    have hget : X[((A.length : Nat) : Int).toNat]? = some (qe s).av := by rw [hX]; exact av_idx hAB
    have has := a s (by rw [hAB]; simp)
    have hes := ea s (by rw [hAB]; simp)
    have hAB2 : p = (A ++ [s]) ++ B := by rw [hAB]; simp
    have hlB : B.length < (s :: B).length := by simp
    have hnx : ((A.length : Nat) : Int) + 1 = ((A ++ [s]).length : Nat) := by simp
    have hml : qml p r = qml A r ++ r.map (qpr s) ++ qml B r := by rw [hAB]; unfold qml; simp
    have hmA : qml A r ++ r.map (qpr s) = qml (A ++ [s]) r := by unfold qml; simp
    simp only [List.length_cons] at hlA
    clear hAB
    generalize qml A r = out0 at *
    generalize hpr : qml p r = PR at *
    refine goA ?_
    refine T.loop (fun M s1 => ∃ (C D : List QT), r = C ++ D ∧ M = D.length ∧ s1 = mkS [(0, .v (.sl X)), (1, .v (.sl Y)), (5, .v (.sl (PL (qnf (out0 ++ C.map (qpr s)))))), (6, .v (iV A.length)), (7, .v (iV C.length))] [] 68 true) r.length
      (s' := mkS [(0, .v (.sl X)), (1, .v (.sl Y)), (5, .v (.sl (PL (qnf (out0 ++ ([] : List QT).map (qpr s)))))), (6, .v (iV A.length)), (7, .v (iV ((0 : Nat) : Int)))] [] 68 true) (by rw [List.map_nil, List.append_nil]; exact entA) ⟨[], r, rfl, rfl, rfl⟩ ?_
    rintro _ _ ⟨C, D, hCD, rfl, rfl⟩
    have hlC : r.length = C.length + D.length := by rw [hCD]; simp
    rcases D with _ | ⟨t, D⟩
    · have b2 : decide ((C.length : Int) < (Y.length : Int)) = false := decide_eq_false (by simp at hlC; omega)
      have hC : r = C := by simpa using hCD
      have b3 : decide ((r.length : Int) < (Y.length : Int)) = false := decide_eq_false (by omega)
      rw [← hC, hmA]
      refine goA ?_
      rw [hnx]
      exact loopQ_intro (k := B.length) (s' := mkS [(0, .v (.sl X)), (1, .v (.sl Y)), (5, .v (.sl (PL (qnf (qml (A ++ [s]) r))))), (6, .v (iV ((A ++ [s]).length : Nat)))] [] 68 true) hlB (by exact entA) ⟨A ++ [s], B, hAB2, rfl, rfl⟩
    have b2 : decide ((C.length : Int) < (Y.length : Int)) = true := decide_eq_true (by simp at hlC; omega)
    have hgf : Y[((C.length : Nat) : Int).toNat]? = some (qe t).av := by rw [hY]; exact av_idx hCD
    have hbt := b t (by rw [hCD]; simp)
    have het := eb t (by rw [hCD]; simp)
    have hCD2 : r = (C ++ [t]) ++ D := by rw [hCD]; simp
    have hlD : D.length < (t :: D).length := by simp
    have hny : ((C.length : Nat) : Int) + 1 = ((C ++ [t]).length : Nat) := by simp
    have hq := hput (out0 ++ C.map (qpr s)) (qpr s t) (D.map (qpr s) ++ qml B r) (by rw [hml, hCD]; simp)
    rw [show out0 ++ C.map (qpr s) ++ [qpr s t] = out0 ++ (C ++ [t]).map (qpr s) by simp] at hq
    simp only [List.length_cons] at hlC
    generalize PL (qnf (out0 ++ C.map (qpr s))) = Z1 at *
    have cm := (refmul2_p (isV_encQ has) (isV_encQ hbt) (by omega)).up (dm := true)
    generalize hZ2 : PL (qnf (out0 ++ (C ++ [t]).map (qpr s))) = Z2 at *
    have hfin : ∃ (C' D' : List QT), r = C' ++ D' ∧ D.length = D'.length ∧ mkS [(0, .v (.sl X)), (1, .v (.sl Y)), (5, .v (.sl Z2)), (6, .v (iV A.length)), (7, .v (iV ((C ++ [t]).length : Nat)))] [] 68 true = mkS [(0, .v (.sl X)), (1, .v (.sl Y)), (5, .v (.sl (PL (qnf (out0 ++ C'.map (qpr s)))))), (6, .v (iV A.length)), (7, .v (iV C'.length))] [] 68 true := ⟨C ++ [t], D, hCD2, rfl, by rw [hZ2]⟩
    clear hCD hml hput hmA hAB2 hCD2 hZ2 hpr
    unfold QT.tn at hes het
    obtain ⟨sa, sb, sc, sq⟩ := s
    obtain ⟨ta, tb, tc, tq⟩ := t
    simp only at hes het cm
    have hget : X[((A.length : Nat) : Int).toNat]? = some (.agg [iV sa, iV sb, iV sc, .p (.bool (decide (sq.num < 0))), .sl ((dgs sq.num.natAbs).map u32), .p (.bool (decide ((sq.den : Int) < 0))), .sl ((dgs (sq.den : Int).natAbs).map u32)]) := hget
    have hgf : Y[((C.length : Nat) : Int).toNat]? = some (.agg [iV ta, iV tb, iV tc, .p (.bool (decide (tq.num < 0))), .sl ((dgs tq.num.natAbs).map u32), .p (.bool (decide ((tq.den : Int) < 0))), .sl ((dgs (tq.den : Int).natAbs).map u32)]) := hgf
    have cm : PC Tryz.prog 65 [rA sq, rA tq] (rA (sq * tq)) := cm
    have hq : PC Tryz.prog 64 [.sl Z1, .agg [iV (sa + ta), iV (sb + tb), iV (sc + tc), .p (.bool (decide ((sq * tq).num < 0))), .sl ((dgs (sq * tq).num.natAbs).map u32), .p (.bool (decide (((sq * tq).den : Int) < 0))), .sl ((dgs ((sq * tq).den : Int).natAbs).map u32)]] (.sl Z2) := hq
    generalize sq * tq = uq at *
    refine goA ?_
    refine evG ggA (ss_index_sl (InB_of rfl) (elem_tab rfl) rfl rfl (by omega) hget rfl) ?_
    refine goA ?_
    refine evG ggA (ss_index_sl (InB_of rfl) (elem_tab rfl) rfl rfl (by omega) hgf rfl) ?_
    refine goA ?_
    refine evG ggA (ss_index_sl (InB_of rfl) (elem_tab rfl) rfl rfl (by omega) hget rfl) ?_
    refine goA ?_
    refine evG ggA (ss_index_sl (InB_of rfl) (elem_tab rfl) rfl rfl (by omega) hgf rfl) ?_
    refine goA ?_
    refine evG ggA (ss_index_sl (InB_of rfl) (elem_tab rfl) rfl rfl (by omega) hget rfl) ?_
    refine goA ?_
    refine evG ggA (ss_index_sl (InB_of rfl) (elem_tab rfl) rfl rfl (by omega) hgf rfl) ?_
    refine goA ?_
    refine evG ggA (ss_index_sl (InB_of rfl) (elem_tab rfl) rfl rfl (by omega) hget rfl) ?_
    refine goA ?_
    refine evG ggA (ss_index_sl (InB_of rfl) (elem_tab rfl) rfl rfl (by omega) hgf rfl) ?_
    refine goA ?_
    refine evG ggA (ss_call (InB_of rfl) rfl rfl cm) ?_
    refine goA ?_
    refine evG ggA (ss_call (InB_of rfl) rfl rfl hq) ?_
    refine goA ?_
    rw [hny]
    exact loopQ_intro (k := D.length) (s' := mkS [(0, .v (.sl X)), (1, .v (.sl Y)), (5, .v (.sl Z2)), (6, .v (iV A.length)), (7, .v (iV ((C ++ [(⟨ta, tb, tc, tq⟩ : QT)]).length : Nat)))] [] 68 true) hlD (by exact entA) hfin
  rintro _ rfl
  refine goA ?_
  exact rfl
theorem rtop_p {U : List QE} (hU : U.length ≤ 1000000) (hs : ∀ e, e ∈ U → e.sm) : PC Tryz.prog 36 [.sl (U.map QE.av)] (iV (topQ U)) := by
  have hl := av_len U
  obtain ⟨X, hX⟩ : ∃ X, X = U.map QE.av := ⟨_, rfl⟩
  rw [← hX] at hl ⊢
  refine pc_body1 true Tryz.func36 rfl rfl rfl (Nat.le_of_ble_eq_true rfl) CellT.tmp ?_
  refine r1A ?_
  refine r1A ?_
  refine T.seqI (fun s1 => s1 = mkS [(3, .v (iV (topQ U)))] [] 19 true) ?_ ?_
  · refine r1A ?_
    refine T.block ?_
    refine T.loop (fun N s1 => ∃ A B : List QE, U = A ++ B ∧ N = B.length ∧ s1 = mkS [(0, .v (.sl X)), (3, .v (iV (topQ A))), (4, .v (iV A.length))] [] 19 true) U.length
      (s' := mkS [(0, .v (.sl X)), (3, .v (iV 0)), (4, .v (iV ((0 : Nat) : Int)))] [] 19 true) (by exact entA) ⟨[], U, rfl, rfl, rfl⟩ ?_
    rintro _ _ ⟨A, B, hAB, rfl, rfl⟩
    have hlA : U.length = A.length + B.length := by rw [hAB]; simp
    rcases B with _ | ⟨e, B⟩
    · have b1 : decide ((A.length : Int) < (X.length : Int)) = false := decide_eq_false (by simp at hlA; omega)
      rw [List.append_nil] at hAB
      subst hAB
      refine goA ?_
      exact midQ_intro (s' := mkS [(3, .v (iV (topQ U)))] [] 19 true) (by exact entA) rfl
    have b1 : decide ((A.length : Int) < (X.length : Int)) = true := decide_eq_true (by simp at hlA; omega)
    have hget : X[((A.length : Nat) : Int).toNat]? = some e.av := by rw [hX, hAB]; exact av_get (by omega)
    have cw := rweight38_p (hs e (by rw [hAB]; simp))
    have ht : max (topQ A) e.w = topQ (A ++ [e]) := by unfold topQ; rw [List.foldl_append]; rfl
    have hnx : ((A.length : Nat) : Int) + 1 = ((A ++ [e]).length : Nat) := by simp
    have hAB2 : U = (A ++ [e]) ++ B := by rw [hAB]; simp
    have hlB : B.length < (e :: B).length := by simp
    clear hAB
    generalize e.w = w at *
    obtain ⟨a, b, c, g, d, g', d', q⟩ := e
    simp only [List.length_cons] at hlA
    refine goA ?_
    refine evG ggA (ss_index_sl (InB_of rfl) (elem_tab rfl) rfl rfl (by omega) hget rfl) ?_
    refine goA ?_
    refine evG ggA (ss_call (InB_of rfl) rfl rfl cw) ?_
    refine goA ?_
    rw [ht]
    refine goA ?_
    rw [hnx]
    exact loopQ_intro (k := B.length) (s' := mkS [(0, .v (.sl X)), (3, .v (iV (topQ (A ++ [⟨a, b, c, g, d, g', d', q⟩])))), (4, .v (iV ((A ++ [(⟨a, b, c, g, d, g', d', q⟩ : QE)]).length : Nat)))] [] 19 true) hlB (by exact entA) ⟨A ++ [⟨a, b, c, g, d, g', d', q⟩], B, hAB2, rfl, rfl⟩
  rintro _ rfl
  refine goA ?_
  exact rfl
set_option maxHeartbeats 8000000 in
theorem rpure_p {U : List QE} (hU : U.length ≤ 1000000) (hs : ∀ e, e ∈ U → e.sm) : PC Tryz.prog 42 [.sl (U.map QE.av)] (bV (purQ U)) := by
  have hl := av_len U
  obtain ⟨X, hX⟩ : ∃ X, X = U.map QE.av := ⟨_, rfl⟩
  rw [← hX] at hl ⊢
  refine pc_body1 true Tryz.func42 rfl rfl rfl (Nat.le_of_ble_eq_true rfl) CellT.tmp ?_
  refine goA ?_
  refine T.loop (fun N s1 => ∃ A B : List QE, U = A ++ B ∧ N = B.length ∧ (∀ f, f ∈ A → ∀ e, U[0]? = some e → f.w = e.w) ∧ s1 = mkS [(0, .v (.sl X)), (2, .v (bV false)), (3, .v (iV A.length))] [] 20 true) U.length
    (s' := mkS [(0, .v (.sl X)), (2, .v (bV false)), (3, .v (iV ((0 : Nat) : Int)))] [] 20 true) (by exact entA) ⟨[], U, rfl, rfl, fun f hf => (by cases hf), rfl⟩ ?_
  rintro _ _ ⟨A, B, hAB, rfl, hA, rfl⟩
  have hlA : U.length = A.length + B.length := by rw [hAB]; simp
  rcases B with _ | ⟨e, B⟩
  · have b1 : decide ((A.length : Int) < (X.length : Int)) = false := decide_eq_false (by simp at hlA; omega)
    rw [List.append_nil] at hAB
    subst hAB
    have hp : purQ U = true := by
      cases U with
      | nil => rfl
      | cons z U => exact decide_eq_true fun f hf => hA f hf z rfl
    rw [hp]
    refine goA ?_
    exact rfl
  have b1 : decide ((A.length : Int) < (X.length : Int)) = true := decide_eq_true (by simp at hlA; omega)
  have hget : X[((A.length : Nat) : Int).toNat]? = some e.av := by rw [hX, hAB]; exact av_get (by omega)
  obtain ⟨z, hz⟩ : ∃ z, U[0]? = some z := ⟨_, List.getElem?_eq_getElem (by simp at hlA; omega)⟩
  have hget0 : X[(0 : Int).toNat]? = some z.av := by rw [hX, List.getElem?_map]; show (U[0]?).map QE.av = _; rw [hz]; rfl
  have hzm : z ∈ U := List.mem_of_getElem? hz
  have cw := rweight38_p (hs e (by rw [hAB]; simp))
  have cz := rweight38_p (hs z hzm)
  have hbad : e.w ≠ z.w → purQ U = false := fun hne => by
    cases U with
    | nil => cases hzm
    | cons y U =>
      obtain rfl : y = z := by simpa using hz
      exact decide_eq_false fun h => hne (h e (by rw [hAB]; simp))
  have hgood : e.w = z.w → ∀ f, f ∈ A ++ [e] → ∀ y, U[0]? = some y → f.w = y.w := fun he f hf y hy => by
    rcases List.mem_append.1 hf with hf | hf
    · exact hA f hf y hy
    · rw [List.mem_singleton.1 hf, he]
      rw [hz] at hy
      injection hy with hy
      rw [hy]
  have hnx : ((A.length : Nat) : Int) + 1 = ((A ++ [e]).length : Nat) := by simp
  have hAB2 : U = (A ++ [e]) ++ B := by rw [hAB]; simp
  have hlB : B.length < (e :: B).length := by simp
  have hUl : 0 < X.length := by simp at hlA; omega
  clear hAB hA hzm
  obtain ⟨a, b, c, g, d, g', d', q⟩ := e
  simp only [List.length_cons] at hlA
  obtain ⟨za, zb, zc, zg, zd, zg', zd', zq⟩ := z
  generalize hw1 : QE.w ⟨a, b, c, g, d, g', d', q⟩ = w1 at *
  generalize hw2 : QE.w ⟨za, zb, zc, zg, zd, zg', zd', zq⟩ = w2 at *
  by_cases hne : w1 = w2
  · have b2 : (w1 != w2) = false := by simp [hne]
    have hg2 := hgood hne
    refine goA ?_
    refine evG ggA (ss_index_sl (InB_of rfl) (elem_tab rfl) rfl rfl (by omega) hget rfl) ?_
    refine goA ?_
    refine evG ggA (ss_call (InB_of rfl) rfl rfl cw) ?_
    refine goA ?_
    refine evG ggA (ss_index_sl (InB_of rfl) (elem_tab rfl) rfl rfl (by omega) hget0 rfl) ?_
    refine goA ?_
    refine evG ggA (ss_call (InB_of rfl) rfl rfl cz) ?_
    refine goA ?_
    rw [hnx]
    exact loopQ_intro (k := B.length) (s' := mkS [(0, .v (.sl X)), (2, .v (bV false)), (3, .v (iV ((A ++ [(⟨a, b, c, g, d, g', d', q⟩ : QE)]).length : Nat)))] [] 20 true) hlB (by exact entA) ⟨A ++ [⟨a, b, c, g, d, g', d', q⟩], B, hAB2, rfl, hg2, rfl⟩
  · have b2 : (w1 != w2) = true := by simp [hne]
    rw [hbad hne]
    refine goA ?_
    refine evG ggA (ss_index_sl (InB_of rfl) (elem_tab rfl) rfl rfl (by omega) hget rfl) ?_
    refine goA ?_
    refine evG ggA (ss_call (InB_of rfl) rfl rfl cw) ?_
    refine goA ?_
    refine evG ggA (ss_index_sl (InB_of rfl) (elem_tab rfl) rfl rfl (by omega) hget0 rfl) ?_
    refine goA ?_
    refine evG ggA (ss_call (InB_of rfl) rfl rfl cz) ?_
    refine goA ?_
    exact rfl
/-- the greatest exponent of E2 -/
def dpQ (U : List QE) : Int := U.foldl (fun m e => max m e.a) 0
set_option maxHeartbeats 8000000 in
theorem qH_ok {X : List AV} {U : List QE} (hU : U.length ≤ 1000000) (hv : PC Tryz.prog 30 [.sl X] (bV true)) (ht : PC Tryz.prog 31 [.sl X] (.sl (U.map QE.av))) : PC Tryz.prog 24 [.sl X] (.tup [iV (dpQ U), iV 0]) := by
  have hl := av_len U
  obtain ⟨Z, hZ⟩ : ∃ Z, Z = U.map QE.av := ⟨_, rfl⟩
  rw [← hZ] at hl ht
  refine pc_body2 true Tryz.func24 rfl rfl rfl (Nat.le_of_ble_eq_true rfl) CellT.tmp CellT.tmp ?_
  refine goA ?_
  refine evG ggA (ss_call (InB_of rfl) rfl rfl hv) ?_
  refine goA ?_
  refine evG ggA (ss_call (InB_of rfl) rfl rfl ht) ?_
  refine goA ?_
  refine T.loop (fun N s1 => ∃ A B : List QE, U = A ++ B ∧ N = B.length ∧ s1 = mkS [(4, .v (iV (dpQ A))), (11, .v (.sl Z)), (12, .v (iV (Z.length : Nat))), (13, .v (iV A.length))] [] 23 true) U.length
    (s' := mkS [(4, .v (iV 0)), (11, .v (.sl Z)), (12, .v (iV (Z.length : Nat))), (13, .v (iV ((0 : Nat) : Int)))] [] 23 true) (by exact entA) ⟨[], U, rfl, rfl, rfl⟩ ?_
  rintro _ _ ⟨A, B, hAB, rfl, rfl⟩
  have hlA : U.length = A.length + B.length := by rw [hAB]; simp
  rcases B with _ | ⟨e, B⟩
  · have b1 : decide ((A.length : Int) < (Z.length : Nat)) = false := decide_eq_false (by simp at hlA; omega)
    rw [List.append_nil] at hAB
    subst hAB
    refine goA ?_
    exact rfl
  have b1 : decide ((A.length : Int) < (Z.length : Nat)) = true := decide_eq_true (by simp at hlA; omega)
  have hget : Z[((A.length : Nat) : Int).toNat]? = some e.av := by rw [hZ, hAB]; exact av_get (by omega)
  have ht : max (dpQ A) e.a = dpQ (A ++ [e]) := by unfold dpQ; rw [List.foldl_append]; rfl
  have hnx : ((A.length : Nat) : Int) + 1 = ((A ++ [e]).length : Nat) := by simp
  have hAB2 : U = (A ++ [e]) ++ B := by rw [hAB]; simp
  have hlB : B.length < (e :: B).length := by simp
  clear hAB
  obtain ⟨a, b, c, g, d, g', d', q⟩ := e
  simp only [List.length_cons] at hlA ht
  have hget : Z[((A.length : Nat) : Int).toNat]? = some (.agg [iV a, iV b, iV c, .p (.bool g), .sl d, .p (.bool g'), .sl d']) := hget
  refine goA ?_
  refine evG ggA (ss_index_sl (InB_of rfl) (elem_tab rfl) rfl rfl (by omega) hget rfl) ?_
  refine goA ?_
  rw [ht]
  refine goA ?_
  rw [hnx]
  exact loopQ_intro (k := B.length) (s' := mkS [(4, .v (iV (dpQ (A ++ [⟨a, b, c, g, d, g', d', q⟩])))), (11, .v (.sl Z)), (12, .v (iV (Z.length : Nat))), (13, .v (iV ((A ++ [(⟨a, b, c, g, d, g', d', q⟩ : QE)]).length : Nat)))] [] 23 true) hlB (by exact entA) ⟨A ++ [⟨a, b, c, g, d, g', d', q⟩], B, hAB2, rfl, rfl⟩
set_option maxHeartbeats 8000000 in
theorem rH_ok {X : List AV} {U : List QE} (hU : U.length ≤ 1000000) (hv : PC Tryz.prog 34 [.sl X] (iV 0)) (ht : PC Tryz.prog 35 [.sl X] (.sl (U.map QE.av))) : PC Tryz.prog 25 [.sl X] (.tup [iV (dpQ U), iV 0]) := by
  have hl := av_len U
  obtain ⟨Z, hZ⟩ : ∃ Z, Z = U.map QE.av := ⟨_, rfl⟩
  rw [← hZ] at hl ht
  refine pc_body2 true Tryz.func25 rfl rfl rfl (Nat.le_of_ble_eq_true rfl) CellT.tmp CellT.tmp ?_
  refine goA ?_
  refine evG ggA (ss_call (InB_of rfl) rfl rfl hv) ?_
  refine goA ?_
  refine evG ggA (ss_call (InB_of rfl) rfl rfl ht) ?_
  refine goA ?_
  refine T.loop (fun N s1 => ∃ A B : List QE, U = A ++ B ∧ N = B.length ∧ s1 = mkS [(5, .v (iV (dpQ A))), (6, .v (.sl Z)), (7, .v (iV A.length))] [] 29 true) U.length
    (s' := mkS [(5, .v (iV 0)), (6, .v (.sl Z)), (7, .v (iV ((0 : Nat) : Int)))] [] 29 true) (by exact entA) ⟨[], U, rfl, rfl, rfl⟩ ?_
  rintro _ _ ⟨A, B, hAB, rfl, rfl⟩
  have hlA : U.length = A.length + B.length := by rw [hAB]; simp
  rcases B with _ | ⟨e, B⟩
  · have b1 : decide ((A.length : Int) < (Z.length : Int)) = false := decide_eq_false (by simp at hlA; omega)
    rw [List.append_nil] at hAB
    subst hAB
    refine goA ?_
    exact rfl
  have b1 : decide ((A.length : Int) < (Z.length : Int)) = true := decide_eq_true (by simp at hlA; omega)
  have hget : Z[((A.length : Nat) : Int).toNat]? = some e.av := by rw [hZ, hAB]; exact av_get (by omega)
  have ht : max (dpQ A) e.a = dpQ (A ++ [e]) := by unfold dpQ; rw [List.foldl_append]; rfl
  have hnx : ((A.length : Nat) : Int) + 1 = ((A ++ [e]).length : Nat) := by simp
  have hAB2 : U = (A ++ [e]) ++ B := by rw [hAB]; simp
  have hlB : B.length < (e :: B).length := by simp
  clear hAB
  obtain ⟨a, b, c, g, d, g', d', q⟩ := e
  simp only [List.length_cons] at hlA ht
  have hget : Z[((A.length : Nat) : Int).toNat]? = some (.agg [iV a, iV b, iV c, .p (.bool g), .sl d, .p (.bool g'), .sl d']) := hget
  refine goA ?_
  refine evG ggA (ss_index_sl (InB_of rfl) (elem_tab rfl) rfl rfl (by omega) hget rfl) ?_
  refine goA ?_
  rw [ht]
  refine goA ?_
  rw [hnx]
  exact loopQ_intro (k := B.length) (s' := mkS [(5, .v (iV (dpQ (A ++ [⟨a, b, c, g, d, g', d', q⟩])))), (6, .v (.sl Z)), (7, .v (iV ((A ++ [(⟨a, b, c, g, d, g', d', q⟩ : QE)]).length : Nat)))] [] 29 true) hlB (by exact entA) ⟨A ++ [⟨a, b, c, g, d, g', d', q⟩], B, hAB2, rfl, rfl⟩
end Ab
