/- The greatest weight, purity, multiples, products and derivatives of lists of terms, walked. Condition: the sort. -/
import Derived.Test.YtkbccidalhefaaaGreatQmV
set_option linter.all false
namespace Ab
open Go Go.RowKit Go.Proofs Hp
set_option maxRecDepth 100000

def topQ (U : List QE) : Int := U.foldl (fun m e => max m e.w) 0
def purQ : List QE → Bool
  | [] => true
  | e :: U => decide (∀ f, f ∈ e :: U → f.w = e.w)
theorem qtop_p {U : List QE} (hU : U.length ≤ 1000000) (hs : ∀ e, e ∈ U → e.sm) : PC Tryz.prog 32 [.sl (U.map QE.av)] (iV (topQ U)) := by
  have hl := av_len U
  obtain ⟨X, hX⟩ : ∃ X, X = U.map QE.av := ⟨_, rfl⟩
  rw [← hX] at hl ⊢
  refine pc_body1 true Tryz.func32 rfl rfl rfl (Nat.le_of_ble_eq_true rfl) CellT.tmp ?_
  refine r1A ?_
  refine r1A ?_
  refine T.seqI (fun s1 => s1 = mkS [(3, .v (iV (topQ U)))] [] 18 true) ?_ ?_
  · refine r1A ?_
    refine T.block ?_
    refine T.loop (fun N s1 => ∃ A B : List QE, U = A ++ B ∧ N = B.length ∧ s1 = mkS [(3, .v (iV (topQ A))), (6, .v (.sl X)), (7, .v (iV (X.length : Nat))), (8, .v (iV A.length))] [] 18 true) U.length
      (s' := mkS [(3, .v (iV 0)), (6, .v (.sl X)), (7, .v (iV (X.length : Nat))), (8, .v (iV ((0 : Nat) : Int)))] [] 18 true) (by exact entA) ⟨[], U, rfl, rfl, rfl⟩ ?_
    rintro _ _ ⟨A, B, hAB, rfl, rfl⟩
    have hlA : U.length = A.length + B.length := by rw [hAB]; simp
    rcases B with _ | ⟨e, B⟩
    · have b1 : decide ((A.length : Int) < (X.length : Nat)) = false := decide_eq_false (by simp at hlA; omega)
      rw [List.append_nil] at hAB
      subst hAB
      refine goA ?_
      exact midQ_intro (s' := mkS [(3, .v (iV (topQ U)))] [] 18 true) (by exact entA) rfl
    have b1 : decide ((A.length : Int) < (X.length : Nat)) = true := decide_eq_true (by simp at hlA; omega)
    have hget : X[((A.length : Nat) : Int).toNat]? = some e.av := by rw [hX, hAB]; exact av_get (by omega)
    have cw := weight_p (hs e (by rw [hAB]; simp))
    have ht : max (topQ A) e.w = topQ (A ++ [e]) := by unfold topQ; rw [List.foldl_append]; rfl
    have hnx : ((A.length : Nat) : Int) + 1 = ((A ++ [e]).length : Nat) := by simp
    have hAB2 : U = (A ++ [e]) ++ B := by rw [hAB]; simp
    have hlB : B.length < (e :: B).length := by simp
    clear hAB
    generalize e.w = w at *
    obtain ⟨a, b, c, g, d, g', d', q⟩ := e
    simp only [List.length_cons] at hlA
    refine goA ?_
    refine evG ggA (ss_index_sl (InB_of rfl) (elem_tab rfl) rfl rfl (by omega) hget rfl) ?_
    refine goA ?_
    refine evG ggA (ss_call (InB_of rfl) rfl rfl cw) ?_
    refine goA ?_
    rw [ht]
    refine goA ?_
    rw [hnx]
    exact loopQ_intro (k := B.length) (s' := mkS [(3, .v (iV (topQ (A ++ [⟨a, b, c, g, d, g', d', q⟩])))), (6, .v (.sl X)), (7, .v (iV (X.length : Nat))), (8, .v (iV ((A ++ [(⟨a, b, c, g, d, g', d', q⟩ : QE)]).length : Nat)))] [] 18 true) hlB (by exact entA) ⟨A ++ [⟨a, b, c, g, d, g', d', q⟩], B, hAB2, rfl, rfl⟩
  rintro _ rfl
  refine goA ?_
  exact rfl
set_option maxHeartbeats 8000000 in
theorem qpure_p {U : List QE} (hU : U.length ≤ 1000000) (hs : ∀ e, e ∈ U → e.sm) : PC Tryz.prog 38 [.sl (U.map QE.av)] (.tup [iV (if purQ U then topQ U else 0), bV (purQ U)]) := by
  have hl := av_len U
  have ct := qtop_p hU hs
  obtain ⟨X, hX⟩ : ∃ X, X = U.map QE.av := ⟨_, rfl⟩
  rw [← hX] at hl ct ⊢
  refine pc_body2 true Tryz.func38 rfl rfl rfl (Nat.le_of_ble_eq_true rfl) CellT.tmp CellT.tmp ?_
  refine goA ?_
  refine T.loop (fun N s1 => ∃ A B : List QE, U = A ++ B ∧ N = B.length ∧ (∀ f, f ∈ A → ∀ e, U[0]? = some e → f.w = e.w) ∧ s1 = mkS [(0, .v (.sl X)), (2, .v (iV 0)), (3, .v (bV false)), (6, .v (.sl X)), (7, .v (iV (X.length : Nat))), (8, .v (iV A.length))] [] 22 true) U.length
    (s' := mkS [(0, .v (.sl X)), (2, .v (iV 0)), (3, .v (bV false)), (6, .v (.sl X)), (7, .v (iV (X.length : Nat))), (8, .v (iV ((0 : Nat) : Int)))] [] 22 true) (by exact entA) ⟨[], U, rfl, rfl, fun f hf => (by cases hf), rfl⟩ ?_
  rintro _ _ ⟨A, B, hAB, rfl, hA, rfl⟩
  have hlA : U.length = A.length + B.length := by rw [hAB]; simp
  rcases B with _ | ⟨e, B⟩
  · have b1 : decide ((A.length : Int) < (X.length : Nat)) = false := decide_eq_false (by simp at hlA; omega)
    rw [List.append_nil] at hAB
    subst hAB
    have hp : purQ U = true := by
      cases U with
      | nil => rfl
      | cons z U => exact decide_eq_true fun f hf => hA f hf z rfl
    rw [hp, if_pos rfl]
    refine goA ?_
    refine evG ggA (ss_call (InB_of rfl) rfl rfl ct) ?_
    refine goA ?_
    exact rfl
  have b1 : decide ((A.length : Int) < (X.length : Nat)) = true := decide_eq_true (by simp at hlA; omega)
  have hget : X[((A.length : Nat) : Int).toNat]? = some e.av := by rw [hX, hAB]; exact av_get (by omega)
  obtain ⟨z, hz⟩ : ∃ z, U[0]? = some z := ⟨U[0]'(by simp at hlA; omega), List.getElem?_eq_getElem _⟩
  have hget0 : X[(0 : Int).toNat]? = some z.av := by rw [hX]; show (U.map QE.av)[0]? = _; rw [List.getElem?_map, hz]; rfl
  have cw := weight_p (hs e (by rw [hAB]; simp))
  have cz := weight_p (hs z (List.mem_of_getElem? hz))
  have hnx : ((A.length : Nat) : Int) + 1 = ((A ++ [e]).length : Nat) := by simp
  have hAB2 : U = (A ++ [e]) ++ B := by rw [hAB]; simp
  have hlB : B.length < (e :: B).length := by simp
  simp only [List.length_cons] at hlA
  by_cases hw : e.w = z.w
  · have b2 : (e.w != z.w) = false := by simp [hw]
    have hA2 : ∀ f, f ∈ A ++ [e] → ∀ x, U[0]? = some x → f.w = x.w := fun f hf x hx => by
      rcases List.mem_append.1 hf with hf | hf
      · exact hA f hf x hx
      · rw [List.mem_singleton.1 hf]
        rw [hz] at hx
        injection hx with hx
        rw [← hx]; exact hw
    clear hAB hA hw
    generalize e.w = w at *
    generalize z.w = v at *
    obtain ⟨a, b, c, g, d, g', d', q⟩ := e
    obtain ⟨za, zb, zc, zg, zd, zg', zd', zq⟩ := z
    refine goA ?_
    refine evG ggA (ss_index_sl (InB_of rfl) (elem_tab rfl) rfl rfl (by omega) hget rfl) ?_
    refine goA ?_
    refine evG ggA (ss_call (InB_of rfl) rfl rfl cw) ?_
    refine goA ?_
    refine evG ggA (ss_index_sl (InB_of rfl) (elem_tab rfl) rfl rfl (by omega) hget0 rfl) ?_
    refine goA ?_
    refine evG ggA (ss_call (InB_of rfl) rfl rfl cz) ?_
    refine goA ?_
    rw [hnx]
    exact loopQ_intro (k := B.length) (s' := mkS [(0, .v (.sl X)), (2, .v (iV 0)), (3, .v (bV false)), (6, .v (.sl X)), (7, .v (iV (X.length : Nat))), (8, .v (iV ((A ++ [(⟨a, b, c, g, d, g', d', q⟩ : QE)]).length : Nat)))] [] 22 true) hlB (by exact entA) ⟨A ++ [⟨a, b, c, g, d, g', d', q⟩], B, hAB2, rfl, hA2, rfl⟩
  · have b2 : (e.w != z.w) = true := by simp [hw]
    have hp : purQ U = false := by
      cases U with
      | nil => simp at hz
      | cons y U =>
        have : y = z := by simpa using hz
        subst this
        exact decide_eq_false fun h => hw (h e (by rw [hAB]; simp))
    rw [hp, if_neg (by decide)]
    clear hAB hA hAB2 hw
    generalize e.w = w at *
    generalize z.w = v at *
    obtain ⟨a, b, c, g, d, g', d', q⟩ := e
    obtain ⟨za, zb, zc, zg, zd, zg', zd', zq⟩ := z
    refine goA ?_
    refine evG ggA (ss_index_sl (InB_of rfl) (elem_tab rfl) rfl rfl (by omega) hget rfl) ?_
    refine goA ?_
    refine evG ggA (ss_call (InB_of rfl) rfl rfl cw) ?_
    refine goA ?_
    refine evG ggA (ss_index_sl (InB_of rfl) (elem_tab rfl) rfl rfl (by omega) hget0 rfl) ?_
    refine goA ?_
    refine evG ggA (ss_call (InB_of rfl) rfl rfl cz) ?_
    refine goA ?_
    exact rfl
theorem qfrac_p {n d : Int} (hn : n.natAbs < 4294967296) (hd : d.natAbs < 4294967296) (h0 : d ≠ 0) : PC Tryz.prog 40 [iV n, iV d] (encQ ((n : Rat) / (d : Rat))) := by
  have c1 := rof_p n (by omega) (by omega)
  have c2 := rof_p d (by omega) (by omega)
  have c3 := rquo_p (isV_encQ (ht_int hn)) (by decide) (isV_encQ (ht_int hd)) (by decide) (fun e => h0 (by exact_mod_cast e))
  generalize (n : Rat) / (d : Rat) = q at *
  refine pc_body1 true Tryz.func40 rfl rfl rfl (Nat.le_of_ble_eq_true rfl) (CellT.agg agg_rat) ?_
  refine goA ?_
  refine evG ggA (ss_call (InB_of rfl) rfl rfl c1) ?_
  refine goA ?_
  refine evG ggA (ss_call (InB_of rfl) rfl rfl c2) ?_
  refine evG ggA (ss_call (InB_of rfl) rfl rfl c3) ?_
  refine goA ?_
  exact rfl
/-- small exponents -/
def QT.tn (t : QT) : Prop := (-10000 ≤ t.a ∧ t.a ≤ 10000) ∧ (-10000 ≤ t.b ∧ t.b ≤ 10000) ∧ -10000 ≤ t.c ∧ t.c ≤ 10000
theorem QT.tn.sm {t : QT} (h : t.tn) : (qe t).sm := by
  unfold QT.tn at h
  show (-1000000 ≤ t.a ∧ t.a ≤ 1000000) ∧ (-1000000 ≤ t.b ∧ t.b ≤ 1000000) ∧ -1000000 ≤ t.c ∧ t.c ≤ 1000000
  omega
theorem tidyL_p {N : Nat} (hS : SortOK N) {L : List QT} {K : Nat} (hL : L.length ≤ N) (hN : N ≤ 100000) (hs : ∀ t, t ∈ L → (qe t).sm) (hh : ∀ t, t ∈ L → Ht t.q K) (hK : 1 ≤ K) (hH : N * (K + 1) + K ≤ 1000000000) : PC Tryz.prog 31 [.sl (PL L)] (encP (qnf L)) := by
  have h := tidy_p' hS (U := L.map qe) (K := K) (by simpa using hL) hN (fun e he => by obtain ⟨t, ht, rfl⟩ := List.mem_map.1 he; exact hs t ht) (fun e he => by obtain ⟨t, ht, rfl⟩ := List.mem_map.1 he; exact qe_ok (hh t ht)) hK hH
  rw [qe_map] at h
  exact h
/-- products, term by term -/
def qpr (s t : QT) : QT := ⟨s.a + t.a, s.b + t.b, s.c + t.c, s.q * t.q⟩
def qml (p r : List QT) : List QT := p.flatMap fun s => r.map (qpr s)
theorem qml_len (p r : List QT) : (qml p r).length = p.length * r.length := by
  unfold qml
  induction p with
  | nil => simp
  | cons t p ih => rw [List.flatMap_cons, List.length_append, ih, List.length_map, List.length_cons, Nat.add_mul, Nat.one_mul, Nat.add_comm]
theorem qml_mem {p r : List QT} {t : QT} (h : t ∈ qml p r) : ∃ x y, x ∈ p ∧ y ∈ r ∧ t = qpr x y := by
  obtain ⟨x, hx, h⟩ := List.mem_flatMap.1 h
  obtain ⟨y, hy, rfl⟩ := List.mem_map.1 h
  exact ⟨x, y, hx, hy, rfl⟩
set_option maxHeartbeats 16000000 in
theorem qtimes_p {N : Nat} (hS : SortOK N) {U V : List QE} {K : Nat} (hl : U.length * V.length ≤ N) (hN : N ≤ 100000) (hu : U.length ≤ 100000) (hv : V.length ≤ 100000) (tu : ∀ e, e ∈ U → e.t.tn) (tv : ∀ e, e ∈ V → e.t.tn) (ou : ∀ e, e ∈ U → e.ok K) (ov : ∀ e, e ∈ V → e.ok K) (hK : 1 ≤ K) (hH : N * (2 * K + 1) + 2 * K ≤ 1000000000) :
    PC Tryz.prog 39 [.sl (U.map QE.av), .sl (V.map QE.av)] (encP (qnf (qml (U.map QE.t) (V.map QE.t)))) := by
  have ctd : PC Tryz.prog 31 [.sl (PL (qml (U.map QE.t) (V.map QE.t)))] (encP (qnf (qml (U.map QE.t) (V.map QE.t)))) := tidyL_p hS (K := 2 * K) (by rw [qml_len]; simpa using hl) hN (fun t ht => by
    obtain ⟨x, y, hx, hy, rfl⟩ := qml_mem ht
    obtain ⟨x, hx', rfl⟩ := List.mem_map.1 hx
    obtain ⟨y, hy', rfl⟩ := List.mem_map.1 hy
    have h1 := tu x hx'
    have h2 := tv y hy'
    unfold QT.tn at h1 h2
    show (-1000000 ≤ x.t.a + y.t.a ∧ x.t.a + y.t.a ≤ 1000000) ∧ (-1000000 ≤ x.t.b + y.t.b ∧ x.t.b + y.t.b ≤ 1000000) ∧ -1000000 ≤ x.t.c + y.t.c ∧ x.t.c + y.t.c ≤ 1000000
    omega) (fun t ht => by
    obtain ⟨x, y, hx, hy, rfl⟩ := qml_mem ht
    obtain ⟨x, hx', rfl⟩ := List.mem_map.1 hx
    obtain ⟨y, hy', rfl⟩ := List.mem_map.1 hy
    exact (ht_mul (isV_ht (ou x hx') hK) (isV_ht (ov y hy') hK) hK).mono (by omega)) (by omega) hH
  have hxl := av_len U
  have hyl := av_len V
  have hpl : ∀ l, (PL l).length = l.length := PL_len
  generalize hR : qml (U.map QE.t) (V.map QE.t) = R at *
  have hRl : R.length ≤ N := by rw [← hR, qml_len]; simpa using hl
  obtain ⟨X, hX⟩ : ∃ X, X = U.map QE.av := ⟨_, rfl⟩
  obtain ⟨Y, hY⟩ : ∃ Y, Y = V.map QE.av := ⟨_, rfl⟩
  rw [← hX] at hxl ⊢
  rw [← hY] at hyl ⊢
  refine pc_body1 true Tryz.func39 rfl rfl rfl (Nat.le_of_ble_eq_true rfl) CellT.tmp ?_
  refine r1A ?_
  refine r1A ?_
  refine T.seqI (fun s1 => s1 = mkS [(5, .v (.sl (PL R)))] [] 50 true) ?_ ?_
  · refine r1A ?_
    refine T.block ?_
    refine T.loop (fun M s1 => ∃ (A B : List QE) (out : List QT), U = A ++ B ∧ M = B.length ∧ out = qml (A.map QE.t) (V.map QE.t) ∧ out ++ qml (B.map QE.t) (V.map QE.t) = R ∧ s1 = mkS [(1, .v (.sl Y)), (5, .own 100 out.length), (10, .v (.sl X)), (11, .v (iV (X.length : Nat))), (12, .v (iV A.length))] [(100, .lst 7 50 (PL out))] 50 true) U.length
      (s' := mkS [(1, .v (.sl Y)), (5, .own 100 0), (10, .v (.sl X)), (11, .v (iV (X.length : Nat))), (12, .v (iV ((0 : Nat) : Int)))] [(100, .lst 7 50 [])] 50 true) (by exact entA) ⟨[], U, [], rfl, rfl, rfl, hR, rfl⟩ ?_
    rintro _ _ ⟨A, B, out, hAB, rfl, hout, hoR, rfl⟩
    have hlA : U.length = A.length + B.length := by rw [hAB]; simp
    rcases B with _ | ⟨e, B⟩
    · have b1 : decide ((A.length : Int) < (X.length : Nat)) = false := decide_eq_false (by simp at hlA; omega)
      have hoR : out = R := by rw [← hoR]; simp [qml]
      subst hoR
      have hpo := hpl out
      refine goA ?_
      exact midQ_intro (s' := mkS [(5, .v (.sl (PL out)))] [] 50 true) (by exact entA) rfl
    have b1 : decide ((A.length : Int) < (X.length : Nat)) = true := decide_eq_true (by simp at hlA; omega)
    have hget : X[((A.length : Nat) : Int).toNat]? = some e.av := by rw [hX, hAB]; exact av_get (by omega)
    have hoe := ou e (by rw [hAB]; simp)
    have hte := tu e (by rw [hAB]; simp)
    have hAB2 : U = (A ++ [e]) ++ B := by rw [hAB]; simp
    have hlB : B.length < (e :: B).length := by simp
    have hnx : ((A.length : Nat) : Int) + 1 = ((A ++ [e]).length : Nat) := by simp
    have hoR2 : out ++ (V.map QE.t).map (qpr e.t) ++ qml (B.map QE.t) (V.map QE.t) = R := by rw [← hoR]; unfold qml; simp
    have hoA : out ++ (V.map QE.t).map (qpr e.t) = qml ((A ++ [e]).map QE.t) (V.map QE.t) := by rw [hout]; unfold qml; simp
    simp only [List.length_cons] at hlA
    clear hAB hout hoR
    obtain ⟨ea, eb, ec, g, d, g', d', eq⟩ := e
    unfold QE.ok QE.r at hoe
    unfold QT.tn at hte
    simp only [QE.t] at hoe hte hoR2 hoA
    have hget : X[((A.length : Nat) : Int).toNat]? = some (.agg [iV ea, iV eb, iV ec, .p (.bool g), .sl d, .p (.bool g'), .sl d']) := hget
    refine goA ?_
    refine evG ggA (ss_index_sl (InB_of rfl) (elem_tab rfl) rfl rfl (by omega) hget rfl) ?_
    refine goA ?_
    refine T.loop (fun M s1 => ∃ (C D : List QE) (acc : List QT), V = C ++ D ∧ M = D.length ∧ acc = out ++ (C.map QE.t).map (qpr ⟨ea, eb, ec, eq⟩) ∧ s1 = mkS [(1, .v (.sl Y)), (5, .own 100 acc.length), (7, .ptr 7 0), (10, .v (.sl X)), (11, .v (iV (X.length : Nat))), (12, .v (iV A.length)), (16, .v (.sl Y)), (17, .v (iV (Y.length : Nat))), (18, .v (iV C.length))] [(7, tvQ ea eb ec g d g' d'), (100, .lst 7 50 (PL acc))] 50 true) V.length
      (s' := mkS [(1, .v (.sl Y)), (5, .own 100 out.length), (7, .ptr 7 0), (10, .v (.sl X)), (11, .v (iV (X.length : Nat))), (12, .v (iV A.length)), (16, .v (.sl Y)), (17, .v (iV (Y.length : Nat))), (18, .v (iV ((0 : Nat) : Int)))] [(7, tvQ ea eb ec g d g' d'), (100, .lst 7 50 (PL out))] 50 true) (by exact entA) ⟨[], V, out, rfl, rfl, by simp, rfl⟩ ?_
    rintro _ _ ⟨C, D, acc, hCD, rfl, hacc, rfl⟩
    have hlC : V.length = C.length + D.length := by rw [hCD]; simp
    rcases D with _ | ⟨f, D⟩
    · have b2 : decide ((C.length : Int) < (Y.length : Nat)) = false := decide_eq_false (by simp at hlC; omega)
      have hacc2 : acc = out ++ (V.map QE.t).map (qpr ⟨ea, eb, ec, eq⟩) := by rw [hacc, hCD, List.append_nil]
      refine goA ?_
      rw [hnx]
      exact loopQ_intro (k := B.length) (s' := mkS [(1, .v (.sl Y)), (5, .own 100 acc.length), (10, .v (.sl X)), (11, .v (iV (X.length : Nat))), (12, .v (iV ((A ++ [(⟨ea, eb, ec, g, d, g', d', eq⟩ : QE)]).length : Nat)))] [(100, .lst 7 50 (PL acc))] 50 true) hlB (by exact entA) ⟨A ++ [⟨ea, eb, ec, g, d, g', d', eq⟩], B, acc, hAB2, rfl, by rw [hacc2]; exact hoA, by rw [hacc2]; exact hoR2, rfl⟩
    have b2 : decide ((C.length : Int) < (Y.length : Nat)) = true := decide_eq_true (by simp at hlC; omega)
    have hgf : Y[((C.length : Nat) : Int).toNat]? = some f.av := by rw [hY, hCD]; exact av_get (by omega)
    have hof := ov f (by rw [hCD]; simp)
    have htf := tv f (by rw [hCD]; simp)
    have hpa := hpl acc
    have haN : acc.length + 1 ≤ N := by
      have h1 : acc.length = out.length + C.length := by rw [hacc]; simp
      have h2 := congrArg List.length hoR2
      simp only [List.length_append, List.length_map] at h2
      simp at hlC
      omega
    have hacc2 : acc ++ [qpr ⟨ea, eb, ec, eq⟩ f.t] = out ++ ((C ++ [f]).map QE.t).map (qpr ⟨ea, eb, ec, eq⟩) := by rw [hacc]; simp
    have hCD2 : V = (C ++ [f]) ++ D := by rw [hCD]; simp
    have hlD : D.length < (f :: D).length := by simp
    have hny : ((C.length : Nat) : Int) + 1 = ((C ++ [f]).length : Nat) := by simp
    have hal : (acc ++ [qpr ⟨ea, eb, ec, eq⟩ f.t]).length = acc.length + 1 := by simp
    simp only [List.length_cons] at hlC
    clear hCD hacc
    obtain ⟨fa, fb, fc, fg, fd, fg', fd', fq⟩ := f
    unfold QE.ok QE.r at hof
    unfold QT.tn at htf
    simp only [QE.t, qpr] at hof htf hacc2 hal
    have hgf : Y[((C.length : Nat) : Int).toNat]? = some (.agg [iV fa, iV fb, iV fc, .p (.bool fg), .sl fd, .p (.bool fg'), .sl fd']) := hgf
    have cm := rmul_p hoe (by omega) hof (by omega)
    refine goA ?_
    refine evG ggA (ss_index_sl (InB_of rfl) (elem_tab rfl) rfl rfl (by omega) hgf rfl) ?_
    refine goA ?_
    refine evG ggA (ss_call (InB_of rfl) rfl rfl cm) ?_
    refine goA ?_
    refine evG ggA (ss_bslice (InB_of rfl) (make_tab rfl) rfl rfl rfl rfl (ones_ok rfl) (Nat.le_of_ble_eq_true rfl)) ?_
    refine evG ggA (ss_snocB (a := (qe ⟨ea + fa, eb + fb, ec + fc, eq * fq⟩).av) (InB_of rfl) (make_tab rfl) rfl rfl hpa rfl rfl (by decide) rfl (by omega) (Nat.le_of_ble_eq_true rfl) rfl) ?_
    rw [PL_snoc]
    refine goA ?_
    rw [hny, ← hal]
    exact loopQ_intro (k := D.length) (s' := mkS [(1, .v (.sl Y)), (5, .own 100 (acc ++ [(⟨ea + fa, eb + fb, ec + fc, eq * fq⟩ : QT)]).length), (7, .ptr 7 0), (10, .v (.sl X)), (11, .v (iV (X.length : Nat))), (12, .v (iV A.length)), (16, .v (.sl Y)), (17, .v (iV (Y.length : Nat))), (18, .v (iV ((C ++ [(⟨fa, fb, fc, fg, fd, fg', fd', fq⟩ : QE)]).length : Nat)))] [(7, tvQ ea eb ec g d g' d'), (100, .lst 7 50 (PL (acc ++ [⟨ea + fa, eb + fb, ec + fc, eq * fq⟩])))] 50 true) hlD (by exact entA) ⟨C ++ [⟨fa, fb, fc, fg, fd, fg', fd', fq⟩], D, acc ++ [⟨ea + fa, eb + fb, ec + fc, eq * fq⟩], hCD2, rfl, hacc2, rfl⟩
  rintro _ rfl
  refine goA ?_
  refine evG ggA (ss_call (InB_of rfl) rfl rfl ctd) ?_
  refine goA ?_
  exact rfl
end Ab
