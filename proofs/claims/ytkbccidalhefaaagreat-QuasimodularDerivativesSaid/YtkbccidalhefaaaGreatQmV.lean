/- The normalized form of a list of terms, walked. Condition: the sort. -/
import Derived.Test.YtkbccidalhefaaaGreatQmU
import Derived.Test.YtkbccidalhefaaaGreatSTB
set_option linter.all false
namespace Ab
open Go Go.RowKit Go.Proofs Hp
set_option maxRecDepth 100000

theorem ss_snocB {dm : Bool} {P : Program} {ops : Array Oper} {s : AS} {dst : Option Tmp} {ty : TypeId} {pos : String} {after : Array Edge} {g : Option (Nat × Bool)} {t e : TypeId} {n bytes : Nat} {z : List Value} {y x : Operand} {id m : Nat} {es : List AV} {a : AV} (hin : InB s dst) (ht : MakeT P t e n bytes z) (hy : s.ev y = some (.own id m)) (hm : s.m id = some (.lst n e es)) (hlen : es.length = m) (hx : s.ev x = some (.v (.sl [a])))
    (hn : a.cells.length = n) (hn0 : 0 < n) (hnu : a.cells.all AV.nu = true) (h63 : m + 1 ≤ 1000000) (hby : bytes ≤ 128) (hz : z.all nuV = true) :
    SStep dm P ops ⟨dst, .call ⟨.builtin .append, #[y, x], #[t, t]⟩, ty, pos, after, g⟩ s (.own id (m + 1)) (.set id (.lst n e (es ++ [a]))) :=
  ss_append (xs := [a]) hin ht hy hm hlen hx (fun b hb => by simp at hb; subst hb; exact hn) hn0 (by simp [maxLen]; omega) (by simp; have := Nat.mul_le_mul_left (m + 1) hby; omega) (by simp [hz]) (fun _ b hb c hc => by simp at hb; subst hb; exact List.all_eq_true.1 hnu c hc)
def qfi (t : QT) : List QT := if t.q = 0 then [] else [t]
theorem qgr_nil (t : QT) : qgr t [] = qfi t ++ qtd [] := by rw [qgr]; unfold qfi; split <;> rfl
theorem qgr_ne {t u : QT} {l : List QT} (h : u.k ≠ t.k) : qgr t (u :: l) = qfi t ++ qtd (u :: l) := by rw [qgr, if_neg h]; rfl
abbrev tvT (t : QT) : Blk := tvQ t.a t.b t.c (decide (t.q.num < 0)) ((dgs t.q.num.natAbs).map u32) (decide ((t.q.den : Int) < 0)) ((dgs (t.q.den : Int).natAbs).map u32)
abbrev PL (l : List QT) : List AV := (l.map qe).map QE.av
theorem PL_len (l : List QT) : (PL l).length = l.length := by unfold PL; rw [List.length_map, List.length_map]
theorem PL_snoc (l : List QT) (t : QT) : PL l ++ [(qe t).av] = PL (l ++ [t]) := by unfold PL; rw [List.map_append, List.map_append]; rfl
set_option maxHeartbeats 16000000 in
theorem tidy_p' {N : Nat} (hS : SortOK N) {U : List QE} {K : Nat} (hU : U.length ≤ N) (hN : N ≤ 100000) (hs : ∀ e, e ∈ U → e.sm) (hok : ∀ e, e ∈ U → e.ok K) (hK : 1 ≤ K) (hH : N * (K + 1) + K ≤ 1000000000) :
    PC Tryz.prog 31 [.sl (U.map QE.av)] (encP (qnf (U.map QE.t))) := by
  obtain ⟨W, hW, hWp, csort⟩ := hS U hU hs
  have hR : qtd (W.map QE.t) = qnf (U.map QE.t) := qtd_eq (List.pairwise_map.2 hW) (hWp.map _)
  obtain ⟨R, hRd⟩ : ∃ R, R = qtd (W.map QE.t) := ⟨_, rfl⟩
  rw [← hR, ← hRd]
  have hWl : W.length = U.length := hWp.length_eq
  have hWs : ∀ e, e ∈ W → e.sm := fun e he => hs e (hWp.mem_iff.1 he)
  have hWo : ∀ e, e ∈ W → e.ok K := fun e he => hok e (hWp.mem_iff.1 he)
  have hul := av_len U
  have hwl := av_len W
  have hwl2 : (W.map QE.av).length = U.length := hwl.trans hWl
  have hWN : W.length ≤ N := by omega
  have ccl := clone_p U (by omega)
  have hcast : ((U.map QE.av).length : Nat) = U.length := hul
  clear hs hok hR hWp hW
  refine pc_body1 true Tryz.func31 rfl rfl rfl (Nat.le_of_ble_eq_true rfl) CellT.tmp ?_
  refine goA ?_
  refine evM (ms_callO 30 rfl rfl rfl ccl rfl ?_)
  rw [hcast]
  refine goA ?_
  refine evM (ms_call [(0, 30)] csort rfl rfl rfl rfl rfl rfl ⟨rfl, trivial⟩ ⟨.inl rfl, trivial⟩ ?_)
  refine runA ?_
  refine ev_nil ?_
  refine osA ?_
  refine T.weak (s' := mkS [(2, .v (.p nilV)), (3, .v (.sl (W.map QE.av)))] [] 58 true) (by exact entA) ?_
  clear csort ccl hwl2
  refine T.seq ?_
  refine regA ?_
  refine runA ?_
  refine ev_nil ?_
  refine seqQ_n ?_
  obtain ⟨X, hX⟩ : ∃ X, X = W.map QE.av := ⟨_, rfl⟩
  rw [← hX] at hwl ⊢
  refine T.seqI (fun s1 => s1 = mkS [(4, .v (.sl (PL R)))] [] 58 true) ?_ ?_
  · refine r1A ?_
    refine T.block ?_
    refine T.loop (fun M s1 => ∃ (A B : List QE) (out : List QT) (i : Int), W = A ++ B ∧ M = B.length ∧ i = A.length ∧ out ++ qtd (B.map QE.t) = R ∧ out.length ≤ A.length ∧ s1 = mkS [(3, .v (.sl X)), (4, .own 100 out.length), (5, .v (iV i))] [(100, .lst 7 50 (PL out))] 58 true) W.length
      (s' := mkS [(3, .v (.sl X)), (4, .own 100 0), (5, .v (iV 0))] [(100, .lst 7 50 [])] 58 true) (by exact entA) ⟨[], W, [], 0, rfl, rfl, rfl, hRd.symm, Nat.le_refl _, rfl⟩ ?_
    rintro _ _ ⟨A, B, out, i, hAB, rfl, hi, hout, hol, rfl⟩
    have hlA : W.length = A.length + B.length := by rw [hAB]; simp
    have hpo := PL_len out
    rcases B with _ | ⟨e, B⟩
    · have b1 : decide (i < (X.length : Int)) = false := decide_eq_false (by simp at hlA; omega)
      have hout : out = R := by simpa [qtd] using hout
      subst hout
      refine goA ?_
      exact midQ_intro (s' := mkS [(4, .v (.sl (PL out)))] [] 58 true) (by exact entA) rfl
    have b1 : decide (i < (X.length : Int)) = true := decide_eq_true (by simp at hlA; omega)
    have hget : X[i.toNat]? = some e.av := by rw [hX, hAB]; exact av_get (by omega)
    have hes : e.sm := hWs e (by rw [hAB]; simp)
    have heo : e.ok K := hWo e (by rw [hAB]; simp)
    have hel : e.r = e.r := rfl
    have c1 := rnormal_p heo (by omega)
    have hq0 : Ht e.q K := isV_ht heo hK
    simp only [List.length_cons] at hlA
    have hout0 : out ++ qgr ⟨e.a, e.b, e.c, e.q⟩ (B.map QE.t) = R := hout
    obtain ⟨ea, eb, ec, g, d, g', d', eq⟩ := e
    unfold QE.r at c1
    simp only at c1 hq0 hout0
    refine goA ?_
    refine evG ggA (ss_index_sl (InB_of rfl) (elem_tab rfl) rfl rfl (by omega) hget rfl) ?_
    refine goA ?_
    refine evG ggA (ss_call (InB_of rfl) rfl rfl c1) ?_
    refine goA ?_
    refine T.loop (fun M s1 => ∃ (C D : List QE) (q : Rat) (j : Int), B = C ++ D ∧ M = D.length ∧ j = (A.length : Int) + 1 + C.length ∧ Ht q (C.length * (K + 1) + K) ∧ out ++ qgr ⟨ea, eb, ec, q⟩ (D.map QE.t) = R ∧ s1 = mkS [(3, .v (.sl X)), (4, .own 100 out.length), (5, .v (iV j)), (6, .ptr 6 0)] [(6, tvT ⟨ea, eb, ec, q⟩), (100, .lst 7 50 (PL out))] 58 true) B.length
      (s' := mkS [(3, .v (.sl X)), (4, .own 100 out.length), (5, .v (iV (i + 1))), (6, .ptr 6 0)] [(6, tvT ⟨ea, eb, ec, eq⟩), (100, .lst 7 50 (PL out))] 58 true) (by exact entA) ⟨[], B, eq, i + 1, rfl, rfl, by simp; omega, by simpa using hq0, hout0, rfl⟩ ?_
    clear hq0 hout0 hout c1 hget heo hel
    rintro _ _ ⟨C, D, q, j, hCD, rfl, hj, hq, hout, rfl⟩
    have hlB : B.length = C.length + D.length := by rw [hCD]; simp
    have hKq : C.length * (K + 1) + K ≤ N * (K + 1) + K := Nat.add_le_add_right (Nat.mul_le_mul_right _ (by omega)) _
    -- the group ends
    have fin : ∀ {sg : Int}, (sg = 0 ↔ q = 0) → out ++ (qfi ⟨ea, eb, ec, q⟩ ++ qtd (D.map QE.t)) = R →
        PC Tryz.prog 61 [encQ q] (iV sg) → ∃ (A' : List QE) (out' : List QT), W = A' ++ D ∧ j = A'.length ∧ out' ++ qtd (D.map QE.t) = R ∧ out'.length ≤ A'.length ∧ ((q = 0 ∧ out' = out) ∨ (q ≠ 0 ∧ out' = out ++ [⟨ea, eb, ec, q⟩])) := fun hsg h _ => by
      refine ⟨A ++ ⟨ea, eb, ec, g, d, g', d', eq⟩ :: C, out ++ qfi ⟨ea, eb, ec, q⟩, by rw [hAB, hCD]; simp, by simp; omega, by rw [List.append_assoc]; exact h, ?_, ?_⟩
      · unfold qfi
        split <;> simp <;> omega
      · unfold qfi
        by_cases h0 : q = 0
        · exact .inl ⟨h0, by simp [h0]⟩
        · exact .inr ⟨h0, by simp [h0]⟩
    obtain ⟨sg, -, -, s0, c2⟩ := rsign_p (isV_encQ hq) (by omega)
    have hDl : D.length < B.length + 1 := by omega
    have ed : out ++ (qfi ⟨ea, eb, ec, q⟩ ++ qtd (D.map QE.t)) = R → ∀ x, D = x → decide (j < (X.length : Int)) = false ∨ True := fun _ _ _ => .inr trivial
    clear ed
    rcases D with _ | ⟨f, D⟩
    · have b2 : decide (j < (X.length : Int)) = false := decide_eq_false (by simp at hlB; omega)
      rw [List.map_nil, qgr_nil] at hout
      obtain ⟨A', out', h1, h2, h3, h4, h5⟩ := fin s0 hout c2
      rcases h5 with ⟨h5, rfl⟩ | ⟨h5, h6⟩
      · have b3 : (sg != 0) = false := by simp [s0.2 h5]
        refine goA ?_
        refine evG ggA (ss_call (InB_of rfl) rfl rfl c2) ?_
        refine goA ?_
        exact loopQ_intro (k := 0) (s' := mkS [(3, .v (.sl X)), (4, .own 100 out'.length), (5, .v (iV j))] [(100, .lst 7 50 (PL out'))] 58 true) (by simp) (by exact entA) ⟨A', [], out', j, h1, rfl, h2, h3, h4, rfl⟩
      · have b3 : (sg != 0) = true := by simp; exact fun e => h5 (s0.1 e)
        refine goA ?_
        refine evG ggA (ss_call (InB_of rfl) rfl rfl c2) ?_
        refine goA ?_
        refine evG ggA (ss_bslice (InB_of rfl) (make_tab rfl) rfl rfl rfl rfl (ones_ok rfl) (Nat.le_of_ble_eq_true rfl)) ?_
        refine evG ggA (ss_snocB (a := (qe ⟨ea, eb, ec, q⟩).av) (InB_of rfl) (make_tab rfl) rfl rfl hpo rfl rfl (by decide) rfl (by omega) (Nat.le_of_ble_eq_true rfl) rfl) ?_
        rw [PL_snoc]
        refine goA ?_
        subst h6
        exact loopQ_intro (k := 0) (s' := mkS [(3, .v (.sl X)), (4, .own 100 (out.length + 1)), (5, .v (iV j))] [(100, .lst 7 50 (PL (out ++ [⟨ea, eb, ec, q⟩])))] 58 true) (by simp) (by exact entA) ⟨A', [], out ++ [⟨ea, eb, ec, q⟩], j, h1, rfl, h2, h3, h4, by simp⟩
    have b2 : decide (j < (X.length : Int)) = true := decide_eq_true (by simp at hlB; omega)
    have hgf : X[j.toNat]? = some f.av := by
      rw [hX, hAB, hCD, show A ++ (⟨ea, eb, ec, g, d, g', d', eq⟩ :: (C ++ f :: D)) = (A ++ ⟨ea, eb, ec, g, d, g', d', eq⟩ :: C) ++ f :: D by simp]
      exact av_get (by simp; omega)
    have hfs : f.sm := hWs f (by rw [hAB, hCD]; simp)
    have hfo : f.ok K := hWo f (by rw [hAB, hCD]; simp)
    have c3 := order_p (x := f) (y := qe ⟨ea, eb, ec, q⟩) hfs hes
    have hord := ordR_0 f (qe ⟨ea, eb, ec, q⟩)
    simp only [List.length_cons] at hlB
    by_cases hk : f.k = (ea, eb, ec)
    · have b3 : (ordR f (qe ⟨ea, eb, ec, q⟩) == 0) = true := by rw [beq_iff_eq]; exact hord.2 hk
      have c4 := radd_p (isV_encQ hq) (by omega) hfo (by omega)
      have hq2 : Ht (q + f.q) ((C ++ [f]).length * (K + 1) + K) := by
        refine (ht_add hq (isV_ht hfo hK)).mono ?_
        rw [List.length_append, List.length_cons, List.length_nil, Nat.add_mul]
        omega
      have hout2 : out ++ qgr ⟨ea, eb, ec, q + f.q⟩ (D.map QE.t) = R := by
        rw [List.map_cons, qgr, if_pos (show f.t.k = QT.k ⟨ea, eb, ec, q⟩ from hk)] at hout
        exact hout
      have hCD2 : B = (C ++ [f]) ++ D := by rw [hCD]; simp
      generalize ordR f (qe ⟨ea, eb, ec, q⟩) = o at *
      obtain ⟨fa, fb, fc, fg, fd, fg', fd', fq⟩ := f
      unfold QE.r at c4
      simp only at c4 hq2 hout2
      refine goA ?_
      refine evG ggA (ss_index_sl (InB_of rfl) (elem_tab rfl) rfl rfl (by omega) hgf rfl) ?_
      refine goA ?_
      refine evG ggA (ss_call (InB_of rfl) rfl rfl c3) ?_
      refine goA ?_
      refine evG ggA (ss_index_sl (InB_of rfl) (elem_tab rfl) rfl rfl (by omega) hgf rfl) ?_
      refine goA ?_
      refine evG ggA (ss_call (InB_of rfl) rfl rfl c4) ?_
      refine goA ?_
      exact loopQ_intro (k := D.length) (s' := mkS [(3, .v (.sl X)), (4, .own 100 out.length), (5, .v (iV (j + 1))), (6, .ptr 6 0)] [(6, tvT ⟨ea, eb, ec, q + fq⟩), (100, .lst 7 50 (PL out))] 58 true) (by simp) (by exact entA) ⟨C ++ [⟨fa, fb, fc, fg, fd, fg', fd', fq⟩], D, q + fq, j + 1, hCD2, rfl, by simp; omega, hq2, hout2, rfl⟩
    · have b3 : (ordR f (qe ⟨ea, eb, ec, q⟩) == 0) = false := by rw [beq_eq_false_iff_ne]; exact fun e => hk (hord.1 e)
      rw [List.map_cons, qgr_ne (show f.t.k ≠ QT.k ⟨ea, eb, ec, q⟩ from hk), ← List.map_cons] at hout
      obtain ⟨A', out', h1, h2, h3, h4, h5⟩ := fin s0 hout c2
      generalize ordR f (qe ⟨ea, eb, ec, q⟩) = o at *
      obtain ⟨fa, fb, fc, fg, fd, fg', fd', fq⟩ := f
      rcases h5 with ⟨h5, rfl⟩ | ⟨h5, h6⟩
      · have b4 : (sg != 0) = false := by simp [s0.2 h5]
        refine goA ?_
        refine evG ggA (ss_index_sl (InB_of rfl) (elem_tab rfl) rfl rfl (by omega) hgf rfl) ?_
        refine goA ?_
        refine evG ggA (ss_call (InB_of rfl) rfl rfl c3) ?_
        refine goA ?_
        refine evG ggA (ss_call (InB_of rfl) rfl rfl c2) ?_
        refine goA ?_
        exact loopQ_intro (k := D.length + 1) (s' := mkS [(3, .v (.sl X)), (4, .own 100 out'.length), (5, .v (iV j))] [(100, .lst 7 50 (PL out'))] 58 true) (by simp at hlB ⊢; omega) (by exact entA) ⟨A', _, out', j, h1, by simp, h2, h3, h4, rfl⟩
      · have b4 : (sg != 0) = true := by simp; exact fun e => h5 (s0.1 e)
        refine goA ?_
        refine evG ggA (ss_index_sl (InB_of rfl) (elem_tab rfl) rfl rfl (by omega) hgf rfl) ?_
        refine goA ?_
        refine evG ggA (ss_call (InB_of rfl) rfl rfl c3) ?_
        refine goA ?_
        refine evG ggA (ss_call (InB_of rfl) rfl rfl c2) ?_
        refine goA ?_
        refine evG ggA (ss_bslice (InB_of rfl) (make_tab rfl) rfl rfl rfl rfl (ones_ok rfl) (Nat.le_of_ble_eq_true rfl)) ?_
        refine evG ggA (ss_snocB (a := (qe ⟨ea, eb, ec, q⟩).av) (InB_of rfl) (make_tab rfl) rfl rfl hpo rfl rfl (by decide) rfl (by omega) (Nat.le_of_ble_eq_true rfl) rfl) ?_
        rw [PL_snoc]
        refine goA ?_
        subst h6
        exact loopQ_intro (k := D.length + 1) (s' := mkS [(3, .v (.sl X)), (4, .own 100 (out.length + 1)), (5, .v (iV j))] [(100, .lst 7 50 (PL (out ++ [⟨ea, eb, ec, q⟩])))] 58 true) (by simp at hlB ⊢; omega) (by exact entA) ⟨A', _, out ++ [⟨ea, eb, ec, q⟩], j, h1, by simp, h2, h3, h4, by simp⟩
  rintro _ rfl
  refine goA ?_
  exact rfl
end Ab
