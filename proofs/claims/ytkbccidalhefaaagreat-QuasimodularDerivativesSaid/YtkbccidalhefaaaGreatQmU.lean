/- Lists of terms: Concat, weights, validity, the greatest weight, purity; walked; no condition. -/
import Derived.Test.YtkbccidalhefaaaGreatQB
import Derived.Test.YtkbccidalhefaaaGreatSTB
set_option linter.all false
namespace Ab
open Go Go.RowKit Go.Proofs Hp
set_option maxRecDepth 100000

/-- a term with a normalized number -/
def qe (t : QT) : QE := ⟨t.a, t.b, t.c, decide (t.q.num < 0), (dgs t.q.num.natAbs).map u32, decide ((t.q.den : Int) < 0), (dgs (t.q.den : Int).natAbs).map u32, t.q⟩
theorem qe_t (t : QT) : (qe t).t = t := rfl
theorem qe_ok {t : QT} {K : Nat} (h : Ht t.q K) : (qe t).ok K := isV_encQ h
theorem qe_map (l : List QT) : (l.map qe).map QE.t = l := by
  rw [List.map_map]
  exact List.map_id l
def encP (l : List QT) : AV := .sl ((l.map qe).map QE.av)
theorem av_len (U : List QE) : (U.map QE.av).length = U.length := List.length_map ..
theorem av_cells (U : List QE) : ∀ a, a ∈ U.map QE.av → a.cells.length = 7 := fun a ha => by obtain ⟨e, -, rfl⟩ := List.mem_map.1 ha; rfl
theorem av_nu (U : List QE) : ∀ a, a ∈ U.map QE.av → ∀ c, c ∈ a.cells → c.nu = true := fun a ha => by
  obtain ⟨e, -, rfl⟩ := List.mem_map.1 ha
  exact List.all_eq_true.1 (show (QE.av e).cells.all AV.nu = true from rfl)
set_option maxHeartbeats 8000000 in
theorem concat_p (U V : List QE) (hU : U.length ≤ 100000) (hV : V.length ≤ 100000) : PC Tryz.prog 41 [.sl [.sl (U.map QE.av), .sl (V.map QE.av)]] (.sl ((U ++ V).map QE.av)) := by
  have hu := av_len U
  have hv := av_len V
  have hcu := av_cells U
  have hcv := av_cells V
  have hnu := av_nu U
  have hnv := av_nu V
  rw [List.map_append]
  have hapl : (U.map QE.av ++ V.map QE.av).length = U.length + V.length := by simp
  obtain ⟨m, hm⟩ : ∃ m, m = U.length := ⟨_, rfl⟩
  obtain ⟨n, hn⟩ : ∃ n, n = V.length := ⟨_, rfl⟩
  rw [← hm] at hu hU hapl
  rw [← hn] at hv hV hapl
  generalize U.map QE.av = X at *
  generalize V.map QE.av = Y at *
  clear hm hn U V
  subst hu hv
  have cg := grow_p (n := X.length + Y.length) (by omega)
  rw [show ((X.length + Y.length : Nat) : Int) = (X.length : Int) + Y.length by omega] at cg
  have n0 : [AV.sl X, AV.sl Y][(0 : Int).toNat]? = some (.sl X) := rfl
  have n1 : [AV.sl X, AV.sl Y][(1 : Int).toNat]? = some (.sl Y) := rfl
  have b1 : decide ((X.length : Int) < 0) = false := decide_eq_false (by omega)
  have b2 : decide ((X.length : Int) + Y.length < 0) = false := decide_eq_false (by omega)
  have a0 : (0 : Int) + (X.length : Int) = X.length := by omega
  refine pc_body1 true Tryz.func41 rfl rfl rfl (Nat.le_of_ble_eq_true rfl) CellT.tmp ?_
  refine r1A ?_
  refine r1A ?_
  refine T.seqI (fun s1 => s1 = mkS [(0, .v (.sl [.sl X, .sl Y])), (3, .v (iV ((X.length : Int) + Y.length)))] [] 36 true) ?_ ?_
  · refine r1A ?_
    refine T.block ?_
    refine T.loop (fun N s1 => (N = 2 ∧ s1 = mkS [(0, .v (.sl [.sl X, .sl Y])), (3, .v (iV 0)), (9, .v (.sl [.sl X, .sl Y])), (10, .v (iV 2)), (11, .v (iV 0))] [] 36 true) ∨ (N = 1 ∧ s1 = mkS [(0, .v (.sl [.sl X, .sl Y])), (3, .v (iV X.length)), (9, .v (.sl [.sl X, .sl Y])), (10, .v (iV 2)), (11, .v (iV 1))] [] 36 true) ∨ (N = 0 ∧ s1 = mkS [(0, .v (.sl [.sl X, .sl Y])), (3, .v (iV ((X.length : Int) + Y.length))), (9, .v (.sl [.sl X, .sl Y])), (10, .v (iV 2)), (11, .v (iV 2))] [] 36 true)) 2
      (s' := mkS [(0, .v (.sl [.sl X, .sl Y])), (3, .v (iV 0)), (9, .v (.sl [.sl X, .sl Y])), (10, .v (iV 2)), (11, .v (iV 0))] [] 36 true) (by exact entA) (.inl ⟨rfl, rfl⟩) ?_
    rintro _ _ (⟨rfl, rfl⟩ | ⟨rfl, rfl⟩ | ⟨rfl, rfl⟩)
    · refine goA ?_
      refine evG ggA (ss_index_sl (InB_of rfl) (elem_tab rfl) rfl rfl (by decide) n0 rfl) ?_
      refine goA ?_
      rw [a0]
      refine goA ?_
      exact loopQ_intro (k := 1) (s' := mkS [(0, .v (.sl [.sl X, .sl Y])), (3, .v (iV X.length)), (9, .v (.sl [.sl X, .sl Y])), (10, .v (iV 2)), (11, .v (iV 1))] [] 36 true) (by omega) (by exact entA) (.inr (.inl ⟨rfl, rfl⟩))
    · refine goA ?_
      refine evG ggA (ss_index_sl (InB_of rfl) (elem_tab rfl) rfl rfl (by decide) n1 rfl) ?_
      refine goA ?_
      exact loopQ_intro (k := 0) (s' := mkS [(0, .v (.sl [.sl X, .sl Y])), (3, .v (iV ((X.length : Int) + Y.length))), (9, .v (.sl [.sl X, .sl Y])), (10, .v (iV 2)), (11, .v (iV 2))] [] 36 true) (by omega) (by exact entA) (.inr (.inr ⟨rfl, rfl⟩))
    · refine goA ?_
      exact midQ_intro (s' := mkS [(0, .v (.sl [.sl X, .sl Y])), (3, .v (iV ((X.length : Int) + Y.length)))] [] 36 true) (by exact entA) rfl
  rintro _ rfl
  refine T.seq ?_
  refine regA ?_
  refine runA ?_
  refine evM (ms_callO 100 rfl rfl rfl cg rfl ?_)
  refine runA ?_
  refine ev_nil ?_
  refine osA ?_
  refine T.seqI (fun s1 => s1 = mkS [(6, .v (.sl (X ++ Y)))] [] 36 true) ?_ ?_
  · refine r1A ?_
    refine T.block ?_
    refine T.loop (fun N s1 => (N = 2 ∧ s1 = mkS [(6, .own 100 0), (25, .v (.sl [.sl X, .sl Y])), (26, .v (iV 2)), (27, .v (iV 0))] [(100, .lst 7 50 [])] 36 true) ∨ (N = 1 ∧ s1 = mkS [(6, .own 100 X.length), (25, .v (.sl [.sl X, .sl Y])), (26, .v (iV 2)), (27, .v (iV 1))] [(100, .lst 7 50 X)] 36 true) ∨ (N = 0 ∧ s1 = mkS [(6, .own 100 (X.length + Y.length)), (25, .v (.sl [.sl X, .sl Y])), (26, .v (iV 2)), (27, .v (iV 2))] [(100, .lst 7 50 (X ++ Y))] 36 true)) 2
      (s' := mkS [(6, .own 100 0), (25, .v (.sl [.sl X, .sl Y])), (26, .v (iV 2)), (27, .v (iV 0))] [(100, .lst 7 50 [])] 36 true) (by exact entA) (.inl ⟨rfl, rfl⟩) ?_
    rintro _ _ (⟨rfl, rfl⟩ | ⟨rfl, rfl⟩ | ⟨rfl, rfl⟩)
    · refine goA ?_
      refine evG ggA (ss_index_sl (InB_of rfl) (elem_tab rfl) rfl rfl (by decide) n0 rfl) ?_
      refine goA ?_
      refine evG ggA (ss_append (InB_of rfl) (make_tab rfl) rfl rfl rfl rfl hcu (by decide) (by unfold maxLen; omega) (by omega) rfl (fun _ => hnu)) ?_
      rw [Nat.zero_add, List.nil_append]
      refine goA ?_
      exact loopQ_intro (k := 1) (s' := mkS [(6, .own 100 X.length), (25, .v (.sl [.sl X, .sl Y])), (26, .v (iV 2)), (27, .v (iV 1))] [(100, .lst 7 50 X)] 36 true) (by omega) (by exact entA) (.inr (.inl ⟨rfl, rfl⟩))
    · refine goA ?_
      refine evG ggA (ss_index_sl (InB_of rfl) (elem_tab rfl) rfl rfl (by decide) n1 rfl) ?_
      refine goA ?_
      refine evG ggA (ss_append (InB_of rfl) (make_tab rfl) rfl rfl rfl rfl hcv (by decide) (by unfold maxLen; omega) (by omega) rfl (fun _ => hnv)) ?_
      refine goA ?_
      exact loopQ_intro (k := 0) (s' := mkS [(6, .own 100 (X.length + Y.length)), (25, .v (.sl [.sl X, .sl Y])), (26, .v (iV 2)), (27, .v (iV 2))] [(100, .lst 7 50 (X ++ Y))] 36 true) (by omega) (by exact entA) (.inr (.inr ⟨rfl, rfl⟩))
    · refine goA ?_
      exact midQ_intro (s' := mkS [(6, .v (.sl (X ++ Y)))] [] 36 true) (by exact entA) rfl
  rintro _ rfl
  refine goA ?_
  exact rfl
/-- the weight of a term -/
def QE.w (e : QE) : Int := 2 * e.a + 4 * e.b + 6 * e.c
theorem weight_p {e : QE} (h : e.sm) : PC Tryz.prog 55 [e.av] (iV e.w) := by
  obtain ⟨a, b, c, g, d, g', d', q⟩ := e
  obtain ⟨⟨h1, h2⟩, ⟨h3, h4⟩, h5, h6⟩ := h
  simp only at h1 h2 h3 h4 h5 h6
  unfold QE.av QE.w
  simp only []
  refine pc_body1 true Tryz.func55 rfl rfl rfl (Nat.le_of_ble_eq_true rfl) CellT.tmp ?_
  refine goA ?_
  exact rfl
def QE.vt (e : QE) : Prop := 0 ≤ e.a ∧ 0 ≤ e.b ∧ 0 ≤ e.c ∧ e.a ≤ 60 ∧ e.b ≤ 60 ∧ e.c ≤ 60 ∧ e.w ≤ 60
instance (e : QE) : Decidable e.vt := inferInstanceAs (Decidable (_ ∧ _))
theorem QE.vt.sm {e : QE} (h : e.vt) : e.sm := by unfold QE.vt at h; unfold QE.sm; omega
/-- valid polynomials -/
def QV (U : List QE) : Prop := U.length ≤ 400 ∧ ∀ e, e ∈ U → e.vt
instance (U : List QE) : Decidable (QV U) := inferInstanceAs (Decidable (_ ∧ _))
abbrev tvQ (a b c : Int) (g : Bool) (d : List AV) (g' : Bool) (d' : List AV) : Blk := .var [.v (iV a), .v (iV b), .v (iV c), .v (.p (.bool g)), .v (.sl d), .v (.p (.bool g')), .v (.sl d')]
set_option maxHeartbeats 8000000 in
theorem qvalid_p {U : List QE} (hU : U.length ≤ 1000000) : PC Tryz.prog 30 [.sl (U.map QE.av)] (bV (decide (QV U))) := by
  have hl := av_len U
  by_cases h4 : U.length ≤ 400
  · have b0 : decide (((U.map QE.av).length : Int) > 400) = false := decide_eq_false (by omega)
    have hres : bV (decide (QV U)) = bV (decide (∀ e, e ∈ U → e.vt)) := by
      unfold QV
      simp only [h4, true_and]
    rw [hres]
    refine pc_body1 true Tryz.func30 rfl rfl rfl (Nat.le_of_ble_eq_true rfl) CellT.tmp ?_
    refine goA ?_
    refine T.loop (fun N s1 => ∃ A B : List QE, U = A ++ B ∧ N = B.length ∧ (∀ e, e ∈ A → e.vt) ∧ s1 = mkS [(0, .v (.sl (U.map QE.av))), (2, .v (bV false)), (8, .v (.sl (U.map QE.av))), (9, .v (iV ((U.map QE.av).length : Nat))), (10, .v (iV A.length))] [] 48 true) U.length
      (s' := mkS [(0, .v (.sl (U.map QE.av))), (2, .v (bV false)), (8, .v (.sl (U.map QE.av))), (9, .v (iV ((U.map QE.av).length : Nat))), (10, .v (iV ((0 : Nat) : Int)))] [] 48 true) (by exact entA) ⟨[], U, rfl, rfl, fun e he => (by cases he), rfl⟩ ?_
    rintro _ _ ⟨A, B, hAB, rfl, hA, rfl⟩
    have hlA : U.length = A.length + B.length := by rw [hAB]; simp
    rcases B with _ | ⟨e, B⟩
    · have b1 : decide ((A.length : Int) < ((U.map QE.av).length : Nat)) = false := decide_eq_false (by simp at hlA; omega)
      have hall : decide (∀ e, e ∈ U → e.vt) = true := decide_eq_true (by rw [hAB, List.append_nil]; exact hA)
      rw [hall]
      refine goA ?_
      exact rfl
    have b1 : decide ((A.length : Int) < ((U.map QE.av).length : Nat)) = true := decide_eq_true (by simp at hlA; omega)
    have hget : (U.map QE.av)[((A.length : Nat) : Int).toNat]? = some e.av := by rw [hAB]; exact av_get (by omega)
    have hbad : ¬ e.vt → decide (∀ e, e ∈ U → e.vt) = false := fun h => decide_eq_false fun k => h (k e (by rw [hAB]; simp))
    have hnext : e.vt → ∃ A' B' : List QE, U = A' ++ B' ∧ B.length = B'.length ∧ (∀ e, e ∈ A' → e.vt) ∧ mkS [(0, .v (.sl (U.map QE.av))), (2, .v (bV false)), (8, .v (.sl (U.map QE.av))), (9, .v (iV ((U.map QE.av).length : Nat))), (10, .v (iV ((A.length : Int) + 1)))] [] 48 true = mkS [(0, .v (.sl (U.map QE.av))), (2, .v (bV false)), (8, .v (.sl (U.map QE.av))), (9, .v (iV ((U.map QE.av).length : Nat))), (10, .v (iV A'.length))] [] 48 true := fun h => ⟨A ++ [e], B, by rw [hAB, List.append_assoc]; rfl, rfl, fun x hx => by
      rcases List.mem_append.1 hx with hx | hx
      · exact hA x hx
      · rw [List.mem_singleton.1 hx]; exact h, by rw [List.length_append, List.length_cons, List.length_nil, show ((A.length + (0 + 1) : Nat) : Int) = (A.length : Int) + 1 by omega]⟩
    have hlB : B.length < (e :: B).length := by simp
    clear hAB hA
    by_cases hsm : e.sm
    · have cw := weight_p hsm
      have hwdef : e.w = 2 * e.a + 4 * e.b + 6 * e.c := rfl
      obtain ⟨w, hw⟩ : ∃ w, w = e.w := ⟨_, rfl⟩
      rw [← hw] at cw hwdef
      have hvt : e.vt ↔ (0 ≤ e.a ∧ 0 ≤ e.b ∧ 0 ≤ e.c ∧ e.a ≤ 60 ∧ e.b ≤ 60 ∧ e.c ≤ 60 ∧ w ≤ 60) := by rw [hw]; exact Iff.rfl
      obtain ⟨a, b, c, g, d, g', d', q⟩ := e
      simp only at hvt hwdef
      have go1 : ∀ {x : Bool}, x = true ∨ x = false := fun {x} => by cases x <;> simp
      by_cases k1 : a < 0
      · have b2 : decide (a < 0) = true := decide_eq_true k1
        rw [hbad (by rw [hvt]; omega)]
        refine goA ?_
        refine evG ggA (ss_index_sl (InB_of rfl) (elem_tab rfl) rfl rfl (by omega) hget rfl) ?_
        refine goA ?_
        exact rfl
      have b2 : decide (a < 0) = false := decide_eq_false k1
      by_cases k2 : b < 0
      · have b3 : decide (b < 0) = true := decide_eq_true k2
        rw [hbad (by rw [hvt]; omega)]
        refine goA ?_
        refine evG ggA (ss_index_sl (InB_of rfl) (elem_tab rfl) rfl rfl (by omega) hget rfl) ?_
        refine goA ?_
        exact rfl
      have b3 : decide (b < 0) = false := decide_eq_false k2
      by_cases k3 : c < 0
      · have b4 : decide (c < 0) = true := decide_eq_true k3
        rw [hbad (by rw [hvt]; omega)]
        refine goA ?_
        refine evG ggA (ss_index_sl (InB_of rfl) (elem_tab rfl) rfl rfl (by omega) hget rfl) ?_
        refine goA ?_
        exact rfl
      have b4 : decide (c < 0) = false := decide_eq_false k3
      by_cases k4 : a > 60
      · have b5 : decide (a > 60) = true := decide_eq_true k4
        rw [hbad (by rw [hvt]; omega)]
        refine goA ?_
        refine evG ggA (ss_index_sl (InB_of rfl) (elem_tab rfl) rfl rfl (by omega) hget rfl) ?_
        refine goA ?_
        exact rfl
      have b5 : decide (a > 60) = false := decide_eq_false k4
      by_cases k5 : b > 60
      · have b6 : decide (b > 60) = true := decide_eq_true k5
        rw [hbad (by rw [hvt]; omega)]
        refine goA ?_
        refine evG ggA (ss_index_sl (InB_of rfl) (elem_tab rfl) rfl rfl (by omega) hget rfl) ?_
        refine goA ?_
        exact rfl
      have b6 : decide (b > 60) = false := decide_eq_false k5
      by_cases k6 : c > 60
      · have b7 : decide (c > 60) = true := decide_eq_true k6
        rw [hbad (by rw [hvt]; omega)]
        refine goA ?_
        refine evG ggA (ss_index_sl (InB_of rfl) (elem_tab rfl) rfl rfl (by omega) hget rfl) ?_
        refine goA ?_
        exact rfl
      have b7 : decide (c > 60) = false := decide_eq_false k6
      by_cases k7 : w > 60
      · have b8 : decide (w > 60) = true := decide_eq_true k7
        rw [hbad (by rw [hvt]; omega)]
        refine goA ?_
        refine evG ggA (ss_index_sl (InB_of rfl) (elem_tab rfl) rfl rfl (by omega) hget rfl) ?_
        refine goA ?_
        refine evG ggA (ss_call (InB_of rfl) rfl rfl cw) ?_
        refine goA ?_
        exact rfl
      have b8 : decide (w > 60) = false := decide_eq_false k7
      have hn := hnext (hvt.2 (by omega))
      refine goA ?_
      refine evG ggA (ss_index_sl (InB_of rfl) (elem_tab rfl) rfl rfl (by omega) hget rfl) ?_
      refine goA ?_
      refine evG ggA (ss_call (InB_of rfl) rfl rfl cw) ?_
      refine goA ?_
      exact loopQ_intro (k := B.length) (s' := mkS [(0, .v (.sl (U.map QE.av))), (2, .v (bV false)), (8, .v (.sl (U.map QE.av))), (9, .v (iV ((U.map QE.av).length : Nat))), (10, .v (iV ((A.length : Int) + 1)))] [] 48 true) hlB (by exact entA) hn
    · have hnv : ¬ e.vt := fun h => hsm h.sm
      rw [hbad hnv]
      obtain ⟨a, b, c, g, d, g', d', q⟩ := e
      unfold QE.sm at hsm
      simp only at hsm
      by_cases k1 : a < 0
      · have b2 : decide (a < 0) = true := decide_eq_true k1
        refine goA ?_
        refine evG ggA (ss_index_sl (InB_of rfl) (elem_tab rfl) rfl rfl (by omega) hget rfl) ?_
        refine goA ?_
        exact rfl
      have b2 : decide (a < 0) = false := decide_eq_false k1
      by_cases k2 : b < 0
      · have b3 : decide (b < 0) = true := decide_eq_true k2
        refine goA ?_
        refine evG ggA (ss_index_sl (InB_of rfl) (elem_tab rfl) rfl rfl (by omega) hget rfl) ?_
        refine goA ?_
        exact rfl
      have b3 : decide (b < 0) = false := decide_eq_false k2
      by_cases k3 : c < 0
      · have b4 : decide (c < 0) = true := decide_eq_true k3
        refine goA ?_
        refine evG ggA (ss_index_sl (InB_of rfl) (elem_tab rfl) rfl rfl (by omega) hget rfl) ?_
        refine goA ?_
        exact rfl
      have b4 : decide (c < 0) = false := decide_eq_false k3
      by_cases k4 : a > 60
      · have b5 : decide (a > 60) = true := decide_eq_true k4
        refine goA ?_
        refine evG ggA (ss_index_sl (InB_of rfl) (elem_tab rfl) rfl rfl (by omega) hget rfl) ?_
        refine goA ?_
        exact rfl
      have b5 : decide (a > 60) = false := decide_eq_false k4
      by_cases k5 : b > 60
      · have b6 : decide (b > 60) = true := decide_eq_true k5
        refine goA ?_
        refine evG ggA (ss_index_sl (InB_of rfl) (elem_tab rfl) rfl rfl (by omega) hget rfl) ?_
        refine goA ?_
        exact rfl
      have b6 : decide (b > 60) = false := decide_eq_false k5
      have b7 : decide (c > 60) = true := decide_eq_true (by omega)
      refine goA ?_
      refine evG ggA (ss_index_sl (InB_of rfl) (elem_tab rfl) rfl rfl (by omega) hget rfl) ?_
      refine goA ?_
      exact rfl
  · have b0 : decide (((U.map QE.av).length : Int) > 400) = true := decide_eq_true (by omega)
    have hres : decide (QV U) = false := decide_eq_false fun h => h4 h.1
    rw [hres]
    refine pc_body1 true Tryz.func30 rfl rfl rfl (Nat.le_of_ble_eq_true rfl) CellT.tmp ?_
    refine goA ?_
    exact rfl
end Ab
