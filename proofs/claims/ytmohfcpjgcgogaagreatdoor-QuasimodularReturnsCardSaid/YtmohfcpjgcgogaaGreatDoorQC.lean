/- Lists of terms: Concat, weights, validity, the greatest weight, purity; walked; no condition. The normalized form of a list of terms, walked. Condition: the sort. The greatest weight, purity, multiples, products and derivatives of lists of terms, walked. Condition: the sort. -/
import Derived.Test.YtmohfcpjgcgogaaGreatDoorQB
import Derived.Test.YtmohfcpjgcgogaaGreatDoorAX
import Derived.Test.YtmohfcpjgcgogaaGreatDoorAJ
set_option linter.all false
namespace Ab
open Go Go.RowKit Go.Proofs Hp
set_option maxRecDepth 100000
def qe (t : QT) : QE := ⟨t.a, t.b, t.c, decide (t.q.num < 0), (dgs t.q.num.natAbs).map u32, decide ((t.q.den : Int) < 0), (dgs (t.q.den : Int).natAbs).map u32, t.q⟩
theorem qe_t (t : QT) : (qe t).t = t := rfl
theorem qe_ok {t : QT} {K : Nat} (h : Ht t.q K) : (qe t).ok K := Zap h
theorem qe_map (l : List QT) : (l.map qe).map QE.t = l := by
 rw [List.map_map]
 exact List.map_id l
def encP (l : List QT) : AV := .sl ((l.map qe).map QE.av)
theorem Zdr (U : List QE) : (U.map QE.av).length = U.length := List.length_map ..
theorem av_cells (U : List QE) : ∀ a, a ∈ U.map QE.av → a.cells.length = 7 := fun a ha => by obtain ⟨e, -, rfl⟩ := List.mem_map.1 ha; rfl
theorem av_nu (U : List QE) : ∀ a, a ∈ U.map QE.av → ∀ c, c ∈ a.cells → c.nu = true := fun a ha => by
 obtain ⟨e, -, rfl⟩ := List.mem_map.1 ha
 exact List.all_eq_true.1 (show (QE.av e).cells.all AV.nu = true from rfl)
set_option maxHeartbeats 8000000 in
theorem concat_p (U V : List QE) (hU : U.length ≤ 100000) (hV : V.length ≤ 100000) : PC Tryz.prog 46 [.sl [.sl (U.map QE.av), .sl (V.map QE.av)]] (.sl ((U ++ V).map QE.av)) := by
 have hu := Zdr U
 have hv := Zdr V
 have hcu := av_cells U
 have hcv := av_cells V
 have hnu := av_nu U
 have hnv := av_nu V
 rw [List.map_append]
 have hapl : (U.map QE.av ++ V.map QE.av).length = U.length + V.length := by simp
 obtain ⟨m, hm⟩ : ∃ m, m = U.length := ⟨_, rfl⟩
 obtain ⟨n, hn⟩ : ∃ n, n = V.length := ⟨_, rfl⟩
 rw [← hm] at hu hU hapl
 rw [← hn] at hv hV hapl
 generalize U.map QE.av = X at *
 generalize V.map QE.av = Y at *
 clear hm hn U V
 subst hu hv
 have cg := grow_p (n := X.length + Y.length) (by omega)
 rw [show ((X.length + Y.length : Nat) : Int) = (X.length : Int) + Y.length by omega] at cg
 have n0 : [AV.sl X, AV.sl Y][(0 : Int).toNat]? = some (.sl X) := rfl
 have n1 : [AV.sl X, AV.sl Y][(1 : Int).toNat]? = some (.sl Y) := rfl
 have b1 : decide ((X.length : Int) < 0) = false := decide_eq_false (by omega)
 have b2 : decide ((X.length : Int) + Y.length < 0) = false := decide_eq_false (by omega)
 have a0 : (0 : Int) + (X.length : Int) = X.length := by omega
 refine Zam true Tryz.func46 rfl rfl rfl (Nat.le_of_ble_eq_true rfl) Zao.tmp ?_
 refine r1A ?_
 refine r1A ?_
 refine T.seqI (fun s1 => s1 = mkS [(0, .v (.sl [.sl X, .sl Y])), (3, .v (iV ((X.length : Int) + Y.length)))] [] 36 true) ?_ ?_
 ·refine r1A ?_
  refine T.block ?_
  refine T.loop (fun N s1 => (N = 2 ∧ s1 = mkS [(0, .v (.sl [.sl X, .sl Y])), (3, .v (iV 0)), (9, .v (.sl [.sl X, .sl Y])), (10, .v (iV 2)), (11, .v (iV 0))] [] 36 true) ∨ (N = 1 ∧ s1 = mkS [(0, .v (.sl [.sl X, .sl Y])), (3, .v (iV X.length)), (9, .v (.sl [.sl X, .sl Y])), (10, .v (iV 2)), (11, .v (iV 1))] [] 36 true) ∨ (N = 0 ∧ s1 = mkS [(0, .v (.sl [.sl X, .sl Y])), (3, .v (iV ((X.length : Int) + Y.length))), (9, .v (.sl [.sl X, .sl Y])), (10, .v (iV 2)), (11, .v (iV 2))] [] 36 true)) 2
   (s' := mkS [(0, .v (.sl [.sl X, .sl Y])), (3, .v (iV 0)), (9, .v (.sl [.sl X, .sl Y])), (10, .v (iV 2)), (11, .v (iV 0))] [] 36 true) (by exact entA) (.inl ⟨rfl, rfl⟩) ?_
  rintro _ _ (⟨rfl, rfl⟩ | ⟨rfl, rfl⟩ | ⟨rfl, rfl⟩)
  ·refine goA ?_
   refine evG ggA (Zad (Zaa rfl) (Zac rfl) rfl rfl (by decide) n0 rfl) ?_
   refine goA ?_
   rw [a0]
   refine goA ?_
   exact Zae (k := 1) (s' := mkS [(0, .v (.sl [.sl X, .sl Y])), (3, .v (iV X.length)), (9, .v (.sl [.sl X, .sl Y])), (10, .v (iV 2)), (11, .v (iV 1))] [] 36 true) (by omega) (by exact entA) (.inr (.inl ⟨rfl, rfl⟩))
  ·refine goA ?_
   refine evG ggA (Zad (Zaa rfl) (Zac rfl) rfl rfl (by decide) n1 rfl) ?_
   refine goA ?_
   exact Zae (k := 0) (s' := mkS [(0, .v (.sl [.sl X, .sl Y])), (3, .v (iV ((X.length : Int) + Y.length))), (9, .v (.sl [.sl X, .sl Y])), (10, .v (iV 2)), (11, .v (iV 2))] [] 36 true) (by omega) (by exact entA) (.inr (.inr ⟨rfl, rfl⟩))
  ·refine goA ?_
   exact Zag (s' := mkS [(0, .v (.sl [.sl X, .sl Y])), (3, .v (iV ((X.length : Int) + Y.length)))] [] 36 true) (by exact entA) rfl
 rintro _ rfl
 refine T.seq ?_
 refine regA ?_
 refine runA ?_
 refine evM (ms_callO 100 rfl rfl rfl cg rfl ?_)
 refine runA ?_
 refine Za1 ?_
 refine osA ?_
 refine T.seqI (fun s1 => s1 = mkS [(6, .v (.sl (X ++ Y)))] [] 36 true) ?_ ?_
 ·refine r1A ?_
  refine T.block ?_
  refine T.loop (fun N s1 => (N = 2 ∧ s1 = mkS [(6, .own 100 0), (25, .v (.sl [.sl X, .sl Y])), (26, .v (iV 2)), (27, .v (iV 0))] [(100, .lst 7 54 [])] 36 true) ∨ (N = 1 ∧ s1 = mkS [(6, .own 100 X.length), (25, .v (.sl [.sl X, .sl Y])), (26, .v (iV 2)), (27, .v (iV 1))] [(100, .lst 7 54 X)] 36 true) ∨ (N = 0 ∧ s1 = mkS [(6, .own 100 (X.length + Y.length)), (25, .v (.sl [.sl X, .sl Y])), (26, .v (iV 2)), (27, .v (iV 2))] [(100, .lst 7 54 (X ++ Y))] 36 true)) 2
   (s' := mkS [(6, .own 100 0), (25, .v (.sl [.sl X, .sl Y])), (26, .v (iV 2)), (27, .v (iV 0))] [(100, .lst 7 54 [])] 36 true) (by exact entA) (.inl ⟨rfl, rfl⟩) ?_
  rintro _ _ (⟨rfl, rfl⟩ | ⟨rfl, rfl⟩ | ⟨rfl, rfl⟩)
  ·refine goA ?_
   refine evG ggA (Zad (Zaa rfl) (Zac rfl) rfl rfl (by decide) n0 rfl) ?_
   refine goA ?_
   refine evG ggA (Zce (Zaa rfl) (Zak rfl) rfl rfl rfl rfl hcu (by decide) (by unfold maxLen; omega) (by omega) rfl (fun _ => hnu)) ?_
   rw [Nat.zero_add, List.nil_append]
   refine goA ?_
   exact Zae (k := 1) (s' := mkS [(6, .own 100 X.length), (25, .v (.sl [.sl X, .sl Y])), (26, .v (iV 2)), (27, .v (iV 1))] [(100, .lst 7 54 X)] 36 true) (by omega) (by exact entA) (.inr (.inl ⟨rfl, rfl⟩))
  ·refine goA ?_
   refine evG ggA (Zad (Zaa rfl) (Zac rfl) rfl rfl (by decide) n1 rfl) ?_
   refine goA ?_
   refine evG ggA (Zce (Zaa rfl) (Zak rfl) rfl rfl rfl rfl hcv (by decide) (by unfold maxLen; omega) (by omega) rfl (fun _ => hnv)) ?_
   refine goA ?_
   exact Zae (k := 0) (s' := mkS [(6, .own 100 (X.length + Y.length)), (25, .v (.sl [.sl X, .sl Y])), (26, .v (iV 2)), (27, .v (iV 2))] [(100, .lst 7 54 (X ++ Y))] 36 true) (by omega) (by exact entA) (.inr (.inr ⟨rfl, rfl⟩))
  ·refine goA ?_
   exact Zag (s' := mkS [(6, .v (.sl (X ++ Y)))] [] 36 true) (by exact entA) rfl
 rintro _ rfl
 refine goA ?_
 exact rfl
def QE.w (e : QE) : Int := 2 * e.a + 4 * e.b + 6 * e.c
theorem weight_p {e : QE} (h : e.sm) : PC Tryz.prog 81 [e.av] (iV e.w) := by
 obtain ⟨a, b, c, g, d, g', d', q⟩ := e
 obtain ⟨⟨h1, h2⟩, ⟨h3, h4⟩, h5, h6⟩ := h
 simp only at h1 h2 h3 h4 h5 h6
 unfold QE.av QE.w
 simp only []
 refine Zam true Tryz.func81 rfl rfl rfl (Nat.le_of_ble_eq_true rfl) Zao.tmp ?_
 refine goA ?_
 exact rfl
def QE.vt (e : QE) : Prop := 0 ≤ e.a ∧ 0 ≤ e.b ∧ 0 ≤ e.c ∧ e.a ≤ 60 ∧ e.b ≤ 60 ∧ e.c ≤ 60 ∧ e.w ≤ 60
instance (e : QE) : Decidable e.vt := inferInstanceAs (Decidable (_ ∧ _))
theorem QE.vt.sm {e : QE} (h : e.vt) : e.sm := by unfold QE.vt at h; unfold QE.sm; omega
def QV (U : List QE) : Prop := U.length ≤ 400 ∧ ∀ e, e ∈ U → e.vt
instance (U : List QE) : Decidable (QV U) := inferInstanceAs (Decidable (_ ∧ _))
abbrev tvQ (a b c : Int) (g : Bool) (d : List AV) (g' : Bool) (d' : List AV) : Blk := .var [.v (iV a), .v (iV b), .v (iV c), .v (.p (.bool g)), .v (.sl d), .v (.p (.bool g')), .v (.sl d')]
set_option maxHeartbeats 8000000 in
theorem qvalid_p {U : List QE} (hU : U.length ≤ 1000000) : PC Tryz.prog 38 [.sl (U.map QE.av)] (bV (decide (QV U))) := by
 have hl := Zdr U
 by_cases h4 : U.length ≤ 400
 ·have b0 : decide (((U.map QE.av).length : Int) > 400) = false := decide_eq_false (by omega)
  have hres : bV (decide (QV U)) = bV (decide (∀ e, e ∈ U → e.vt)) := by
   unfold QV
   simp only [h4, true_and]
  rw [hres]
  refine Zam true Tryz.func38 rfl rfl rfl (Nat.le_of_ble_eq_true rfl) Zao.tmp ?_
  refine goA ?_
  refine T.loop (fun N s1 => ∃ A B : List QE, U = A ++ B ∧ N = B.length ∧ (∀ e, e ∈ A → e.vt) ∧ s1 = mkS [(0, .v (.sl (U.map QE.av))), (2, .v (bV false)), (8, .v (.sl (U.map QE.av))), (9, .v (iV ((U.map QE.av).length : Nat))), (10, .v (iV A.length))] [] 48 true) U.length
   (s' := mkS [(0, .v (.sl (U.map QE.av))), (2, .v (bV false)), (8, .v (.sl (U.map QE.av))), (9, .v (iV ((U.map QE.av).length : Nat))), (10, .v (iV ((0 : Nat) : Int)))] [] 48 true) (by exact entA) ⟨[], U, rfl, rfl, fun e he => (by cases he), rfl⟩ ?_
  rintro _ _ ⟨A, B, hAB, rfl, hA, rfl⟩
  have hlA : U.length = A.length + B.length := by rw [hAB]; simp
  rcases B with _ | ⟨e, B⟩
  ·have b1 : decide ((A.length : Int) < ((U.map QE.av).length : Nat)) = false := decide_eq_false (by simp at hlA; omega)
   have hall : decide (∀ e, e ∈ U → e.vt) = true := decide_eq_true (by rw [hAB, List.append_nil]; exact hA)
   rw [hall]
   refine goA ?_
   exact rfl
  have b1 : decide ((A.length : Int) < ((U.map QE.av).length : Nat)) = true := decide_eq_true (by simp at hlA; omega)
  have hget : (U.map QE.av)[((A.length : Nat) : Int).toNat]? = some e.av := by rw [hAB]; exact Zc3 (by omega)
  have hbad : ¬ e.vt → decide (∀ e, e ∈ U → e.vt) = false := fun h => decide_eq_false fun k => h (k e (by rw [hAB]; simp))
  have hnext : e.vt → ∃ A' B' : List QE, U = A' ++ B' ∧ B.length = B'.length ∧ (∀ e, e ∈ A' → e.vt) ∧ mkS [(0, .v (.sl (U.map QE.av))), (2, .v (bV false)), (8, .v (.sl (U.map QE.av))), (9, .v (iV ((U.map QE.av).length : Nat))), (10, .v (iV ((A.length : Int) + 1)))] [] 48 true = mkS [(0, .v (.sl (U.map QE.av))), (2, .v (bV false)), (8, .v (.sl (U.map QE.av))), (9, .v (iV ((U.map QE.av).length : Nat))), (10, .v (iV A'.length))] [] 48 true := fun h => ⟨A ++ [e], B, by rw [hAB, List.append_assoc]; rfl, rfl, fun x hx => by
   rcases List.mem_append.1 hx with hx | hx
   ·exact hA x hx
   ·rw [List.mem_singleton.1 hx]; exact h, by rw [List.length_append, List.length_cons, List.length_nil, show ((A.length + (0 + 1) : Nat) : Int) = (A.length : Int) + 1 by omega]⟩
  have hlB : B.length < (e :: B).length := by simp
  clear hAB hA
  by_cases hsm : e.sm
  ·have cw := weight_p hsm
   have hwdef : e.w = 2 * e.a + 4 * e.b + 6 * e.c := rfl
   obtain ⟨w, hw⟩ : ∃ w, w = e.w := ⟨_, rfl⟩
   rw [← hw] at cw hwdef
   have hvt : e.vt ↔ (0 ≤ e.a ∧ 0 ≤ e.b ∧ 0 ≤ e.c ∧ e.a ≤ 60 ∧ e.b ≤ 60 ∧ e.c ≤ 60 ∧ w ≤ 60) := by rw [hw]; exact Iff.rfl
   obtain ⟨a, b, c, g, d, g', d', q⟩ := e
   simp only at hvt hwdef
   have go1 : ∀ {x : Bool}, x = true ∨ x = false := fun {x} => by cases x <;> simp
   by_cases k1 : a < 0
   ·have b2 : decide (a < 0) = true := decide_eq_true k1
    rw [hbad (by rw [hvt]; omega)]
    refine goA ?_
    refine evG ggA (Zad (Zaa rfl) (Zac rfl) rfl rfl (by omega) hget rfl) ?_
    refine goA ?_
    exact rfl
   have b2 : decide (a < 0) = false := decide_eq_false k1
   by_cases k2 : b < 0
   ·have b3 : decide (b < 0) = true := decide_eq_true k2
    rw [hbad (by rw [hvt]; omega)]
    refine goA ?_
    refine evG ggA (Zad (Zaa rfl) (Zac rfl) rfl rfl (by omega) hget rfl) ?_
    refine goA ?_
    exact rfl
   have b3 : decide (b < 0) = false := decide_eq_false k2
   by_cases k3 : c < 0
   ·have b4 : decide (c < 0) = true := decide_eq_true k3
    rw [hbad (by rw [hvt]; omega)]
    refine goA ?_
    refine evG ggA (Zad (Zaa rfl) (Zac rfl) rfl rfl (by omega) hget rfl) ?_
    refine goA ?_
    exact rfl
   have b4 : decide (c < 0) = false := decide_eq_false k3
   by_cases k4 : a > 60
   ·have b5 : decide (a > 60) = true := decide_eq_true k4
    rw [hbad (by rw [hvt]; omega)]
    refine goA ?_
    refine evG ggA (Zad (Zaa rfl) (Zac rfl) rfl rfl (by omega) hget rfl) ?_
    refine goA ?_
    exact rfl
   have b5 : decide (a > 60) = false := decide_eq_false k4
   by_cases k5 : b > 60
   ·have b6 : decide (b > 60) = true := decide_eq_true k5
    rw [hbad (by rw [hvt]; omega)]
    refine goA ?_
    refine evG ggA (Zad (Zaa rfl) (Zac rfl) rfl rfl (by omega) hget rfl) ?_
    refine goA ?_
    exact rfl
   have b6 : decide (b > 60) = false := decide_eq_false k5
   by_cases k6 : c > 60
   ·have b7 : decide (c > 60) = true := decide_eq_true k6
    rw [hbad (by rw [hvt]; omega)]
    refine goA ?_
    refine evG ggA (Zad (Zaa rfl) (Zac rfl) rfl rfl (by omega) hget rfl) ?_
    refine goA ?_
    exact rfl
   have b7 : decide (c > 60) = false := decide_eq_false k6
   by_cases k7 : w > 60
   ·have b8 : decide (w > 60) = true := decide_eq_true k7
    rw [hbad (by rw [hvt]; omega)]
    refine goA ?_
    refine evG ggA (Zad (Zaa rfl) (Zac rfl) rfl rfl (by omega) hget rfl) ?_
    refine goA ?_
    refine evG ggA (Zab (Zaa rfl) rfl rfl cw) ?_
    refine goA ?_
    exact rfl
   have b8 : decide (w > 60) = false := decide_eq_false k7
   have hn := hnext (hvt.2 (by omega))
   refine goA ?_
   refine evG ggA (Zad (Zaa rfl) (Zac rfl) rfl rfl (by omega) hget rfl) ?_
   refine goA ?_
   refine evG ggA (Zab (Zaa rfl) rfl rfl cw) ?_
   refine goA ?_
   exact Zae (k := B.length) (s' := mkS [(0, .v (.sl (U.map QE.av))), (2, .v (bV false)), (8, .v (.sl (U.map QE.av))), (9, .v (iV ((U.map QE.av).length : Nat))), (10, .v (iV ((A.length : Int) + 1)))] [] 48 true) hlB (by exact entA) hn
  ·have hnv : ¬ e.vt := fun h => hsm h.sm
   rw [hbad hnv]
   obtain ⟨a, b, c, g, d, g', d', q⟩ := e
   unfold QE.sm at hsm
   simp only at hsm
   by_cases k1 : a < 0
   ·have b2 : decide (a < 0) = true := decide_eq_true k1
    refine goA ?_
    refine evG ggA (Zad (Zaa rfl) (Zac rfl) rfl rfl (by omega) hget rfl) ?_
    refine goA ?_
    exact rfl
   have b2 : decide (a < 0) = false := decide_eq_false k1
   by_cases k2 : b < 0
   ·have b3 : decide (b < 0) = true := decide_eq_true k2
    refine goA ?_
    refine evG ggA (Zad (Zaa rfl) (Zac rfl) rfl rfl (by omega) hget rfl) ?_
    refine goA ?_
    exact rfl
   have b3 : decide (b < 0) = false := decide_eq_false k2
   by_cases k3 : c < 0
   ·have b4 : decide (c < 0) = true := decide_eq_true k3
    refine goA ?_
    refine evG ggA (Zad (Zaa rfl) (Zac rfl) rfl rfl (by omega) hget rfl) ?_
    refine goA ?_
    exact rfl
   have b4 : decide (c < 0) = false := decide_eq_false k3
   by_cases k4 : a > 60
   ·have b5 : decide (a > 60) = true := decide_eq_true k4
    refine goA ?_
    refine evG ggA (Zad (Zaa rfl) (Zac rfl) rfl rfl (by omega) hget rfl) ?_
    refine goA ?_
    exact rfl
   have b5 : decide (a > 60) = false := decide_eq_false k4
   by_cases k5 : b > 60
   ·have b6 : decide (b > 60) = true := decide_eq_true k5
    refine goA ?_
    refine evG ggA (Zad (Zaa rfl) (Zac rfl) rfl rfl (by omega) hget rfl) ?_
    refine goA ?_
    exact rfl
   have b6 : decide (b > 60) = false := decide_eq_false k5
   have b7 : decide (c > 60) = true := decide_eq_true (by omega)
   refine goA ?_
   refine evG ggA (Zad (Zaa rfl) (Zac rfl) rfl rfl (by omega) hget rfl) ?_
   refine goA ?_
   exact rfl
 ·have b0 : decide (((U.map QE.av).length : Int) > 400) = true := decide_eq_true (by omega)
  have hres : decide (QV U) = false := decide_eq_false fun h => h4 h.1
  rw [hres]
  refine Zam true Tryz.func38 rfl rfl rfl (Nat.le_of_ble_eq_true rfl) Zao.tmp ?_
  refine goA ?_
  exact rfl
end Ab
namespace Ab
open Go Go.RowKit Go.Proofs Hp
set_option maxRecDepth 100000
theorem Zgr {dm : Bool} {P : Program} {ops : Array Oper} {s : AS} {dst : Option Tmp} {ty : TypeId} {pos : String} {after : Array Edge} {g : Option (Nat × Bool)} {t e : TypeId} {n bytes : Nat} {z : List Value} {y x : Operand} {id m : Nat} {es : List AV} {a : AV} (hin : InB s dst) (ht : Zdl P t e n bytes z) (hy : s.ev y = some (.own id m)) (hm : s.m id = some (.lst n e es)) (hlen : es.length = m) (hx : s.ev x = some (.v (.sl [a])))
  (hn : a.cells.length = n) (hn0 : 0 < n) (hnu : a.cells.all AV.nu = true) (h63 : m + 1 ≤ 1000000) (hby : bytes ≤ 128) (hz : z.all nuV = true) :
  Zbe dm P ops ⟨dst, .call ⟨.builtin .append, #[y, x], #[t, t]⟩, ty, pos, after, g⟩ s (.own id (m + 1)) (.set id (.lst n e (es ++ [a]))) :=
 Zce (xs := [a]) hin ht hy hm hlen hx (fun b hb => by simp at hb; subst hb; exact hn) hn0 (by simp [maxLen]; omega) (by simp; have := Nat.mul_le_mul_left (m + 1) hby; omega) (by simp [hz]) (fun _ b hb c hc => by simp at hb; subst hb; exact List.all_eq_true.1 hnu c hc)
def qfi (t : QT) : List QT := if t.q = 0 then [] else [t]
theorem qgr_nil (t : QT) : qgr t [] = qfi t ++ qtd [] := by rw [qgr]; unfold qfi; split <;> rfl
theorem qgr_ne {t u : QT} {l : List QT} (h : u.k ≠ t.k) : qgr t (u :: l) = qfi t ++ qtd (u :: l) := by rw [qgr, if_neg h]; rfl
abbrev tvT (t : QT) : Blk := tvQ t.a t.b t.c (decide (t.q.num < 0)) ((dgs t.q.num.natAbs).map u32) (decide ((t.q.den : Int) < 0)) ((dgs (t.q.den : Int).natAbs).map u32)
abbrev PL (l : List QT) : List AV := (l.map qe).map QE.av
theorem Zft (l : List QT) : (PL l).length = l.length := by unfold PL; rw [List.length_map, List.length_map]
theorem PL_snoc (l : List QT) (t : QT) : PL l ++ [(qe t).av] = PL (l ++ [t]) := by unfold PL; rw [List.map_append, List.map_append]; rfl
set_option maxHeartbeats 16000000 in
theorem tidy_p' {N : Nat} (hS : SortOK N) {U : List QE} {K : Nat} (hU : U.length ≤ N) (hN : N ≤ 100000) (hs : ∀ e, e ∈ U → e.sm) (hok : ∀ e, e ∈ U → e.ok K) (hK : 1 ≤ K) (hH : N * (K + 1) + K ≤ 1000000000) :
  PC Tryz.prog 29 [.sl (U.map QE.av)] (encP (qnf (U.map QE.t))) := by
 obtain ⟨W, hW, hWp, csort⟩ := hS U hU hs
 have hR : qtd (W.map QE.t) = qnf (U.map QE.t) := qtd_eq (List.pairwise_map.2 hW) (hWp.map _)
 obtain ⟨R, hRd⟩ : ∃ R, R = qtd (W.map QE.t) := ⟨_, rfl⟩
 rw [← hR, ← hRd]
 have hWl : W.length = U.length := hWp.length_eq
 have hWs : ∀ e, e ∈ W → e.sm := fun e he => hs e (hWp.mem_iff.1 he)
 have hWo : ∀ e, e ∈ W → e.ok K := fun e he => hok e (hWp.mem_iff.1 he)
 have hul := Zdr U
 have hwl := Zdr W
 have hwl2 : (W.map QE.av).length = U.length := hwl.trans hWl
 have hWN : W.length ≤ N := by omega
 have ccl := clone_p U (by omega)
 have hcast : ((U.map QE.av).length : Nat) = U.length := hul
 clear hs hok hR hWp hW
 refine Zam true Tryz.func29 rfl rfl rfl (Nat.le_of_ble_eq_true rfl) Zao.tmp ?_
 refine goA ?_
 refine evM (ms_callO 30 rfl rfl rfl ccl rfl ?_)
 rw [hcast]
 refine goA ?_
 refine evM (Zbs [(0, 30)] csort rfl rfl rfl rfl rfl rfl ⟨rfl, trivial⟩ ⟨.inl rfl, trivial⟩ ?_)
 refine runA ?_
 refine Za1 ?_
 refine osA ?_
 refine T.weak (s' := mkS [(2, .v (.p nilV)), (3, .v (.sl (W.map QE.av)))] [] 58 true) (by exact entA) ?_
 clear csort ccl hwl2
 refine T.seq ?_
 refine regA ?_
 refine runA ?_
 refine Za1 ?_
 refine Zbx ?_
 obtain ⟨X, hX⟩ : ∃ X, X = W.map QE.av := ⟨_, rfl⟩
 rw [← hX] at hwl ⊢
 refine T.seqI (fun s1 => s1 = mkS [(4, .v (.sl (PL R)))] [] 58 true) ?_ ?_
 ·refine r1A ?_
  refine T.block ?_
  refine T.loop (fun M s1 => ∃ (A B : List QE) (out : List QT) (i : Int), W = A ++ B ∧ M = B.length ∧ i = A.length ∧ out ++ qtd (B.map QE.t) = R ∧ out.length ≤ A.length ∧ s1 = mkS [(3, .v (.sl X)), (4, .own 100 out.length), (5, .v (iV i))] [(100, .lst 7 54 (PL out))] 58 true) W.length
   (s' := mkS [(3, .v (.sl X)), (4, .own 100 0), (5, .v (iV 0))] [(100, .lst 7 54 [])] 58 true) (by exact entA) ⟨[], W, [], 0, rfl, rfl, rfl, hRd.symm, Nat.le_refl _, rfl⟩ ?_
  rintro _ _ ⟨A, B, out, i, hAB, rfl, hi, hout, hol, rfl⟩
  have hlA : W.length = A.length + B.length := by rw [hAB]; simp
  have hpo := Zft out
  rcases B with _ | ⟨e, B⟩
  ·have b1 : decide (i < (X.length : Int)) = false := decide_eq_false (by simp at hlA; omega)
   have hout : out = R := by simpa [qtd] using hout
   subst hout
   refine goA ?_
   exact Zag (s' := mkS [(4, .v (.sl (PL out)))] [] 58 true) (by exact entA) rfl
  have b1 : decide (i < (X.length : Int)) = true := decide_eq_true (by simp at hlA; omega)
  have hget : X[i.toNat]? = some e.av := by rw [hX, hAB]; exact Zc3 (by omega)
  have hes : e.sm := hWs e (by rw [hAB]; simp)
  have heo : e.ok K := hWo e (by rw [hAB]; simp)
  have hel : e.r = e.r := rfl
  have c1 := Zef heo (by omega)
  have hq0 : Ht e.q K := Zem heo hK
  simp only [List.length_cons] at hlA
  have hout0 : out ++ qgr ⟨e.a, e.b, e.c, e.q⟩ (B.map QE.t) = R := hout
  obtain ⟨ea, eb, ec, g, d, g', d', eq⟩ := e
  unfold QE.r at c1
  simp only at c1 hq0 hout0
  refine goA ?_
  refine evG ggA (Zad (Zaa rfl) (Zac rfl) rfl rfl (by omega) hget rfl) ?_
  refine goA ?_
  refine evG ggA (Zab (Zaa rfl) rfl rfl c1) ?_
  refine goA ?_
  refine T.loop (fun M s1 => ∃ (C D : List QE) (q : Rat) (j : Int), B = C ++ D ∧ M = D.length ∧ j = (A.length : Int) + 1 + C.length ∧ Ht q (C.length * (K + 1) + K) ∧ out ++ qgr ⟨ea, eb, ec, q⟩ (D.map QE.t) = R ∧ s1 = mkS [(3, .v (.sl X)), (4, .own 100 out.length), (5, .v (iV j)), (6, .ptr 6 0)] [(6, tvT ⟨ea, eb, ec, q⟩), (100, .lst 7 54 (PL out))] 58 true) B.length
   (s' := mkS [(3, .v (.sl X)), (4, .own 100 out.length), (5, .v (iV (i + 1))), (6, .ptr 6 0)] [(6, tvT ⟨ea, eb, ec, eq⟩), (100, .lst 7 54 (PL out))] 58 true) (by exact entA) ⟨[], B, eq, i + 1, rfl, rfl, by simp; omega, by simpa using hq0, hout0, rfl⟩ ?_
  clear hq0 hout0 hout c1 hget heo hel
  rintro _ _ ⟨C, D, q, j, hCD, rfl, hj, hq, hout, rfl⟩
  have hlB : B.length = C.length + D.length := by rw [hCD]; simp
  have hKq : C.length * (K + 1) + K ≤ N * (K + 1) + K := Nat.add_le_add_right (Nat.mul_le_mul_right _ (by omega)) _
  -- the group ends
  have fin : ∀ {sg : Int}, (sg = 0 ↔ q = 0) → out ++ (qfi ⟨ea, eb, ec, q⟩ ++ qtd (D.map QE.t)) = R →
    PC Tryz.prog 57 [encQ q] (iV sg) → ∃ (A' : List QE) (out' : List QT), W = A' ++ D ∧ j = A'.length ∧ out' ++ qtd (D.map QE.t) = R ∧ out'.length ≤ A'.length ∧ ((q = 0 ∧ out' = out) ∨ (q ≠ 0 ∧ out' = out ++ [⟨ea, eb, ec, q⟩])) := fun hsg h _ => by
   refine ⟨A ++ ⟨ea, eb, ec, g, d, g', d', eq⟩ :: C, out ++ qfi ⟨ea, eb, ec, q⟩, by rw [hAB, hCD]; simp, by simp; omega, by rw [List.append_assoc]; exact h, ?_, ?_⟩
   ·unfold qfi
    split <;> simp <;> omega
   ·unfold qfi
    by_cases h0 : q = 0
    ·exact .inl ⟨h0, by simp [h0]⟩
    ·exact .inr ⟨h0, by simp [h0]⟩
  obtain ⟨sg, -, -, s0, c2⟩ := Zd4 (Zap hq) (by omega)
  have hDl : D.length < B.length + 1 := by omega
  have ed : out ++ (qfi ⟨ea, eb, ec, q⟩ ++ qtd (D.map QE.t)) = R → ∀ x, D = x → decide (j < (X.length : Int)) = false ∨ True := fun _ _ _ => .inr trivial
  clear ed
  rcases D with _ | ⟨f, D⟩
  ·have b2 : decide (j < (X.length : Int)) = false := decide_eq_false (by simp at hlB; omega)
   rw [List.map_nil, qgr_nil] at hout
   obtain ⟨A', out', h1, h2, h3, h4, h5⟩ := fin s0 hout c2
   rcases h5 with ⟨h5, rfl⟩ | ⟨h5, h6⟩
   ·have b3 : (sg != 0) = false := by simp [s0.2 h5]
    refine goA ?_
    refine evG ggA (Zab (Zaa rfl) rfl rfl c2) ?_
    refine goA ?_
    exact Zae (k := 0) (s' := mkS [(3, .v (.sl X)), (4, .own 100 out'.length), (5, .v (iV j))] [(100, .lst 7 54 (PL out'))] 58 true) (by simp) (by exact entA) ⟨A', [], out', j, h1, rfl, h2, h3, h4, rfl⟩
   ·have b3 : (sg != 0) = true := by simp; exact fun e => h5 (s0.1 e)
    refine goA ?_
    refine evG ggA (Zab (Zaa rfl) rfl rfl c2) ?_
    refine goA ?_
    refine evG ggA (Za3 (Zaa rfl) (Zak rfl) rfl rfl rfl rfl (Zca rfl) (Nat.le_of_ble_eq_true rfl)) ?_
    refine evG ggA (Zgr (a := (qe ⟨ea, eb, ec, q⟩).av) (Zaa rfl) (Zak rfl) rfl rfl hpo rfl rfl (by decide) rfl (by omega) (Nat.le_of_ble_eq_true rfl) rfl) ?_
    rw [PL_snoc]
    refine goA ?_
    subst h6
    exact Zae (k := 0) (s' := mkS [(3, .v (.sl X)), (4, .own 100 (out.length + 1)), (5, .v (iV j))] [(100, .lst 7 54 (PL (out ++ [⟨ea, eb, ec, q⟩])))] 58 true) (by simp) (by exact entA) ⟨A', [], out ++ [⟨ea, eb, ec, q⟩], j, h1, rfl, h2, h3, h4, by simp⟩
  have b2 : decide (j < (X.length : Int)) = true := decide_eq_true (by simp at hlB; omega)
  have hgf : X[j.toNat]? = some f.av := by
   rw [hX, hAB, hCD, show A ++ (⟨ea, eb, ec, g, d, g', d', eq⟩ :: (C ++ f :: D)) = (A ++ ⟨ea, eb, ec, g, d, g', d', eq⟩ :: C) ++ f :: D by simp]
   exact Zc3 (by simp; omega)
  have hfs : f.sm := hWs f (by rw [hAB, hCD]; simp)
  have hfo : f.ok K := hWo f (by rw [hAB, hCD]; simp)
  have c3 := order_p (x := f) (y := qe ⟨ea, eb, ec, q⟩) hfs hes
  have hord := ordR_0 f (qe ⟨ea, eb, ec, q⟩)
  simp only [List.length_cons] at hlB
  by_cases hk : f.k = (ea, eb, ec)
  ·have b3 : (ordR f (qe ⟨ea, eb, ec, q⟩) == 0) = true := by rw [beq_iff_eq]; exact hord.2 hk
   have c4 := radd_p (Zap hq) (by omega) hfo (by omega)
   have hq2 : Ht (q + f.q) ((C ++ [f]).length * (K + 1) + K) := by
    refine (Ze2 hq (Zem hfo hK)).mono ?_
    rw [List.length_append, List.length_cons, List.length_nil, Nat.add_mul]
    omega
   have hout2 : out ++ qgr ⟨ea, eb, ec, q + f.q⟩ (D.map QE.t) = R := by
    rw [List.map_cons, qgr, if_pos (show f.t.k = QT.k ⟨ea, eb, ec, q⟩ from hk)] at hout
    exact hout
   have hCD2 : B = (C ++ [f]) ++ D := by rw [hCD]; simp
   generalize ordR f (qe ⟨ea, eb, ec, q⟩) = o at *
   obtain ⟨fa, fb, fc, fg, fd, fg', fd', fq⟩ := f
   unfold QE.r at c4
   simp only at c4 hq2 hout2
   refine goA ?_
   refine evG ggA (Zad (Zaa rfl) (Zac rfl) rfl rfl (by omega) hgf rfl) ?_
   refine goA ?_
   refine evG ggA (Zab (Zaa rfl) rfl rfl c3) ?_
   refine goA ?_
   refine evG ggA (Zad (Zaa rfl) (Zac rfl) rfl rfl (by omega) hgf rfl) ?_
   refine goA ?_
   refine evG ggA (Zab (Zaa rfl) rfl rfl c4) ?_
   refine goA ?_
   exact Zae (k := D.length) (s' := mkS [(3, .v (.sl X)), (4, .own 100 out.length), (5, .v (iV (j + 1))), (6, .ptr 6 0)] [(6, tvT ⟨ea, eb, ec, q + fq⟩), (100, .lst 7 54 (PL out))] 58 true) (by simp) (by exact entA) ⟨C ++ [⟨fa, fb, fc, fg, fd, fg', fd', fq⟩], D, q + fq, j + 1, hCD2, rfl, by simp; omega, hq2, hout2, rfl⟩
  ·have b3 : (ordR f (qe ⟨ea, eb, ec, q⟩) == 0) = false := by rw [beq_eq_false_iff_ne]; exact fun e => hk (hord.1 e)
   rw [List.map_cons, qgr_ne (show f.t.k ≠ QT.k ⟨ea, eb, ec, q⟩ from hk), ← List.map_cons] at hout
   obtain ⟨A', out', h1, h2, h3, h4, h5⟩ := fin s0 hout c2
   generalize ordR f (qe ⟨ea, eb, ec, q⟩) = o at *
   obtain ⟨fa, fb, fc, fg, fd, fg', fd', fq⟩ := f
   rcases h5 with ⟨h5, rfl⟩ | ⟨h5, h6⟩
   ·have b4 : (sg != 0) = false := by simp [s0.2 h5]
    refine goA ?_
    refine evG ggA (Zad (Zaa rfl) (Zac rfl) rfl rfl (by omega) hgf rfl) ?_
    refine goA ?_
    refine evG ggA (Zab (Zaa rfl) rfl rfl c3) ?_
    refine goA ?_
    refine evG ggA (Zab (Zaa rfl) rfl rfl c2) ?_
    refine goA ?_
    exact Zae (k := D.length + 1) (s' := mkS [(3, .v (.sl X)), (4, .own 100 out'.length), (5, .v (iV j))] [(100, .lst 7 54 (PL out'))] 58 true) (by simp at hlB ⊢; omega) (by exact entA) ⟨A', _, out', j, h1, by simp, h2, h3, h4, rfl⟩
   ·have b4 : (sg != 0) = true := by simp; exact fun e => h5 (s0.1 e)
    refine goA ?_
    refine evG ggA (Zad (Zaa rfl) (Zac rfl) rfl rfl (by omega) hgf rfl) ?_
    refine goA ?_
    refine evG ggA (Zab (Zaa rfl) rfl rfl c3) ?_
    refine goA ?_
    refine evG ggA (Zab (Zaa rfl) rfl rfl c2) ?_
    refine goA ?_
    refine evG ggA (Za3 (Zaa rfl) (Zak rfl) rfl rfl rfl rfl (Zca rfl) (Nat.le_of_ble_eq_true rfl)) ?_
    refine evG ggA (Zgr (a := (qe ⟨ea, eb, ec, q⟩).av) (Zaa rfl) (Zak rfl) rfl rfl hpo rfl rfl (by decide) rfl (by omega) (Nat.le_of_ble_eq_true rfl) rfl) ?_
    rw [PL_snoc]
    refine goA ?_
    subst h6
    exact Zae (k := D.length + 1) (s' := mkS [(3, .v (.sl X)), (4, .own 100 (out.length + 1)), (5, .v (iV j))] [(100, .lst 7 54 (PL (out ++ [⟨ea, eb, ec, q⟩])))] 58 true) (by simp at hlB ⊢; omega) (by exact entA) ⟨A', _, out ++ [⟨ea, eb, ec, q⟩], j, h1, by simp, h2, h3, h4, by simp⟩
 rintro _ rfl
 refine goA ?_
 exact rfl
end Ab
namespace Ab
open Go Go.RowKit Go.Proofs Hp
set_option maxRecDepth 100000
def topQ (U : List QE) : Int := U.foldl (fun m e => max m e.w) 0
def purQ : List QE → Bool
 | [] => true
 | e :: U => decide (∀ f, f ∈ e :: U → f.w = e.w)
theorem qtop_p {U : List QE} (hU : U.length ≤ 1000000) (hs : ∀ e, e ∈ U → e.sm) : PC Tryz.prog 82 [.sl (U.map QE.av)] (iV (topQ U)) := by
 have hl := Zdr U
 obtain ⟨X, hX⟩ : ∃ X, X = U.map QE.av := ⟨_, rfl⟩
 rw [← hX] at hl ⊢
 refine Zam true Tryz.func82 rfl rfl rfl (Nat.le_of_ble_eq_true rfl) Zao.tmp ?_
 refine r1A ?_
 refine r1A ?_
 refine T.seqI (fun s1 => s1 = mkS [(3, .v (iV (topQ U)))] [] 18 true) ?_ ?_
 ·refine r1A ?_
  refine T.block ?_
  refine T.loop (fun N s1 => ∃ A B : List QE, U = A ++ B ∧ N = B.length ∧ s1 = mkS [(3, .v (iV (topQ A))), (6, .v (.sl X)), (7, .v (iV (X.length : Nat))), (8, .v (iV A.length))] [] 18 true) U.length
   (s' := mkS [(3, .v (iV 0)), (6, .v (.sl X)), (7, .v (iV (X.length : Nat))), (8, .v (iV ((0 : Nat) : Int)))] [] 18 true) (by exact entA) ⟨[], U, rfl, rfl, rfl⟩ ?_
  rintro _ _ ⟨A, B, hAB, rfl, rfl⟩
  have hlA : U.length = A.length + B.length := by rw [hAB]; simp
  rcases B with _ | ⟨e, B⟩
  ·have b1 : decide ((A.length : Int) < (X.length : Nat)) = false := decide_eq_false (by simp at hlA; omega)
   rw [List.append_nil] at hAB
   subst hAB
   refine goA ?_
   exact Zag (s' := mkS [(3, .v (iV (topQ U)))] [] 18 true) (by exact entA) rfl
  have b1 : decide ((A.length : Int) < (X.length : Nat)) = true := decide_eq_true (by simp at hlA; omega)
  have hget : X[((A.length : Nat) : Int).toNat]? = some e.av := by rw [hX, hAB]; exact Zc3 (by omega)
  have cw := weight_p (hs e (by rw [hAB]; simp))
  have ht : max (topQ A) e.w = topQ (A ++ [e]) := by unfold topQ; rw [List.foldl_append]; rfl
  have hnx : ((A.length : Nat) : Int) + 1 = ((A ++ [e]).length : Nat) := by simp
  have hAB2 : U = (A ++ [e]) ++ B := by rw [hAB]; simp
  have hlB : B.length < (e :: B).length := by simp
  clear hAB
  generalize e.w = w at *
  obtain ⟨a, b, c, g, d, g', d', q⟩ := e
  simp only [List.length_cons] at hlA
  refine goA ?_
  refine evG ggA (Zad (Zaa rfl) (Zac rfl) rfl rfl (by omega) hget rfl) ?_
  refine goA ?_
  refine evG ggA (Zab (Zaa rfl) rfl rfl cw) ?_
  refine goA ?_
  rw [ht]
  refine goA ?_
  rw [hnx]
  exact Zae (k := B.length) (s' := mkS [(3, .v (iV (topQ (A ++ [⟨a, b, c, g, d, g', d', q⟩])))), (6, .v (.sl X)), (7, .v (iV (X.length : Nat))), (8, .v (iV ((A ++ [(⟨a, b, c, g, d, g', d', q⟩ : QE)]).length : Nat)))] [] 18 true) hlB (by exact entA) ⟨A ++ [⟨a, b, c, g, d, g', d', q⟩], B, hAB2, rfl, rfl⟩
 rintro _ rfl
 refine goA ?_
 exact rfl
set_option maxHeartbeats 8000000 in
theorem qpure_p {U : List QE} (hU : U.length ≤ 1000000) (hs : ∀ e, e ∈ U → e.sm) : PC Tryz.prog 39 [.sl (U.map QE.av)] (.tup [iV (if purQ U then topQ U else 0), bV (purQ U)]) := by
  have hl := Zdr U
  have ct := qtop_p hU hs
  obtain ⟨X, hX⟩ : ∃ X, X = U.map QE.av := ⟨_, rfl⟩
  rw [← hX] at hl ct ⊢
  refine Zas true Tryz.func39 rfl rfl rfl (Nat.le_of_ble_eq_true rfl) Zao.tmp Zao.tmp ?_
  refine goA ?_
  refine T.loop (fun N s1 => ∃ A B : List QE, U = A ++ B ∧ N = B.length ∧ (∀ f, f ∈ A → ∀ e, U[0]? = some e → f.w = e.w) ∧ s1 = mkS [(0, .v (.sl X)), (2, .v (iV 0)), (3, .v (bV false)), (6, .v (.sl X)), (7, .v (iV (X.length : Nat))), (8, .v (iV A.length))] [] 22 true) U.length
    (s' := mkS [(0, .v (.sl X)), (2, .v (iV 0)), (3, .v (bV false)), (6, .v (.sl X)), (7, .v (iV (X.length : Nat))), (8, .v (iV ((0 : Nat) : Int)))] [] 22 true) (by exact entA) ⟨[], U, rfl, rfl, fun f hf => (by cases hf), rfl⟩ ?_
  rintro _ _ ⟨A, B, hAB, rfl, hA, rfl⟩
  have hlA : U.length = A.length + B.length := by rw [hAB]; simp
  rcases B with _ | ⟨e, B⟩
  · have b1 : decide ((A.length : Int) < (X.length : Nat)) = false := decide_eq_false (by simp at hlA; omega)
    rw [List.append_nil] at hAB
    subst hAB
    have hp : purQ U = true := by
      cases U with
      | nil => rfl
      | cons z U => exact decide_eq_true fun f hf => hA f hf z rfl
    rw [hp, if_pos rfl]
    refine goA ?_
    refine evG ggA (Zab (Zaa rfl) rfl rfl ct) ?_
    refine goA ?_
    exact rfl
  have b1 : decide ((A.length : Int) < (X.length : Nat)) = true := decide_eq_true (by simp at hlA; omega)
  have hget : X[((A.length : Nat) : Int).toNat]? = some e.av := by rw [hX, hAB]; exact Zc3 (by omega)
  obtain ⟨z, hz⟩ : ∃ z, U[0]? = some z := ⟨U[0]'(by simp at hlA; omega), List.getElem?_eq_getElem _⟩
  have hget0 : X[(0 : Int).toNat]? = some z.av := by rw [hX]; show (U.map QE.av)[0]? = _; rw [List.getElem?_map, hz]; rfl
  have cw := weight_p (hs e (by rw [hAB]; simp))
  have cz := weight_p (hs z (List.mem_of_getElem? hz))
  have hnx : ((A.length : Nat) : Int) + 1 = ((A ++ [e]).length : Nat) := by simp
  have hAB2 : U = (A ++ [e]) ++ B := by rw [hAB]; simp
  have hlB : B.length < (e :: B).length := by simp
  simp only [List.length_cons] at hlA
  by_cases hw : e.w = z.w
  · have b2 : (e.w != z.w) = false := by simp [hw]
    have hA2 : ∀ f, f ∈ A ++ [e] → ∀ x, U[0]? = some x → f.w = x.w := fun f hf x hx => by
      rcases List.mem_append.1 hf with hf | hf
      · exact hA f hf x hx
      · rw [List.mem_singleton.1 hf]
        rw [hz] at hx
        injection hx with hx
        rw [← hx]; exact hw
    clear hAB hA hw
    generalize e.w = w at *
    generalize z.w = v at *
    obtain ⟨a, b, c, g, d, g', d', q⟩ := e
    obtain ⟨za, zb, zc, zg, zd, zg', zd', zq⟩ := z
    refine goA ?_
    refine evG ggA (Zad (Zaa rfl) (Zac rfl) rfl rfl (by omega) hget rfl) ?_
    refine goA ?_
    refine evG ggA (Zab (Zaa rfl) rfl rfl cw) ?_
    refine goA ?_
    refine evG ggA (Zad (Zaa rfl) (Zac rfl) rfl rfl (by omega) hget0 rfl) ?_
    refine goA ?_
    refine evG ggA (Zab (Zaa rfl) rfl rfl cz) ?_
    refine goA ?_
    rw [hnx]
    exact Zae (k := B.length) (s' := mkS [(0, .v (.sl X)), (2, .v (iV 0)), (3, .v (bV false)), (6, .v (.sl X)), (7, .v (iV (X.length : Nat))), (8, .v (iV ((A ++ [(⟨a, b, c, g, d, g', d', q⟩ : QE)]).length : Nat)))] [] 22 true) hlB (by exact entA) ⟨A ++ [⟨a, b, c, g, d, g', d', q⟩], B, hAB2, rfl, hA2, rfl⟩
  · have b2 : (e.w != z.w) = true := by simp [hw]
    have hp : purQ U = false := by
      cases U with
      | nil => simp at hz
      | cons y U =>
        have : y = z := by simpa using hz
        subst this
        exact decide_eq_false fun h => hw (h e (by rw [hAB]; simp))
    rw [hp, if_neg (by decide)]
    clear hAB hA hAB2 hw
    generalize e.w = w at *
    generalize z.w = v at *
    obtain ⟨a, b, c, g, d, g', d', q⟩ := e
    obtain ⟨za, zb, zc, zg, zd, zg', zd', zq⟩ := z
    refine goA ?_
    refine evG ggA (Zad (Zaa rfl) (Zac rfl) rfl rfl (by omega) hget rfl) ?_
    refine goA ?_
    refine evG ggA (Zab (Zaa rfl) rfl rfl cw) ?_
    refine goA ?_
    refine evG ggA (Zad (Zaa rfl) (Zac rfl) rfl rfl (by omega) hget0 rfl) ?_
    refine goA ?_
    refine evG ggA (Zab (Zaa rfl) rfl rfl cz) ?_
    refine goA ?_
    exact rfl
theorem qfrac_p {n d : Int} (hn : n.natAbs < 4294967296) (hd : d.natAbs < 4294967296) (h0 : d ≠ 0) : PC Tryz.prog 45 [iV n, iV d] (encQ ((n : Rat) / (d : Rat))) := by
 have c1 := Zee n (by omega) (by omega)
 have c2 := Zee d (by omega) (by omega)
 have c3 := rquo_p (Zap (Zd0 hn)) (by decide) (Zap (Zd0 hd)) (by decide) (fun e => h0 (by exact_mod_cast e))
 generalize (n : Rat) / (d : Rat) = q at *
 refine Zam true Tryz.func45 rfl rfl rfl (Nat.le_of_ble_eq_true rfl) (Zao.agg Zdh) ?_
 refine goA ?_
 refine evG ggA (Zab (Zaa rfl) rfl rfl c1) ?_
 refine goA ?_
 refine evG ggA (Zab (Zaa rfl) rfl rfl c2) ?_
 refine evG ggA (Zab (Zaa rfl) rfl rfl c3) ?_
 refine goA ?_
 exact rfl
def QT.tn (t : QT) : Prop := (-10000 ≤ t.a ∧ t.a ≤ 10000) ∧ (-10000 ≤ t.b ∧ t.b ≤ 10000) ∧ -10000 ≤ t.c ∧ t.c ≤ 10000
theorem QT.tn.sm {t : QT} (h : t.tn) : (qe t).sm := by
 unfold QT.tn at h
 show (-1000000 ≤ t.a ∧ t.a ≤ 1000000) ∧ (-1000000 ≤ t.b ∧ t.b ≤ 1000000) ∧ -1000000 ≤ t.c ∧ t.c ≤ 1000000
 omega
theorem Zge {N : Nat} (hS : SortOK N) {L : List QT} {K : Nat} (hL : L.length ≤ N) (hN : N ≤ 100000) (hs : ∀ t, t ∈ L → (qe t).sm) (hh : ∀ t, t ∈ L → Ht t.q K) (hK : 1 ≤ K) (hH : N * (K + 1) + K ≤ 1000000000) : PC Tryz.prog 29 [.sl (PL L)] (encP (qnf L)) := by
 have h := tidy_p' hS (U := L.map qe) (K := K) (by simpa using hL) hN (fun e he => by obtain ⟨t, ht, rfl⟩ := List.mem_map.1 he; exact hs t ht) (fun e he => by obtain ⟨t, ht, rfl⟩ := List.mem_map.1 he; exact qe_ok (hh t ht)) hK hH
 rw [qe_map] at h
 exact h
def qpr (s t : QT) : QT := ⟨s.a + t.a, s.b + t.b, s.c + t.c, s.q * t.q⟩
def qml (p r : List QT) : List QT := p.flatMap fun s => r.map (qpr s)
theorem qml_len (p r : List QT) : (qml p r).length = p.length * r.length := by
 unfold qml
 induction p with
 | nil => simp
 | cons t p ih => rw [List.flatMap_cons, List.length_append, ih, List.length_map, List.length_cons, Nat.add_mul, Nat.one_mul, Nat.add_comm]
theorem qml_mem {p r : List QT} {t : QT} (h : t ∈ qml p r) : ∃ x y, x ∈ p ∧ y ∈ r ∧ t = qpr x y := by
 obtain ⟨x, hx, h⟩ := List.mem_flatMap.1 h
 obtain ⟨y, hy, rfl⟩ := List.mem_map.1 h
 exact ⟨x, y, hx, hy, rfl⟩
set_option maxHeartbeats 16000000 in
theorem qtimes_p {N : Nat} (hS : SortOK N) {U V : List QE} {K : Nat} (hl : U.length * V.length ≤ N) (hN : N ≤ 100000) (hu : U.length ≤ 100000) (hv : V.length ≤ 100000) (tu : ∀ e, e ∈ U → e.t.tn) (tv : ∀ e, e ∈ V → e.t.tn) (ou : ∀ e, e ∈ U → e.ok K) (ov : ∀ e, e ∈ V → e.ok K) (hK : 1 ≤ K) (hH : N * (2 * K + 1) + 2 * K ≤ 1000000000) :
  PC Tryz.prog 44 [.sl (U.map QE.av), .sl (V.map QE.av)] (encP (qnf (qml (U.map QE.t) (V.map QE.t)))) := by
 have ctd : PC Tryz.prog 29 [.sl (PL (qml (U.map QE.t) (V.map QE.t)))] (encP (qnf (qml (U.map QE.t) (V.map QE.t)))) := Zge hS (K := 2 * K) (by rw [qml_len]; simpa using hl) hN (fun t ht => by
  obtain ⟨x, y, hx, hy, rfl⟩ := qml_mem ht
  obtain ⟨x, hx', rfl⟩ := List.mem_map.1 hx
  obtain ⟨y, hy', rfl⟩ := List.mem_map.1 hy
  have h1 := tu x hx'
  have h2 := tv y hy'
  unfold QT.tn at h1 h2
  show (-1000000 ≤ x.t.a + y.t.a ∧ x.t.a + y.t.a ≤ 1000000) ∧ (-1000000 ≤ x.t.b + y.t.b ∧ x.t.b + y.t.b ≤ 1000000) ∧ -1000000 ≤ x.t.c + y.t.c ∧ x.t.c + y.t.c ≤ 1000000
  omega) (fun t ht => by
  obtain ⟨x, y, hx, hy, rfl⟩ := qml_mem ht
  obtain ⟨x, hx', rfl⟩ := List.mem_map.1 hx
  obtain ⟨y, hy', rfl⟩ := List.mem_map.1 hy
  exact (Zc1 (Zem (ou x hx') hK) (Zem (ov y hy') hK) hK).mono (by omega)) (by omega) hH
 have hxl := Zdr U
 have hyl := Zdr V
 have hpl : ∀ l, (PL l).length = l.length := Zft
 generalize hR : qml (U.map QE.t) (V.map QE.t) = R at *
 have hRl : R.length ≤ N := by rw [← hR, qml_len]; simpa using hl
 obtain ⟨X, hX⟩ : ∃ X, X = U.map QE.av := ⟨_, rfl⟩
 obtain ⟨Y, hY⟩ : ∃ Y, Y = V.map QE.av := ⟨_, rfl⟩
 rw [← hX] at hxl ⊢
 rw [← hY] at hyl ⊢
 refine Zam true Tryz.func44 rfl rfl rfl (Nat.le_of_ble_eq_true rfl) Zao.tmp ?_
 refine r1A ?_
 refine r1A ?_
 refine T.seqI (fun s1 => s1 = mkS [(5, .v (.sl (PL R)))] [] 50 true) ?_ ?_
 ·refine r1A ?_
  refine T.block ?_
  refine T.loop (fun M s1 => ∃ (A B : List QE) (out : List QT), U = A ++ B ∧ M = B.length ∧ out = qml (A.map QE.t) (V.map QE.t) ∧ out ++ qml (B.map QE.t) (V.map QE.t) = R ∧ s1 = mkS [(1, .v (.sl Y)), (5, .own 100 out.length), (10, .v (.sl X)), (11, .v (iV (X.length : Nat))), (12, .v (iV A.length))] [(100, .lst 7 54 (PL out))] 50 true) U.length
   (s' := mkS [(1, .v (.sl Y)), (5, .own 100 0), (10, .v (.sl X)), (11, .v (iV (X.length : Nat))), (12, .v (iV ((0 : Nat) : Int)))] [(100, .lst 7 54 [])] 50 true) (by exact entA) ⟨[], U, [], rfl, rfl, rfl, hR, rfl⟩ ?_
  rintro _ _ ⟨A, B, out, hAB, rfl, hout, hoR, rfl⟩
  have hlA : U.length = A.length + B.length := by rw [hAB]; simp
  rcases B with _ | ⟨e, B⟩
  ·have b1 : decide ((A.length : Int) < (X.length : Nat)) = false := decide_eq_false (by simp at hlA; omega)
   have hoR : out = R := by rw [← hoR]; simp [qml]
   subst hoR
   have hpo := hpl out
   refine goA ?_
   exact Zag (s' := mkS [(5, .v (.sl (PL out)))] [] 50 true) (by exact entA) rfl
  have b1 : decide ((A.length : Int) < (X.length : Nat)) = true := decide_eq_true (by simp at hlA; omega)
  have hget : X[((A.length : Nat) : Int).toNat]? = some e.av := by rw [hX, hAB]; exact Zc3 (by omega)
  have hoe := ou e (by rw [hAB]; simp)
  have hte := tu e (by rw [hAB]; simp)
  have hAB2 : U = (A ++ [e]) ++ B := by rw [hAB]; simp
  have hlB : B.length < (e :: B).length := by simp
  have hnx : ((A.length : Nat) : Int) + 1 = ((A ++ [e]).length : Nat) := by simp
  have hoR2 : out ++ (V.map QE.t).map (qpr e.t) ++ qml (B.map QE.t) (V.map QE.t) = R := by rw [← hoR]; unfold qml; simp
  have hoA : out ++ (V.map QE.t).map (qpr e.t) = qml ((A ++ [e]).map QE.t) (V.map QE.t) := by rw [hout]; unfold qml; simp
  simp only [List.length_cons] at hlA
  clear hAB hout hoR
  obtain ⟨ea, eb, ec, g, d, g', d', eq⟩ := e
  unfold QE.ok QE.r at hoe
  unfold QT.tn at hte
  simp only [QE.t] at hoe hte hoR2 hoA
  have hget : X[((A.length : Nat) : Int).toNat]? = some (.agg [iV ea, iV eb, iV ec, .p (.bool g), .sl d, .p (.bool g'), .sl d']) := hget
  refine goA ?_
  refine evG ggA (Zad (Zaa rfl) (Zac rfl) rfl rfl (by omega) hget rfl) ?_
  refine goA ?_
  refine T.loop (fun M s1 => ∃ (C D : List QE) (acc : List QT), V = C ++ D ∧ M = D.length ∧ acc = out ++ (C.map QE.t).map (qpr ⟨ea, eb, ec, eq⟩) ∧ s1 = mkS [(1, .v (.sl Y)), (5, .own 100 acc.length), (7, .ptr 7 0), (10, .v (.sl X)), (11, .v (iV (X.length : Nat))), (12, .v (iV A.length)), (16, .v (.sl Y)), (17, .v (iV (Y.length : Nat))), (18, .v (iV C.length))] [(7, tvQ ea eb ec g d g' d'), (100, .lst 7 54 (PL acc))] 50 true) V.length
   (s' := mkS [(1, .v (.sl Y)), (5, .own 100 out.length), (7, .ptr 7 0), (10, .v (.sl X)), (11, .v (iV (X.length : Nat))), (12, .v (iV A.length)), (16, .v (.sl Y)), (17, .v (iV (Y.length : Nat))), (18, .v (iV ((0 : Nat) : Int)))] [(7, tvQ ea eb ec g d g' d'), (100, .lst 7 54 (PL out))] 50 true) (by exact entA) ⟨[], V, out, rfl, rfl, by simp, rfl⟩ ?_
  rintro _ _ ⟨C, D, acc, hCD, rfl, hacc, rfl⟩
  have hlC : V.length = C.length + D.length := by rw [hCD]; simp
  rcases D with _ | ⟨f, D⟩
  ·have b2 : decide ((C.length : Int) < (Y.length : Nat)) = false := decide_eq_false (by simp at hlC; omega)
   have hacc2 : acc = out ++ (V.map QE.t).map (qpr ⟨ea, eb, ec, eq⟩) := by rw [hacc, hCD, List.append_nil]
   refine goA ?_
   rw [hnx]
   exact Zae (k := B.length) (s' := mkS [(1, .v (.sl Y)), (5, .own 100 acc.length), (10, .v (.sl X)), (11, .v (iV (X.length : Nat))), (12, .v (iV ((A ++ [(⟨ea, eb, ec, g, d, g', d', eq⟩ : QE)]).length : Nat)))] [(100, .lst 7 54 (PL acc))] 50 true) hlB (by exact entA) ⟨A ++ [⟨ea, eb, ec, g, d, g', d', eq⟩], B, acc, hAB2, rfl, by rw [hacc2]; exact hoA, by rw [hacc2]; exact hoR2, rfl⟩
  have b2 : decide ((C.length : Int) < (Y.length : Nat)) = true := decide_eq_true (by simp at hlC; omega)
  have hgf : Y[((C.length : Nat) : Int).toNat]? = some f.av := by rw [hY, hCD]; exact Zc3 (by omega)
  have hof := ov f (by rw [hCD]; simp)
  have htf := tv f (by rw [hCD]; simp)
  have hpa := hpl acc
  have haN : acc.length + 1 ≤ N := by
   have h1 : acc.length = out.length + C.length := by rw [hacc]; simp
   have h2 := congrArg List.length hoR2
   simp only [List.length_append, List.length_map] at h2
   simp at hlC
   omega
  have hacc2 : acc ++ [qpr ⟨ea, eb, ec, eq⟩ f.t] = out ++ ((C ++ [f]).map QE.t).map (qpr ⟨ea, eb, ec, eq⟩) := by rw [hacc]; simp
  have hCD2 : V = (C ++ [f]) ++ D := by rw [hCD]; simp
  have hlD : D.length < (f :: D).length := by simp
  have hny : ((C.length : Nat) : Int) + 1 = ((C ++ [f]).length : Nat) := by simp
  have hal : (acc ++ [qpr ⟨ea, eb, ec, eq⟩ f.t]).length = acc.length + 1 := by simp
  simp only [List.length_cons] at hlC
  clear hCD hacc
  obtain ⟨fa, fb, fc, fg, fd, fg', fd', fq⟩ := f
  unfold QE.ok QE.r at hof
  unfold QT.tn at htf
  simp only [QE.t, qpr] at hof htf hacc2 hal
  have hgf : Y[((C.length : Nat) : Int).toNat]? = some (.agg [iV fa, iV fb, iV fc, .p (.bool fg), .sl fd, .p (.bool fg'), .sl fd']) := hgf
  have cm := Zeg hoe (by omega) hof (by omega)
  refine goA ?_
  refine evG ggA (Zad (Zaa rfl) (Zac rfl) rfl rfl (by omega) hgf rfl) ?_
  refine goA ?_
  refine evG ggA (Zab (Zaa rfl) rfl rfl cm) ?_
  refine goA ?_
  refine evG ggA (Za3 (Zaa rfl) (Zak rfl) rfl rfl rfl rfl (Zca rfl) (Nat.le_of_ble_eq_true rfl)) ?_
  refine evG ggA (Zgr (a := (qe ⟨ea + fa, eb + fb, ec + fc, eq * fq⟩).av) (Zaa rfl) (Zak rfl) rfl rfl hpa rfl rfl (by decide) rfl (by omega) (Nat.le_of_ble_eq_true rfl) rfl) ?_
  rw [PL_snoc]
  refine goA ?_
  rw [hny, ← hal]
  exact Zae (k := D.length) (s' := mkS [(1, .v (.sl Y)), (5, .own 100 (acc ++ [(⟨ea + fa, eb + fb, ec + fc, eq * fq⟩ : QT)]).length), (7, .ptr 7 0), (10, .v (.sl X)), (11, .v (iV (X.length : Nat))), (12, .v (iV A.length)), (16, .v (.sl Y)), (17, .v (iV (Y.length : Nat))), (18, .v (iV ((C ++ [(⟨fa, fb, fc, fg, fd, fg', fd', fq⟩ : QE)]).length : Nat)))] [(7, tvQ ea eb ec g d g' d'), (100, .lst 7 54 (PL (acc ++ [⟨ea + fa, eb + fb, ec + fc, eq * fq⟩])))] 50 true) hlD (by exact entA) ⟨C ++ [⟨fa, fb, fc, fg, fd, fg', fd', fq⟩], D, acc ++ [⟨ea + fa, eb + fb, ec + fc, eq * fq⟩], hCD2, rfl, hacc2, rfl⟩
 rintro _ rfl
 refine goA ?_
 refine evG ggA (Zab (Zaa rfl) rfl rfl ctd) ?_
 refine goA ?_
 exact rfl
end Ab
