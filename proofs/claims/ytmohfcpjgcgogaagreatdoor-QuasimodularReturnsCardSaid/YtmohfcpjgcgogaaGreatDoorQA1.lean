/- The gate, and the document's checks and normalized forms of polynomials in E2, E4, E6: walked. A term put into a normalized polynomial, and the document's normalized form: walked. -/
import Derived.Test.YtmohfcpjgcgogaaGreatDoorQD
import Derived.Test.YtmohfcpjgcgogaaGreatDoorZJ
import Derived.Test.YtmohfcpjgcgogaaGreatDoorVA
set_option linter.all false
namespace Ab
open Go Go.RowKit Go.Proofs Hp
set_option maxRecDepth 100000
def vk (b : Bool) : Int := if b then 0 else 2
theorem rweight38_p {e : QE} (h : e.sm) : PC Tryz.prog 80 [e.av] (iV e.w) := by
 obtain ⟨a, b, c, g, d, g', d', q⟩ := e
 obtain ⟨⟨h1, h2⟩, ⟨h3, h4⟩, h5, h6⟩ := h
 simp only at h1 h2 h3 h4 h5 h6
 unfold QE.av QE.w
 simp only []
 refine Zam true Tryz.func80 rfl rfl rfl (Nat.le_of_ble_eq_true rfl) Zao.tmp ?_
 refine goA ?_
 exact rfl
set_option maxHeartbeats 8000000 in
theorem rcheck38_p {U : List QE} (hU : U.length ≤ 1000000) : PC Tryz.prog 37 [.sl (U.map QE.av)] (iV (vk (decide (QV U)))) := by
 have hl := Zdr U
 by_cases h4 : U.length ≤ 400
 ·have b0 : decide (((U.map QE.av).length : Int) > 400) = false := decide_eq_false (by omega)
  have hres : iV (vk (decide (QV U))) = iV (vk (decide (∀ e, e ∈ U → e.vt))) := by
   unfold QV
   simp only [h4, true_and]
  rw [hres]
  refine Zam true Tryz.func37 rfl rfl rfl (Nat.le_of_ble_eq_true rfl) Zao.tmp ?_
  refine goA ?_
  refine T.loop (fun N s1 => ∃ A B : List QE, U = A ++ B ∧ N = B.length ∧ (∀ e, e ∈ A → e.vt) ∧ s1 = mkS [(0, .v (.sl (U.map QE.av))), (2, .v (iV 0)), (3, .v (iV A.length))] [] 51 true) U.length
   (s' := mkS [(0, .v (.sl (U.map QE.av))), (2, .v (iV 0)), (3, .v (iV ((0 : Nat) : Int)))] [] 51 true) (by exact entA) ⟨[], U, rfl, rfl, fun e he => (by cases he), rfl⟩ ?_
  rintro _ _ ⟨A, B, hAB, rfl, hA, rfl⟩
  have hlA : U.length = A.length + B.length := by rw [hAB]; simp
  rcases B with _ | ⟨e, B⟩
  ·have b1 : decide ((A.length : Int) < ((U.map QE.av).length : Nat)) = false := decide_eq_false (by simp at hlA; omega)
   have hall : decide (∀ e, e ∈ U → e.vt) = true := decide_eq_true (by rw [hAB, List.append_nil]; exact hA)
   rw [hall]
   refine goA ?_
   exact rfl
  have b1 : decide ((A.length : Int) < ((U.map QE.av).length : Nat)) = true := decide_eq_true (by simp at hlA; omega)
  have hget : (U.map QE.av)[((A.length : Nat) : Int).toNat]? = some e.av := by rw [hAB]; exact Zc3 (by omega)
  have hbad : ¬ e.vt → decide (∀ e, e ∈ U → e.vt) = false := fun h => decide_eq_false fun k => h (k e (by rw [hAB]; simp))
  have hnext : e.vt → ∃ A' B' : List QE, U = A' ++ B' ∧ B.length = B'.length ∧ (∀ e, e ∈ A' → e.vt) ∧ mkS [(0, .v (.sl (U.map QE.av))), (2, .v (iV 0)), (3, .v (iV ((A.length : Int) + 1)))] [] 51 true = mkS [(0, .v (.sl (U.map QE.av))), (2, .v (iV 0)), (3, .v (iV A'.length))] [] 51 true := fun h => ⟨A ++ [e], B, by rw [hAB, List.append_assoc]; rfl, rfl, fun x hx => by
   rcases List.mem_append.1 hx with hx | hx
   ·exact hA x hx
   ·rw [List.mem_singleton.1 hx]; exact h, by rw [List.length_append, List.length_cons, List.length_nil, show ((A.length + (0 + 1) : Nat) : Int) = (A.length : Int) + 1 by omega]⟩
  have hlB : B.length < (e :: B).length := by simp
  clear hAB hA
  by_cases hsm : e.sm
  ·have cw := rweight38_p hsm
   have hwdef : e.w = 2 * e.a + 4 * e.b + 6 * e.c := rfl
   obtain ⟨w, hw⟩ : ∃ w, w = e.w := ⟨_, rfl⟩
   rw [← hw] at cw hwdef
   have hvt : e.vt ↔ (0 ≤ e.a ∧ 0 ≤ e.b ∧ 0 ≤ e.c ∧ e.a ≤ 60 ∧ e.b ≤ 60 ∧ e.c ≤ 60 ∧ w ≤ 60) := by rw [hw]; exact Iff.rfl
   obtain ⟨a, b, c, g, d, g', d', q⟩ := e
   simp only at hvt hwdef
   have go1 : ∀ {x : Bool}, x = true ∨ x = false := fun {x} => by cases x <;> simp
   by_cases k1 : a < 0
   ·have b2 : decide (a < 0) = true := decide_eq_true k1
    rw [hbad (by rw [hvt]; omega)]
    refine goA ?_
    refine evG ggA (Zad (Zaa rfl) (Zac rfl) rfl rfl (by omega) hget rfl) ?_
    refine goA ?_
    exact rfl
   have b2 : decide (a < 0) = false := decide_eq_false k1
   by_cases k2 : b < 0
   ·have b3 : decide (b < 0) = true := decide_eq_true k2
    rw [hbad (by rw [hvt]; omega)]
    refine goA ?_
    refine evG ggA (Zad (Zaa rfl) (Zac rfl) rfl rfl (by omega) hget rfl) ?_
    refine goA ?_
    exact rfl
   have b3 : decide (b < 0) = false := decide_eq_false k2
   by_cases k3 : c < 0
   ·have b4 : decide (c < 0) = true := decide_eq_true k3
    rw [hbad (by rw [hvt]; omega)]
    refine goA ?_
    refine evG ggA (Zad (Zaa rfl) (Zac rfl) rfl rfl (by omega) hget rfl) ?_
    refine goA ?_
    exact rfl
   have b4 : decide (c < 0) = false := decide_eq_false k3
   by_cases k4 : a > 60
   ·have b5 : decide (a > 60) = true := decide_eq_true k4
    rw [hbad (by rw [hvt]; omega)]
    refine goA ?_
    refine evG ggA (Zad (Zaa rfl) (Zac rfl) rfl rfl (by omega) hget rfl) ?_
    refine goA ?_
    exact rfl
   have b5 : decide (a > 60) = false := decide_eq_false k4
   by_cases k5 : b > 60
   ·have b6 : decide (b > 60) = true := decide_eq_true k5
    rw [hbad (by rw [hvt]; omega)]
    refine goA ?_
    refine evG ggA (Zad (Zaa rfl) (Zac rfl) rfl rfl (by omega) hget rfl) ?_
    refine goA ?_
    exact rfl
   have b6 : decide (b > 60) = false := decide_eq_false k5
   by_cases k6 : c > 60
   ·have b7 : decide (c > 60) = true := decide_eq_true k6
    rw [hbad (by rw [hvt]; omega)]
    refine goA ?_
    refine evG ggA (Zad (Zaa rfl) (Zac rfl) rfl rfl (by omega) hget rfl) ?_
    refine goA ?_
    exact rfl
   have b7 : decide (c > 60) = false := decide_eq_false k6
   by_cases k7 : w > 60
   ·have b8 : decide (w > 60) = true := decide_eq_true k7
    rw [hbad (by rw [hvt]; omega)]
    refine goA ?_
    refine evG ggA (Zad (Zaa rfl) (Zac rfl) rfl rfl (by omega) hget rfl) ?_
    refine goA ?_
    refine evG ggA (Zab (Zaa rfl) rfl rfl cw) ?_
    refine goA ?_
    exact rfl
   have b8 : decide (w > 60) = false := decide_eq_false k7
   have hn := hnext (hvt.2 (by omega))
   refine goA ?_
   refine evG ggA (Zad (Zaa rfl) (Zac rfl) rfl rfl (by omega) hget rfl) ?_
   refine goA ?_
   refine evG ggA (Zab (Zaa rfl) rfl rfl cw) ?_
   refine goA ?_
   exact Zae (k := B.length) (s' := mkS [(0, .v (.sl (U.map QE.av))), (2, .v (iV 0)), (3, .v (iV ((A.length : Int) + 1)))] [] 51 true) hlB (by exact entA) hn
  ·have hnv : ¬ e.vt := fun h => hsm h.sm
   rw [hbad hnv]
   obtain ⟨a, b, c, g, d, g', d', q⟩ := e
   unfold QE.sm at hsm
   simp only at hsm
   by_cases k1 : a < 0
   ·have b2 : decide (a < 0) = true := decide_eq_true k1
    refine goA ?_
    refine evG ggA (Zad (Zaa rfl) (Zac rfl) rfl rfl (by omega) hget rfl) ?_
    refine goA ?_
    exact rfl
   have b2 : decide (a < 0) = false := decide_eq_false k1
   by_cases k2 : b < 0
   ·have b3 : decide (b < 0) = true := decide_eq_true k2
    refine goA ?_
    refine evG ggA (Zad (Zaa rfl) (Zac rfl) rfl rfl (by omega) hget rfl) ?_
    refine goA ?_
    exact rfl
   have b3 : decide (b < 0) = false := decide_eq_false k2
   by_cases k3 : c < 0
   ·have b4 : decide (c < 0) = true := decide_eq_true k3
    refine goA ?_
    refine evG ggA (Zad (Zaa rfl) (Zac rfl) rfl rfl (by omega) hget rfl) ?_
    refine goA ?_
    exact rfl
   have b4 : decide (c < 0) = false := decide_eq_false k3
   by_cases k4 : a > 60
   ·have b5 : decide (a > 60) = true := decide_eq_true k4
    refine goA ?_
    refine evG ggA (Zad (Zaa rfl) (Zac rfl) rfl rfl (by omega) hget rfl) ?_
    refine goA ?_
    exact rfl
   have b5 : decide (a > 60) = false := decide_eq_false k4
   by_cases k5 : b > 60
   ·have b6 : decide (b > 60) = true := decide_eq_true k5
    refine goA ?_
    refine evG ggA (Zad (Zaa rfl) (Zac rfl) rfl rfl (by omega) hget rfl) ?_
    refine goA ?_
    exact rfl
   have b6 : decide (b > 60) = false := decide_eq_false k5
   have b7 : decide (c > 60) = true := decide_eq_true (by omega)
   refine goA ?_
   refine evG ggA (Zad (Zaa rfl) (Zac rfl) rfl rfl (by omega) hget rfl) ?_
   refine goA ?_
   exact rfl
 ·have b0 : decide (((U.map QE.av).length : Int) > 400) = true := decide_eq_true (by omega)
  have hres : decide (QV U) = false := decide_eq_false fun h => h4 h.1
  rw [hres]
  refine Zam true Tryz.func37 rfl rfl rfl (Nat.le_of_ble_eq_true rfl) Zao.tmp ?_
  refine goA ?_
  exact rfl
theorem rcheck38_big {X : List AV} (h : 400 < X.length) : PC Tryz.prog 37 [.sl X] (iV 2) := by
 have b0 : decide ((X.length : Int) > 400) = true := decide_eq_true (by omega)
 refine Zam true Tryz.func37 rfl rfl rfl (Nat.le_of_ble_eq_true rfl) Zao.tmp ?_
 refine goA ?_
 exact rfl
def bigQ (e : QE) : Bool := decide ((e.d.length : Int) > 3) || decide ((e.d'.length : Int) > 3)
def greatQ (U : List QE) : Bool := if U.length > 8 then decide (U.length ≤ 400) else U.any bigQ
set_option maxHeartbeats 8000000 in
theorem great38_p (U : List QE) : PC Tryz.prog 36 [.sl (U.map QE.av)] (bV (greatQ U)) := by
 have hl := Zdr U
 by_cases h8 : U.length > 8
 ·have hg : greatQ U = decide (((U.map QE.av).length : Int) ≤ 400) := by
   unfold greatQ
   rw [if_pos h8, hl]
   exact decide_eq_decide.2 (by omega)
  have b0 : decide (((U.map QE.av).length : Int) > 8) = true := decide_eq_true (by omega)
  rw [hg]
  generalize U.map QE.av = X at *
  refine Zam true Tryz.func36 rfl rfl rfl (Nat.le_of_ble_eq_true rfl) Zao.tmp ?_
  refine goA ?_
  exact rfl
 have b0 : decide (((U.map QE.av).length : Int) > 8) = false := decide_eq_false (by omega)
 have hg : greatQ U = U.any bigQ := by unfold greatQ; rw [if_neg h8]
 rw [hg]
 obtain ⟨X, hX⟩ : ∃ X, X = U.map QE.av := ⟨_, rfl⟩
 rw [← hX] at hl b0 ⊢
 refine Zam true Tryz.func36 rfl rfl rfl (Nat.le_of_ble_eq_true rfl) Zao.tmp ?_
 refine goA ?_
 refine T.loop (fun N s1 => ∃ A B : List QE, U = A ++ B ∧ N = B.length ∧ A.any bigQ = false ∧ s1 = mkS [(0, .v (.sl X)), (2, .v (bV false)), (3, .v (iV A.length))] [] 36 true) U.length
  (s' := mkS [(0, .v (.sl X)), (2, .v (bV false)), (3, .v (iV ((0 : Nat) : Int)))] [] 36 true) (by exact entA) ⟨[], U, rfl, rfl, rfl, rfl⟩ ?_
 rintro _ _ ⟨A, B, hAB, rfl, hA, rfl⟩
 have hlA : U.length = A.length + B.length := by rw [hAB]; simp
 rcases B with _ | ⟨e, B⟩
 ·have b1 : decide ((A.length : Int) < (X.length : Int)) = false := decide_eq_false (by simp at hlA; omega)
  have hr : U.any bigQ = false := by rw [hAB, List.append_nil]; exact hA
  rw [hr]
  refine goA ?_
  exact rfl
 have b1 : decide ((A.length : Int) < (X.length : Int)) = true := decide_eq_true (by simp at hlA; omega)
 have hget : X[((A.length : Nat) : Int).toNat]? = some e.av := by rw [hX, hAB]; exact Zc3 (by omega)
 have hAB2 : U = (A ++ [e]) ++ B := by rw [hAB]; simp
 have hlB : B.length < (e :: B).length := by simp
 have hnx : ((A.length : Nat) : Int) + 1 = ((A ++ [e]).length : Nat) := by simp
 have hyes : bigQ e = true → U.any bigQ = true := fun h => by rw [hAB, List.any_append, List.any_cons, h]; simp
 have hno : bigQ e = false → (A ++ [e]).any bigQ = false := fun h => by rw [List.any_append, List.any_cons, h, hA]; rfl
 have hbq : bigQ e = (decide ((e.d.length : Int) > 3) || decide ((e.d'.length : Int) > 3)) := rfl
 simp only [List.length_cons] at hlA
 clear hAB
 obtain ⟨ea, eb, ec, g, d, g', d', eq⟩ := e
 simp only at hbq
 have hget : X[((A.length : Nat) : Int).toNat]? = some (.agg [iV ea, iV eb, iV ec, .p (.bool g), .sl d, .p (.bool g'), .sl d']) := hget
 by_cases h1 : d.length > 3
 ·have b2 : decide ((d.length : Int) > 3) = true := decide_eq_true (by omega)
  rw [hyes (by rw [hbq, b2]; rfl)]
  refine goA ?_
  refine evG ggA (Zad (Zaa rfl) (Zac rfl) rfl rfl (by omega) hget rfl) ?_
  refine goA ?_
  exact rfl
 have b2 : decide ((d.length : Int) > 3) = false := decide_eq_false (by omega)
 by_cases h2 : d'.length > 3
 ·have b3 : decide ((d'.length : Int) > 3) = true := decide_eq_true (by omega)
  rw [hyes (by rw [hbq, b2, b3]; rfl)]
  refine goA ?_
  refine evG ggA (Zad (Zaa rfl) (Zac rfl) rfl rfl (by omega) hget rfl) ?_
  refine goA ?_
  refine evG ggA (Zad (Zaa rfl) (Zac rfl) rfl rfl (by omega) hget rfl) ?_
  refine goA ?_
  exact rfl
 have b3 : decide ((d'.length : Int) > 3) = false := decide_eq_false (by omega)
 have hn := hno (by rw [hbq, b2, b3]; rfl)
 refine goA ?_
 refine evG ggA (Zad (Zaa rfl) (Zac rfl) rfl rfl (by omega) hget rfl) ?_
 refine goA ?_
 refine evG ggA (Zad (Zaa rfl) (Zac rfl) rfl rfl (by omega) hget rfl) ?_
 refine goA ?_
 rw [hnx]
 exact Zae (k := B.length) (s' := mkS [(0, .v (.sl X)), (2, .v (bV false)), (3, .v (iV ((A ++ [(⟨ea, eb, ec, g, d, g', d', eq⟩ : QE)]).length : Nat)))] [] 36 true) hlB (by exact entA) ⟨A ++ [⟨ea, eb, ec, g, d, g', d', eq⟩], B, hAB2, rfl, hn, rfl⟩
end Ab
namespace Ab
open Go Go.RowKit Go.Proofs Hp
set_option maxRecDepth 100000
abbrev rA (q : Rat) : AV := .agg [.p (.bool (decide (q.num < 0))), .sl ((dgs q.num.natAbs).map u32), .p (.bool (decide ((q.den : Int) < 0))), .sl ((dgs (q.den : Int).natAbs).map u32)]
abbrev rV (q : Rat) : Blk := .var [.v (.p (.bool (decide (q.num < 0)))), .v (.sl ((dgs q.num.natAbs).map u32)), .v (.p (.bool (decide ((q.den : Int) < 0)))), .v (.sl ((dgs (q.den : Int).natAbs).map u32))]
end Ab
