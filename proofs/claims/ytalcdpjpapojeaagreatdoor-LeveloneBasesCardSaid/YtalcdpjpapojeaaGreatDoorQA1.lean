/- The gate, and the document's checks and normalized forms of. -/
import Derived.Test.YtalcdpjpapojeaaGreatDoorQD
import Derived.Test.YtalcdpjpapojeaaGreatDoorZJ
import Derived.Test.YtalcdpjpapojeaaGreatDoorVA
set_option linter.all false
namespace Ab
open Go Go.RowKit Go.Proofs Hp
set_option maxRecDepth 100000
def vk (b : Bool) : Int := if b then 0 else 2
theorem rweight38_p {e : QE} (h : e.sm) : PC Tryz.prog 105 [e.av] (iV e.w) := by
 obtain ⟨a, b, c, g, d, g', d', q⟩ := e
 obtain ⟨⟨h1, h2⟩, ⟨h3, h4⟩, h5, h6⟩ := h
 simp only at h1 h2 h3 h4 h5 h6
 unfold QE.av QE.w
 simp only []
 refine pb1 Tryz.func105 Zac.tmp ?_
 refine goA ?_
 exact rfl
set_option maxHeartbeats 8000000 in
theorem rcheck38_p {U : List QE} (hU : U.length ≤ 1000000) : PC Tryz.prog 71 [.sl (U.map QE.av)] (iV (vk (decide (QV U)))) := by
 have hl := av_len U
 by_cases h4 : U.length ≤ 400
 ·have b0 : decide (((U.map QE.av).length : Int) > 400) = false := decide_eq_false oM
  have hres : iV (vk (decide (QV U))) = iV (vk (decide (∀ e, e ∈ U → e.vt))) := by
   unfold QV
   simp only [h4, true_and]
  rw [hres]
  refine pb1 Tryz.func71 Zac.tmp ?_
  refine goA ?_
  refine T.loop (fun N s1 => ∃ A B : List QE, U = A ++ B ∧ N = B.length ∧ (∀ e, e ∈ A → e.vt) ∧ s1 = mkS [(0, .v (.sl (U.map QE.av))), (2, .v (iV 0)), (3, .v (iV A.length))] [] 51 true) U.length
   (s' := mkS [(0, .v (.sl (U.map QE.av))), (2, .v (iV 0)), (3, .v (iV ((0 : Nat) : Int)))] [] 51 true) entA ⟨[], U, rfl, rfl, fun e he => (by cases he), rfl⟩ ?_
  rintro _ _ ⟨A, B, hAB, rfl, hA, rfl⟩
  have hlA : U.length = A.length + B.length := by rw [hAB]; simp
  rcases B with _ | ⟨e, B⟩
  ·have b1 : decide ((A.length : Int) < ((U.map QE.av).length : Nat)) = false := decide_eq_false (by simp at hlA; omega)
   have hall : decide (∀ e, e ∈ U → e.vt) = true := decide_eq_true (by rw [hAB, List.append_nil]; exact hA)
   rw [hall]
   refine goA ?_
   exact rfl
  have b1 : decide ((A.length : Int) < ((U.map QE.av).length : Nat)) = true := decide_eq_true (by simp at hlA; omega)
  have hget : (U.map QE.av)[((A.length : Nat) : Int).toNat]? = some e.av := by rw [hAB]; exact av_get oM
  have hbad : ¬ e.vt → decide (∀ e, e ∈ U → e.vt) = false := fun h => decide_eq_false fun k => h (k e (by rw [hAB]; simp))
  have hnext : e.vt → ∃ A' B' : List QE, U = A' ++ B' ∧ B.length = B'.length ∧ (∀ e, e ∈ A' → e.vt) ∧ mkS [(0, .v (.sl (U.map QE.av))), (2, .v (iV 0)), (3, .v (iV ((A.length : Int) + 1)))] [] 51 true = mkS [(0, .v (.sl (U.map QE.av))), (2, .v (iV 0)), (3, .v (iV A'.length))] [] 51 true := fun h => ⟨A ++ [e], B, by rw [hAB, List.append_assoc]; rfl, rfl, fun x hx => by
   rcases List.mem_append.1 hx with hx | hx
   ·exact hA x hx
   ·rw [List.mem_singleton.1 hx]; exact h, by rw [List.length_append, List.length_cons, List.length_nil, show ((A.length + (0 + 1) : Nat) : Int) = (A.length : Int) + 1 by omega]⟩
  have hlB : B.length < (e :: B).length := by simp
  clear hAB hA
  by_cases hsm : e.sm
  ·have cw := rweight38_p hsm
   have hwdef : e.w = 2 * e.a + 4 * e.b + 6 * e.c := rfl
   obtain ⟨w, hw⟩ : ∃ w, w = e.w := ⟨_, rfl⟩
   rw [← hw] at cw hwdef
   have hvt : e.vt ↔ (0 ≤ e.a ∧ 0 ≤ e.b ∧ 0 ≤ e.c ∧ e.a ≤ 60 ∧ e.b ≤ 60 ∧ e.c ≤ 60 ∧ w ≤ 60) := by rw [hw]; exact Iff.rfl
   obtain ⟨a, b, c, g, d, g', d', q⟩ := e
   simp only at hvt hwdef
   have go1 : ∀ {x : Bool}, x = true ∨ x = false := fun {x} => by cases x <;> simp
   by_cases k1 : a < 0
   ·have b2 : decide (a < 0) = true := decide_eq_true k1
    rw [hbad (by rw [hvt]; omega)]
    refine goA ?_
    refine ixG hget ?_
    exact rfl
   have b2 : decide (a < 0) = false := decide_eq_false k1
   by_cases k2 : b < 0
   ·have b3 : decide (b < 0) = true := decide_eq_true k2
    rw [hbad (by rw [hvt]; omega)]
    refine goA ?_
    refine ixG hget ?_
    exact rfl
   have b3 : decide (b < 0) = false := decide_eq_false k2
   by_cases k3 : c < 0
   ·have b4 : decide (c < 0) = true := decide_eq_true k3
    rw [hbad (by rw [hvt]; omega)]
    refine goA ?_
    refine ixG hget ?_
    exact rfl
   have b4 : decide (c < 0) = false := decide_eq_false k3
   by_cases k4 : a > 60
   ·have b5 : decide (a > 60) = true := decide_eq_true k4
    rw [hbad (by rw [hvt]; omega)]
    refine goA ?_
    refine ixG hget ?_
    exact rfl
   have b5 : decide (a > 60) = false := decide_eq_false k4
   by_cases k5 : b > 60
   ·have b6 : decide (b > 60) = true := decide_eq_true k5
    rw [hbad (by rw [hvt]; omega)]
    refine goA ?_
    refine ixG hget ?_
    exact rfl
   have b6 : decide (b > 60) = false := decide_eq_false k5
   by_cases k6 : c > 60
   ·have b7 : decide (c > 60) = true := decide_eq_true k6
    rw [hbad (by rw [hvt]; omega)]
    refine goA ?_
    refine ixG hget ?_
    exact rfl
   have b7 : decide (c > 60) = false := decide_eq_false k6
   by_cases k7 : w > 60
   ·have b8 : decide (w > 60) = true := decide_eq_true k7
    rw [hbad (by rw [hvt]; omega)]
    refine goA ?_
    refine ixG hget ?_
    refine clG cw ?_
    exact rfl
   have b8 : decide (w > 60) = false := decide_eq_false k7
   have hn := hnext (hvt.2 oM)
   refine goA ?_
   refine ixG hget ?_
   refine clG cw ?_
   exact Zab (k := B.length) (s' := mkS [(0, .v (.sl (U.map QE.av))), (2, .v (iV 0)), (3, .v (iV ((A.length : Int) + 1)))] [] 51 true) hlB entA hn
  ·have hnv : ¬ e.vt := fun h => hsm h.sm
   rw [hbad hnv]
   obtain ⟨a, b, c, g, d, g', d', q⟩ := e
   unfold QE.sm at hsm
   simp only at hsm
   by_cases k1 : a < 0
   ·have b2 : decide (a < 0) = true := decide_eq_true k1
    refine goA ?_
    refine ixG hget ?_
    exact rfl
   have b2 : decide (a < 0) = false := decide_eq_false k1
   by_cases k2 : b < 0
   ·have b3 : decide (b < 0) = true := decide_eq_true k2
    refine goA ?_
    refine ixG hget ?_
    exact rfl
   have b3 : decide (b < 0) = false := decide_eq_false k2
   by_cases k3 : c < 0
   ·have b4 : decide (c < 0) = true := decide_eq_true k3
    refine goA ?_
    refine ixG hget ?_
    exact rfl
   have b4 : decide (c < 0) = false := decide_eq_false k3
   by_cases k4 : a > 60
   ·have b5 : decide (a > 60) = true := decide_eq_true k4
    refine goA ?_
    refine ixG hget ?_
    exact rfl
   have b5 : decide (a > 60) = false := decide_eq_false k4
   by_cases k5 : b > 60
   ·have b6 : decide (b > 60) = true := decide_eq_true k5
    refine goA ?_
    refine ixG hget ?_
    exact rfl
   have b6 : decide (b > 60) = false := decide_eq_false k5
   have b7 : decide (c > 60) = true := decide_eq_true oM
   refine goA ?_
   refine ixG hget ?_
   exact rfl
 ·have b0 : decide (((U.map QE.av).length : Int) > 400) = true := decide_eq_true oM
  have hres : decide (QV U) = false := decide_eq_false fun h => h4 h.1
  rw [hres]
  refine pb1 Tryz.func71 Zac.tmp ?_
  refine goA ?_
  exact rfl
theorem before_p (x y : QE) : PC Tryz.prog 118 [x.av, y.av] (bV (decide (kl x.k y.k))) := by
 obtain ⟨a, b, c, g, d, g', d', q⟩ := x
 obtain ⟨a2, b2, c2, g2, d2, g2', d2', q2⟩ := y
 unfold QE.av QE.k
 simp only []
 by_cases h1 : a = a2
 ·have n1 : (a != a2) = false := by simp [h1]
  by_cases h2 : b = b2
  ·have n2 : (b != b2) = false := by simp [h2]
   have e : decide (kl (a, b, c) (a2, b2, c2)) = decide (c < c2) := decide_eq_decide.2 (by unfold kl; simp only []; omega)
   rw [e]
   refine pb1 Tryz.func118 Zac.tmp ?_
   refine goA ?_
   exact rfl
  ·have n2 : (b != b2) = true := by simp [h2]
   have e : decide (kl (a, b, c) (a2, b2, c2)) = decide (b < b2) := decide_eq_decide.2 (by unfold kl; simp only []; omega)
   rw [e]
   refine pb1 Tryz.func118 Zac.tmp ?_
   refine goA ?_
   exact rfl
 ·have n1 : (a != a2) = true := by simp [h1]
  have e : decide (kl (a, b, c) (a2, b2, c2)) = decide (a < a2) := decide_eq_decide.2 (by unfold kl; simp only []; omega)
  rw [e]
  refine pb1 Tryz.func118 Zac.tmp ?_
  refine goA ?_
  exact rfl
abbrev rA (q : Rat) : AV := .agg [.p (.bool (decide (q.num < 0))), .sl ((dgs q.num.natAbs).map u32), .p (.bool (decide ((q.den : Int) < 0))), .sl ((dgs (q.den : Int).natAbs).map u32)]
abbrev rV (q : Rat) : Blk := .var [.v (.p (.bool (decide (q.num < 0)))), .v (.sl ((dgs q.num.natAbs).map u32)), .v (.p (.bool (decide ((q.den : Int) < 0)))), .v (.sl ((dgs (q.den : Int).natAbs).map u32))]
theorem qput_app : ∀ (A B : List QT) (t : QT), (∀ u, u ∈ A → kl u.k t.k) → qput (A ++ B) t = A ++ qput B t
  | [], B, t, _ => rfl
  | u :: A, B, t, h => by
    rw [List.cons_append, qput, if_pos (h u (List.mem_cons_self ..)), qput_app A B t fun v hv => h v (List.mem_cons_of_mem _ hv)]
    rfl
theorem qput_ge {u t : QT} (B : List QT) (h : ¬ kl u.k t.k) : qput (u :: B) t = if kl t.k u.k then qfi t ++ (u :: B) else qfi ⟨t.a, t.b, t.c, u.q + t.q⟩ ++ B := by
 rw [qput, if_neg h]
 unfold qfi
 by_cases h1 : kl t.k u.k
 ·rw [if_pos h1, if_pos h1]
  by_cases h2 : t.q = 0 <;> simp [h2]
 ·rw [if_neg h1, if_neg h1]
  by_cases h2 : u.q + t.q = 0 <;> simp [h2]
theorem put_drop (A : List QT) (u : QT) (B : List QT) : (A ++ u :: B).drop (A.length + 1) = B := by
 rw [List.drop_append]
 simp
set_option maxHeartbeats 16000000 in
theorem put_p {p : List QT} {e : QE} {K : Nat} (hp : ∀ t, t ∈ p → Ht t.q K) (he : e.ok K) (hK : 1 ≤ K ∧ K ≤ 100000000) (hl : p.length ≤ 100000) : PC Tryz.prog 80 [.sl (PL p), e.av] (.sl (PL (qput p e.t))) := by
 have hpl := PL_len p
 have hcl : ∀ a, a ∈ PL p → a.cells.length = 7 := av_cells (p.map qe)
 have hnu : ∀ a, a ∈ PL p → ∀ c, c ∈ a.cells → c.nu = true := av_nu (p.map qe)
 have n1 := (Zca he oM).up (dm := true)
 have hq0 : Ht e.q K := Zfc he hK.1
 have hbt : ∀ u : QT, kl u.k e.k → PC Tryz.prog 118 [(qe u).av, e.av] (bV true) := fun u h => by
  have c := before_p (qe u) e
  rw [decide_eq_true (show kl (qe u).k e.k from h)] at c
  exact c
 have hbn : ∀ u : QT, ¬ kl u.k e.k → PC Tryz.prog 118 [(qe u).av, e.av] (bV false) := fun u h => by
  have c := before_p (qe u) e
  rw [decide_eq_false (show ¬ kl (qe u).k e.k from h)] at c
  exact c
 have hgt : ∀ u : QT, kl e.k u.k → PC Tryz.prog 118 [e.av, (qe u).av] (bV true) := fun u h => by
  have c := before_p e (qe u)
  rw [decide_eq_true (show kl e.k (qe u).k from h)] at c
  exact c
 have hgn : ∀ u : QT, ¬ kl e.k u.k → PC Tryz.prog 118 [e.av, (qe u).av] (bV false) := fun u h => by
  have c := before_p e (qe u)
  rw [decide_eq_false (show ¬ kl e.k (qe u).k from h)] at c
  exact c
 obtain ⟨X, hX⟩ : ∃ X, X = PL p := ⟨_, rfl⟩
 rw [← hX] at hpl hcl hnu ⊢
 obtain ⟨ea, eb, ec, g, d, g', d', eq⟩ := e
 unfold QE.r at n1
 simp only at n1 hq0
 unfold QE.av
 simp only [QE.t]
 have n1 : PC Tryz.prog 23 [.agg [.p (.bool g), .sl d, .p (.bool g'), .sl d']] (rA eq) := n1
 clear he
 refine pb1 Tryz.func80 Zac.tmp ?_
 refine r1A ?_
 refine r1A ?_
 refine r1A ?_
 refine T.seqI (fun s1 => ∃ A B : List QT, p = A ++ B ∧ (∀ u, u ∈ A → kl u.k (ea, eb, ec)) ∧ (∀ u, B[0]? = some u → ¬ kl u.k (ea, eb, ec)) ∧ s1 = mkS [(0, .v (.sl X)), (3, .ptr 3 0), (4, .v (.p nilV)), (5, .own 100 A.length), (6, .v (iV A.length))] [(3, tvQ ea eb ec g d g' d'), (100, .lst 7 86 (PL A))] 73 true) ?_ ?_
 ·refine T.block ?_
  refine T.loop (fun N s1 => ∃ A B : List QT, p = A ++ B ∧ N = B.length ∧ (∀ u, u ∈ A → kl u.k (ea, eb, ec)) ∧ s1 = mkS [(0, .v (.sl X)), (3, .ptr 3 0), (4, .v (.p nilV)), (5, .own 100 A.length), (6, .v (iV A.length))] [(3, tvQ ea eb ec g d g' d'), (100, .lst 7 86 (PL A))] 73 true) p.length
   (s' := mkS [(0, .v (.sl X)), (3, .ptr 3 0), (4, .v (.p nilV)), (5, .own 100 0), (6, .v (iV ((0 : Nat) : Int)))] [(3, tvQ ea eb ec g d g' d'), (100, .lst 7 86 [])] 73 true) entA ⟨[], p, rfl, rfl, fun u hu => (by cases hu), rfl⟩ ?_
  rintro _ _ ⟨A, B, hAB, rfl, hA, rfl⟩
  have hlA : p.length = A.length + B.length := by rw [hAB]; simp
  have hpo := PL_len A
  rcases B with _ | ⟨u, B⟩
  ·have b1 : decide ((A.length : Int) < (X.length : Int)) = false := decide_eq_false (by simp at hlA; omega)
   refine goA ?_
   exact Zae (s' := mkS [(0, .v (.sl X)), (3, .ptr 3 0), (4, .v (.p nilV)), (5, .own 100 A.length), (6, .v (iV A.length))] [(3, tvQ ea eb ec g d g' d'), (100, .lst 7 86 (PL A))] 73 true) entA ⟨A, [], hAB, hA, fun u hu => (by cases hu), rfl⟩
  have b1 : decide ((A.length : Int) < (X.length : Int)) = true := decide_eq_true (by simp at hlA; omega)
  have hget : X[((A.length : Nat) : Int).toNat]? = some (qe u).av := by rw [hX]; exact av_idx hAB
  have hAB2 : p = (A ++ [u]) ++ B := by rw [hAB]; simp
  have hlB : B.length < (u :: B).length := by simp
  have hnx : ((A.length : Nat) : Int) + 1 = ((A ++ [u]).length : Nat) := by simp
  have hnx2 : A.length + 1 = (A ++ [u]).length := by simp
  simp only [List.length_cons] at hlA
  by_cases hk : kl u.k (ea, eb, ec)
  ·have hA2 : ∀ v, v ∈ A ++ [u] → kl v.k (ea, eb, ec) := fun v hv => by
    rcases List.mem_append.1 hv with hv | hv
    ·exact hA v hv
    ·rw [List.mem_singleton.1 hv]; exact hk
   have cb := hbt u hk
   clear hAB hA hk hbt hbn hgt hgn
   have hsn := PL_snoc A u
   obtain ⟨ua, ub, uc, uq⟩ := u
   have hget : X[((A.length : Nat) : Int).toNat]? = some (.agg [iV ua, iV ub, iV uc, .p (.bool (decide (uq.num < 0))), .sl ((dgs uq.num.natAbs).map u32), .p (.bool (decide ((uq.den : Int) < 0))), .sl ((dgs (uq.den : Int).natAbs).map u32)]) := hget
   have cb : PC Tryz.prog 118 [.agg [iV ua, iV ub, iV uc, .p (.bool (decide (uq.num < 0))), .sl ((dgs uq.num.natAbs).map u32), .p (.bool (decide ((uq.den : Int) < 0))), .sl ((dgs (uq.den : Int).natAbs).map u32)], .agg [iV ea, iV eb, iV ec, .p (.bool g), .sl d, .p (.bool g'), .sl d']] (bV true) := cb
   refine goA ?_
   refine ixG hget ?_
   refine clG cb ?_
   refine ixG hget ?_
   refine evG ggA (Zaw (Zaa rfl) (Zaf rfl) rfl rfl rfl rfl (Zee rfl) (Nat.le_of_ble_eq_true rfl)) ?_
   refine evG ggA (ss_snocB (a := (qe ⟨ua, ub, uc, uq⟩).av) (Zaa rfl) (Zaf rfl) rfl rfl hpo rfl rfl dC rfl oM (Nat.le_of_ble_eq_true rfl) rfl) ?_
   rw [hsn]
   refine goA ?_
   rw [hnx, hnx2]
   exact Zab (k := B.length) (s' := mkS [(0, .v (.sl X)), (3, .ptr 3 0), (4, .v (.p nilV)), (5, .own 100 (A ++ [(⟨ua, ub, uc, uq⟩ : QT)]).length), (6, .v (iV ((A ++ [(⟨ua, ub, uc, uq⟩ : QT)]).length : Nat)))] [(3, tvQ ea eb ec g d g' d'), (100, .lst 7 86 (PL (A ++ [⟨ua, ub, uc, uq⟩])))] 73 true) hlB entA ⟨A ++ [⟨ua, ub, uc, uq⟩], B, hAB2, rfl, hA2, rfl⟩
  ·have cb := hbn u hk
   clear hbt hbn hgt hgn
   obtain ⟨ua, ub, uc, uq⟩ := u
   have hget : X[((A.length : Nat) : Int).toNat]? = some (.agg [iV ua, iV ub, iV uc, .p (.bool (decide (uq.num < 0))), .sl ((dgs uq.num.natAbs).map u32), .p (.bool (decide ((uq.den : Int) < 0))), .sl ((dgs (uq.den : Int).natAbs).map u32)]) := hget
   have cb : PC Tryz.prog 118 [.agg [iV ua, iV ub, iV uc, .p (.bool (decide (uq.num < 0))), .sl ((dgs uq.num.natAbs).map u32), .p (.bool (decide ((uq.den : Int) < 0))), .sl ((dgs (uq.den : Int).natAbs).map u32)], .agg [iV ea, iV eb, iV ec, .p (.bool g), .sl d, .p (.bool g'), .sl d']] (bV false) := cb
   refine goA ?_
   refine ixG hget ?_
   refine clG cb ?_
   exact Zae (s' := mkS [(0, .v (.sl X)), (3, .ptr 3 0), (4, .v (.p nilV)), (5, .own 100 A.length), (6, .v (iV A.length))] [(3, tvQ ea eb ec g d g' d'), (100, .lst 7 86 (PL A))] 73 true) entA ⟨A, ⟨ua, ub, uc, uq⟩ :: B, hAB, hA, fun v hv => (by simp at hv; subst hv; exact hk), rfl⟩
 rintro _ ⟨A, B, hAB, hA, hB, rfl⟩
 have hlA : p.length = A.length + B.length := by rw [hAB]; simp
 have hpo := PL_len A
 clear hbt hbn
 have hput := qput_app A B ⟨ea, eb, ec, eq⟩ hA
 rw [← hAB] at hput
 refine T.seq ?_
 refine regA ?_
 refine runA ?_
 refine clA n1 ?_
 refine runA ?_
 refine Zao ?_
 refine Za1 ?_
 refine T.seqI (fun s1 => ∃ (q1 : Rat) (i : Nat), i ≤ p.length ∧ Ht q1 (2 * K + 1) ∧ qput p ⟨ea, eb, ec, eq⟩ = A ++ (qfi ⟨ea, eb, ec, q1⟩ ++ p.drop i) ∧ s1 = mkS [(0, .v (.sl X)), (3, .ptr 3 0), (4, .v (.p nilV)), (5, .own 100 A.length), (6, .v (iV i)), (7, .ptr 7 0)] [(3, tvQ ea eb ec g d g' d'), (7, rV q1), (100, .lst 7 86 (PL A))] 73 true) ?_ ?_
 ·rcases B with _ | ⟨u, B⟩
  ·have b1 : decide ((A.length : Int) < (X.length : Int)) = false := decide_eq_false (by simp at hlA; omega)
   refine goA ?_
   exact Zae (s' := mkS [(0, .v (.sl X)), (3, .ptr 3 0), (4, .v (.p nilV)), (5, .own 100 A.length), (6, .v (iV A.length)), (7, .ptr 7 0)] [(3, tvQ ea eb ec g d g' d'), (7, rV eq), (100, .lst 7 86 (PL A))] 73 true) entA ⟨eq, A.length, oM, hq0.mono oM, by rw [hput, hAB]; simp [qput, qfi], rfl⟩
  have b1 : decide ((A.length : Int) < (X.length : Int)) = true := decide_eq_true (by simp at hlA; omega)
  have hget : X[((A.length : Nat) : Int).toNat]? = some (qe u).av := by rw [hX]; exact av_idx hAB
  have hge := qput_ge (t := ⟨ea, eb, ec, eq⟩) B (hB u rfl)
  have huq : Ht u.q K := hp u (by rw [hAB]; simp)
  have c2 := (Zdx (Zad huq) (Zad hq0) hK.1 hK.1 oM).up (dm := true)
  by_cases hk : kl (ea, eb, ec) u.k
  ·have cb := hgt u hk
   rw [if_pos (show kl (QT.k ⟨ea, eb, ec, eq⟩) u.k from hk)] at hge
   have hfin : qput p ⟨ea, eb, ec, eq⟩ = A ++ (qfi ⟨ea, eb, ec, eq⟩ ++ p.drop A.length) := by rw [hput, hge, hAB]; simp
   clear hAB hput hge c2 hgt hgn
   obtain ⟨ua, ub, uc, uq⟩ := u
   have hget : X[((A.length : Nat) : Int).toNat]? = some (.agg [iV ua, iV ub, iV uc, .p (.bool (decide (uq.num < 0))), .sl ((dgs uq.num.natAbs).map u32), .p (.bool (decide ((uq.den : Int) < 0))), .sl ((dgs (uq.den : Int).natAbs).map u32)]) := hget
   have cb : PC Tryz.prog 118 [.agg [iV ea, iV eb, iV ec, .p (.bool g), .sl d, .p (.bool g'), .sl d'], .agg [iV ua, iV ub, iV uc, .p (.bool (decide (uq.num < 0))), .sl ((dgs uq.num.natAbs).map u32), .p (.bool (decide ((uq.den : Int) < 0))), .sl ((dgs (uq.den : Int).natAbs).map u32)]] (bV true) := cb
   refine goA ?_
   refine ixG hget ?_
   refine clG cb ?_
   exact Zae (s' := mkS [(0, .v (.sl X)), (3, .ptr 3 0), (4, .v (.p nilV)), (5, .own 100 A.length), (6, .v (iV A.length)), (7, .ptr 7 0)] [(3, tvQ ea eb ec g d g' d'), (7, rV eq), (100, .lst 7 86 (PL A))] 73 true) entA ⟨eq, A.length, oM, hq0.mono oM, hfin, rfl⟩
  ·have cb := hgn u hk
   rw [if_neg (show ¬ kl (QT.k ⟨ea, eb, ec, eq⟩) u.k from hk)] at hge
   have hfin : qput p ⟨ea, eb, ec, eq⟩ = A ++ (qfi ⟨ea, eb, ec, u.q + eq⟩ ++ p.drop (A.length + 1)) := by rw [hput, hge, hAB, put_drop]
   have hh : Ht (u.q + eq) (2 * K + 1) := (Zgy huq hq0).mono oM
   have hi1 : A.length + 1 ≤ p.length := by simp at hlA; omega
   clear hAB hput hge hgt hgn
   obtain ⟨ua, ub, uc, uq⟩ := u
   have hget : X[((A.length : Nat) : Int).toNat]? = some (.agg [iV ua, iV ub, iV uc, .p (.bool (decide (uq.num < 0))), .sl ((dgs uq.num.natAbs).map u32), .p (.bool (decide ((uq.den : Int) < 0))), .sl ((dgs (uq.den : Int).natAbs).map u32)]) := hget
   have cb : PC Tryz.prog 118 [.agg [iV ea, iV eb, iV ec, .p (.bool g), .sl d, .p (.bool g'), .sl d'], .agg [iV ua, iV ub, iV uc, .p (.bool (decide (uq.num < 0))), .sl ((dgs uq.num.natAbs).map u32), .p (.bool (decide ((uq.den : Int) < 0))), .sl ((dgs (uq.den : Int).natAbs).map u32)]] (bV false) := cb
   have c2 : PC Tryz.prog 116 [rA uq, rA eq] (rA (uq + eq)) := c2
   simp only at hfin hh
   generalize uq + eq = q1 at *
   refine goA ?_
   refine ixG hget ?_
   refine clG cb ?_
   refine ixG hget ?_
   refine clG c2 ?_
   exact Zae (s' := mkS [(0, .v (.sl X)), (3, .ptr 3 0), (4, .v (.p nilV)), (5, .own 100 A.length), (6, .v (iV ((A.length : Int) + 1))), (7, .ptr 7 0)] [(3, tvQ ea eb ec g d g' d'), (7, rV q1), (100, .lst 7 86 (PL A))] 73 true) entA ⟨q1, A.length + 1, hi1, hh, hfin, rfl⟩
 rintro _ ⟨q1, i, hi, hq1, hput, rfl⟩
 clear hgt hgn hB hA hAB n1 hq0
 obtain ⟨sg, s0, c3⟩ := Zgo (Zad hq1) oM
 have c3 := c3.up (dm := true)
 refine T.seqI (fun s1 => ∃ out : List QT, out = A ++ qfi ⟨ea, eb, ec, q1⟩ ∧ s1 = mkS [(0, .v (.sl X)), (4, .v (.p nilV)), (5, .own 100 out.length), (6, .v (iV i))] [(100, .lst 7 86 (PL out))] 73 true) ?_ ?_
 ·by_cases h0 : q1 = 0
  ·have b1 : (sg != 0) = false := by simp [s0.2 h0]
   refine goA ?_
   refine clG c3 ?_
   exact Zae (s' := mkS [(0, .v (.sl X)), (4, .v (.p nilV)), (5, .own 100 A.length), (6, .v (iV i))] [(100, .lst 7 86 (PL A))] 73 true) entA ⟨A, by simp [qfi, h0], rfl⟩
  ·have b1 : (sg != 0) = true := by simp; exact fun e => h0 (s0.1 e)
   have hsn := PL_snoc A ⟨ea, eb, ec, q1⟩
   have hnx2 : A.length + 1 = (A ++ [(⟨ea, eb, ec, q1⟩ : QT)]).length := by simp
   refine goA ?_
   refine clG c3 ?_
   refine evG ggA (Zaw (Zaa rfl) (Zaf rfl) rfl rfl rfl rfl (Zee rfl) (Nat.le_of_ble_eq_true rfl)) ?_
   refine evG ggA (ss_snocB (a := (qe ⟨ea, eb, ec, q1⟩).av) (Zaa rfl) (Zaf rfl) rfl rfl hpo rfl rfl dC rfl oM (Nat.le_of_ble_eq_true rfl) rfl) ?_
   rw [hsn]
   refine goA ?_
   rw [hnx2]
   exact Zae (s' := mkS [(0, .v (.sl X)), (4, .v (.p nilV)), (5, .own 100 (A ++ [(⟨ea, eb, ec, q1⟩ : QT)]).length), (6, .v (iV i))] [(100, .lst 7 86 (PL (A ++ [⟨ea, eb, ec, q1⟩])))] 73 true) entA ⟨A ++ [⟨ea, eb, ec, q1⟩], by simp [qfi, h0], rfl⟩
 rintro _ ⟨out, hout, rfl⟩
 have hol : out.length ≤ A.length + 1 := by rw [hout]; unfold qfi; split <;> simp
 have hfin : PL out ++ X.drop i = PL (qput p ⟨ea, eb, ec, eq⟩) := by
  rw [hput, ← List.append_assoc, ← hout, hX]
  unfold PL
  rw [List.map_append, List.map_append, List.map_drop, List.map_drop]
 have hpo2 := PL_len out
 have hdl : (X.drop i).length = p.length - i := by rw [List.length_drop, hpl]
 have hcd : ∀ a, a ∈ X.drop i → a.cells.length = 7 := fun a ha => hcl a (List.mem_of_mem_drop ha)
 have hnd : ∀ a, a ∈ X.drop i → ∀ c, c ∈ a.cells → c.nu = true := fun a ha => hnu a (List.mem_of_mem_drop ha)
 have hti : ((i : Nat) : Int).toNat = i := oM
 have hfl : (PL (qput p ⟨ea, eb, ec, eq⟩)).length = out.length + (X.drop i).length := by rw [← hfin, List.length_append, hpo2]
 refine T.seqE (mkS [(4, .v (.sl (PL (qput p ⟨ea, eb, ec, eq⟩))))] [] 73 true) ?_ ?_
 ·refine regA ?_
  refine runA ?_
  refine evG ggA (ss_slice_l (Zaa rfl) (Zag rfl) rfl hcl rfl oM oM) ?_
  rw [hti]
  refine evG ggA (Zcj (Zaa rfl) (Zaf rfl) rfl rfl hpo2 rfl hcd dC (by unfold maxLen; omega) oM rfl (fun _ => hnd)) ?_
  rw [hfin]
  refine runA ?_
  refine Zao ?_
  exact Zae (s' := mkS [(4, .v (.sl (PL (qput p ⟨ea, eb, ec, eq⟩))))] [] 73 true) entA rfl
 refine goA ?_
 exact rfl
end Ab
