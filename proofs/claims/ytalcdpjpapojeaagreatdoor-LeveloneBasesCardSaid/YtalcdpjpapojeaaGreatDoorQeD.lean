/- The document's expansion of a polynomial by the contracts. -/
import Derived.Test.YtalcdpjpapojeaaGreatDoorQeC
set_option linter.all false
namespace Ab
open Go Go.RowKit Go.Proofs Hp
set_option maxRecDepth 100000
set_option maxHeartbeats 64000000 in
theorem rexp_core {L : List QT} {Pn : Nat} {Ef : Nat → List AV} {Ff : Rat → List Nat → List AV} {Sf : List QT → Int × List AV} (hP : Pn ≤ 1000) (hl : L.length ≤ 100000)
  (he : PC Tryz.prog 107 [iV (Pn : Nat)] (.agg [iV (Sf []).1, .sl (Sf []).2]))
  (h2 : PC Tryz.prog 106 [iV 2, iV (Pn : Nat)] (.tup [.agg [iV 0, .sl (Ef 2)], iV 0])) (h4 : PC Tryz.prog 106 [iV 4, iV (Pn : Nat)] (.tup [.agg [iV 0, .sl (Ef 4)], iV 0])) (h6 : PC Tryz.prog 106 [iV 6, iV (Pn : Nat)] (.tup [.agg [iV 0, .sl (Ef 6)], iV 0]))
  (hL : ∀ t, t ∈ L → 0 ≤ t.a ∧ 0 ≤ t.b ∧ 0 ≤ t.c ∧ t.a + t.b + t.c ≤ 30)
  (hmon : ∀ t, t ∈ L → PC Tryz.prog 108 [rA t.q, iV 0, iV (Pn : Nat)] (.tup [.agg [iV 0, .sl (Ff t.q [])], iV 0]))
  (hmul : ∀ t, t ∈ L → ∀ l k, Zdk l → w246 k → l.length < 30 → PC Tryz.prog 109 [.agg [iV 0, .sl (Ff t.q l)], .agg [iV 0, .sl (Ef k)]] (.tup [.agg [iV 0, .sl (Ff t.q (k :: l))], iV 0]))
  (hcut : ∀ t, t ∈ L → ∀ l, Zdk l → l.length ≤ 30 → PC Tryz.prog 110 [.agg [iV 0, .sl (Ff t.q l)], iV (Pn : Nat)] (.tup [.agg [iV 0, .sl (Ff t.q l)], iV 0]))
  (hadd : ∀ A t B, L = A ++ t :: B → PC Tryz.prog 111 [.agg [iV (Sf A).1, .sl (Sf A).2], .agg [iV 0, .sl (Ff t.q (qW t))]] (.tup [.agg [iV (Sf (A ++ [t])).1, .sl (Sf (A ++ [t])).2], iV 0])) :
  PC Tryz.prog 72 [.sl (PL L), iV (Pn : Nat)] (.agg [iV (Sf L).1, .sl (Sf L).2]) := by
 have hyl := PL_len L
 obtain ⟨Y, hY⟩ : ∃ Y, Y = PL L := ⟨_, rfl⟩
 rw [← hY] at hyl ⊢
 refine pb1 Tryz.func72 (Zac.agg Zaj) ?_
 refine goA ?_
 refine T.loop (fun N s1 => (N = 3 ∧ s1 = mkS [(0, .v (.sl Y)), (1, .v (iV (Pn : Nat))), (4, .ptr 4 0), (5, .ptr 5 0), (6, .v (iV 0))] [(4, .var [.v (iV 0), .v (.p nilV)]), (5, .var [.v (iV 0), .v (.p nilV), .v (iV 0), .v (.p nilV), .v (iV 0), .v (.p nilV)])] 95 true) ∨ (N = 2 ∧ s1 = mkS [(0, .v (.sl Y)), (1, .v (iV (Pn : Nat))), (4, .ptr 4 0), (5, .ptr 5 0), (6, .v (iV 1))] [(4, .var [.v (iV 0), .v (.p nilV)]), (5, .var [.v (iV 0), .v (.sl (Ef 2)), .v (iV 0), .v (.p nilV), .v (iV 0), .v (.p nilV)])] 95 true) ∨ (N = 1 ∧ s1 = mkS [(0, .v (.sl Y)), (1, .v (iV (Pn : Nat))), (4, .ptr 4 0), (5, .ptr 5 0), (6, .v (iV 2))] [(4, .var [.v (iV 0), .v (.p nilV)]), (5, .var [.v (iV 0), .v (.sl (Ef 2)), .v (iV 0), .v (.sl (Ef 4)), .v (iV 0), .v (.p nilV)])] 95 true) ∨ (N = 0 ∧ s1 = mkS [(0, .v (.sl Y)), (1, .v (iV (Pn : Nat))), (4, .ptr 4 0), (5, .ptr 5 0), (6, .v (iV 3))] [(4, .var [.v (iV 0), .v (.p nilV)]), (5, .var [.v (iV 0), .v (.sl (Ef 2)), .v (iV 0), .v (.sl (Ef 4)), .v (iV 0), .v (.sl (Ef 6))])] 95 true)) 3
  (s' := mkS [(0, .v (.sl Y)), (1, .v (iV (Pn : Nat))), (4, .ptr 4 0), (5, .ptr 5 0), (6, .v (iV 0))] [(4, .var [.v (iV 0), .v (.p nilV)]), (5, .var [.v (iV 0), .v (.p nilV), .v (iV 0), .v (.p nilV), .v (iV 0), .v (.p nilV)])] 95 true) entA (.inl ⟨rfl, rfl⟩) ?_
 rintro _ _ (⟨rfl, rfl⟩ | ⟨rfl, rfl⟩ | ⟨rfl, rfl⟩ | ⟨rfl, rfl⟩)
 ·refine goA ?_
  refine clG h2 ?_
  refine evG ggA (Zcu (Zaa rfl) arr_s3 rfl rfl dC dC) ?_
  refine goA ?_
  exact Zab (k := 2) (s' := mkS [(0, .v (.sl Y)), (1, .v (iV (Pn : Nat))), (4, .ptr 4 0), (5, .ptr 5 0), (6, .v (iV 1))] [(4, .var [.v (iV 0), .v (.p nilV)]), (5, .var [.v (iV 0), .v (.sl (Ef 2)), .v (iV 0), .v (.p nilV), .v (iV 0), .v (.p nilV)])] 95 true) oM entA (.inr (.inl ⟨rfl, rfl⟩))
 ·refine goA ?_
  refine clG h4 ?_
  refine evG ggA (Zcu (Zaa rfl) arr_s3 rfl rfl dC dC) ?_
  refine goA ?_
  exact Zab (k := 1) (s' := mkS [(0, .v (.sl Y)), (1, .v (iV (Pn : Nat))), (4, .ptr 4 0), (5, .ptr 5 0), (6, .v (iV 2))] [(4, .var [.v (iV 0), .v (.p nilV)]), (5, .var [.v (iV 0), .v (.sl (Ef 2)), .v (iV 0), .v (.sl (Ef 4)), .v (iV 0), .v (.p nilV)])] 95 true) oM entA (.inr (.inr (.inl ⟨rfl, rfl⟩)))
 ·refine goA ?_
  refine clG h6 ?_
  refine evG ggA (Zcu (Zaa rfl) arr_s3 rfl rfl dC dC) ?_
  refine goA ?_
  exact Zab (k := 0) (s' := mkS [(0, .v (.sl Y)), (1, .v (iV (Pn : Nat))), (4, .ptr 4 0), (5, .ptr 5 0), (6, .v (iV 3))] [(4, .var [.v (iV 0), .v (.p nilV)]), (5, .var [.v (iV 0), .v (.sl (Ef 2)), .v (iV 0), .v (.sl (Ef 4)), .v (iV 0), .v (.sl (Ef 6))])] 95 true) oM entA (.inr (.inr (.inr ⟨rfl, rfl⟩)))
 refine goA ?_
 refine clG he ?_
 refine T.loop (fun N s1 => ∃ A B : List QT, L = A ++ B ∧ N = B.length ∧ s1 = mkS [(0, .v (.sl Y)), (1, .v (iV (Pn : Nat))), (4, .ptr 4 0), (5, .ptr 5 0), (7, .ptr 7 0), (8, .v (iV A.length))] [(4, .var [.v (iV 0), .v (.p nilV)]), (5, .var [.v (iV 0), .v (.sl (Ef 2)), .v (iV 0), .v (.sl (Ef 4)), .v (iV 0), .v (.sl (Ef 6))]), (7, .var [.v (iV (Sf A).1), .v (.sl (Sf A).2)])] 95 true) L.length
  (s' := mkS [(0, .v (.sl Y)), (1, .v (iV (Pn : Nat))), (4, .ptr 4 0), (5, .ptr 5 0), (7, .ptr 7 0), (8, .v (iV ((0 : Nat) : Int)))] [(4, .var [.v (iV 0), .v (.p nilV)]), (5, .var [.v (iV 0), .v (.sl (Ef 2)), .v (iV 0), .v (.sl (Ef 4)), .v (iV 0), .v (.sl (Ef 6))]), (7, .var [.v (iV (Sf []).1), .v (.sl (Sf []).2)])] 95 true) entA ⟨[], L, rfl, rfl, rfl⟩ ?_
 clear he h2 h4 h6
 rintro _ _ ⟨A, B, hAB, rfl, rfl⟩
 have hlA : L.length = A.length + B.length := by rw [hAB]; simp
 rcases B with _ | ⟨t, B⟩
 ·have b3 : decide ((A.length : Int) < (Y.length : Int)) = false := decide_eq_false (by simp at hlA; omega)
  have hLA : L = A := by rw [hAB]; simp
  rw [hLA]
  refine goA ?_
  exact rfl
 have b3 : decide ((A.length : Int) < (Y.length : Int)) = true := decide_eq_true (by simp at hlA; omega)
 have hget : Y[((A.length : Nat) : Int).toNat]? = some (qe t).av := by rw [hY]; exact av_idx hAB
 have htm : t ∈ L := by rw [hAB]; simp
 have k1 := hL t htm
 have c1 := hmon t htm
 have c2 := hmul t htm
 have c4 := hcut t htm
 have c3 := hadd A t B hAB
 have hAB2 : L = (A ++ [t]) ++ B := by rw [hAB]; simp
 have hlB : B.length < (t :: B).length := by simp
 have hnx : ((A.length : Nat) : Int) + 1 = ((A ++ [t]).length : Nat) := by simp
 simp only [List.length_cons] at hlA
 clear hAB hL hmon hmul hadd hcut htm
 obtain ⟨ta, tb, tc, tq⟩ := t
 simp only at k1 c1 c2 c3 c4
 obtain ⟨na, rfl⟩ : ∃ n : Nat, ta = n := ⟨ta.toNat, oM⟩
 obtain ⟨nb, rfl⟩ : ∃ n : Nat, tb = n := ⟨tb.toNat, oM⟩
 obtain ⟨nc, rfl⟩ : ∃ n : Nat, tc = n := ⟨tc.toNat, oM⟩
 have k2 : na + nb + nc ≤ 30 := oM
 have a1 : ∀ j, Zdk (List.replicate j 2) := fun j => by rw [← List.append_nil (List.replicate _ 2)]; exact all_rep all_nil (.inl rfl)
 have a2 : ∀ j, Zdk (List.replicate j 4 ++ List.replicate na 2) := fun j => all_rep (a1 na) (.inr (.inl rfl))
 have a3 : ∀ j, Zdk (List.replicate j 6 ++ (List.replicate nb 4 ++ List.replicate na 2)) := fun j => all_rep (a2 nb) (.inr (.inr rfl))
 have c3 : PC Tryz.prog 111 [.agg [iV (Sf A).1, .sl (Sf A).2], .agg [iV 0, .sl (Ff tq (List.replicate nc 6 ++ (List.replicate nb 4 ++ List.replicate na 2)))]] (.tup [.agg [iV (Sf (A ++ [⟨na, nb, nc, tq⟩])).1, .sl (Sf (A ++ [⟨na, nb, nc, tq⟩])).2], iV 0]) := c3
 have hget : Y[((A.length : Nat) : Int).toNat]? = some (.agg [iV (na : Nat), iV (nb : Nat), iV (nc : Nat), .p (.bool (decide (tq.num < 0))), .sl ((dgs tq.num.natAbs).map u32), .p (.bool (decide ((tq.den : Int) < 0))), .sl ((dgs (tq.den : Int).natAbs).map u32)]) := hget
 refine goA ?_
 refine ixG hget ?_
 refine clG c1 ?_
 refine ixG hget ?_
 refine ixG hget ?_
 refine ixG hget ?_
 refine evG ggA (Zaw (Zaa rfl) (Zaf rfl) rfl rfl rfl rfl (Zee rfl) (Nat.le_of_ble_eq_true rfl)) ?_
 refine goA ?_
 refine T.loop (fun N s1 => (N = 3 ∧ s1 = mkS [(0, .v (.sl Y)), (1, .v (iV (Pn : Nat))), (4, .ptr 4 0), (5, .ptr 5 0), (7, .ptr 7 0), (8, .v (iV A.length)), (9, .ptr 9 0), (61, .v (.sl [iV (na : Nat), iV (nb : Nat), iV (nc : Nat)])), (62, .v (iV 3)), (63, .v (iV 0))] [(4, .var [.v (iV 0), .v (.p nilV)]), (5, .var [.v (iV 0), .v (.sl (Ef 2)), .v (iV 0), .v (.sl (Ef 4)), .v (iV 0), .v (.sl (Ef 6))]), (7, .var [.v (iV (Sf A).1), .v (.sl (Sf A).2)]), (9, .var [.v (iV 0), .v (.sl (Ff tq ([])))])] 95 true) ∨ (N = 2 ∧ s1 = mkS [(0, .v (.sl Y)), (1, .v (iV (Pn : Nat))), (4, .ptr 4 0), (5, .ptr 5 0), (7, .ptr 7 0), (8, .v (iV A.length)), (9, .ptr 9 0), (61, .v (.sl [iV (na : Nat), iV (nb : Nat), iV (nc : Nat)])), (62, .v (iV 3)), (63, .v (iV 1))] [(4, .var [.v (iV 0), .v (.p nilV)]), (5, .var [.v (iV 0), .v (.sl (Ef 2)), .v (iV 0), .v (.sl (Ef 4)), .v (iV 0), .v (.sl (Ef 6))]), (7, .var [.v (iV (Sf A).1), .v (.sl (Sf A).2)]), (9, .var [.v (iV 0), .v (.sl (Ff tq (List.replicate na 2)))])] 95 true) ∨ (N = 1 ∧ s1 = mkS [(0, .v (.sl Y)), (1, .v (iV (Pn : Nat))), (4, .ptr 4 0), (5, .ptr 5 0), (7, .ptr 7 0), (8, .v (iV A.length)), (9, .ptr 9 0), (61, .v (.sl [iV (na : Nat), iV (nb : Nat), iV (nc : Nat)])), (62, .v (iV 3)), (63, .v (iV 2))] [(4, .var [.v (iV 0), .v (.p nilV)]), (5, .var [.v (iV 0), .v (.sl (Ef 2)), .v (iV 0), .v (.sl (Ef 4)), .v (iV 0), .v (.sl (Ef 6))]), (7, .var [.v (iV (Sf A).1), .v (.sl (Sf A).2)]), (9, .var [.v (iV 0), .v (.sl (Ff tq (List.replicate nb 4 ++ List.replicate na 2)))])] 95 true) ∨ (N = 0 ∧ s1 = mkS [(0, .v (.sl Y)), (1, .v (iV (Pn : Nat))), (4, .ptr 4 0), (5, .ptr 5 0), (7, .ptr 7 0), (8, .v (iV A.length)), (9, .ptr 9 0), (61, .v (.sl [iV (na : Nat), iV (nb : Nat), iV (nc : Nat)])), (62, .v (iV 3)), (63, .v (iV 3))] [(4, .var [.v (iV 0), .v (.p nilV)]), (5, .var [.v (iV 0), .v (.sl (Ef 2)), .v (iV 0), .v (.sl (Ef 4)), .v (iV 0), .v (.sl (Ef 6))]), (7, .var [.v (iV (Sf A).1), .v (.sl (Sf A).2)]), (9, .var [.v (iV 0), .v (.sl (Ff tq (List.replicate nc 6 ++ (List.replicate nb 4 ++ List.replicate na 2))))])] 95 true)) 3
  (s' := mkS [(0, .v (.sl Y)), (1, .v (iV (Pn : Nat))), (4, .ptr 4 0), (5, .ptr 5 0), (7, .ptr 7 0), (8, .v (iV A.length)), (9, .ptr 9 0), (61, .v (.sl [iV (na : Nat), iV (nb : Nat), iV (nc : Nat)])), (62, .v (iV 3)), (63, .v (iV 0))] [(4, .var [.v (iV 0), .v (.p nilV)]), (5, .var [.v (iV 0), .v (.sl (Ef 2)), .v (iV 0), .v (.sl (Ef 4)), .v (iV 0), .v (.sl (Ef 6))]), (7, .var [.v (iV (Sf A).1), .v (.sl (Sf A).2)]), (9, .var [.v (iV 0), .v (.sl (Ff tq ([])))])] 95 true) entA (.inl ⟨rfl, rfl⟩) ?_
 rintro _ _ (⟨rfl, rfl⟩ | ⟨rfl, rfl⟩ | ⟨rfl, rfl⟩ | ⟨rfl, rfl⟩)
 ·have n0 : ([iV (na : Nat), iV (nb : Nat), iV (nc : Nat)] : List AV)[(0 : Int).toNat]? = some (iV (na : Nat)) := rfl
  refine goA ?_
  refine evG ggA (Zbh (Zaa rfl) (Zag rfl) rfl rfl dC n0 rfl) ?_
  refine goA ?_
  refine T.loop (fun M s1 => ∃ j : Nat, M = na - j ∧ j ≤ na ∧ s1 = mkS [(0, .v (.sl Y)), (1, .v (iV (Pn : Nat))), (4, .ptr 4 0), (5, .ptr 5 0), (7, .ptr 7 0), (8, .v (iV A.length)), (9, .ptr 9 0), (61, .v (.sl [iV (na : Nat), iV (nb : Nat), iV (nc : Nat)])), (62, .v (iV 3)), (63, .v (iV 0)), (11, .v (iV 0)), (12, .v (iV (na : Nat))), (13, .v (iV j))] [(4, .var [.v (iV 0), .v (.p nilV)]), (5, .var [.v (iV 0), .v (.sl (Ef 2)), .v (iV 0), .v (.sl (Ef 4)), .v (iV 0), .v (.sl (Ef 6))]), (7, .var [.v (iV (Sf A).1), .v (.sl (Sf A).2)]), (9, .var [.v (iV 0), .v (.sl (Ff tq (List.replicate j 2)))])] 95 true) na
   (s' := mkS [(0, .v (.sl Y)), (1, .v (iV (Pn : Nat))), (4, .ptr 4 0), (5, .ptr 5 0), (7, .ptr 7 0), (8, .v (iV A.length)), (9, .ptr 9 0), (61, .v (.sl [iV (na : Nat), iV (nb : Nat), iV (nc : Nat)])), (62, .v (iV 3)), (63, .v (iV 0)), (11, .v (iV 0)), (12, .v (iV (na : Nat))), (13, .v (iV ((0 : Nat) : Int)))] [(4, .var [.v (iV 0), .v (.p nilV)]), (5, .var [.v (iV 0), .v (.sl (Ef 2)), .v (iV 0), .v (.sl (Ef 4)), .v (iV 0), .v (.sl (Ef 6))]), (7, .var [.v (iV (Sf A).1), .v (.sl (Sf A).2)]), (9, .var [.v (iV 0), .v (.sl (Ff tq (List.replicate 0 2)))])] 95 true) entA ⟨0, rfl, Nat.zero_le _, rfl⟩ ?_
  rintro _ _ ⟨j, rfl, hj, rfl⟩
  by_cases hlt : j < na
  ·have b4 : decide ((j : Int) < (na : Int)) = true := decide_eq_true oM
   have cm := c2 (List.replicate j 2) 2 (a1 j) (.inl rfl) (by simp; omega)
   have cm : PC Tryz.prog 109 [.agg [iV 0, .sl (Ff tq (List.replicate j 2))], .agg [iV 0, .sl (Ef 2)]] (.tup [.agg [iV 0, .sl (Ff tq (List.replicate (j + 1) 2))], iV 0]) := cm
   have cc := c4 (List.replicate (j + 1) 2) (a1 (j + 1)) (by simp; omega)
   refine goA ?_
   refine evG ggA (Zcu (Zaa rfl) arr_s3 rfl rfl dC dC) ?_
   refine goA ?_
   refine clG cm ?_
   refine clG cc ?_
   exact Zab (k := na - (j + 1)) (s' := mkS [(0, .v (.sl Y)), (1, .v (iV (Pn : Nat))), (4, .ptr 4 0), (5, .ptr 5 0), (7, .ptr 7 0), (8, .v (iV A.length)), (9, .ptr 9 0), (61, .v (.sl [iV (na : Nat), iV (nb : Nat), iV (nc : Nat)])), (62, .v (iV 3)), (63, .v (iV 0)), (11, .v (iV 0)), (12, .v (iV (na : Nat))), (13, .v (iV ((j : Int) + 1)))] [(4, .var [.v (iV 0), .v (.p nilV)]), (5, .var [.v (iV 0), .v (.sl (Ef 2)), .v (iV 0), .v (.sl (Ef 4)), .v (iV 0), .v (.sl (Ef 6))]), (7, .var [.v (iV (Sf A).1), .v (.sl (Sf A).2)]), (9, .var [.v (iV 0), .v (.sl (Ff tq (List.replicate (j + 1) 2)))])] 95 true) oM entA ⟨j + 1, rfl, hlt, rfl⟩
  ·obtain rfl : na = j := oM
   have b4 : decide (((na : Nat) : Int) < (na : Int)) = false := decide_eq_false oM
   refine goA ?_
   exact Zab (k := 2) (s' := mkS [(0, .v (.sl Y)), (1, .v (iV (Pn : Nat))), (4, .ptr 4 0), (5, .ptr 5 0), (7, .ptr 7 0), (8, .v (iV A.length)), (9, .ptr 9 0), (61, .v (.sl [iV (na : Nat), iV (nb : Nat), iV (nc : Nat)])), (62, .v (iV 3)), (63, .v (iV 1))] [(4, .var [.v (iV 0), .v (.p nilV)]), (5, .var [.v (iV 0), .v (.sl (Ef 2)), .v (iV 0), .v (.sl (Ef 4)), .v (iV 0), .v (.sl (Ef 6))]), (7, .var [.v (iV (Sf A).1), .v (.sl (Sf A).2)]), (9, .var [.v (iV 0), .v (.sl (Ff tq (List.replicate na 2)))])] 95 true) oM entA (.inr (.inl ⟨rfl, rfl⟩))
 ·have n0 : ([iV (na : Nat), iV (nb : Nat), iV (nc : Nat)] : List AV)[(1 : Int).toNat]? = some (iV (nb : Nat)) := rfl
  refine goA ?_
  refine evG ggA (Zbh (Zaa rfl) (Zag rfl) rfl rfl dC n0 rfl) ?_
  refine goA ?_
  refine T.loop (fun M s1 => ∃ j : Nat, M = nb - j ∧ j ≤ nb ∧ s1 = mkS [(0, .v (.sl Y)), (1, .v (iV (Pn : Nat))), (4, .ptr 4 0), (5, .ptr 5 0), (7, .ptr 7 0), (8, .v (iV A.length)), (9, .ptr 9 0), (61, .v (.sl [iV (na : Nat), iV (nb : Nat), iV (nc : Nat)])), (62, .v (iV 3)), (63, .v (iV 1)), (11, .v (iV 1)), (12, .v (iV (nb : Nat))), (13, .v (iV j))] [(4, .var [.v (iV 0), .v (.p nilV)]), (5, .var [.v (iV 0), .v (.sl (Ef 2)), .v (iV 0), .v (.sl (Ef 4)), .v (iV 0), .v (.sl (Ef 6))]), (7, .var [.v (iV (Sf A).1), .v (.sl (Sf A).2)]), (9, .var [.v (iV 0), .v (.sl (Ff tq (List.replicate j 4 ++ (List.replicate na 2))))])] 95 true) nb
   (s' := mkS [(0, .v (.sl Y)), (1, .v (iV (Pn : Nat))), (4, .ptr 4 0), (5, .ptr 5 0), (7, .ptr 7 0), (8, .v (iV A.length)), (9, .ptr 9 0), (61, .v (.sl [iV (na : Nat), iV (nb : Nat), iV (nc : Nat)])), (62, .v (iV 3)), (63, .v (iV 1)), (11, .v (iV 1)), (12, .v (iV (nb : Nat))), (13, .v (iV ((0 : Nat) : Int)))] [(4, .var [.v (iV 0), .v (.p nilV)]), (5, .var [.v (iV 0), .v (.sl (Ef 2)), .v (iV 0), .v (.sl (Ef 4)), .v (iV 0), .v (.sl (Ef 6))]), (7, .var [.v (iV (Sf A).1), .v (.sl (Sf A).2)]), (9, .var [.v (iV 0), .v (.sl (Ff tq (List.replicate 0 4 ++ (List.replicate na 2))))])] 95 true) entA ⟨0, rfl, Nat.zero_le _, rfl⟩ ?_
  rintro _ _ ⟨j, rfl, hj, rfl⟩
  by_cases hlt : j < nb
  ·have b4 : decide ((j : Int) < (nb : Int)) = true := decide_eq_true oM
   have cm := c2 (List.replicate j 4 ++ (List.replicate na 2)) 4 (a2 j) (.inr (.inl rfl)) (by simp; omega)
   have cm : PC Tryz.prog 109 [.agg [iV 0, .sl (Ff tq (List.replicate j 4 ++ (List.replicate na 2)))], .agg [iV 0, .sl (Ef 4)]] (.tup [.agg [iV 0, .sl (Ff tq (List.replicate (j + 1) 4 ++ (List.replicate na 2)))], iV 0]) := cm
   have cc := c4 (List.replicate (j + 1) 4 ++ (List.replicate na 2)) (a2 (j + 1)) (by simp; omega)
   refine goA ?_
   refine evG ggA (Zcu (Zaa rfl) arr_s3 rfl rfl dC dC) ?_
   refine goA ?_
   refine clG cm ?_
   refine clG cc ?_
   exact Zab (k := nb - (j + 1)) (s' := mkS [(0, .v (.sl Y)), (1, .v (iV (Pn : Nat))), (4, .ptr 4 0), (5, .ptr 5 0), (7, .ptr 7 0), (8, .v (iV A.length)), (9, .ptr 9 0), (61, .v (.sl [iV (na : Nat), iV (nb : Nat), iV (nc : Nat)])), (62, .v (iV 3)), (63, .v (iV 1)), (11, .v (iV 1)), (12, .v (iV (nb : Nat))), (13, .v (iV ((j : Int) + 1)))] [(4, .var [.v (iV 0), .v (.p nilV)]), (5, .var [.v (iV 0), .v (.sl (Ef 2)), .v (iV 0), .v (.sl (Ef 4)), .v (iV 0), .v (.sl (Ef 6))]), (7, .var [.v (iV (Sf A).1), .v (.sl (Sf A).2)]), (9, .var [.v (iV 0), .v (.sl (Ff tq (List.replicate (j + 1) 4 ++ (List.replicate na 2))))])] 95 true) oM entA ⟨j + 1, rfl, hlt, rfl⟩
  ·obtain rfl : nb = j := oM
   have b4 : decide (((nb : Nat) : Int) < (nb : Int)) = false := decide_eq_false oM
   refine goA ?_
   exact Zab (k := 1) (s' := mkS [(0, .v (.sl Y)), (1, .v (iV (Pn : Nat))), (4, .ptr 4 0), (5, .ptr 5 0), (7, .ptr 7 0), (8, .v (iV A.length)), (9, .ptr 9 0), (61, .v (.sl [iV (na : Nat), iV (nb : Nat), iV (nc : Nat)])), (62, .v (iV 3)), (63, .v (iV 2))] [(4, .var [.v (iV 0), .v (.p nilV)]), (5, .var [.v (iV 0), .v (.sl (Ef 2)), .v (iV 0), .v (.sl (Ef 4)), .v (iV 0), .v (.sl (Ef 6))]), (7, .var [.v (iV (Sf A).1), .v (.sl (Sf A).2)]), (9, .var [.v (iV 0), .v (.sl (Ff tq (List.replicate nb 4 ++ List.replicate na 2)))])] 95 true) oM entA (.inr (.inr (.inl ⟨rfl, rfl⟩)))
 ·have n0 : ([iV (na : Nat), iV (nb : Nat), iV (nc : Nat)] : List AV)[(2 : Int).toNat]? = some (iV (nc : Nat)) := rfl
  refine goA ?_
  refine evG ggA (Zbh (Zaa rfl) (Zag rfl) rfl rfl dC n0 rfl) ?_
  refine goA ?_
  refine T.loop (fun M s1 => ∃ j : Nat, M = nc - j ∧ j ≤ nc ∧ s1 = mkS [(0, .v (.sl Y)), (1, .v (iV (Pn : Nat))), (4, .ptr 4 0), (5, .ptr 5 0), (7, .ptr 7 0), (8, .v (iV A.length)), (9, .ptr 9 0), (61, .v (.sl [iV (na : Nat), iV (nb : Nat), iV (nc : Nat)])), (62, .v (iV 3)), (63, .v (iV 2)), (11, .v (iV 2)), (12, .v (iV (nc : Nat))), (13, .v (iV j))] [(4, .var [.v (iV 0), .v (.p nilV)]), (5, .var [.v (iV 0), .v (.sl (Ef 2)), .v (iV 0), .v (.sl (Ef 4)), .v (iV 0), .v (.sl (Ef 6))]), (7, .var [.v (iV (Sf A).1), .v (.sl (Sf A).2)]), (9, .var [.v (iV 0), .v (.sl (Ff tq (List.replicate j 6 ++ (List.replicate nb 4 ++ List.replicate na 2))))])] 95 true) nc
   (s' := mkS [(0, .v (.sl Y)), (1, .v (iV (Pn : Nat))), (4, .ptr 4 0), (5, .ptr 5 0), (7, .ptr 7 0), (8, .v (iV A.length)), (9, .ptr 9 0), (61, .v (.sl [iV (na : Nat), iV (nb : Nat), iV (nc : Nat)])), (62, .v (iV 3)), (63, .v (iV 2)), (11, .v (iV 2)), (12, .v (iV (nc : Nat))), (13, .v (iV ((0 : Nat) : Int)))] [(4, .var [.v (iV 0), .v (.p nilV)]), (5, .var [.v (iV 0), .v (.sl (Ef 2)), .v (iV 0), .v (.sl (Ef 4)), .v (iV 0), .v (.sl (Ef 6))]), (7, .var [.v (iV (Sf A).1), .v (.sl (Sf A).2)]), (9, .var [.v (iV 0), .v (.sl (Ff tq (List.replicate 0 6 ++ (List.replicate nb 4 ++ List.replicate na 2))))])] 95 true) entA ⟨0, rfl, Nat.zero_le _, rfl⟩ ?_
  rintro _ _ ⟨j, rfl, hj, rfl⟩
  by_cases hlt : j < nc
  ·have b4 : decide ((j : Int) < (nc : Int)) = true := decide_eq_true oM
   have cm := c2 (List.replicate j 6 ++ (List.replicate nb 4 ++ List.replicate na 2)) 6 (a3 j) (.inr (.inr rfl)) (by simp; omega)
   have cm : PC Tryz.prog 109 [.agg [iV 0, .sl (Ff tq (List.replicate j 6 ++ (List.replicate nb 4 ++ List.replicate na 2)))], .agg [iV 0, .sl (Ef 6)]] (.tup [.agg [iV 0, .sl (Ff tq (List.replicate (j + 1) 6 ++ (List.replicate nb 4 ++ List.replicate na 2)))], iV 0]) := cm
   have cc := c4 (List.replicate (j + 1) 6 ++ (List.replicate nb 4 ++ List.replicate na 2)) (a3 (j + 1)) (by simp; omega)
   refine goA ?_
   refine evG ggA (Zcu (Zaa rfl) arr_s3 rfl rfl dC dC) ?_
   refine goA ?_
   refine clG cm ?_
   refine clG cc ?_
   exact Zab (k := nc - (j + 1)) (s' := mkS [(0, .v (.sl Y)), (1, .v (iV (Pn : Nat))), (4, .ptr 4 0), (5, .ptr 5 0), (7, .ptr 7 0), (8, .v (iV A.length)), (9, .ptr 9 0), (61, .v (.sl [iV (na : Nat), iV (nb : Nat), iV (nc : Nat)])), (62, .v (iV 3)), (63, .v (iV 2)), (11, .v (iV 2)), (12, .v (iV (nc : Nat))), (13, .v (iV ((j : Int) + 1)))] [(4, .var [.v (iV 0), .v (.p nilV)]), (5, .var [.v (iV 0), .v (.sl (Ef 2)), .v (iV 0), .v (.sl (Ef 4)), .v (iV 0), .v (.sl (Ef 6))]), (7, .var [.v (iV (Sf A).1), .v (.sl (Sf A).2)]), (9, .var [.v (iV 0), .v (.sl (Ff tq (List.replicate (j + 1) 6 ++ (List.replicate nb 4 ++ List.replicate na 2))))])] 95 true) oM entA ⟨j + 1, rfl, hlt, rfl⟩
  ·obtain rfl : nc = j := oM
   have b4 : decide (((nc : Nat) : Int) < (nc : Int)) = false := decide_eq_false oM
   refine goA ?_
   exact Zab (k := 0) (s' := mkS [(0, .v (.sl Y)), (1, .v (iV (Pn : Nat))), (4, .ptr 4 0), (5, .ptr 5 0), (7, .ptr 7 0), (8, .v (iV A.length)), (9, .ptr 9 0), (61, .v (.sl [iV (na : Nat), iV (nb : Nat), iV (nc : Nat)])), (62, .v (iV 3)), (63, .v (iV 3))] [(4, .var [.v (iV 0), .v (.p nilV)]), (5, .var [.v (iV 0), .v (.sl (Ef 2)), .v (iV 0), .v (.sl (Ef 4)), .v (iV 0), .v (.sl (Ef 6))]), (7, .var [.v (iV (Sf A).1), .v (.sl (Sf A).2)]), (9, .var [.v (iV 0), .v (.sl (Ff tq (List.replicate nc 6 ++ (List.replicate nb 4 ++ List.replicate na 2))))])] 95 true) oM entA (.inr (.inr (.inr ⟨rfl, rfl⟩)))
 refine goA ?_
 refine clG c3 ?_
 rw [hnx]
 exact Zab (k := B.length) (s' := mkS [(0, .v (.sl Y)), (1, .v (iV (Pn : Nat))), (4, .ptr 4 0), (5, .ptr 5 0), (7, .ptr 7 0), (8, .v (iV ((A ++ [(⟨na, nb, nc, tq⟩ : QT)]).length : Nat)))] [(4, .var [.v (iV 0), .v (.p nilV)]), (5, .var [.v (iV 0), .v (.sl (Ef 2)), .v (iV 0), .v (.sl (Ef 4)), .v (iV 0), .v (.sl (Ef 6))]), (7, .var [.v (iV (Sf (A ++ [⟨na, nb, nc, tq⟩])).1), .v (.sl (Sf (A ++ [⟨na, nb, nc, tq⟩])).2)])] 95 true) hlB entA ⟨A ++ [⟨na, nb, nc, tq⟩], B, hAB2, rfl, rfl⟩
end Ab
