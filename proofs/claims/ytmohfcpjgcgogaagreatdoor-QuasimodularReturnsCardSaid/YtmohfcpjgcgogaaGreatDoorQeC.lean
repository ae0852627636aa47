/- The document's normalized form; the program's expansion of a polynomial by the contracts of what it calls: walked. -/
import Derived.Test.YtmohfcpjgcgogaaGreatDoorQA1
import Derived.Test.YtmohfcpjgcgogaaGreatDoorQmE
set_option linter.all false
namespace Ab
open Go Go.RowKit Go.Proofs Hp
set_option maxRecDepth 100000
set_option maxRecDepth 100000
section
variable {dm : Bool} {P : Program} {ops : Array Oper} {s : AS} {dst : Option Tmp} {ty : TypeId} {pos : String} {after : Array Edge} {g : Option (Nat × Bool)}
def ArrT (P : Program) (t : TypeId) (len n : Nat) : Prop := ∃ e i, P.underlying t = some (.array len e) ∧ P.info? e = some i ∧ i.size = n
theorem Zcu {t : TypeId} {len n : Nat} {y z : Operand} {k : IntKind} {i : Int} {id o : Nat} (hin : InB s dst) (ht : ArrT P t len n) (hy : s.ev y = some (.ptr id o)) (hz : s.ev z = some (.v (.p (.int k i)))) (h0 : 0 ≤ i) (hi : i < len) : Zbe dm P ops ⟨dst, .indexAddr t y z, ty, pos, after, g⟩ s (.ptr id (o + i.toNat * n)) .none :=
 Zba hin fun s' hag w0 M0 ρ a w _ hr => by
  obtain ⟨e, ei, h1, h2, h3⟩ := ht
  obtain ⟨h6, b, kk, h7, h8⟩ := hr.ev ((hag.ev (by simp [Op.operands])).trans hy)
  have h9 := Rep.p_inv (hr.ev ((hag.ev (by simp [Op.operands])).trans hz))
  refine ⟨.pointer (some ⟨b, o + i.toNat * n, none⟩), ?_, h6, b, kk, h7, rfl⟩
  have hi' : 0 ≤ i ∧ i < (len : Int) := ⟨h0, hi⟩
  simp [execOp, h8, h9, Instr.indexAt, asIntOf, run_underlying h1, hi', Go.sizeOf, typeInfo, h2, h3, addr_add, Instr.sureAddr]
end
theorem arrT_of {P : Program} {t : TypeId} {len n : Nat} (h : (match P.underlying t with | some (.array l e) => (match P.info? e with | some i => l == len && i.size == n | none => false) | _ => false) = true) : ArrT P t len n := by
  cases hu : P.underlying t with
  | none => rw [hu] at h; cases h
  | some d =>
    rw [hu] at h
    cases d <;> first | cases h | skip
    rename_i l e
    simp only at h
    cases hi : P.info? e with
    | none => rw [hi] at h; cases h
    | some i =>
      rw [hi] at h
      simp only [Bool.and_eq_true, beq_iff_eq] at h
      obtain ⟨rfl, rfl⟩ := h
      exact ⟨e, i, hu, hi, rfl⟩
theorem arr_s3 : ArrT Tryz.prog 76 3 2 := arrT_of (by kernel_rfl)
set_option maxHeartbeats 64000000 in
theorem pexp_core {X : List AV} {L : List QT} {Pn : Nat} {Ef : Nat → List AV} {Ff : Rat → List Nat → List AV} {Sf : List QT → Int × List AV} (hP : Pn ≤ 1000) (hl : L.length ≤ 100000)
  (hv : PC Tryz.prog 38 [.sl X] (bV true)) (ht : PC Tryz.prog 29 [.sl X] (.sl (PL L))) (hof : PC Tryz.prog 25 [iV 0] (rA 0)) (hm0 : PC Tryz.prog 40 [rA 0, iV 0, iV (Pn : Nat)] (.tup [.agg [iV (Sf []).1, .sl (Sf []).2], iV 0]))
  (h2 : PC Tryz.prog 41 [iV 2, iV (Pn : Nat)] (.tup [.agg [iV 0, .sl (Ef 2)], iV 0])) (h4 : PC Tryz.prog 41 [iV 4, iV (Pn : Nat)] (.tup [.agg [iV 0, .sl (Ef 4)], iV 0])) (h6 : PC Tryz.prog 41 [iV 6, iV (Pn : Nat)] (.tup [.agg [iV 0, .sl (Ef 6)], iV 0]))
  (hL : ∀ t, t ∈ L → 0 ≤ t.a ∧ 0 ≤ t.b ∧ 0 ≤ t.c ∧ t.a + t.b + t.c ≤ 30)
  (hmon : ∀ t, t ∈ L → PC Tryz.prog 40 [rA t.q, iV 0, iV (Pn : Nat)] (.tup [.agg [iV 0, .sl (Ff t.q [])], iV 0]))
  (hmul : ∀ t, t ∈ L → ∀ l k, Zdt l → w246 k → l.length < 30 → PC Tryz.prog 42 [.agg [iV 0, .sl (Ff t.q l)], .agg [iV 0, .sl (Ef k)]] (.tup [.agg [iV 0, .sl (Ff t.q (k :: l))], iV 0]))
  (hadd : ∀ A t B, L = A ++ t :: B → PC Tryz.prog 43 [.agg [iV (Sf A).1, .sl (Sf A).2], .agg [iV 0, .sl (Ff t.q (qW t))]] (.tup [.agg [iV (Sf (A ++ [t])).1, .sl (Sf (A ++ [t])).2], iV 0])) :
  PC Tryz.prog 15 [.sl X, iV (Pn : Nat)] (.tup [.agg [iV (Sf L).1, .sl (Sf L).2], iV 0]) := by
 have b1 : decide ((Pn : Int) < 0) = false := decide_eq_false (by omega)
 have b2 : decide ((Pn : Int) > 1000) = false := decide_eq_false (by omega)
 have hyl := Zft L
 obtain ⟨Y, hY⟩ : ∃ Y, Y = PL L := ⟨_, rfl⟩
 rw [← hY] at hyl ht
 refine Zas true Tryz.func15 rfl rfl rfl (Nat.le_of_ble_eq_true rfl) (Zao.agg Zbq) Zao.tmp ?_
 refine goA ?_
 refine evG ggA (Zab (Zaa rfl) rfl rfl hv) ?_
 refine goA ?_
 refine evG ggA (Zab (Zaa rfl) rfl rfl hof) ?_
 refine goA ?_
 refine evG ggA (Zab (Zaa rfl) rfl rfl hm0) ?_
 refine goA ?_
 refine T.loop (fun N s1 => (N = 3 ∧ s1 = mkS [(0, .v (.sl X)), (1, .v (iV (Pn : Nat))), (4, .ptr 4 0), (6, .ptr 6 0), (8, .ptr 8 0), (34, .v (iV 0))] [(4, .var [.v (iV 0), .v (.p nilV)]), (6, .var [.v (iV (Sf []).1), .v (.sl (Sf []).2)]), (8, .var [.v (iV 0), .v (.p nilV), .v (iV 0), .v (.p nilV), .v (iV 0), .v (.p nilV)])] 94 true) ∨ (N = 2 ∧ s1 = mkS [(0, .v (.sl X)), (1, .v (iV (Pn : Nat))), (4, .ptr 4 0), (6, .ptr 6 0), (8, .ptr 8 0), (34, .v (iV 1))] [(4, .var [.v (iV 0), .v (.p nilV)]), (6, .var [.v (iV (Sf []).1), .v (.sl (Sf []).2)]), (8, .var [.v (iV 0), .v (.sl (Ef 2)), .v (iV 0), .v (.p nilV), .v (iV 0), .v (.p nilV)])] 94 true) ∨ (N = 1 ∧ s1 = mkS [(0, .v (.sl X)), (1, .v (iV (Pn : Nat))), (4, .ptr 4 0), (6, .ptr 6 0), (8, .ptr 8 0), (34, .v (iV 2))] [(4, .var [.v (iV 0), .v (.p nilV)]), (6, .var [.v (iV (Sf []).1), .v (.sl (Sf []).2)]), (8, .var [.v (iV 0), .v (.sl (Ef 2)), .v (iV 0), .v (.sl (Ef 4)), .v (iV 0), .v (.p nilV)])] 94 true) ∨ (N = 0 ∧ s1 = mkS [(0, .v (.sl X)), (1, .v (iV (Pn : Nat))), (4, .ptr 4 0), (6, .ptr 6 0), (8, .ptr 8 0), (34, .v (iV 3))] [(4, .var [.v (iV 0), .v (.p nilV)]), (6, .var [.v (iV (Sf []).1), .v (.sl (Sf []).2)]), (8, .var [.v (iV 0), .v (.sl (Ef 2)), .v (iV 0), .v (.sl (Ef 4)), .v (iV 0), .v (.sl (Ef 6))])] 94 true)) 3
  (s' := mkS [(0, .v (.sl X)), (1, .v (iV (Pn : Nat))), (4, .ptr 4 0), (6, .ptr 6 0), (8, .ptr 8 0), (34, .v (iV 0))] [(4, .var [.v (iV 0), .v (.p nilV)]), (6, .var [.v (iV (Sf []).1), .v (.sl (Sf []).2)]), (8, .var [.v (iV 0), .v (.p nilV), .v (iV 0), .v (.p nilV), .v (iV 0), .v (.p nilV)])] 94 true) (by exact entA) (.inl ⟨rfl, rfl⟩) ?_
 rintro _ _ (⟨rfl, rfl⟩ | ⟨rfl, rfl⟩ | ⟨rfl, rfl⟩ | ⟨rfl, rfl⟩)
 ·refine goA ?_
  refine evG ggA (Zab (Zaa rfl) rfl rfl h2) ?_
  refine goA ?_
  refine evG ggA (Zcu (Zaa rfl) arr_s3 rfl rfl (by decide) (by decide)) ?_
  refine goA ?_
  exact Zae (k := 2) (s' := mkS [(0, .v (.sl X)), (1, .v (iV (Pn : Nat))), (4, .ptr 4 0), (6, .ptr 6 0), (8, .ptr 8 0), (34, .v (iV 1))] [(4, .var [.v (iV 0), .v (.p nilV)]), (6, .var [.v (iV (Sf []).1), .v (.sl (Sf []).2)]), (8, .var [.v (iV 0), .v (.sl (Ef 2)), .v (iV 0), .v (.p nilV), .v (iV 0), .v (.p nilV)])] 94 true) (by omega) (by exact entA) (.inr (.inl ⟨rfl, rfl⟩))
 ·refine goA ?_
  refine evG ggA (Zab (Zaa rfl) rfl rfl h4) ?_
  refine goA ?_
  refine evG ggA (Zcu (Zaa rfl) arr_s3 rfl rfl (by decide) (by decide)) ?_
  refine goA ?_
  exact Zae (k := 1) (s' := mkS [(0, .v (.sl X)), (1, .v (iV (Pn : Nat))), (4, .ptr 4 0), (6, .ptr 6 0), (8, .ptr 8 0), (34, .v (iV 2))] [(4, .var [.v (iV 0), .v (.p nilV)]), (6, .var [.v (iV (Sf []).1), .v (.sl (Sf []).2)]), (8, .var [.v (iV 0), .v (.sl (Ef 2)), .v (iV 0), .v (.sl (Ef 4)), .v (iV 0), .v (.p nilV)])] 94 true) (by omega) (by exact entA) (.inr (.inr (.inl ⟨rfl, rfl⟩)))
 ·refine goA ?_
  refine evG ggA (Zab (Zaa rfl) rfl rfl h6) ?_
  refine goA ?_
  refine evG ggA (Zcu (Zaa rfl) arr_s3 rfl rfl (by decide) (by decide)) ?_
  refine goA ?_
  exact Zae (k := 0) (s' := mkS [(0, .v (.sl X)), (1, .v (iV (Pn : Nat))), (4, .ptr 4 0), (6, .ptr 6 0), (8, .ptr 8 0), (34, .v (iV 3))] [(4, .var [.v (iV 0), .v (.p nilV)]), (6, .var [.v (iV (Sf []).1), .v (.sl (Sf []).2)]), (8, .var [.v (iV 0), .v (.sl (Ef 2)), .v (iV 0), .v (.sl (Ef 4)), .v (iV 0), .v (.sl (Ef 6))])] 94 true) (by omega) (by exact entA) (.inr (.inr (.inr ⟨rfl, rfl⟩)))
 refine goA ?_
 refine evG ggA (Zab (Zaa rfl) rfl rfl ht) ?_
 refine goA ?_
 refine T.loop (fun N s1 => ∃ A B : List QT, L = A ++ B ∧ N = B.length ∧ s1 = mkS [(1, .v (iV (Pn : Nat))), (4, .ptr 4 0), (6, .ptr 6 0), (8, .ptr 8 0), (49, .v (.sl Y)), (50, .v (iV (Y.length : Nat))), (51, .v (iV A.length))] [(4, .var [.v (iV 0), .v (.p nilV)]), (6, .var [.v (iV (Sf A).1), .v (.sl (Sf A).2)]), (8, .var [.v (iV 0), .v (.sl (Ef 2)), .v (iV 0), .v (.sl (Ef 4)), .v (iV 0), .v (.sl (Ef 6))])] 94 true) L.length
  (s' := mkS [(1, .v (iV (Pn : Nat))), (4, .ptr 4 0), (6, .ptr 6 0), (8, .ptr 8 0), (49, .v (.sl Y)), (50, .v (iV (Y.length : Nat))), (51, .v (iV ((0 : Nat) : Int)))] [(4, .var [.v (iV 0), .v (.p nilV)]), (6, .var [.v (iV (Sf []).1), .v (.sl (Sf []).2)]), (8, .var [.v (iV 0), .v (.sl (Ef 2)), .v (iV 0), .v (.sl (Ef 4)), .v (iV 0), .v (.sl (Ef 6))])] 94 true) (by exact entA) ⟨[], L, rfl, rfl, rfl⟩ ?_
 clear hof hm0 h2 h4 h6 hv ht
 rintro _ _ ⟨A, B, hAB, rfl, rfl⟩
 have hlA : L.length = A.length + B.length := by rw [hAB]; simp
 rcases B with _ | ⟨t, B⟩
 ·have b3 : decide ((A.length : Int) < (Y.length : Nat)) = false := decide_eq_false (by simp at hlA; omega)
  have hLA : L = A := by rw [hAB]; simp
  rw [hLA]
  refine goA ?_
  exact rfl
 have b3 : decide ((A.length : Int) < (Y.length : Nat)) = true := decide_eq_true (by simp at hlA; omega)
 have hget : Y[((A.length : Nat) : Int).toNat]? = some (qe t).av := by rw [hY]; exact av_idx hAB
 have htm : t ∈ L := by rw [hAB]; simp
 have k1 := hL t htm
 have c1 := hmon t htm
 have c2 := hmul t htm
 have c3 := hadd A t B hAB
 have hAB2 : L = (A ++ [t]) ++ B := by rw [hAB]; simp
 have hlB : B.length < (t :: B).length := by simp
 have hnx : ((A.length : Nat) : Int) + 1 = ((A ++ [t]).length : Nat) := by simp
 simp only [List.length_cons] at hlA
 clear hAB hL hmon hmul hadd htm
 obtain ⟨ta, tb, tc, tq⟩ := t
 simp only at k1 c1 c2 c3
 obtain ⟨na, rfl⟩ : ∃ n : Nat, ta = n := ⟨ta.toNat, by omega⟩
 obtain ⟨nb, rfl⟩ : ∃ n : Nat, tb = n := ⟨tb.toNat, by omega⟩
 obtain ⟨nc, rfl⟩ : ∃ n : Nat, tc = n := ⟨tc.toNat, by omega⟩
 have k2 : na + nb + nc ≤ 30 := by omega
 have a1 : ∀ j, Zdt (List.replicate j 2) := fun j => by rw [← List.append_nil (List.replicate _ 2)]; exact all_rep all_nil (.inl rfl)
 have a2 : ∀ j, Zdt (List.replicate j 4 ++ List.replicate na 2) := fun j => all_rep (a1 na) (.inr (.inl rfl))
 have a3 : ∀ j, Zdt (List.replicate j 6 ++ (List.replicate nb 4 ++ List.replicate na 2)) := fun j => all_rep (a2 nb) (.inr (.inr rfl))
 have c3 : PC Tryz.prog 43 [.agg [iV (Sf A).1, .sl (Sf A).2], .agg [iV 0, .sl (Ff tq (List.replicate nc 6 ++ (List.replicate nb 4 ++ List.replicate na 2)))]] (.tup [.agg [iV (Sf (A ++ [⟨na, nb, nc, tq⟩])).1, .sl (Sf (A ++ [⟨na, nb, nc, tq⟩])).2], iV 0]) := c3
 have hget : Y[((A.length : Nat) : Int).toNat]? = some (.agg [iV (na : Nat), iV (nb : Nat), iV (nc : Nat), .p (.bool (decide (tq.num < 0))), .sl ((dgs tq.num.natAbs).map u32), .p (.bool (decide ((tq.den : Int) < 0))), .sl ((dgs (tq.den : Int).natAbs).map u32)]) := hget
 refine goA ?_
 refine evG ggA (Zad (Zaa rfl) (Zac rfl) rfl rfl (by omega) hget rfl) ?_
 refine goA ?_
 refine evG ggA (Zab (Zaa rfl) rfl rfl c1) ?_
 refine goA ?_
 refine evG ggA (ss_build_arr (Zaa rfl) (bla_tab rfl) rfl rfl rfl rfl) ?_
 refine goA ?_
 refine T.loop (fun N s1 => (N = 3 ∧ s1 = mkS [(1, .v (iV (Pn : Nat))), (4, .ptr 4 0), (6, .ptr 6 0), (8, .ptr 8 0), (12, .ptr 12 0), (49, .v (.sl Y)), (50, .v (iV (Y.length : Nat))), (51, .v (iV A.length)), (68, .v (.agg [iV (na : Nat), iV (nb : Nat), iV (nc : Nat)])), (69, .v (iV 0))] [(4, .var [.v (iV 0), .v (.p nilV)]), (6, .var [.v (iV (Sf A).1), .v (.sl (Sf A).2)]), (8, .var [.v (iV 0), .v (.sl (Ef 2)), .v (iV 0), .v (.sl (Ef 4)), .v (iV 0), .v (.sl (Ef 6))]), (12, .var [.v (iV 0), .v (.sl (Ff tq ([])))])] 94 true) ∨ (N = 2 ∧ s1 = mkS [(1, .v (iV (Pn : Nat))), (4, .ptr 4 0), (6, .ptr 6 0), (8, .ptr 8 0), (12, .ptr 12 0), (49, .v (.sl Y)), (50, .v (iV (Y.length : Nat))), (51, .v (iV A.length)), (68, .v (.agg [iV (na : Nat), iV (nb : Nat), iV (nc : Nat)])), (69, .v (iV 1))] [(4, .var [.v (iV 0), .v (.p nilV)]), (6, .var [.v (iV (Sf A).1), .v (.sl (Sf A).2)]), (8, .var [.v (iV 0), .v (.sl (Ef 2)), .v (iV 0), .v (.sl (Ef 4)), .v (iV 0), .v (.sl (Ef 6))]), (12, .var [.v (iV 0), .v (.sl (Ff tq (List.replicate na 2)))])] 94 true) ∨ (N = 1 ∧ s1 = mkS [(1, .v (iV (Pn : Nat))), (4, .ptr 4 0), (6, .ptr 6 0), (8, .ptr 8 0), (12, .ptr 12 0), (49, .v (.sl Y)), (50, .v (iV (Y.length : Nat))), (51, .v (iV A.length)), (68, .v (.agg [iV (na : Nat), iV (nb : Nat), iV (nc : Nat)])), (69, .v (iV 2))] [(4, .var [.v (iV 0), .v (.p nilV)]), (6, .var [.v (iV (Sf A).1), .v (.sl (Sf A).2)]), (8, .var [.v (iV 0), .v (.sl (Ef 2)), .v (iV 0), .v (.sl (Ef 4)), .v (iV 0), .v (.sl (Ef 6))]), (12, .var [.v (iV 0), .v (.sl (Ff tq (List.replicate nb 4 ++ List.replicate na 2)))])] 94 true) ∨ (N = 0 ∧ s1 = mkS [(1, .v (iV (Pn : Nat))), (4, .ptr 4 0), (6, .ptr 6 0), (8, .ptr 8 0), (12, .ptr 12 0), (49, .v (.sl Y)), (50, .v (iV (Y.length : Nat))), (51, .v (iV A.length)), (68, .v (.agg [iV (na : Nat), iV (nb : Nat), iV (nc : Nat)])), (69, .v (iV 3))] [(4, .var [.v (iV 0), .v (.p nilV)]), (6, .var [.v (iV (Sf A).1), .v (.sl (Sf A).2)]), (8, .var [.v (iV 0), .v (.sl (Ef 2)), .v (iV 0), .v (.sl (Ef 4)), .v (iV 0), .v (.sl (Ef 6))]), (12, .var [.v (iV 0), .v (.sl (Ff tq (List.replicate nc 6 ++ (List.replicate nb 4 ++ List.replicate na 2))))])] 94 true)) 3
  (s' := mkS [(1, .v (iV (Pn : Nat))), (4, .ptr 4 0), (6, .ptr 6 0), (8, .ptr 8 0), (12, .ptr 12 0), (49, .v (.sl Y)), (50, .v (iV (Y.length : Nat))), (51, .v (iV A.length)), (68, .v (.agg [iV (na : Nat), iV (nb : Nat), iV (nc : Nat)])), (69, .v (iV 0))] [(4, .var [.v (iV 0), .v (.p nilV)]), (6, .var [.v (iV (Sf A).1), .v (.sl (Sf A).2)]), (8, .var [.v (iV 0), .v (.sl (Ef 2)), .v (iV 0), .v (.sl (Ef 4)), .v (iV 0), .v (.sl (Ef 6))]), (12, .var [.v (iV 0), .v (.sl (Ff tq ([])))])] 94 true) (by exact entA) (.inl ⟨rfl, rfl⟩) ?_
 rintro _ _ (⟨rfl, rfl⟩ | ⟨rfl, rfl⟩ | ⟨rfl, rfl⟩ | ⟨rfl, rfl⟩)
 ·refine goA ?_
  refine evG ggA (ss_idx (Zaa rfl) rfl rfl rfl (by decide) (by decide) rfl) ?_
  refine goA ?_
  refine T.loop (fun M s1 => ∃ j : Nat, M = na - j ∧ j ≤ na ∧ s1 = mkS [(1, .v (iV (Pn : Nat))), (4, .ptr 4 0), (6, .ptr 6 0), (8, .ptr 8 0), (12, .ptr 12 0), (49, .v (.sl Y)), (50, .v (iV (Y.length : Nat))), (51, .v (iV A.length)), (68, .v (.agg [iV (na : Nat), iV (nb : Nat), iV (nc : Nat)])), (69, .v (iV 0)), (14, .v (iV 0)), (73, .v (iV (na : Nat))), (74, .v (iV j))] [(4, .var [.v (iV 0), .v (.p nilV)]), (6, .var [.v (iV (Sf A).1), .v (.sl (Sf A).2)]), (8, .var [.v (iV 0), .v (.sl (Ef 2)), .v (iV 0), .v (.sl (Ef 4)), .v (iV 0), .v (.sl (Ef 6))]), (12, .var [.v (iV 0), .v (.sl (Ff tq (List.replicate j 2)))])] 94 true) na
   (s' := mkS [(1, .v (iV (Pn : Nat))), (4, .ptr 4 0), (6, .ptr 6 0), (8, .ptr 8 0), (12, .ptr 12 0), (49, .v (.sl Y)), (50, .v (iV (Y.length : Nat))), (51, .v (iV A.length)), (68, .v (.agg [iV (na : Nat), iV (nb : Nat), iV (nc : Nat)])), (69, .v (iV 0)), (14, .v (iV 0)), (73, .v (iV (na : Nat))), (74, .v (iV ((0 : Nat) : Int)))] [(4, .var [.v (iV 0), .v (.p nilV)]), (6, .var [.v (iV (Sf A).1), .v (.sl (Sf A).2)]), (8, .var [.v (iV 0), .v (.sl (Ef 2)), .v (iV 0), .v (.sl (Ef 4)), .v (iV 0), .v (.sl (Ef 6))]), (12, .var [.v (iV 0), .v (.sl (Ff tq (List.replicate 0 2)))])] 94 true) (by exact entA) ⟨0, rfl, Nat.zero_le _, rfl⟩ ?_
  rintro _ _ ⟨j, rfl, hj, rfl⟩
  by_cases hlt : j < na
  ·have b4 : decide ((j : Int) < (na : Int)) = true := decide_eq_true (by omega)
   have cm := c2 (List.replicate j 2) 2 (a1 j) (.inl rfl) (by simp; omega)
   have cm : PC Tryz.prog 42 [.agg [iV 0, .sl (Ff tq (List.replicate j 2))], .agg [iV 0, .sl (Ef 2)]] (.tup [.agg [iV 0, .sl (Ff tq (List.replicate (j + 1) 2))], iV 0]) := cm
   refine goA ?_
   refine evG ggA (Zcu (Zaa rfl) arr_s3 rfl rfl (by decide) (by decide)) ?_
   refine goA ?_
   refine evG ggA (Zab (Zaa rfl) rfl rfl cm) ?_
   refine goA ?_
   exact Zae (k := na - (j + 1)) (s' := mkS [(1, .v (iV (Pn : Nat))), (4, .ptr 4 0), (6, .ptr 6 0), (8, .ptr 8 0), (12, .ptr 12 0), (49, .v (.sl Y)), (50, .v (iV (Y.length : Nat))), (51, .v (iV A.length)), (68, .v (.agg [iV (na : Nat), iV (nb : Nat), iV (nc : Nat)])), (69, .v (iV 0)), (14, .v (iV 0)), (73, .v (iV (na : Nat))), (74, .v (iV ((j : Int) + 1)))] [(4, .var [.v (iV 0), .v (.p nilV)]), (6, .var [.v (iV (Sf A).1), .v (.sl (Sf A).2)]), (8, .var [.v (iV 0), .v (.sl (Ef 2)), .v (iV 0), .v (.sl (Ef 4)), .v (iV 0), .v (.sl (Ef 6))]), (12, .var [.v (iV 0), .v (.sl (Ff tq (List.replicate (j + 1) 2)))])] 94 true) (by omega) (by exact entA) ⟨j + 1, rfl, hlt, rfl⟩
  ·obtain rfl : na = j := by omega
   have b4 : decide (((na : Nat) : Int) < (na : Int)) = false := decide_eq_false (by omega)
   refine goA ?_
   exact Zae (k := 2) (s' := mkS [(1, .v (iV (Pn : Nat))), (4, .ptr 4 0), (6, .ptr 6 0), (8, .ptr 8 0), (12, .ptr 12 0), (49, .v (.sl Y)), (50, .v (iV (Y.length : Nat))), (51, .v (iV A.length)), (68, .v (.agg [iV (na : Nat), iV (nb : Nat), iV (nc : Nat)])), (69, .v (iV 1))] [(4, .var [.v (iV 0), .v (.p nilV)]), (6, .var [.v (iV (Sf A).1), .v (.sl (Sf A).2)]), (8, .var [.v (iV 0), .v (.sl (Ef 2)), .v (iV 0), .v (.sl (Ef 4)), .v (iV 0), .v (.sl (Ef 6))]), (12, .var [.v (iV 0), .v (.sl (Ff tq (List.replicate na 2)))])] 94 true) (by omega) (by exact entA) (.inr (.inl ⟨rfl, rfl⟩))
 ·refine goA ?_
  refine evG ggA (ss_idx (Zaa rfl) rfl rfl rfl (by decide) (by decide) rfl) ?_
  refine goA ?_
  refine T.loop (fun M s1 => ∃ j : Nat, M = nb - j ∧ j ≤ nb ∧ s1 = mkS [(1, .v (iV (Pn : Nat))), (4, .ptr 4 0), (6, .ptr 6 0), (8, .ptr 8 0), (12, .ptr 12 0), (49, .v (.sl Y)), (50, .v (iV (Y.length : Nat))), (51, .v (iV A.length)), (68, .v (.agg [iV (na : Nat), iV (nb : Nat), iV (nc : Nat)])), (69, .v (iV 1)), (14, .v (iV 1)), (73, .v (iV (nb : Nat))), (74, .v (iV j))] [(4, .var [.v (iV 0), .v (.p nilV)]), (6, .var [.v (iV (Sf A).1), .v (.sl (Sf A).2)]), (8, .var [.v (iV 0), .v (.sl (Ef 2)), .v (iV 0), .v (.sl (Ef 4)), .v (iV 0), .v (.sl (Ef 6))]), (12, .var [.v (iV 0), .v (.sl (Ff tq (List.replicate j 4 ++ (List.replicate na 2))))])] 94 true) nb
   (s' := mkS [(1, .v (iV (Pn : Nat))), (4, .ptr 4 0), (6, .ptr 6 0), (8, .ptr 8 0), (12, .ptr 12 0), (49, .v (.sl Y)), (50, .v (iV (Y.length : Nat))), (51, .v (iV A.length)), (68, .v (.agg [iV (na : Nat), iV (nb : Nat), iV (nc : Nat)])), (69, .v (iV 1)), (14, .v (iV 1)), (73, .v (iV (nb : Nat))), (74, .v (iV ((0 : Nat) : Int)))] [(4, .var [.v (iV 0), .v (.p nilV)]), (6, .var [.v (iV (Sf A).1), .v (.sl (Sf A).2)]), (8, .var [.v (iV 0), .v (.sl (Ef 2)), .v (iV 0), .v (.sl (Ef 4)), .v (iV 0), .v (.sl (Ef 6))]), (12, .var [.v (iV 0), .v (.sl (Ff tq (List.replicate 0 4 ++ (List.replicate na 2))))])] 94 true) (by exact entA) ⟨0, rfl, Nat.zero_le _, rfl⟩ ?_
  rintro _ _ ⟨j, rfl, hj, rfl⟩
  by_cases hlt : j < nb
  ·have b4 : decide ((j : Int) < (nb : Int)) = true := decide_eq_true (by omega)
   have cm := c2 (List.replicate j 4 ++ (List.replicate na 2)) 4 (a2 j) (.inr (.inl rfl)) (by simp; omega)
   have cm : PC Tryz.prog 42 [.agg [iV 0, .sl (Ff tq (List.replicate j 4 ++ (List.replicate na 2)))], .agg [iV 0, .sl (Ef 4)]] (.tup [.agg [iV 0, .sl (Ff tq (List.replicate (j + 1) 4 ++ (List.replicate na 2)))], iV 0]) := cm
   refine goA ?_
   refine evG ggA (Zcu (Zaa rfl) arr_s3 rfl rfl (by decide) (by decide)) ?_
   refine goA ?_
   refine evG ggA (Zab (Zaa rfl) rfl rfl cm) ?_
   refine goA ?_
   exact Zae (k := nb - (j + 1)) (s' := mkS [(1, .v (iV (Pn : Nat))), (4, .ptr 4 0), (6, .ptr 6 0), (8, .ptr 8 0), (12, .ptr 12 0), (49, .v (.sl Y)), (50, .v (iV (Y.length : Nat))), (51, .v (iV A.length)), (68, .v (.agg [iV (na : Nat), iV (nb : Nat), iV (nc : Nat)])), (69, .v (iV 1)), (14, .v (iV 1)), (73, .v (iV (nb : Nat))), (74, .v (iV ((j : Int) + 1)))] [(4, .var [.v (iV 0), .v (.p nilV)]), (6, .var [.v (iV (Sf A).1), .v (.sl (Sf A).2)]), (8, .var [.v (iV 0), .v (.sl (Ef 2)), .v (iV 0), .v (.sl (Ef 4)), .v (iV 0), .v (.sl (Ef 6))]), (12, .var [.v (iV 0), .v (.sl (Ff tq (List.replicate (j + 1) 4 ++ (List.replicate na 2))))])] 94 true) (by omega) (by exact entA) ⟨j + 1, rfl, hlt, rfl⟩
  ·obtain rfl : nb = j := by omega
   have b4 : decide (((nb : Nat) : Int) < (nb : Int)) = false := decide_eq_false (by omega)
   refine goA ?_
   exact Zae (k := 1) (s' := mkS [(1, .v (iV (Pn : Nat))), (4, .ptr 4 0), (6, .ptr 6 0), (8, .ptr 8 0), (12, .ptr 12 0), (49, .v (.sl Y)), (50, .v (iV (Y.length : Nat))), (51, .v (iV A.length)), (68, .v (.agg [iV (na : Nat), iV (nb : Nat), iV (nc : Nat)])), (69, .v (iV 2))] [(4, .var [.v (iV 0), .v (.p nilV)]), (6, .var [.v (iV (Sf A).1), .v (.sl (Sf A).2)]), (8, .var [.v (iV 0), .v (.sl (Ef 2)), .v (iV 0), .v (.sl (Ef 4)), .v (iV 0), .v (.sl (Ef 6))]), (12, .var [.v (iV 0), .v (.sl (Ff tq (List.replicate nb 4 ++ List.replicate na 2)))])] 94 true) (by omega) (by exact entA) (.inr (.inr (.inl ⟨rfl, rfl⟩)))
 ·refine goA ?_
  refine evG ggA (ss_idx (Zaa rfl) rfl rfl rfl (by decide) (by decide) rfl) ?_
  refine goA ?_
  refine T.loop (fun M s1 => ∃ j : Nat, M = nc - j ∧ j ≤ nc ∧ s1 = mkS [(1, .v (iV (Pn : Nat))), (4, .ptr 4 0), (6, .ptr 6 0), (8, .ptr 8 0), (12, .ptr 12 0), (49, .v (.sl Y)), (50, .v (iV (Y.length : Nat))), (51, .v (iV A.length)), (68, .v (.agg [iV (na : Nat), iV (nb : Nat), iV (nc : Nat)])), (69, .v (iV 2)), (14, .v (iV 2)), (73, .v (iV (nc : Nat))), (74, .v (iV j))] [(4, .var [.v (iV 0), .v (.p nilV)]), (6, .var [.v (iV (Sf A).1), .v (.sl (Sf A).2)]), (8, .var [.v (iV 0), .v (.sl (Ef 2)), .v (iV 0), .v (.sl (Ef 4)), .v (iV 0), .v (.sl (Ef 6))]), (12, .var [.v (iV 0), .v (.sl (Ff tq (List.replicate j 6 ++ (List.replicate nb 4 ++ List.replicate na 2))))])] 94 true) nc
   (s' := mkS [(1, .v (iV (Pn : Nat))), (4, .ptr 4 0), (6, .ptr 6 0), (8, .ptr 8 0), (12, .ptr 12 0), (49, .v (.sl Y)), (50, .v (iV (Y.length : Nat))), (51, .v (iV A.length)), (68, .v (.agg [iV (na : Nat), iV (nb : Nat), iV (nc : Nat)])), (69, .v (iV 2)), (14, .v (iV 2)), (73, .v (iV (nc : Nat))), (74, .v (iV ((0 : Nat) : Int)))] [(4, .var [.v (iV 0), .v (.p nilV)]), (6, .var [.v (iV (Sf A).1), .v (.sl (Sf A).2)]), (8, .var [.v (iV 0), .v (.sl (Ef 2)), .v (iV 0), .v (.sl (Ef 4)), .v (iV 0), .v (.sl (Ef 6))]), (12, .var [.v (iV 0), .v (.sl (Ff tq (List.replicate 0 6 ++ (List.replicate nb 4 ++ List.replicate na 2))))])] 94 true) (by exact entA) ⟨0, rfl, Nat.zero_le _, rfl⟩ ?_
  rintro _ _ ⟨j, rfl, hj, rfl⟩
  by_cases hlt : j < nc
  ·have b4 : decide ((j : Int) < (nc : Int)) = true := decide_eq_true (by omega)
   have cm := c2 (List.replicate j 6 ++ (List.replicate nb 4 ++ List.replicate na 2)) 6 (a3 j) (.inr (.inr rfl)) (by simp; omega)
   have cm : PC Tryz.prog 42 [.agg [iV 0, .sl (Ff tq (List.replicate j 6 ++ (List.replicate nb 4 ++ List.replicate na 2)))], .agg [iV 0, .sl (Ef 6)]] (.tup [.agg [iV 0, .sl (Ff tq (List.replicate (j + 1) 6 ++ (List.replicate nb 4 ++ List.replicate na 2)))], iV 0]) := cm
   refine goA ?_
   refine evG ggA (Zcu (Zaa rfl) arr_s3 rfl rfl (by decide) (by decide)) ?_
   refine goA ?_
   refine evG ggA (Zab (Zaa rfl) rfl rfl cm) ?_
   refine goA ?_
   exact Zae (k := nc - (j + 1)) (s' := mkS [(1, .v (iV (Pn : Nat))), (4, .ptr 4 0), (6, .ptr 6 0), (8, .ptr 8 0), (12, .ptr 12 0), (49, .v (.sl Y)), (50, .v (iV (Y.length : Nat))), (51, .v (iV A.length)), (68, .v (.agg [iV (na : Nat), iV (nb : Nat), iV (nc : Nat)])), (69, .v (iV 2)), (14, .v (iV 2)), (73, .v (iV (nc : Nat))), (74, .v (iV ((j : Int) + 1)))] [(4, .var [.v (iV 0), .v (.p nilV)]), (6, .var [.v (iV (Sf A).1), .v (.sl (Sf A).2)]), (8, .var [.v (iV 0), .v (.sl (Ef 2)), .v (iV 0), .v (.sl (Ef 4)), .v (iV 0), .v (.sl (Ef 6))]), (12, .var [.v (iV 0), .v (.sl (Ff tq (List.replicate (j + 1) 6 ++ (List.replicate nb 4 ++ List.replicate na 2))))])] 94 true) (by omega) (by exact entA) ⟨j + 1, rfl, hlt, rfl⟩
  ·obtain rfl : nc = j := by omega
   have b4 : decide (((nc : Nat) : Int) < (nc : Int)) = false := decide_eq_false (by omega)
   refine goA ?_
   exact Zae (k := 0) (s' := mkS [(1, .v (iV (Pn : Nat))), (4, .ptr 4 0), (6, .ptr 6 0), (8, .ptr 8 0), (12, .ptr 12 0), (49, .v (.sl Y)), (50, .v (iV (Y.length : Nat))), (51, .v (iV A.length)), (68, .v (.agg [iV (na : Nat), iV (nb : Nat), iV (nc : Nat)])), (69, .v (iV 3))] [(4, .var [.v (iV 0), .v (.p nilV)]), (6, .var [.v (iV (Sf A).1), .v (.sl (Sf A).2)]), (8, .var [.v (iV 0), .v (.sl (Ef 2)), .v (iV 0), .v (.sl (Ef 4)), .v (iV 0), .v (.sl (Ef 6))]), (12, .var [.v (iV 0), .v (.sl (Ff tq (List.replicate nc 6 ++ (List.replicate nb 4 ++ List.replicate na 2))))])] 94 true) (by omega) (by exact entA) (.inr (.inr (.inr ⟨rfl, rfl⟩)))
 refine goA ?_
 refine evG ggA (Zab (Zaa rfl) rfl rfl c3) ?_
 refine goA ?_
 rw [hnx]
 exact Zae (k := B.length) (s' := mkS [(1, .v (iV (Pn : Nat))), (4, .ptr 4 0), (6, .ptr 6 0), (8, .ptr 8 0), (49, .v (.sl Y)), (50, .v (iV (Y.length : Nat))), (51, .v (iV ((A ++ [(⟨na, nb, nc, tq⟩ : QT)]).length : Nat)))] [(4, .var [.v (iV 0), .v (.p nilV)]), (6, .var [.v (iV (Sf (A ++ [⟨na, nb, nc, tq⟩])).1), .v (.sl (Sf (A ++ [⟨na, nb, nc, tq⟩])).2)]), (8, .var [.v (iV 0), .v (.sl (Ef 2)), .v (iV 0), .v (.sl (Ef 4)), .v (iV 0), .v (.sl (Ef 6))])] 94 true) hlB (by exact entA) ⟨A ++ [⟨na, nb, nc, tq⟩], B, hAB2, rfl, rfl⟩
end Ab
