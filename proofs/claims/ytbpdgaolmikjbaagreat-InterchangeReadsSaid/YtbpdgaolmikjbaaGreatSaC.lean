/- The document's comparison of packages says true of equal packages (printed by tools/gen_sa.py C). -/
import Derived.Test.YtbpdgaolmikjbaaGreatSaB
set_option linter.all false
namespace Ab
open Go Go.RowKit Go.Proofs Hp
set_option maxRecDepth 100000
set_option maxHeartbeats 4000000
theorem same_r {p : PP} (h : p.ok) : PC Tryz.prog 14 [p.av, p.av] (boV true) := by
 obtain ⟨sr, et, df, ce, sp, ma⟩ := p
 obtain ⟨⟨h0, n0⟩, ⟨h1, n1⟩, ⟨h2, n2⟩, ⟨h3, n3⟩, ⟨h4, n4⟩, h5, n5⟩ := h
 have h0 : ∀ s, s ∈ sr → s.ok := h0
 have n0 : sr.length ≤ 1000000000 := n0
 have h1 : ∀ s, s ∈ et → s.ok := h1
 have n1 : et.length ≤ 1000000000 := n1
 have h2 : ∀ s, s ∈ df → s.ok := h2
 have n2 : df.length ≤ 1000000000 := n2
 have h3 : ∀ s, s ∈ ce → s.ok := h3
 have n3 : ce.length ≤ 1000000000 := n3
 have h4 : ∀ s, s ∈ sp → s.ok := h4
 have n4 : sp.length ≤ 1000000000 := n4
 have h5 : ∀ s, s ∈ ma → s.ok := h5
 have n5 : ma.length ≤ 1000000000 := n5
 have k0 := sameSers_r h0 n0
 have k1 := sameDefs_r h2 n2
 have u1 : ((((et.map PE.av).length : Nat) : Int) != (((et.map PE.av).length : Nat) : Int)) = false := Zci _
 have u3 : ((((ce.map PZ.av).length : Nat) : Int) != (((ce.map PZ.av).length : Nat) : Int)) = false := Zci _
 have u4 : ((((sp.map PF.av).length : Nat) : Int) != (((sp.map PF.av).length : Nat) : Int)) = false := Zci _
 have u5 : ((((ma.map PM.av).length : Nat) : Int) != (((ma.map PM.av).length : Nat) : Int)) = false := Zci _
 clear h0 h2
 refine Zas true Tryz.func14 rfl rfl rfl (Nat.le_of_ble_eq_true rfl) Za4.tmp ?_
 refine goJ ?_
 refine evG ggA (Zae (Zaa rfl) rfl rfl k0) ?_
 refine goJ ?_
 refine evG ggA (Zae (Zaa rfl) rfl rfl k1) ?_
 refine goJ ?_
 refine T.loop (fun N s1 => ∃ i : Nat, N = et.length - i ∧ i ≤ et.length ∧ s1 = mkS [(2, .ptr 2 0), (3, .ptr 3 0), (5, .v (iV i))] [(2, .var [.v (.sl (sr.map PS.av)), .v (.sl (et.map PE.av)), .v (.sl (df.map PB.av)), .v (.sl (ce.map PZ.av)), .v (.sl (sp.map PF.av)), .v (.sl (ma.map PM.av))]), (3, .var [.v (.sl (sr.map PS.av)), .v (.sl (et.map PE.av)), .v (.sl (df.map PB.av)), .v (.sl (ce.map PZ.av)), .v (.sl (sp.map PF.av)), .v (.sl (ma.map PM.av))])] 216 true) et.length
  (s' := mkS [(2, .ptr 2 0), (3, .ptr 3 0), (5, .v (iV ((0 : Nat) : Int)))] [(2, .var [.v (.sl (sr.map PS.av)), .v (.sl (et.map PE.av)), .v (.sl (df.map PB.av)), .v (.sl (ce.map PZ.av)), .v (.sl (sp.map PF.av)), .v (.sl (ma.map PM.av))]), (3, .var [.v (.sl (sr.map PS.av)), .v (.sl (et.map PE.av)), .v (.sl (df.map PB.av)), .v (.sl (ce.map PZ.av)), .v (.sl (sp.map PF.av)), .v (.sl (ma.map PM.av))])] 216 true) (by exact entA) ⟨0, rfl, Nat.zero_le _, rfl⟩ ?_
 rintro _ _ ⟨i, rfl, hi, rfl⟩
 by_cases hlt : i < et.length
 rotate_left
 ·have d1 : decide ((i : Int) < ((et.map PE.av).length : Int)) = false := decide_eq_false (by rw [List.length_map]; omega)
  refine goJ ?_
  refine T.loop (fun N s1 => ∃ i : Nat, N = ce.length - i ∧ i ≤ ce.length ∧ s1 = mkS [(2, .ptr 2 0), (3, .ptr 3 0), (6, .v (iV i))] [(2, .var [.v (.sl (sr.map PS.av)), .v (.sl (et.map PE.av)), .v (.sl (df.map PB.av)), .v (.sl (ce.map PZ.av)), .v (.sl (sp.map PF.av)), .v (.sl (ma.map PM.av))]), (3, .var [.v (.sl (sr.map PS.av)), .v (.sl (et.map PE.av)), .v (.sl (df.map PB.av)), .v (.sl (ce.map PZ.av)), .v (.sl (sp.map PF.av)), .v (.sl (ma.map PM.av))])] 216 true) ce.length
   (s' := mkS [(2, .ptr 2 0), (3, .ptr 3 0), (6, .v (iV ((0 : Nat) : Int)))] [(2, .var [.v (.sl (sr.map PS.av)), .v (.sl (et.map PE.av)), .v (.sl (df.map PB.av)), .v (.sl (ce.map PZ.av)), .v (.sl (sp.map PF.av)), .v (.sl (ma.map PM.av))]), (3, .var [.v (.sl (sr.map PS.av)), .v (.sl (et.map PE.av)), .v (.sl (df.map PB.av)), .v (.sl (ce.map PZ.av)), .v (.sl (sp.map PF.av)), .v (.sl (ma.map PM.av))])] 216 true) (by exact entA) ⟨0, rfl, Nat.zero_le _, rfl⟩ ?_
  rintro _ _ ⟨i, rfl, hi, rfl⟩
  by_cases hlt : i < ce.length
  rotate_left
  ·have d1 : decide ((i : Int) < ((ce.map PZ.av).length : Int)) = false := decide_eq_false (by rw [List.length_map]; omega)
   refine goJ ?_
   refine T.loop (fun N s1 => ∃ i : Nat, N = sp.length - i ∧ i ≤ sp.length ∧ s1 = mkS [(2, .ptr 2 0), (3, .ptr 3 0), (9, .v (iV i))] [(2, .var [.v (.sl (sr.map PS.av)), .v (.sl (et.map PE.av)), .v (.sl (df.map PB.av)), .v (.sl (ce.map PZ.av)), .v (.sl (sp.map PF.av)), .v (.sl (ma.map PM.av))]), (3, .var [.v (.sl (sr.map PS.av)), .v (.sl (et.map PE.av)), .v (.sl (df.map PB.av)), .v (.sl (ce.map PZ.av)), .v (.sl (sp.map PF.av)), .v (.sl (ma.map PM.av))])] 216 true) sp.length
    (s' := mkS [(2, .ptr 2 0), (3, .ptr 3 0), (9, .v (iV ((0 : Nat) : Int)))] [(2, .var [.v (.sl (sr.map PS.av)), .v (.sl (et.map PE.av)), .v (.sl (df.map PB.av)), .v (.sl (ce.map PZ.av)), .v (.sl (sp.map PF.av)), .v (.sl (ma.map PM.av))]), (3, .var [.v (.sl (sr.map PS.av)), .v (.sl (et.map PE.av)), .v (.sl (df.map PB.av)), .v (.sl (ce.map PZ.av)), .v (.sl (sp.map PF.av)), .v (.sl (ma.map PM.av))])] 216 true) (by exact entA) ⟨0, rfl, Nat.zero_le _, rfl⟩ ?_
   rintro _ _ ⟨i, rfl, hi, rfl⟩
   by_cases hlt : i < sp.length
   rotate_left
   ·have d1 : decide ((i : Int) < ((sp.map PF.av).length : Int)) = false := decide_eq_false (by rw [List.length_map]; omega)
    refine goJ ?_
    refine T.loop (fun N s1 => ∃ i : Nat, N = ma.length - i ∧ i ≤ ma.length ∧ s1 = mkS [(2, .ptr 2 0), (3, .ptr 3 0), (12, .v (iV i))] [(2, .var [.v (.sl (sr.map PS.av)), .v (.sl (et.map PE.av)), .v (.sl (df.map PB.av)), .v (.sl (ce.map PZ.av)), .v (.sl (sp.map PF.av)), .v (.sl (ma.map PM.av))]), (3, .var [.v (.sl (sr.map PS.av)), .v (.sl (et.map PE.av)), .v (.sl (df.map PB.av)), .v (.sl (ce.map PZ.av)), .v (.sl (sp.map PF.av)), .v (.sl (ma.map PM.av))])] 216 true) ma.length
     (s' := mkS [(2, .ptr 2 0), (3, .ptr 3 0), (12, .v (iV ((0 : Nat) : Int)))] [(2, .var [.v (.sl (sr.map PS.av)), .v (.sl (et.map PE.av)), .v (.sl (df.map PB.av)), .v (.sl (ce.map PZ.av)), .v (.sl (sp.map PF.av)), .v (.sl (ma.map PM.av))]), (3, .var [.v (.sl (sr.map PS.av)), .v (.sl (et.map PE.av)), .v (.sl (df.map PB.av)), .v (.sl (ce.map PZ.av)), .v (.sl (sp.map PF.av)), .v (.sl (ma.map PM.av))])] 216 true) (by exact entA) ⟨0, rfl, Nat.zero_le _, rfl⟩ ?_
    rintro _ _ ⟨i, rfl, hi, rfl⟩
    by_cases hlt : i < ma.length
    rotate_left
    ·have d1 : decide ((i : Int) < ((ma.map PM.av).length : Int)) = false := decide_eq_false (by rw [List.length_map]; omega)
     refine goJ ?_
     exact rfl
    ·have d1 : decide ((i : Int) < ((ma.map PM.av).length : Int)) = true := decide_eq_true (by rw [List.length_map]; omega)
     have hg : ma[i]? = some ma[i] := List.getElem?_eq_getElem hlt
     have hm := List.getElem_mem hlt
     have hx : (ma.map PM.av)[((i : Nat) : Int).toNat]? = some (PM.av ma[i]) := by rw [Int.toNat_natCast, List.getElem?_map, hg]; rfl
     have c := sameMatrix_r (h5 _ hm)
     clear hg hm
     generalize ma[i] = x at *
     obtain ⟨mr, mc, mm⟩ := x
     refine goJ ?_
     refine T.drawF mixed ?_
     refine goJ ?_
     refine evG ggA (Zab (Zaa rfl) (Zac rfl) rfl rfl (by omega) hx rfl) ?_
     refine goJ ?_
     refine evG ggA (Zab (Zaa rfl) (Zac rfl) rfl rfl (by omega) hx rfl) ?_
     refine goJ ?_
     refine evG ggA (Zae (Zaa rfl) rfl rfl c) ?_
     refine goJ ?_
     refine ⟨by kernel_rfl, ?_⟩
     refine goJ ?_
     exact Zad (k := ma.length - (i + 1)) (s' := mkS [(2, .ptr 2 0), (3, .ptr 3 0), (12, .v (iV ((i : Int) + 1)))] [(2, .var [.v (.sl (sr.map PS.av)), .v (.sl (et.map PE.av)), .v (.sl (df.map PB.av)), .v (.sl (ce.map PZ.av)), .v (.sl (sp.map PF.av)), .v (.sl (ma.map PM.av))]), (3, .var [.v (.sl (sr.map PS.av)), .v (.sl (et.map PE.av)), .v (.sl (df.map PB.av)), .v (.sl (ce.map PZ.av)), .v (.sl (sp.map PF.av)), .v (.sl (ma.map PM.av))])] 216 true) (by omega) (by exact entA) ⟨i + 1, rfl, hlt, rfl⟩
   ·have d1 : decide ((i : Int) < ((sp.map PF.av).length : Int)) = true := decide_eq_true (by rw [List.length_map]; omega)
    have hg : sp[i]? = some sp[i] := List.getElem?_eq_getElem hlt
    have hm := List.getElem_mem hlt
    have hx : (sp.map PF.av)[((i : Nat) : Int).toNat]? = some (PF.av sp[i]) := by rw [Int.toNat_natCast, List.getElem?_map, hg]; rfl
    have hh := h4 _ hm
    have c := sameSers_r hh.2.2.2.2.1 hh.2.2.2.2.2
    clear hh
    clear hg hm
    generalize sp[i] = x at *
    obtain ⟨fl, fw, fd, fp, fb⟩ := x
    have t5 := Zci fp
    refine goJ ?_
    refine T.drawF mixed ?_
    refine goJ ?_
    refine evG ggA (Zab (Zaa rfl) (Zac rfl) rfl rfl (by omega) hx rfl) ?_
    refine goJ ?_
    refine evG ggA (Zab (Zaa rfl) (Zac rfl) rfl rfl (by omega) hx rfl) ?_
    refine goJ ?_
    refine ⟨by kernel_rfl, ?_⟩
    refine goJ ?_
    refine evG ggA (ss_neq_self (Zaa rfl) (eqS_spec fl fw fd) rfl rfl rfl) ?_
    refine goJ ?_
    refine evG ggA (Zae (Zaa rfl) rfl rfl c) ?_
    refine goJ ?_
    exact Zad (k := sp.length - (i + 1)) (s' := mkS [(2, .ptr 2 0), (3, .ptr 3 0), (9, .v (iV ((i : Int) + 1)))] [(2, .var [.v (.sl (sr.map PS.av)), .v (.sl (et.map PE.av)), .v (.sl (df.map PB.av)), .v (.sl (ce.map PZ.av)), .v (.sl (sp.map PF.av)), .v (.sl (ma.map PM.av))]), (3, .var [.v (.sl (sr.map PS.av)), .v (.sl (et.map PE.av)), .v (.sl (df.map PB.av)), .v (.sl (ce.map PZ.av)), .v (.sl (sp.map PF.av)), .v (.sl (ma.map PM.av))])] 216 true) (by omega) (by exact entA) ⟨i + 1, rfl, hlt, rfl⟩
  ·have d1 : decide ((i : Int) < ((ce.map PZ.av).length : Int)) = true := decide_eq_true (by rw [List.length_map]; omega)
   have hg : ce[i]? = some ce[i] := List.getElem?_eq_getElem hlt
   have hm := List.getElem_mem hlt
   have hx : (ce.map PZ.av)[((i : Nat) : Int).toNat]? = some (PZ.av ce[i]) := by rw [Int.toNat_natCast, List.getElem?_map, hg]; rfl
   have hh := h3 _ hm
   have c1 := sameX_r hh.1
   have c2 := sameX_r hh.2.1
   have c3 := sameDefs_r hh.2.2.1.1 hh.2.2.1.2
   have c4 := Zfw hh.2.2.2.2.2
   clear hh
   clear hg hm
   generalize ce[i] = x at *
   obtain ⟨⟨op1, ns1, ⟨⟨ga1, da1⟩, ⟨gb1, db1⟩⟩, nm1, gs1⟩, ⟨op2, ns2, ⟨⟨ga2, da2⟩, ⟨gb2, db2⟩⟩, nm2, gs2⟩, ds, ⟨kw, kl, kd, kp, ku⟩, bo, ⟨f, cs⟩⟩ := x
   have t5 := Zci bo
   refine goJ ?_
   refine T.drawF mixed ?_
   refine goJ ?_
   refine evG ggA (Zab (Zaa rfl) (Zac rfl) rfl rfl (by omega) hx rfl) ?_
   refine goJ ?_
   refine evG ggA (Zab (Zaa rfl) (Zac rfl) rfl rfl (by omega) hx rfl) ?_
   refine goJ ?_
   refine ⟨by kernel_rfl, ?_⟩
   refine goJ ?_
   refine evG ggA (Zae (Zaa rfl) rfl rfl c1) ?_
   refine goJ ?_
   refine evG ggA (Zae (Zaa rfl) rfl rfl c2) ?_
   refine goJ ?_
   refine evG ggA (Zae (Zaa rfl) rfl rfl c3) ?_
   refine goJ ?_
   refine evG ggA (ss_neq_self (Zaa rfl) (eqS_kind kw kl kd kp ku) rfl rfl rfl) ?_
   refine goJ ?_
   refine evG ggA (Zae (Zaa rfl) rfl rfl c4) ?_
   refine goJ ?_
   exact Zad (k := ce.length - (i + 1)) (s' := mkS [(2, .ptr 2 0), (3, .ptr 3 0), (6, .v (iV ((i : Int) + 1)))] [(2, .var [.v (.sl (sr.map PS.av)), .v (.sl (et.map PE.av)), .v (.sl (df.map PB.av)), .v (.sl (ce.map PZ.av)), .v (.sl (sp.map PF.av)), .v (.sl (ma.map PM.av))]), (3, .var [.v (.sl (sr.map PS.av)), .v (.sl (et.map PE.av)), .v (.sl (df.map PB.av)), .v (.sl (ce.map PZ.av)), .v (.sl (sp.map PF.av)), .v (.sl (ma.map PM.av))])] 216 true) (by omega) (by exact entA) ⟨i + 1, rfl, hlt, rfl⟩
 ·have d1 : decide ((i : Int) < ((et.map PE.av).length : Int)) = true := decide_eq_true (by rw [List.length_map]; omega)
  have hg : et[i]? = some et[i] := List.getElem?_eq_getElem hlt
  have hm := List.getElem_mem hlt
  have hx : (et.map PE.av)[((i : Nat) : Int).toNat]? = some (PE.av et[i]) := by rw [Int.toNat_natCast, List.getElem?_map, hg]; rfl
  have hh := h1 _ hm
  have c := ints_r hh.2.1 hh.2.2
  clear hh
  clear hg hm
  generalize et[i] = x at *
  obtain ⟨f, cs⟩ := x
  have t5 := Zci f
  refine goJ ?_
  refine T.drawF mixed ?_
  refine goJ ?_
  refine evG ggA (Zab (Zaa rfl) (Zac rfl) rfl rfl (by omega) hx rfl) ?_
  refine goJ ?_
  refine evG ggA (Zab (Zaa rfl) (Zac rfl) rfl rfl (by omega) hx rfl) ?_
  refine goJ ?_
  refine evG ggA (Zab (Zaa rfl) (Zac rfl) rfl rfl (by omega) hx rfl) ?_
  refine goJ ?_
  refine evG ggA (Zab (Zaa rfl) (Zac rfl) rfl rfl (by omega) hx rfl) ?_
  refine goJ ?_
  refine evG ggA (Zae (Zaa rfl) rfl rfl c) ?_
  refine goJ ?_
  refine ⟨by kernel_rfl, ?_⟩
  refine goJ ?_
  exact Zad (k := et.length - (i + 1)) (s' := mkS [(2, .ptr 2 0), (3, .ptr 3 0), (5, .v (iV ((i : Int) + 1)))] [(2, .var [.v (.sl (sr.map PS.av)), .v (.sl (et.map PE.av)), .v (.sl (df.map PB.av)), .v (.sl (ce.map PZ.av)), .v (.sl (sp.map PF.av)), .v (.sl (ma.map PM.av))]), (3, .var [.v (.sl (sr.map PS.av)), .v (.sl (et.map PE.av)), .v (.sl (df.map PB.av)), .v (.sl (ce.map PZ.av)), .v (.sl (sp.map PF.av)), .v (.sl (ma.map PM.av))])] 216 true) (by omega) (by exact entA) ⟨i + 1, rfl, hlt, rfl⟩
end Ab
