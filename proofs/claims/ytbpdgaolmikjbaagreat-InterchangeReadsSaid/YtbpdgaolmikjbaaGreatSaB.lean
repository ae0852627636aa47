/- The document's comparisons say true of equal things (printed by tools/gen_sa.py). -/
import Derived.Test.YtbpdgaolmikjbaaGreatSaA
set_option linter.all false
namespace Ab
open Go Go.RowKit Go.Proofs Hp
set_option maxRecDepth 100000
set_option maxHeartbeats 4000000
theorem Zci (x : Int) : (x != x) = false := by simp
theorem strne_self (s : ByteArray) : (!(s.toList == s.toList)) = false := by simp
theorem sameInt_r {x : BI} (h : x.ok) : PC Tryz.prog 125 [.agg x.cs, .agg x.cs] (boV true) := by
 obtain ⟨g, ds⟩ := x
 have hn : ds.length ≤ 1000000000 := h.2
 clear h
 have t1 : ((((ds.map u32).length : Nat) : Int) != (((ds.map u32).length : Nat) : Int)) = false := Zci _
 refine Zas true Tryz.func125 rfl rfl rfl (Nat.le_of_ble_eq_true rfl) Za4.tmp ?_
 cases g
 ·refine goJ ?_
  refine T.loop (fun N s1 => ∃ i : Nat, N = ds.length - i ∧ i ≤ ds.length ∧ s1 = mkS [(2, .ptr 2 0), (3, .ptr 3 0), (5, .v (iV i))] [(2, .var [.v (boV false), .v (.sl (ds.map u32))]), (3, .var [.v (boV false), .v (.sl (ds.map u32))])] 38 true) ds.length
   (s' := mkS [(2, .ptr 2 0), (3, .ptr 3 0), (5, .v (iV ((0 : Nat) : Int)))] [(2, .var [.v (boV false), .v (.sl (ds.map u32))]), (3, .var [.v (boV false), .v (.sl (ds.map u32))])] 38 true) (by exact entA) ⟨0, rfl, Nat.zero_le _, rfl⟩ ?_
  rintro _ _ ⟨i, rfl, hi, rfl⟩
  by_cases hlt : i < ds.length
  rotate_left
  ·have d1 : decide ((i : Int) < ((ds.map u32).length : Int)) = false := decide_eq_false (by rw [List.length_map]; omega)
   refine goJ ?_
   exact rfl
  ·have d1 : decide ((i : Int) < ((ds.map u32).length : Int)) = true := decide_eq_true (by rw [List.length_map]; omega)
   have hg : ds[i]? = some ds[i] := List.getElem?_eq_getElem hlt
   have hm := List.getElem_mem hlt
   have hx : (ds.map u32)[((i : Nat) : Int).toNat]? = some (u32 ds[i]) := by rw [Int.toNat_natCast, List.getElem?_map, hg]; rfl
   skip
   clear hg hm
   generalize ds[i] = x at *
   have t2 := Zci x
   refine goJ ?_
   refine T.drawF mixed ?_
   refine goJ ?_
   refine evG ggA (Zab (Zaa rfl) (Zac rfl) rfl rfl (by omega) hx rfl) ?_
   refine goJ ?_
   refine evG ggA (Zab (Zaa rfl) (Zac rfl) rfl rfl (by omega) hx rfl) ?_
   refine goJ ?_
   refine ⟨by kernel_rfl, ?_⟩
   refine goJ ?_
   exact Zad (k := ds.length - (i + 1)) (s' := mkS [(2, .ptr 2 0), (3, .ptr 3 0), (5, .v (iV ((i : Int) + 1)))] [(2, .var [.v (boV false), .v (.sl (ds.map u32))]), (3, .var [.v (boV false), .v (.sl (ds.map u32))])] 38 true) (by omega) (by exact entA) ⟨i + 1, rfl, hlt, rfl⟩
 ·refine goJ ?_
  refine T.loop (fun N s1 => ∃ i : Nat, N = ds.length - i ∧ i ≤ ds.length ∧ s1 = mkS [(2, .ptr 2 0), (3, .ptr 3 0), (5, .v (iV i))] [(2, .var [.v (boV true), .v (.sl (ds.map u32))]), (3, .var [.v (boV true), .v (.sl (ds.map u32))])] 38 true) ds.length
   (s' := mkS [(2, .ptr 2 0), (3, .ptr 3 0), (5, .v (iV ((0 : Nat) : Int)))] [(2, .var [.v (boV true), .v (.sl (ds.map u32))]), (3, .var [.v (boV true), .v (.sl (ds.map u32))])] 38 true) (by exact entA) ⟨0, rfl, Nat.zero_le _, rfl⟩ ?_
  rintro _ _ ⟨i, rfl, hi, rfl⟩
  by_cases hlt : i < ds.length
  rotate_left
  ·have d1 : decide ((i : Int) < ((ds.map u32).length : Int)) = false := decide_eq_false (by rw [List.length_map]; omega)
   refine goJ ?_
   exact rfl
  ·have d1 : decide ((i : Int) < ((ds.map u32).length : Int)) = true := decide_eq_true (by rw [List.length_map]; omega)
   have hg : ds[i]? = some ds[i] := List.getElem?_eq_getElem hlt
   have hm := List.getElem_mem hlt
   have hx : (ds.map u32)[((i : Nat) : Int).toNat]? = some (u32 ds[i]) := by rw [Int.toNat_natCast, List.getElem?_map, hg]; rfl
   skip
   clear hg hm
   generalize ds[i] = x at *
   have t2 := Zci x
   refine goJ ?_
   refine T.drawF mixed ?_
   refine goJ ?_
   refine evG ggA (Zab (Zaa rfl) (Zac rfl) rfl rfl (by omega) hx rfl) ?_
   refine goJ ?_
   refine evG ggA (Zab (Zaa rfl) (Zac rfl) rfl rfl (by omega) hx rfl) ?_
   refine goJ ?_
   refine ⟨by kernel_rfl, ?_⟩
   refine goJ ?_
   exact Zad (k := ds.length - (i + 1)) (s' := mkS [(2, .ptr 2 0), (3, .ptr 3 0), (5, .v (iV ((i : Int) + 1)))] [(2, .var [.v (boV true), .v (.sl (ds.map u32))]), (3, .var [.v (boV true), .v (.sl (ds.map u32))])] 38 true) (by omega) (by exact entA) ⟨i + 1, rfl, hlt, rfl⟩
theorem sameRat_r {x : BR} (h : x.ok) : PC Tryz.prog 103 [x.av, x.av] (boV true) := by
 obtain ⟨a, b⟩ := x
 have c1 := sameInt_r (x := a) h.1
 have c2 := sameInt_r (x := b) h.2
 obtain ⟨g1, d1⟩ := a
 obtain ⟨g2, d2⟩ := b
 refine Zas true Tryz.func103 rfl rfl rfl (Nat.le_of_ble_eq_true rfl) Za4.tmp ?_
 refine goJ ?_
 refine evG ggA (Zae (Zaa rfl) rfl rfl c1) ?_
 refine goJ ?_
 refine evG ggA (Zae (Zaa rfl) rfl rfl c2) ?_
 refine goJ ?_
 exact rfl
theorem sameRats_r {xs : List BR} (h0 : ∀ a, a ∈ xs → BR.ok a) (hn : xs.length ≤ 1000000000) : PC Tryz.prog 89 [.sl (xs.map BR.av), .sl (xs.map BR.av)] (boV true) := by
 have t1 : ((((xs.map BR.av).length : Nat) : Int) != (((xs.map BR.av).length : Nat) : Int)) = false := Zci _
 refine Zas true Tryz.func89 rfl rfl rfl (Nat.le_of_ble_eq_true rfl) Za4.tmp ?_
 refine goJ ?_
 refine T.loop (fun N s1 => ∃ i : Nat, N = xs.length - i ∧ i ≤ xs.length ∧ s1 = mkS [(0, .v (.sl (xs.map BR.av))), (1, .v (.sl (xs.map BR.av))), (5, .v (iV i))] [] 27 true) xs.length
  (s' := mkS [(0, .v (.sl (xs.map BR.av))), (1, .v (.sl (xs.map BR.av))), (5, .v (iV ((0 : Nat) : Int)))] [] 27 true) (by exact entA) ⟨0, rfl, Nat.zero_le _, rfl⟩ ?_
 rintro _ _ ⟨i, rfl, hi, rfl⟩
 by_cases hlt : i < xs.length
 rotate_left
 ·have d1 : decide ((i : Int) < ((xs.map BR.av).length : Int)) = false := decide_eq_false (by rw [List.length_map]; omega)
  refine goJ ?_
  exact rfl
 ·have d1 : decide ((i : Int) < ((xs.map BR.av).length : Int)) = true := decide_eq_true (by rw [List.length_map]; omega)
  have hg : xs[i]? = some xs[i] := List.getElem?_eq_getElem hlt
  have hm := List.getElem_mem hlt
  have hx : (xs.map BR.av)[((i : Nat) : Int).toNat]? = some (BR.av xs[i]) := by rw [Int.toNat_natCast, List.getElem?_map, hg]; rfl
  have c := sameRat_r (h0 _ hm)
  clear h0
  clear hg hm
  generalize xs[i] = x at *
  obtain ⟨⟨g1, e1⟩, ⟨g2, e2⟩⟩ := x
  refine goJ ?_
  refine T.drawF mixed ?_
  refine goJ ?_
  refine evG ggA (Zab (Zaa rfl) (Zac rfl) rfl rfl (by omega) hx rfl) ?_
  refine goJ ?_
  refine evG ggA (Zab (Zaa rfl) (Zac rfl) rfl rfl (by omega) hx rfl) ?_
  refine goJ ?_
  refine evG ggA (Zae (Zaa rfl) rfl rfl c) ?_
  refine goJ ?_
  refine ⟨by kernel_rfl, ?_⟩
  refine goJ ?_
  exact Zad (k := xs.length - (i + 1)) (s' := mkS [(0, .v (.sl (xs.map BR.av))), (1, .v (.sl (xs.map BR.av))), (5, .v (iV ((i : Int) + 1)))] [] 27 true) (by omega) (by exact entA) ⟨i + 1, rfl, hlt, rfl⟩
theorem ints_r {xs : List Int} (h0 : ∀ a, a ∈ xs → I64 a) (hn : xs.length ≤ 1000000000) : PC Tryz.prog 54 [.sl (xs.map iV), .sl (xs.map iV)] (boV true) := by
 have t1 : ((((xs.map iV).length : Nat) : Int) != (((xs.map iV).length : Nat) : Int)) = false := Zci _
 refine Zas true Tryz.func54 rfl rfl rfl (Nat.le_of_ble_eq_true rfl) Za4.tmp ?_
 refine goJ ?_
 refine T.loop (fun N s1 => ∃ i : Nat, N = xs.length - i ∧ i ≤ xs.length ∧ s1 = mkS [(0, .v (.sl (xs.map iV))), (1, .v (.sl (xs.map iV))), (5, .v (iV i))] [] 26 true) xs.length
  (s' := mkS [(0, .v (.sl (xs.map iV))), (1, .v (.sl (xs.map iV))), (5, .v (iV ((0 : Nat) : Int)))] [] 26 true) (by exact entA) ⟨0, rfl, Nat.zero_le _, rfl⟩ ?_
 rintro _ _ ⟨i, rfl, hi, rfl⟩
 by_cases hlt : i < xs.length
 rotate_left
 ·have d1 : decide ((i : Int) < ((xs.map iV).length : Int)) = false := decide_eq_false (by rw [List.length_map]; omega)
  refine goJ ?_
  exact rfl
 ·have d1 : decide ((i : Int) < ((xs.map iV).length : Int)) = true := decide_eq_true (by rw [List.length_map]; omega)
  have hg : xs[i]? = some xs[i] := List.getElem?_eq_getElem hlt
  have hm := List.getElem_mem hlt
  have hx : (xs.map iV)[((i : Nat) : Int).toNat]? = some (iV xs[i]) := by rw [Int.toNat_natCast, List.getElem?_map, hg]; rfl
  have c := Zci xs[i]
  clear h0
  clear hg hm
  generalize xs[i] = x at *
  refine goJ ?_
  refine T.drawF mixed ?_
  refine goJ ?_
  refine evG ggA (Zab (Zaa rfl) (Zac rfl) rfl rfl (by omega) hx rfl) ?_
  refine goJ ?_
  refine evG ggA (Zab (Zaa rfl) (Zac rfl) rfl rfl (by omega) hx rfl) ?_
  refine goJ ?_
  refine ⟨by kernel_rfl, ?_⟩
  refine goJ ?_
  exact Zad (k := xs.length - (i + 1)) (s' := mkS [(0, .v (.sl (xs.map iV))), (1, .v (.sl (xs.map iV))), (5, .v (iV ((i : Int) + 1)))] [] 26 true) (by omega) (by exact entA) ⟨i + 1, rfl, hlt, rfl⟩
theorem Zfw {x : PS} (h : x.ok) : PC Tryz.prog 25 [x.av, x.av] (boV true) := by
 obtain ⟨f, cs⟩ := x
 have c1 := sameRats_r (xs := cs) h.2.1 h.2.2
 have t1 : (f == f) = true := by simp
 refine Zas true Tryz.func25 rfl rfl rfl (Nat.le_of_ble_eq_true rfl) Za4.tmp ?_
 refine goJ ?_
 refine evG ggA (Zae (Zaa rfl) rfl rfl c1) ?_
 refine goJ ?_
 exact rfl
theorem sameMatrix_r {x : PM} (h : x.ok) : PC Tryz.prog 56 [x.av, x.av] (boV true) := by
 obtain ⟨f, g, cs⟩ := x
 have c1 := sameRats_r (xs := cs) h.2.2.1 h.2.2.2
 have t1 : (f == f) = true := by simp
 have t2 : (g == g) = true := by simp
 refine Zas true Tryz.func56 rfl rfl rfl (Nat.le_of_ble_eq_true rfl) Za4.tmp ?_
 refine goJ ?_
 refine evG ggA (Zae (Zaa rfl) rfl rfl c1) ?_
 refine goJ ?_
 exact rfl
theorem sameSers_r {xs : List PS} (h0 : ∀ a, a ∈ xs → PS.ok a) (hn : xs.length ≤ 1000000000) : PC Tryz.prog 52 [.sl (xs.map PS.av), .sl (xs.map PS.av)] (boV true) := by
 have t1 : ((((xs.map PS.av).length : Nat) : Int) != (((xs.map PS.av).length : Nat) : Int)) = false := Zci _
 refine Zas true Tryz.func52 rfl rfl rfl (Nat.le_of_ble_eq_true rfl) Za4.tmp ?_
 refine goJ ?_
 refine T.loop (fun N s1 => ∃ i : Nat, N = xs.length - i ∧ i ≤ xs.length ∧ s1 = mkS [(0, .v (.sl (xs.map PS.av))), (1, .v (.sl (xs.map PS.av))), (5, .v (iV i))] [] 27 true) xs.length
  (s' := mkS [(0, .v (.sl (xs.map PS.av))), (1, .v (.sl (xs.map PS.av))), (5, .v (iV ((0 : Nat) : Int)))] [] 27 true) (by exact entA) ⟨0, rfl, Nat.zero_le _, rfl⟩ ?_
 rintro _ _ ⟨i, rfl, hi, rfl⟩
 by_cases hlt : i < xs.length
 rotate_left
 ·have d1 : decide ((i : Int) < ((xs.map PS.av).length : Int)) = false := decide_eq_false (by rw [List.length_map]; omega)
  refine goJ ?_
  exact rfl
 ·have d1 : decide ((i : Int) < ((xs.map PS.av).length : Int)) = true := decide_eq_true (by rw [List.length_map]; omega)
  have hg : xs[i]? = some xs[i] := List.getElem?_eq_getElem hlt
  have hm := List.getElem_mem hlt
  have hx : (xs.map PS.av)[((i : Nat) : Int).toNat]? = some (PS.av xs[i]) := by rw [Int.toNat_natCast, List.getElem?_map, hg]; rfl
  have c := Zfw (h0 _ hm)
  clear h0
  clear hg hm
  generalize xs[i] = x at *
  obtain ⟨f, cs⟩ := x
  refine goJ ?_
  refine T.drawF mixed ?_
  refine goJ ?_
  refine evG ggA (Zab (Zaa rfl) (Zac rfl) rfl rfl (by omega) hx rfl) ?_
  refine goJ ?_
  refine evG ggA (Zab (Zaa rfl) (Zac rfl) rfl rfl (by omega) hx rfl) ?_
  refine goJ ?_
  refine evG ggA (Zae (Zaa rfl) rfl rfl c) ?_
  refine goJ ?_
  refine ⟨by kernel_rfl, ?_⟩
  refine goJ ?_
  exact Zad (k := xs.length - (i + 1)) (s' := mkS [(0, .v (.sl (xs.map PS.av))), (1, .v (.sl (xs.map PS.av))), (5, .v (iV ((i : Int) + 1)))] [] 27 true) (by omega) (by exact entA) ⟨i + 1, rfl, hlt, rfl⟩
theorem sameX_r' : ∀ (n : Nat) (a : PX), sizeOf a ≤ n → a.ok → PC Tryz.prog 55 [a.av, a.av] (boV true) := by
  intro n
  induction n with
  | zero => intro a hs; cases a; simp at hs
  | succ n ih =>
    rintro ⟨op, ns, c, nm, gs⟩ hs ⟨-, ⟨h2, h3⟩, h4, -, h6, h7⟩
    have cg : ∀ x, x ∈ gs → PC Tryz.prog 55 [x.av, x.av] (boV true) := fun x hx => ih x (by have := List.sizeOf_lt_of_mem hx; simp at hs; omega) ((PX.oks_iff gs).1 h6 x hx)
    clear ih hs
    have c1 := ints_r h2 h3
    have c2 := sameRat_r h4
    have t0 := Zci op
    have t1 : ((((gs.map PX.av).length : Nat) : Int) != (((gs.map PX.av).length : Nat) : Int)) = false := Zci _
    rw [px_av]
    obtain ⟨⟨ga, da⟩, ⟨gb, db⟩⟩ := c
    refine Zas true Tryz.func55 rfl rfl rfl (Nat.le_of_ble_eq_true rfl) Za4.tmp ?_
    refine goJ ?_
    refine evG ggA (Zae (Zaa rfl) rfl rfl c1) ?_
    refine goJ ?_
    refine evG ggA (Zae (Zaa rfl) rfl rfl c2) ?_
    refine goJ ?_
    refine evG ggA (Zez (Zaa rfl) rfl rfl (congrArg some (strne_self _))) ?_
    refine goJ ?_
    refine T.loop (fun N s1 => ∃ i : Nat, N = gs.length - i ∧ i ≤ gs.length ∧ s1 = mkS [(2, .ptr 2 0), (3, .ptr 3 0), (5, .v (iV i))] [(2, .var [.v (iV op), .v (.sl (ns.map iV)), .v (boV ga), .v (.sl (da.map u32)), .v (boV gb), .v (.sl (db.map u32)), .v (tV nm), .v (.sl (gs.map PX.av))]), (3, .var [.v (iV op), .v (.sl (ns.map iV)), .v (boV ga), .v (.sl (da.map u32)), .v (boV gb), .v (.sl (db.map u32)), .v (tV nm), .v (.sl (gs.map PX.av))])] 62 true) gs.length
      (s' := mkS [(2, .ptr 2 0), (3, .ptr 3 0), (5, .v (iV ((0 : Nat) : Int)))] [(2, .var [.v (iV op), .v (.sl (ns.map iV)), .v (boV ga), .v (.sl (da.map u32)), .v (boV gb), .v (.sl (db.map u32)), .v (tV nm), .v (.sl (gs.map PX.av))]), (3, .var [.v (iV op), .v (.sl (ns.map iV)), .v (boV ga), .v (.sl (da.map u32)), .v (boV gb), .v (.sl (db.map u32)), .v (tV nm), .v (.sl (gs.map PX.av))])] 62 true) (by exact entA) ⟨0, rfl, Nat.zero_le _, rfl⟩ ?_
    rintro _ _ ⟨i, rfl, hi, rfl⟩
    by_cases hlt : i < gs.length
    rotate_left
    · have d1 : decide ((i : Int) < ((gs.map PX.av).length : Int)) = false := decide_eq_false (by rw [List.length_map]; omega)
      refine goJ ?_
      exact rfl
    · have d1 : decide ((i : Int) < ((gs.map PX.av).length : Int)) = true := decide_eq_true (by rw [List.length_map]; omega)
      have hg : gs[i]? = some gs[i] := List.getElem?_eq_getElem hlt
      have hm := List.getElem_mem hlt
      have hx : (gs.map PX.av)[((i : Nat) : Int).toNat]? = some (PX.av gs[i]) := by rw [Int.toNat_natCast, List.getElem?_map, hg]; rfl
      have c := cg _ hm
      clear hg hm
      generalize gs[i] = x at *
      clear cg
      obtain ⟨op', ns', ⟨⟨ga', da'⟩, ⟨gb', db'⟩⟩, nm', gs'⟩ := x
      refine goJ ?_
      refine T.drawF mixed ?_
      refine goJ ?_
      refine evG ggA (Zab (Zaa rfl) (Zac rfl) rfl rfl (by omega) hx rfl) ?_
      refine goJ ?_
      refine evG ggA (Zab (Zaa rfl) (Zac rfl) rfl rfl (by omega) hx rfl) ?_
      refine goJ ?_
      refine evG ggA (Zae (Zaa rfl) rfl rfl c) ?_
      refine goJ ?_
      refine ⟨by kernel_rfl, ?_⟩
      refine goJ ?_
      exact Zad (k := gs.length - (i + 1)) (s' := mkS [(2, .ptr 2 0), (3, .ptr 3 0), (5, .v (iV ((i : Int) + 1)))] [(2, .var [.v (iV op), .v (.sl (ns.map iV)), .v (boV ga), .v (.sl (da.map u32)), .v (boV gb), .v (.sl (db.map u32)), .v (tV nm), .v (.sl (gs.map PX.av))]), (3, .var [.v (iV op), .v (.sl (ns.map iV)), .v (boV ga), .v (.sl (da.map u32)), .v (boV gb), .v (.sl (db.map u32)), .v (tV nm), .v (.sl (gs.map PX.av))])] 62 true) (by omega) (by exact entA) ⟨i + 1, rfl, hlt, rfl⟩
theorem sameX_r {a : PX} (h : a.ok) : PC Tryz.prog 55 [a.av, a.av] (boV true) := sameX_r' _ a (Nat.le_refl _) h
theorem sameDefs_r {xs : List PB} (h0 : ∀ a, a ∈ xs → PB.ok a) (hn : xs.length ≤ 1000000000) : PC Tryz.prog 53 [.sl (xs.map PB.av), .sl (xs.map PB.av)] (boV true) := by
 have t1 : ((((xs.map PB.av).length : Nat) : Int) != (((xs.map PB.av).length : Nat) : Int)) = false := Zci _
 refine Zas true Tryz.func53 rfl rfl rfl (Nat.le_of_ble_eq_true rfl) Za4.tmp ?_
 refine goJ ?_
 refine T.loop (fun N s1 => ∃ i : Nat, N = xs.length - i ∧ i ≤ xs.length ∧ s1 = mkS [(0, .v (.sl (xs.map PB.av))), (1, .v (.sl (xs.map PB.av))), (5, .v (iV i))] [] 42 true) xs.length
  (s' := mkS [(0, .v (.sl (xs.map PB.av))), (1, .v (.sl (xs.map PB.av))), (5, .v (iV ((0 : Nat) : Int)))] [] 42 true) (by exact entA) ⟨0, rfl, Nat.zero_le _, rfl⟩ ?_
 rintro _ _ ⟨i, rfl, hi, rfl⟩
 by_cases hlt : i < xs.length
 rotate_left
 ·have d1 : decide ((i : Int) < ((xs.map PB.av).length : Int)) = false := decide_eq_false (by rw [List.length_map]; omega)
  refine goJ ?_
  exact rfl
 ·have d1 : decide ((i : Int) < ((xs.map PB.av).length : Int)) = true := decide_eq_true (by rw [List.length_map]; omega)
  have hg : xs[i]? = some xs[i] := List.getElem?_eq_getElem hlt
  have hm := List.getElem_mem hlt
  have hx : (xs.map PB.av)[((i : Nat) : Int).toNat]? = some (PB.av xs[i]) := by rw [Int.toNat_natCast, List.getElem?_map, hg]; rfl
  have c := sameX_r (h0 _ hm).2
  clear h0
  clear hg hm
  generalize xs[i] = x at *
  obtain ⟨nb, ⟨op, ns, ⟨⟨ga, da⟩, ⟨gb, db⟩⟩, nm, gs⟩⟩ := x
  refine goJ ?_
  refine T.drawF mixed ?_
  refine goJ ?_
  refine evG ggA (Zab (Zaa rfl) (Zac rfl) rfl rfl (by omega) hx rfl) ?_
  refine goJ ?_
  refine evG ggA (Zab (Zaa rfl) (Zac rfl) rfl rfl (by omega) hx rfl) ?_
  refine goJ ?_
  refine evG ggA (Zez (Zaa rfl) rfl rfl (congrArg some (strne_self _))) ?_
  refine goJ ?_
  refine evG ggA (Zab (Zaa rfl) (Zac rfl) rfl rfl (by omega) hx rfl) ?_
  refine goJ ?_
  refine evG ggA (Zab (Zaa rfl) (Zac rfl) rfl rfl (by omega) hx rfl) ?_
  refine goJ ?_
  refine evG ggA (Zae (Zaa rfl) rfl rfl c) ?_
  refine goJ ?_
  refine ⟨by kernel_rfl, ?_⟩
  refine goJ ?_
  exact Zad (k := xs.length - (i + 1)) (s' := mkS [(0, .v (.sl (xs.map PB.av))), (1, .v (.sl (xs.map PB.av))), (5, .v (iV ((i : Int) + 1)))] [] 42 true) (by omega) (by exact entA) ⟨i + 1, rfl, hlt, rfl⟩
end Ab
