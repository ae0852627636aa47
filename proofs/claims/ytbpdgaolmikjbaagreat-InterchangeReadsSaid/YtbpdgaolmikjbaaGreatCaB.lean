/- The program's canonical lists, expressions and packages (printed by tools/gen_ca.py). -/
import Derived.Test.YtbpdgaolmikjbaaGreatCaA
set_option linter.all false
namespace Ab
open Go Go.RowKit Go.Proofs Hp
set_option maxRecDepth 100000
set_option maxHeartbeats 4000000
theorem goJ {A B : Prop} (h : B) (imp : Keep B → A := by intro hKeep; (repeat (first | (first | (refine d_nil ?_; refine evG ggA (Zct (Zaa rfl) rfl) ?_) | (refine d_mkb ?_; refine evG ggA (ss_makebm (Zaa rfl) rfl) ?_) | (first  | (refine d_move ?_; first | refine evG ggA (Zbj (Zaa rfl) rfl) ?_)  | (refine Zgg ?_; first | refine evG ggA (Zb4 (Zaa rfl) rfl) ?_)  | (refine d_load ?_; first | refine evG ggA (Zah (Zaa rfl) (Za8 rfl) rfl rfl rfl) ?_ | refine evG ggA (Zba (Zaa rfl) (Za1 rfl) rfl rfl rfl rfl) ?_ | refine evG ggA (Zb6 (Zaa rfl) (Za8 rfl) rfl rfl) ?_ | refine evG ggA (Zcp (Zaa rfl) (Za1 rfl) rfl rfl rfl) ?_)  | (refine d_field ?_; first | refine evG ggA (Zai (Zaa rfl) (Zan rfl) rfl) ?_ | refine evG ggA (Zb1 (Zaa rfl) (Zan rfl) rfl) ?_)  | (refine d_store ?_; first | refine evG ggA (Zbi rfl (Zcg rfl) rfl rfl rfl rfl rfl (Nat.le_of_ble_eq_true rfl) rfl) ?_)  | (refine Ze3 ?_; first | refine evG ggA (Zec (Zaa rfl) rfl rfl) ?_)  | (refine d_bin ?_; first | refine evG ggA (Zfu (Zaa rfl) rfl rfl rfl) ?_ | refine evG ggA (Zbk (Zaa rfl) rfl rfl (w64 (by omega) (by omega))) ?_ | refine evG ggA (ss_eqb (Zaa rfl) und_bool rfl rfl rfl) ?_)  | (refine d_un ?_; first | refine evG ggA (ss_not (Zaa rfl) rfl) ?_ | refine evG ggA (ss_neg (Zaa rfl) rfl (w64 (by omega) (by omega))) ?_)  | (refine d_blt ?_; first | refine evG ggA (ss_len (Zaa rfl) rfl (Zby rfl) rfl) ?_ | refine evG ggA (ss_min (Zaa rfl) rfl rfl) ?_ | refine evG ggA (ss_max (Zaa rfl) rfl rfl) ?_ | refine evG ggA (ss_min3 (Zaa rfl) rfl rfl rfl) ?_ | refine evG ggA (Zeb (Zaa rfl) rfl (Zby rfl) rfl) ?_ | refine evG ggA (Zea (Zaa rfl) rfl (Zby rfl) rfl rfl (by first | rfl | simp)) ?_)  | (refine d_build ?_; first | refine evG ggA (Zdv (Zaa rfl) (Zb0 rfl) rfl rfl rfl) ?_)  | (refine d_box ?_; first | refine evG ggA (Zgd (Zaa rfl) rfl rfl rfl rfl) ?_)  | (refine d_alloc ?_; first | refine evG ggA (Zcv (Zaa rfl) (Zd7 rfl) rfl rfl rfl) ?_)  | (refine d_pick ?_; first | refine evG ggA (Zex (Zaa rfl) rfl (by first | rfl | assumption) rfl) ?_ | refine evG ggA (Zey (Zaa rfl) rfl (by first | rfl | assumption) rfl) ?_)  | refine evSf rfl rfl (by first | rfl | assumption) rfl ?_ | refine evSt rfl rfl (by first | rfl | assumption) rfl ?_ | refine evSu rfl rfl rfl ?_)) | refine Zbs ?_ | (first | refine T.seq ?_ | refine T.block ?_ | refine T.ret ?_ | refine T.skip ?_ | refine T.exit ?_ | refine T.condT rfl (by first | rfl | assumption) ?_ | refine T.condF rfl (by first | rfl | assumption) ?_) | refine T.region ?_ | (first | with_reducible refine Zbr ?_ | with_reducible refine seqQ_e ?_ | with_reducible refine seqQ_r ?_ | with_reducible refine blockQ_n ?_ | with_reducible refine blockQ_r ?_ | with_reducible refine blockQ_e rfl ?_ | with_reducible refine blockQ_o rfl ?_ | with_reducible refine loopQ_e ?_ | with_reducible refine loopQ_r ?_ | with_reducible refine midQ_e ?_ | with_reducible refine midQ_r ?_ | with_reducible refine roundQ_n ?_ | with_reducible refine roundQ_e ?_ | with_reducible refine roundQ_r ?_))); exact hKeep.out) : A := imp ⟨h⟩
theorem canonRats_p {l : List BR} (h : ∀ a, a ∈ l → a.ok) (hn : l.length ≤ 1000000000) : PC Tryz.prog 61 [.sl (l.map BR.av)] (.sl ((l.map BR.can).map BR.av)) := by
 have eml : (l.map BR.av).length = l.length := List.length_map ..
 have emm : (l.map BR.can).map BR.av = l.map fun a => a.can.av := by rw [List.map_map]; rfl
 rw [emm]
 refine Zas true Tryz.func61 rfl rfl rfl (Nat.le_of_ble_eq_true rfl) Za4.tmp ?_
 refine goJ ?_
 refine T.loop (fun N s1 => ∃ i : Nat, N = l.length - i ∧ i ≤ l.length ∧ s1 = mkS [(3, .own 100 i), (6, .v (.sl (l.map BR.av))), (7, .v (iV l.length)), (8, .v (iV i))] [(100, .lst 4 54 ((l.take i).map fun a => a.can.av))] 19 true) l.length
  (s' := mkS [(3, .own 100 0), (6, .v (.sl (l.map BR.av))), (7, .v (iV ((l.map BR.av).length : Nat))), (8, .v (iV ((0 : Nat) : Int)))] [(100, .lst 4 54 [])] 19 true) (by exact entA) ⟨0, rfl, Nat.zero_le _, by first | rfl | (rw [eml]; rfl)⟩ ?_
 rintro _ _ ⟨i, rfl, hii, rfl⟩
 by_cases hlt : i < l.length
 rotate_left
 ·obtain rfl : i = l.length := by omega
  have d1 : decide ((l.length : Int) < (l.length : Int)) = false := decide_eq_false (by omega)
  rw [List.take_length]
  refine r1A ?_
  first
   | refine T.condF rfl (by assumption) ?_
   | (refine T.seq ?_; refine T.condF rfl (by assumption) ?_)
  refine T.exit ?_
  refine osA ?_
  refine T.weak (s' := mkS [(3, .v (.sl (l.map fun a => a.can.av)))] [] 19 true) (by exact entA) ?_
  refine goJ ?_
  exact rfl
 ·have d1 : decide ((i : Int) < (l.length : Int)) = true := decide_eq_true (by omega)
  have hg : l[i]? = some l[i] := List.getElem?_eq_getElem hlt
  have hm := List.getElem_mem hlt
  have hxi : (l.map BR.av)[((i : Nat) : Int).toNat]? = some (BR.av l[i]) := by rw [Int.toNat_natCast, List.getElem?_map, hg]; rfl
  have c := canonRat_p (h _ hm)
  have e1 : (l.take (i + 1)).map (fun a : BR => a.can.av) = (l.take i).map (fun a : BR => a.can.av) ++ [l[i].can.av] := Zc0 hg
  have hli := Zdl (l := l) (f := fun a : BR => a.can.av) hii
  clear hg
  generalize l[i] = x at *
  generalize x.can = y at *
  generalize hQ : (l.take i).map (fun a : BR => a.can.av) = Q at *
  generalize hQ2 : (l.take (i + 1)).map (fun a : BR => a.can.av) = Q2 at *
  subst e1
  obtain ⟨⟨g1, d1'⟩, ⟨g2, d2'⟩⟩ := x
  obtain ⟨⟨g3, d3'⟩, ⟨g4, d4'⟩⟩ := y
  refine goJ ?_
  refine evG ggA (Zab (Zaa rfl) (Zac rfl) rfl rfl (by omega) hxi rfl) ?_
  refine goJ ?_
  refine evG ggA (Zae (Zaa rfl) rfl rfl c) ?_
  refine goJ ?_
  refine evG ggA (Zar (Zaa rfl) (Zaf rfl) rfl rfl rfl rfl (Zbo rfl rfl) (Nat.le_of_ble_eq_true rfl)) ?_
  refine evG ggA (Zbe (Zaa rfl) (Zaf rfl) rfl rfl hli rfl rfl (by decide) rfl (by omega) (Nat.le_of_ble_eq_true rfl) rfl) ?_
  refine goJ ?_
  exact Zad (k := l.length - (i + 1)) (s' := mkS [(3, .own 100 (i + 1)), (6, .v (.sl (l.map BR.av))), (7, .v (iV l.length)), (8, .v (iV ((i : Int) + 1)))] [(100, .lst 4 54 (Q ++ [_]))] 19 true) (by omega) (by exact entA) ⟨i + 1, rfl, hlt, by rw [hQ2]; rfl⟩
theorem Zfk {a : PS} (h : a.ok) (hn : a.c.length ≤ 1000000000) : PC Tryz.prog 57 [a.av] a.can.av := by
 obtain ⟨f, cs⟩ := a
 have c := canonRats_p (l := cs) h.2.1 hn
 show PC Tryz.prog 57 [.agg [iV f, .sl (cs.map BR.av)]] (.agg [iV f, .sl ((cs.map BR.can).map BR.av)])
 refine Zas true Tryz.func57 rfl rfl rfl (Nat.le_of_ble_eq_true rfl) (Za4.agg (Za1 rfl)) ?_
 refine goI ?_
 refine evG ggA (Zae (Zaa rfl) rfl rfl c) ?_
 refine goI ?_
 exact rfl
theorem canonExpr_p' : ∀ (n : Nat) (a : PX), sizeOf a ≤ n → a.ok → PC Tryz.prog 60 [a.av] a.can.av := by
  intro n
  induction n with
  | zero => intro a hs; cases a; simp at hs
  | succ n ih =>
    rintro ⟨op, ns, c, nm, gs⟩ hs ha
    obtain ⟨h1, ⟨h2, h3⟩, h4, h5, h6, h7⟩ := ha
    have cg : ∀ x, x ∈ gs → PC Tryz.prog 60 [x.av] x.can.av := fun x hx => ih x (by have := List.sizeOf_lt_of_mem hx; simp at hs; omega) ((PX.oks_iff gs).1 h6 x hx)
    have cr := canonRat_p h4
    have cn := cloneI_p (iV_one ns) (by rw [List.length_map]; omega)
    have eml : (gs.map PX.av).length = gs.length := List.length_map ..
    have e0 : PX.av (.mk op ns c nm gs) = .agg (iV op :: .sl (ns.map iV) :: (c.cs ++ [tV nm, .sl (gs.map PX.av)])) := by
      show AV.agg (PX.cs _) = _
      rw [PX.cs, PX.avs_map]
    have e2 : PX.av (PX.can (.mk op ns c nm gs)) = .agg (iV op :: .sl (ns.map iV) :: (c.can.cs ++ [tV nm, .sl (gs.map fun a => a.can.av)])) := by
      rw [PX.can]
      show AV.agg (PX.cs _) = _
      rw [PX.cs, PX.avs_map, PX.cans_map, List.map_map]; rfl
    rw [e0, e2]
    clear e0 e2 ih hs h6
    generalize c.can = cc at *
    obtain ⟨⟨g1, d1⟩, ⟨g2, d2⟩⟩ := c
    obtain ⟨⟨g3, d3⟩, ⟨g4, d4⟩⟩ := cc
    refine Zas true Tryz.func60 rfl rfl rfl (Nat.le_of_ble_eq_true rfl) (Za4.agg (Za1 rfl)) ?_
    refine goI ?_
    refine evG ggA (Zae (Zaa rfl) rfl rfl cn) ?_
    refine goI ?_
    refine evG ggA (Zae (Zaa rfl) rfl rfl cr) ?_
    refine stpA ?_
    refine stpA ?_
    refine evG ggA (Zc1 (Zaa rfl) (Zb0 rfl) rfl rfl rfl) ?_
    refine goI ?_
    refine T.loop (fun N s1 => ∃ i : Nat, N = gs.length - i ∧ i ≤ gs.length ∧ s1 = mkS [(2, .ptr 2 0), (3, .ptr 3 0), (18, .v (.sl (gs.map PX.av))), (19, .v (iV gs.length)), (20, .v (iV i))] [(2, .var [.v (iV 0), .v (.p nilV), .v (boV false), .v (.p nilV), .v (boV false), .v (.p nilV), .v (tV ByteArray.empty), .v (.p nilV)]), (3, .var [.v (iV op), .v (.sl (ns.map iV)), .v (boV g3), .v (.sl (d3.map u32)), .v (boV g4), .v (.sl (d4.map u32)), .v (tV nm), .own 100 i]), (100, .lst 8 59 ((gs.take i).map fun a => a.can.av))] 33 true) gs.length
      (s' := mkS [(2, .ptr 2 0), (3, .ptr 3 0), (18, .v (.sl (gs.map PX.av))), (19, .v (iV ((gs.map PX.av).length : Nat))), (20, .v (iV ((0 : Nat) : Int)))] [(2, .var [.v (iV 0), .v (.p nilV), .v (boV false), .v (.p nilV), .v (boV false), .v (.p nilV), .v (tV ByteArray.empty), .v (.p nilV)]), (3, .var [.v (iV op), .v (.sl (ns.map iV)), .v (boV g3), .v (.sl (d3.map u32)), .v (boV g4), .v (.sl (d4.map u32)), .v (tV nm), .own 100 0]), (100, .lst 8 59 [])] 33 true) (by exact entA) ⟨0, rfl, Nat.zero_le _, by first | rfl | (rw [eml]; rfl)⟩ ?_
    rintro _ _ ⟨i, rfl, hii, rfl⟩
    by_cases hlt : i < gs.length
    rotate_left
    · obtain rfl : i = gs.length := by omega
      have d1 : decide ((gs.length : Int) < (gs.length : Int)) = false := decide_eq_false (by omega)
      rw [List.take_length]
      refine r1A ?_
      first
        | refine T.condF rfl (by assumption) ?_
        | (refine T.seq ?_; refine T.condF rfl (by assumption) ?_)
      refine T.exit ?_
      refine osA ?_
      refine T.weak (s' := mkS [(2, .ptr 2 0), (3, .ptr 3 0)] [(2, .var [.v (iV 0), .v (.p nilV), .v (boV false), .v (.p nilV), .v (boV false), .v (.p nilV), .v (tV ByteArray.empty), .v (.p nilV)]), (3, .var [.v (iV op), .v (.sl (ns.map iV)), .v (boV g3), .v (.sl (d3.map u32)), .v (boV g4), .v (.sl (d4.map u32)), .v (tV nm), .v (.sl (gs.map fun a => a.can.av))])] 33 true) (by exact entA) ?_
      refine goI ?_
      exact rfl
    · have d1 : decide ((i : Int) < (gs.length : Int)) = true := decide_eq_true (by omega)
      have hg : gs[i]? = some gs[i] := List.getElem?_eq_getElem hlt
      have hm := List.getElem_mem hlt
      have hxi : (gs.map PX.av)[((i : Nat) : Int).toNat]? = some (PX.av gs[i]) := by rw [Int.toNat_natCast, List.getElem?_map, hg]; rfl
      have c := cg _ hm
      have e1 : (gs.take (i + 1)).map (fun a => PX.av (PX.can a)) = (gs.take i).map (fun a => PX.av (PX.can a)) ++ [PX.av (PX.can gs[i])] := Zc0 hg
      have hli := Zdl (l := gs) (f := fun a => PX.av (PX.can a)) hii
      clear hg hm
      generalize gs[i] = x at *
      generalize hQ : (gs.take i).map (fun a => PX.av (PX.can a)) = Q at *
      generalize hQ2 : (gs.take (i + 1)).map (fun a => PX.av (PX.can a)) = Q2 at *
      subst e1
      generalize x.can = y at *
      obtain ⟨op', ns', ⟨⟨ga', da'⟩, ⟨gb', db'⟩⟩, nm', gs'⟩ := x
      obtain ⟨op2, ns2, ⟨⟨ga2, da2⟩, ⟨gb2, db2⟩⟩, nm2, gs2⟩ := y
      refine goJ ?_
      refine evG ggA (Zab (Zaa rfl) (Zac rfl) rfl rfl (by omega) hxi rfl) ?_
      refine goJ ?_
      refine T.drawF mixed ?_
      refine goJ ?_
      refine evG ggA (Zae (Zaa rfl) rfl rfl c) ?_
      refine goJ ?_
      refine evG ggA (Zar (Zaa rfl) (Zaf rfl) rfl rfl rfl rfl (Zbo rfl rfl) (Nat.le_of_ble_eq_true rfl)) ?_
      refine evG ggA (Zbe (Zaa rfl) (Zaf rfl) rfl rfl hli rfl rfl (by decide) rfl (by omega) (Nat.le_of_ble_eq_true rfl) rfl) ?_
      refine goJ ?_
      refine ⟨by kernel_rfl, ?_⟩
      refine goJ ?_
      exact Zad (k := gs.length - (i + 1)) (s' := mkS [(2, .ptr 2 0), (3, .ptr 3 0), (18, .v (.sl (gs.map PX.av))), (19, .v (iV gs.length)), (20, .v (iV ((i : Int) + 1)))] [(2, .var [.v (iV 0), .v (.p nilV), .v (boV false), .v (.p nilV), .v (boV false), .v (.p nilV), .v (tV ByteArray.empty), .v (.p nilV)]), (3, .var [.v (iV op), .v (.sl (ns.map iV)), .v (boV g3), .v (.sl (d3.map u32)), .v (boV g4), .v (.sl (d4.map u32)), .v (tV nm), .own 100 (i + 1)]), (100, .lst 8 59 (Q ++ [_]))] 33 true) (by omega) (by exact entA) ⟨i + 1, rfl, hlt, by rw [hQ2]; rfl⟩
theorem Zgs {a : PX} (h : a.ok) : PC Tryz.prog 60 [a.av] a.can.av := canonExpr_p' _ a (Nat.le_refl _) h
theorem canonDefs_p {l : List PB} (h : ∀ a, a ∈ l → a.ok) (hn : l.length ≤ 1000000000) : PC Tryz.prog 59 [.sl (l.map PB.av)] (.sl ((l.map PB.can).map PB.av)) := by
 have eml : (l.map PB.av).length = l.length := List.length_map ..
 have emm : (l.map PB.can).map PB.av = l.map fun a => a.can.av := by rw [List.map_map]; rfl
 rw [emm]
 refine Zas true Tryz.func59 rfl rfl rfl (Nat.le_of_ble_eq_true rfl) Za4.tmp ?_
 refine goJ ?_
 refine T.loop (fun N s1 => ∃ i : Nat, N = l.length - i ∧ i ≤ l.length ∧ s1 = mkS [(3, .own 100 i), (6, .v (.sl (l.map PB.av))), (7, .v (iV l.length)), (8, .v (iV i))] [(100, .lst 9 61 ((l.take i).map fun a => a.can.av))] 23 true) l.length
  (s' := mkS [(3, .own 100 0), (6, .v (.sl (l.map PB.av))), (7, .v (iV ((l.map PB.av).length : Nat))), (8, .v (iV ((0 : Nat) : Int)))] [(100, .lst 9 61 [])] 23 true) (by exact entA) ⟨0, rfl, Nat.zero_le _, by first | rfl | (rw [eml]; rfl)⟩ ?_
 rintro _ _ ⟨i, rfl, hii, rfl⟩
 by_cases hlt : i < l.length
 rotate_left
 ·obtain rfl : i = l.length := by omega
  have d1 : decide ((l.length : Int) < (l.length : Int)) = false := decide_eq_false (by omega)
  rw [List.take_length]
  refine r1A ?_
  first
   | refine T.condF rfl (by assumption) ?_
   | (refine T.seq ?_; refine T.condF rfl (by assumption) ?_)
  refine T.exit ?_
  refine osA ?_
  refine T.weak (s' := mkS [(3, .v (.sl (l.map fun a => a.can.av)))] [] 23 true) (by exact entA) ?_
  refine goI ?_
  exact rfl
 ·have d1 : decide ((i : Int) < (l.length : Int)) = true := decide_eq_true (by omega)
  have hg : l[i]? = some l[i] := List.getElem?_eq_getElem hlt
  have hm := List.getElem_mem hlt
  have hxi : (l.map PB.av)[((i : Nat) : Int).toNat]? = some (PB.av l[i]) := by rw [Int.toNat_natCast, List.getElem?_map, hg]; rfl
  have c := Zgs (h _ hm).2
  have e1 : (l.take (i + 1)).map (fun a => PB.av (PB.can a)) = (l.take i).map (fun a => PB.av (PB.can a)) ++ [PB.av (PB.can l[i])] := Zc0 hg
  have hli := Zdl (l := l) (f := fun a => PB.av (PB.can a)) hii
  clear hg hm
  generalize l[i] = x at *
  generalize hQ : (l.take i).map (fun a => PB.av (PB.can a)) = Q at *
  generalize hQ2 : (l.take (i + 1)).map (fun a => PB.av (PB.can a)) = Q2 at *
  subst e1
  obtain ⟨nx, e⟩ := x
  have eY : (PB.can ⟨nx, e⟩).av = .agg (tV nx :: e.can.cs) := rfl
  rw [eY] at hQ2
  clear eY
  change PC _ _ [e.av] e.can.av at c
  generalize e.can = y at *
  obtain ⟨op', ns', ⟨⟨ga', da'⟩, ⟨gb', db'⟩⟩, nm', gs'⟩ := e
  obtain ⟨op2, ns2, ⟨⟨ga2, da2⟩, ⟨gb2, db2⟩⟩, nm2, gs2⟩ := y
  refine goJ ?_
  refine evG ggA (Zab (Zaa rfl) (Zac rfl) rfl rfl (by omega) hxi rfl) ?_
  refine goJ ?_
  refine T.drawF mixed ?_
  refine goJ ?_
  refine evG ggA (Zae (Zaa rfl) rfl rfl c) ?_
  refine goJ ?_
  refine evG ggA (Zar (Zaa rfl) (Zaf rfl) rfl rfl rfl rfl (Zbo rfl rfl) (Nat.le_of_ble_eq_true rfl)) ?_
  refine evG ggA (Zbe (Zaa rfl) (Zaf rfl) rfl rfl hli rfl rfl (by decide) rfl (by omega) (Nat.le_of_ble_eq_true rfl) rfl) ?_
  refine goJ ?_
  refine ⟨by kernel_rfl, ?_⟩
  refine goJ ?_
  exact Zad (k := l.length - (i + 1)) (s' := mkS [(3, .own 100 (i + 1)), (6, .v (.sl (l.map PB.av))), (7, .v (iV l.length)), (8, .v (iV ((i : Int) + 1)))] [(100, .lst 9 61 (Q ++ [_]))] 23 true) (by omega) (by exact entA) ⟨i + 1, rfl, hlt, by rw [hQ2]; rfl⟩
theorem canonical_p {p : PP} (h : p.ok) : PC Tryz.prog 15 [p.av] p.can.av := by
 obtain ⟨sr, et, df, ce, sp, ma⟩ := p
 obtain ⟨⟨h0, n0⟩, ⟨h1, n1⟩, ⟨h2, n2⟩, ⟨h3, n3⟩, ⟨h4, n4⟩, h5, n5⟩ := h
 have h0 : ∀ s, s ∈ sr → s.ok := h0
 have h1 : ∀ s, s ∈ et → s.ok := h1
 have h2 : ∀ s, s ∈ df → s.ok := h2
 have h3 : ∀ s, s ∈ ce → s.ok := h3
 have h4 : ∀ s, s ∈ sp → s.ok := h4
 have h5 : ∀ s, s ∈ ma → s.ok := h5
 have n0 : sr.length ≤ 1000000000 := n0
 have n1 : et.length ≤ 1000000000 := n1
 have n2 : df.length ≤ 1000000000 := n2
 have n3 : ce.length ≤ 1000000000 := n3
 have n4 : sp.length ≤ 1000000000 := n4
 have n5 : ma.length ≤ 1000000000 := n5
 have cdf := canonDefs_p h2 n2
 have eO : PP.av (PP.can ⟨sr, et, df, ce, sp, ma⟩) = .agg [.sl (sr.map fun a => PS.av (PS.can a)), .sl (et.map fun a => PE.av (id a)), .sl (df.map fun a => PB.av (PB.can a)), .sl (ce.map fun a => PZ.av (PZ.can a)), .sl (sp.map fun a => PF.av (PF.can a)), .sl (ma.map fun a => PM.av (PM.can a))] := by
  show AV.agg [.sl ((sr.map PS.can).map PS.av), .sl (et.map PE.av), .sl ((df.map PB.can).map PB.av), .sl ((ce.map PZ.can).map PZ.av), .sl ((sp.map PF.can).map PF.av), .sl ((ma.map PM.can).map PM.av)] = _
  simp only [List.map_map]; rfl
 have ed : (df.map PB.can).map PB.av = df.map fun a => PB.av (PB.can a) := by rw [List.map_map]; rfl
 rw [ed] at cdf
 rw [eO]
 clear eO ed
 have eml : (sr.map PS.av).length = sr.length := List.length_map ..
 refine Zas true Tryz.func15 rfl rfl rfl (Nat.le_of_ble_eq_true rfl) (Za4.agg (Za1 rfl)) ?_
 refine goJ ?_
 refine T.loop (fun N s1 => ∃ i : Nat, N = sr.length - i ∧ i ≤ sr.length ∧ s1 = mkS [(1, .ptr 1 0), (2, .ptr 2 0), (3, .ptr 3 0), (18, .v (.sl (sr.map PS.av))), (19, .v (iV sr.length)), (20, .v (iV i))] [(1, .var [.v (.sl (sr.map PS.av)), .v (.sl (et.map PE.av)), .v (.sl (df.map PB.av)), .v (.sl (ce.map PZ.av)), .v (.sl (sp.map PF.av)), .v (.sl (ma.map PM.av))]), (2, .var [.v (.p nilV), .v (.p nilV), .v (.p nilV), .v (.p nilV), .v (.p nilV), .v (.p nilV)]), (3, .var [.own 100 i, .v (.p nilV), .v (.p nilV), .v (.p nilV), .v (.p nilV), .v (.p nilV)]), (100, .lst 2 49 ((sr.take i).map fun a => PS.av (PS.can a)))] 141 true) sr.length
  (s' := mkS [(1, .ptr 1 0), (2, .ptr 2 0), (3, .ptr 3 0), (18, .v (.sl (sr.map PS.av))), (19, .v (iV ((sr.map PS.av).length : Nat))), (20, .v (iV ((0 : Nat) : Int)))] [(1, .var [.v (.sl (sr.map PS.av)), .v (.sl (et.map PE.av)), .v (.sl (df.map PB.av)), .v (.sl (ce.map PZ.av)), .v (.sl (sp.map PF.av)), .v (.sl (ma.map PM.av))]), (2, .var [.v (.p nilV), .v (.p nilV), .v (.p nilV), .v (.p nilV), .v (.p nilV), .v (.p nilV)]), (3, .var [.own 100 0, .v (.p nilV), .v (.p nilV), .v (.p nilV), .v (.p nilV), .v (.p nilV)]), (100, .lst 2 49 [])] 141 true) (by exact entA) ⟨0, rfl, Nat.zero_le _, by first | rfl | (rw [eml]; rfl)⟩ ?_
 rintro _ _ ⟨i, rfl, hii, rfl⟩
 by_cases hlt : i < sr.length
 rotate_left
 ·obtain rfl : i = sr.length := by omega
  have d1 : decide ((sr.length : Int) < (sr.length : Int)) = false := decide_eq_false (by omega)
  rw [List.take_length]
  refine r1A ?_
  first
   | refine T.condF rfl (by assumption) ?_
   | (refine T.seq ?_; refine T.condF rfl (by assumption) ?_)
  refine T.exit ?_
  refine osA ?_
  refine T.weak (s' := mkS [(1, .ptr 1 0), (2, .ptr 2 0), (3, .ptr 3 0)] [(1, .var [.v (.sl (sr.map PS.av)), .v (.sl (et.map PE.av)), .v (.sl (df.map PB.av)), .v (.sl (ce.map PZ.av)), .v (.sl (sp.map PF.av)), .v (.sl (ma.map PM.av))]), (2, .var [.v (.p nilV), .v (.p nilV), .v (.p nilV), .v (.p nilV), .v (.p nilV), .v (.p nilV)]), (3, .var [.v (.sl (sr.map fun a => PS.av (PS.can a))), .v (.p nilV), .v (.p nilV), .v (.p nilV), .v (.p nilV), .v (.p nilV)])] 141 true) (by exact entA) ?_
  have eml : (et.map PE.av).length = et.length := List.length_map ..
  refine goJ ?_
  refine T.loop (fun N s1 => ∃ i : Nat, N = et.length - i ∧ i ≤ et.length ∧ s1 = mkS [(1, .ptr 1 0), (2, .ptr 2 0), (3, .ptr 3 0), (33, .v (.sl (et.map PE.av))), (34, .v (iV et.length)), (35, .v (iV i))] [(1, .var [.v (.sl (sr.map PS.av)), .v (.sl (et.map PE.av)), .v (.sl (df.map PB.av)), .v (.sl (ce.map PZ.av)), .v (.sl (sp.map PF.av)), .v (.sl (ma.map PM.av))]), (2, .var [.v (.p nilV), .v (.p nilV), .v (.p nilV), .v (.p nilV), .v (.p nilV), .v (.p nilV)]), (3, .var [.v (.sl (sr.map fun a => PS.av (PS.can a))), .own 100 i, .v (.p nilV), .v (.p nilV), .v (.p nilV), .v (.p nilV)]), (100, .lst 2 67 ((et.take i).map fun a => PE.av (id a)))] 141 true) et.length
   (s' := mkS [(1, .ptr 1 0), (2, .ptr 2 0), (3, .ptr 3 0), (33, .v (.sl (et.map PE.av))), (34, .v (iV ((et.map PE.av).length : Nat))), (35, .v (iV ((0 : Nat) : Int)))] [(1, .var [.v (.sl (sr.map PS.av)), .v (.sl (et.map PE.av)), .v (.sl (df.map PB.av)), .v (.sl (ce.map PZ.av)), .v (.sl (sp.map PF.av)), .v (.sl (ma.map PM.av))]), (2, .var [.v (.p nilV), .v (.p nilV), .v (.p nilV), .v (.p nilV), .v (.p nilV), .v (.p nilV)]), (3, .var [.v (.sl (sr.map fun a => PS.av (PS.can a))), .own 100 0, .v (.p nilV), .v (.p nilV), .v (.p nilV), .v (.p nilV)]), (100, .lst 2 67 [])] 141 true) (by exact entA) ⟨0, rfl, Nat.zero_le _, by first | rfl | (rw [eml]; rfl)⟩ ?_
  rintro _ _ ⟨i, rfl, hii, rfl⟩
  by_cases hlt : i < et.length
  rotate_left
  ·obtain rfl : i = et.length := by omega
   have d1 : decide ((et.length : Int) < (et.length : Int)) = false := decide_eq_false (by omega)
   rw [List.take_length]
   refine r1A ?_
   first
    | refine T.condF rfl (by assumption) ?_
    | (refine T.seq ?_; refine T.condF rfl (by assumption) ?_)
   refine T.exit ?_
   refine osA ?_
   refine T.weak (s' := mkS [(1, .ptr 1 0), (2, .ptr 2 0), (3, .ptr 3 0)] [(1, .var [.v (.sl (sr.map PS.av)), .v (.sl (et.map PE.av)), .v (.sl (df.map PB.av)), .v (.sl (ce.map PZ.av)), .v (.sl (sp.map PF.av)), .v (.sl (ma.map PM.av))]), (2, .var [.v (.p nilV), .v (.p nilV), .v (.p nilV), .v (.p nilV), .v (.p nilV), .v (.p nilV)]), (3, .var [.v (.sl (sr.map fun a => PS.av (PS.can a))), .v (.sl (et.map fun a => PE.av (id a))), .v (.p nilV), .v (.p nilV), .v (.p nilV), .v (.p nilV)])] 141 true) (by exact entA) ?_
   refine goJ ?_
   refine evG ggA (Zae (Zaa rfl) rfl rfl cdf) ?_
   have eml : (ce.map PZ.av).length = ce.length := List.length_map ..
   refine goJ ?_
   refine T.loop (fun N s1 => ∃ i : Nat, N = ce.length - i ∧ i ≤ ce.length ∧ s1 = mkS [(1, .ptr 1 0), (2, .ptr 2 0), (3, .ptr 3 0), (56, .v (.sl (ce.map PZ.av))), (57, .v (iV ce.length)), (58, .v (iV i))] [(1, .var [.v (.sl (sr.map PS.av)), .v (.sl (et.map PE.av)), .v (.sl (df.map PB.av)), .v (.sl (ce.map PZ.av)), .v (.sl (sp.map PF.av)), .v (.sl (ma.map PM.av))]), (2, .var [.v (.p nilV), .v (.p nilV), .v (.p nilV), .v (.p nilV), .v (.p nilV), .v (.p nilV)]), (3, .var [.v (.sl (sr.map fun a => PS.av (PS.can a))), .v (.sl (et.map fun a => PE.av (id a))), .v (.sl (df.map fun a => PB.av (PB.can a))), .own 100 i, .v (.p nilV), .v (.p nilV)]), (100, .lst 25 75 ((ce.take i).map fun a => PZ.av (PZ.can a)))] 141 true) ce.length
    (s' := mkS [(1, .ptr 1 0), (2, .ptr 2 0), (3, .ptr 3 0), (56, .v (.sl (ce.map PZ.av))), (57, .v (iV ((ce.map PZ.av).length : Nat))), (58, .v (iV ((0 : Nat) : Int)))] [(1, .var [.v (.sl (sr.map PS.av)), .v (.sl (et.map PE.av)), .v (.sl (df.map PB.av)), .v (.sl (ce.map PZ.av)), .v (.sl (sp.map PF.av)), .v (.sl (ma.map PM.av))]), (2, .var [.v (.p nilV), .v (.p nilV), .v (.p nilV), .v (.p nilV), .v (.p nilV), .v (.p nilV)]), (3, .var [.v (.sl (sr.map fun a => PS.av (PS.can a))), .v (.sl (et.map fun a => PE.av (id a))), .v (.sl (df.map fun a => PB.av (PB.can a))), .own 100 0, .v (.p nilV), .v (.p nilV)]), (100, .lst 25 75 [])] 141 true) (by exact entA) ⟨0, rfl, Nat.zero_le _, by first | rfl | (rw [eml]; rfl)⟩ ?_
   rintro _ _ ⟨i, rfl, hii, rfl⟩
   by_cases hlt : i < ce.length
   rotate_left
   ·obtain rfl : i = ce.length := by omega
    have d1 : decide ((ce.length : Int) < (ce.length : Int)) = false := decide_eq_false (by omega)
    rw [List.take_length]
    refine r1A ?_
    first
     | refine T.condF rfl (by assumption) ?_
     | (refine T.seq ?_; refine T.condF rfl (by assumption) ?_)
    refine T.exit ?_
    refine osA ?_
    refine T.weak (s' := mkS [(1, .ptr 1 0), (2, .ptr 2 0), (3, .ptr 3 0)] [(1, .var [.v (.sl (sr.map PS.av)), .v (.sl (et.map PE.av)), .v (.sl (df.map PB.av)), .v (.sl (ce.map PZ.av)), .v (.sl (sp.map PF.av)), .v (.sl (ma.map PM.av))]), (2, .var [.v (.p nilV), .v (.p nilV), .v (.p nilV), .v (.p nilV), .v (.p nilV), .v (.p nilV)]), (3, .var [.v (.sl (sr.map fun a => PS.av (PS.can a))), .v (.sl (et.map fun a => PE.av (id a))), .v (.sl (df.map fun a => PB.av (PB.can a))), .v (.sl (ce.map fun a => PZ.av (PZ.can a))), .v (.p nilV), .v (.p nilV)])] 141 true) (by exact entA) ?_
    have eml : (sp.map PF.av).length = sp.length := List.length_map ..
    refine goJ ?_
    refine T.loop (fun N s1 => ∃ i : Nat, N = sp.length - i ∧ i ≤ sp.length ∧ s1 = mkS [(1, .ptr 1 0), (2, .ptr 2 0), (3, .ptr 3 0), (86, .v (.sl (sp.map PF.av))), (87, .v (iV sp.length)), (88, .v (iV i))] [(1, .var [.v (.sl (sr.map PS.av)), .v (.sl (et.map PE.av)), .v (.sl (df.map PB.av)), .v (.sl (ce.map PZ.av)), .v (.sl (sp.map PF.av)), .v (.sl (ma.map PM.av))]), (2, .var [.v (.p nilV), .v (.p nilV), .v (.p nilV), .v (.p nilV), .v (.p nilV), .v (.p nilV)]), (3, .var [.v (.sl (sr.map fun a => PS.av (PS.can a))), .v (.sl (et.map fun a => PE.av (id a))), .v (.sl (df.map fun a => PB.av (PB.can a))), .v (.sl (ce.map fun a => PZ.av (PZ.can a))), .own 100 i, .v (.p nilV)]), (100, .lst 5 71 ((sp.take i).map fun a => PF.av (PF.can a)))] 141 true) sp.length
     (s' := mkS [(1, .ptr 1 0), (2, .ptr 2 0), (3, .ptr 3 0), (86, .v (.sl (sp.map PF.av))), (87, .v (iV ((sp.map PF.av).length : Nat))), (88, .v (iV ((0 : Nat) : Int)))] [(1, .var [.v (.sl (sr.map PS.av)), .v (.sl (et.map PE.av)), .v (.sl (df.map PB.av)), .v (.sl (ce.map PZ.av)), .v (.sl (sp.map PF.av)), .v (.sl (ma.map PM.av))]), (2, .var [.v (.p nilV), .v (.p nilV), .v (.p nilV), .v (.p nilV), .v (.p nilV), .v (.p nilV)]), (3, .var [.v (.sl (sr.map fun a => PS.av (PS.can a))), .v (.sl (et.map fun a => PE.av (id a))), .v (.sl (df.map fun a => PB.av (PB.can a))), .v (.sl (ce.map fun a => PZ.av (PZ.can a))), .own 100 0, .v (.p nilV)]), (100, .lst 5 71 [])] 141 true) (by exact entA) ⟨0, rfl, Nat.zero_le _, by first | rfl | (rw [eml]; rfl)⟩ ?_
    rintro _ _ ⟨i, rfl, hii, rfl⟩
    by_cases hlt : i < sp.length
    rotate_left
    ·obtain rfl : i = sp.length := by omega
     have d1 : decide ((sp.length : Int) < (sp.length : Int)) = false := decide_eq_false (by omega)
     rw [List.take_length]
     refine r1A ?_
     first
      | refine T.condF rfl (by assumption) ?_
      | (refine T.seq ?_; refine T.condF rfl (by assumption) ?_)
     refine T.exit ?_
     refine osA ?_
     refine T.weak (s' := mkS [(1, .ptr 1 0), (2, .ptr 2 0), (3, .ptr 3 0)] [(1, .var [.v (.sl (sr.map PS.av)), .v (.sl (et.map PE.av)), .v (.sl (df.map PB.av)), .v (.sl (ce.map PZ.av)), .v (.sl (sp.map PF.av)), .v (.sl (ma.map PM.av))]), (2, .var [.v (.p nilV), .v (.p nilV), .v (.p nilV), .v (.p nilV), .v (.p nilV), .v (.p nilV)]), (3, .var [.v (.sl (sr.map fun a => PS.av (PS.can a))), .v (.sl (et.map fun a => PE.av (id a))), .v (.sl (df.map fun a => PB.av (PB.can a))), .v (.sl (ce.map fun a => PZ.av (PZ.can a))), .v (.sl (sp.map fun a => PF.av (PF.can a))), .v (.p nilV)])] 141 true) (by exact entA) ?_
     have eml : (ma.map PM.av).length = ma.length := List.length_map ..
     refine goJ ?_
     refine T.loop (fun N s1 => ∃ i : Nat, N = ma.length - i ∧ i ≤ ma.length ∧ s1 = mkS [(1, .ptr 1 0), (2, .ptr 2 0), (3, .ptr 3 0), (120, .v (.sl (ma.map PM.av))), (121, .v (iV ma.length)), (122, .v (iV i))] [(1, .var [.v (.sl (sr.map PS.av)), .v (.sl (et.map PE.av)), .v (.sl (df.map PB.av)), .v (.sl (ce.map PZ.av)), .v (.sl (sp.map PF.av)), .v (.sl (ma.map PM.av))]), (2, .var [.v (.p nilV), .v (.p nilV), .v (.p nilV), .v (.p nilV), .v (.p nilV), .v (.p nilV)]), (3, .var [.v (.sl (sr.map fun a => PS.av (PS.can a))), .v (.sl (et.map fun a => PE.av (id a))), .v (.sl (df.map fun a => PB.av (PB.can a))), .v (.sl (ce.map fun a => PZ.av (PZ.can a))), .v (.sl (sp.map fun a => PF.av (PF.can a))), .own 100 i]), (100, .lst 3 63 ((ma.take i).map fun a => PM.av (PM.can a)))] 141 true) ma.length
      (s' := mkS [(1, .ptr 1 0), (2, .ptr 2 0), (3, .ptr 3 0), (120, .v (.sl (ma.map PM.av))), (121, .v (iV ((ma.map PM.av).length : Nat))), (122, .v (iV ((0 : Nat) : Int)))] [(1, .var [.v (.sl (sr.map PS.av)), .v (.sl (et.map PE.av)), .v (.sl (df.map PB.av)), .v (.sl (ce.map PZ.av)), .v (.sl (sp.map PF.av)), .v (.sl (ma.map PM.av))]), (2, .var [.v (.p nilV), .v (.p nilV), .v (.p nilV), .v (.p nilV), .v (.p nilV), .v (.p nilV)]), (3, .var [.v (.sl (sr.map fun a => PS.av (PS.can a))), .v (.sl (et.map fun a => PE.av (id a))), .v (.sl (df.map fun a => PB.av (PB.can a))), .v (.sl (ce.map fun a => PZ.av (PZ.can a))), .v (.sl (sp.map fun a => PF.av (PF.can a))), .own 100 0]), (100, .lst 3 63 [])] 141 true) (by exact entA) ⟨0, rfl, Nat.zero_le _, by first | rfl | (rw [eml]; rfl)⟩ ?_
     rintro _ _ ⟨i, rfl, hii, rfl⟩
     by_cases hlt : i < ma.length
     rotate_left
     ·obtain rfl : i = ma.length := by omega
      have d1 : decide ((ma.length : Int) < (ma.length : Int)) = false := decide_eq_false (by omega)
      rw [List.take_length]
      refine r1A ?_
      first
       | refine T.condF rfl (by assumption) ?_
       | (refine T.seq ?_; refine T.condF rfl (by assumption) ?_)
      refine T.exit ?_
      refine osA ?_
      refine T.weak (s' := mkS [(1, .ptr 1 0), (2, .ptr 2 0), (3, .ptr 3 0)] [(1, .var [.v (.sl (sr.map PS.av)), .v (.sl (et.map PE.av)), .v (.sl (df.map PB.av)), .v (.sl (ce.map PZ.av)), .v (.sl (sp.map PF.av)), .v (.sl (ma.map PM.av))]), (2, .var [.v (.p nilV), .v (.p nilV), .v (.p nilV), .v (.p nilV), .v (.p nilV), .v (.p nilV)]), (3, .var [.v (.sl (sr.map fun a => PS.av (PS.can a))), .v (.sl (et.map fun a => PE.av (id a))), .v (.sl (df.map fun a => PB.av (PB.can a))), .v (.sl (ce.map fun a => PZ.av (PZ.can a))), .v (.sl (sp.map fun a => PF.av (PF.can a))), .v (.sl (ma.map fun a => PM.av (PM.can a)))])] 141 true) (by exact entA) ?_
      refine goI ?_
      exact rfl
     ·have d1 : decide ((i : Int) < (ma.length : Int)) = true := decide_eq_true (by omega)
      have hg : ma[i]? = some ma[i] := List.getElem?_eq_getElem hlt
      have hm := List.getElem_mem hlt
      have eml := True.intro
      have hxi : (ma.map PM.av)[((i : Nat) : Int).toNat]? = some (PM.av ma[i]) := by rw [Int.toNat_natCast, List.getElem?_map, hg]; rfl
      obtain ⟨q1, q2, q3, q4⟩ := h5 _ hm
      have c := canonRats_p q3 q4
      have e1 : (ma.take (i + 1)).map (fun a => PM.av (PM.can a)) = (ma.take i).map (fun a => PM.av (PM.can a)) ++ [PM.av (PM.can ma[i])] := Zc0 hg
      have hli := Zdl (l := ma) (f := fun a => PM.av (PM.can a)) hii
      clear hg hm
      generalize ma[i] = x at *
      generalize hQ : (ma.take i).map (fun a => PM.av (PM.can a)) = Q at *
      generalize hQ2 : (ma.take (i + 1)).map (fun a => PM.av (PM.can a)) = Q2 at *
      subst e1
      obtain ⟨xr, xc, xa⟩ := x
      have eY : PM.av (PM.can ⟨xr, xc, xa⟩) = .agg [iV xr, iV xc, .sl ((xa.map BR.can).map BR.av)] := rfl
      rw [eY] at hQ2
      clear eY q3 q4
      change PC _ _ [.sl (xa.map BR.av)] (.sl ((xa.map BR.can).map BR.av)) at c
      generalize (xa.map BR.can).map BR.av = ya at *
      refine goJ ?_
      refine evG ggA (Zab (Zaa rfl) (Zac rfl) rfl rfl (by omega) hxi rfl) ?_
      refine goJ ?_
      refine T.drawF mixed ?_
      refine goJ ?_
      refine evG ggA (Zae (Zaa rfl) rfl rfl c) ?_
      refine goJ ?_
      refine evG ggA (Zar (Zaa rfl) (Zaf rfl) rfl rfl rfl rfl (Zbo rfl rfl) (Nat.le_of_ble_eq_true rfl)) ?_
      refine evG ggA (Zbe (Zaa rfl) (Zaf rfl) rfl rfl hli rfl rfl (by decide) rfl (by omega) (Nat.le_of_ble_eq_true rfl) rfl) ?_
      refine goJ ?_
      refine ⟨by kernel_rfl, ?_⟩
      refine goJ ?_
      exact Zad (k := ma.length - (i + 1)) (s' := mkS [(1, .ptr 1 0), (2, .ptr 2 0), (3, .ptr 3 0), (120, .v (.sl (ma.map PM.av))), (121, .v (iV ma.length)), (122, .v (iV ((i : Int) + 1)))] [(1, .var [.v (.sl (sr.map PS.av)), .v (.sl (et.map PE.av)), .v (.sl (df.map PB.av)), .v (.sl (ce.map PZ.av)), .v (.sl (sp.map PF.av)), .v (.sl (ma.map PM.av))]), (2, .var [.v (.p nilV), .v (.p nilV), .v (.p nilV), .v (.p nilV), .v (.p nilV), .v (.p nilV)]), (3, .var [.v (.sl (sr.map fun a => PS.av (PS.can a))), .v (.sl (et.map fun a => PE.av (id a))), .v (.sl (df.map fun a => PB.av (PB.can a))), .v (.sl (ce.map fun a => PZ.av (PZ.can a))), .v (.sl (sp.map fun a => PF.av (PF.can a))), .own 100 (i + 1)]), (100, .lst 3 63 (Q ++ [_]))] 141 true) (by omega) (by exact entA) ⟨i + 1, rfl, hlt, by rw [hQ2]; rfl⟩
    ·have d1 : decide ((i : Int) < (sp.length : Int)) = true := decide_eq_true (by omega)
     have hg : sp[i]? = some sp[i] := List.getElem?_eq_getElem hlt
     have hm := List.getElem_mem hlt
     have eml := True.intro
     have hlt' := hlt
     have hxi : (sp.map PF.av)[((i : Nat) : Int).toNat]? = some (PF.av sp[i]) := by rw [Int.toNat_natCast, List.getElem?_map, hg]; rfl
     obtain ⟨q1, q2, q3, q4, q5, q6⟩ := h4 _ hm
     have e1 : (sp.take (i + 1)).map (fun a => PF.av (PF.can a)) = (sp.take i).map (fun a => PF.av (PF.can a)) ++ [PF.av (PF.can sp[i])] := Zc0 hg
     have hli := Zdl (l := sp) (f := fun a => PF.av (PF.can a)) hii
     clear hg
     generalize sp[i] = x at *
     generalize hQ : (sp.take i).map (fun a => PF.av (PF.can a)) = Q at *
     generalize hQ2 : (sp.take (i + 1)).map (fun a => PF.av (PF.can a)) = Q2 at *
     subst e1
     obtain ⟨f1, f2, f3, f4, b⟩ := x
     have q5 : ∀ a, a ∈ b → a.ok := q5
     have q6 : b.length ≤ 1000000000 := q6
     have eY : PF.av (PF.can ⟨f1, f2, f3, f4, b⟩) = .agg [iV f1, iV f2, iV f3, iV f4, .sl (b.map fun a => PS.av (PS.can a))] := by
      show AV.agg [_, _, _, _, .sl ((b.map PS.can).map PS.av)] = _
      rw [List.map_map]; rfl
     rw [eY] at hQ2
     clear eY
     have emb : (b.map PS.av).length = b.length := List.length_map ..
     refine goJ ?_
     refine evG ggA (Zab (Zaa rfl) (Zac rfl) rfl rfl (by omega) hxi rfl) ?_
     refine runA ?_
     refine Zbs ?_
     refine Zbr ?_
     refine T.seq ?_
     refine T.region ?_
     refine stpA ?_
     refine stpA ?_
     refine stpA ?_
     refine stpA ?_
     refine evG ggA (Zc1 (Zaa rfl) (Zb0 rfl) rfl rfl rfl) ?_
     refine goJ ?_
     refine T.loop (fun N s1 => ∃ k : Nat, N = b.length - k ∧ k ≤ b.length ∧ s1 = mkS [(1, .ptr 1 0), (2, .ptr 2 0), (3, .ptr 3 0), (86, .v (.sl (sp.map PF.av))), (87, .v (iV sp.length)), (88, .v (iV (i : Int))), (12, .ptr 12 0), (98, .v (.sl (b.map PS.av))), (99, .v (iV b.length)), (100, .v (iV k))] [(1, .var [.v (.sl (sr.map PS.av)), .v (.sl (et.map PE.av)), .v (.sl (df.map PB.av)), .v (.sl (ce.map PZ.av)), .v (.sl (sp.map PF.av)), .v (.sl (ma.map PM.av))]), (2, .var [.v (.p nilV), .v (.p nilV), .v (.p nilV), .v (.p nilV), .v (.p nilV), .v (.p nilV)]), (3, .var [.v (.sl (sr.map fun a => PS.av (PS.can a))), .v (.sl (et.map fun a => PE.av (id a))), .v (.sl (df.map fun a => PB.av (PB.can a))), .v (.sl (ce.map fun a => PZ.av (PZ.can a))), .own 100 i, .v (.p nilV)]), (100, .lst 5 71 Q), (12, .var [.v (iV f1), .v (iV f2), .v (iV f3), .v (iV f4), .own 110 k]), (110, .lst 2 49 ((b.take k).map fun a => PS.av (PS.can a)))] 141 true) b.length
      (s' := mkS [(1, .ptr 1 0), (2, .ptr 2 0), (3, .ptr 3 0), (86, .v (.sl (sp.map PF.av))), (87, .v (iV sp.length)), (88, .v (iV (i : Int))), (12, .ptr 12 0), (98, .v (.sl (b.map PS.av))), (99, .v (iV ((b.map PS.av).length : Nat))), (100, .v (iV ((0 : Nat) : Int)))] [(1, .var [.v (.sl (sr.map PS.av)), .v (.sl (et.map PE.av)), .v (.sl (df.map PB.av)), .v (.sl (ce.map PZ.av)), .v (.sl (sp.map PF.av)), .v (.sl (ma.map PM.av))]), (2, .var [.v (.p nilV), .v (.p nilV), .v (.p nilV), .v (.p nilV), .v (.p nilV), .v (.p nilV)]), (3, .var [.v (.sl (sr.map fun a => PS.av (PS.can a))), .v (.sl (et.map fun a => PE.av (id a))), .v (.sl (df.map fun a => PB.av (PB.can a))), .v (.sl (ce.map fun a => PZ.av (PZ.can a))), .own 100 i, .v (.p nilV)]), (100, .lst 5 71 Q), (12, .var [.v (iV f1), .v (iV f2), .v (iV f3), .v (iV f4), .own 110 0]), (110, .lst 2 49 [])] 141 true) (by exact entA) ⟨0, rfl, Nat.zero_le _, by first | rfl | (rw [emb]; rfl)⟩ ?_
     rintro _ _ ⟨k, rfl, hik, rfl⟩
     by_cases hlt : k < b.length
     rotate_left
     ·obtain rfl : k = b.length := by omega
      have hlt2 := hlt
      have d1 : decide ((b.length : Int) < (b.length : Int)) = false := decide_eq_false (by omega)
      rw [List.take_length]
      refine r1A ?_
      first
       | refine T.condF rfl (by assumption) ?_
       | (refine T.seq ?_; refine T.condF rfl (by assumption) ?_)
      refine T.exit ?_
      refine osA ?_
      refine T.weak (s' := mkS [(1, .ptr 1 0), (2, .ptr 2 0), (3, .ptr 3 0), (86, .v (.sl (sp.map PF.av))), (87, .v (iV sp.length)), (88, .v (iV (i : Int))), (12, .ptr 12 0)] [(1, .var [.v (.sl (sr.map PS.av)), .v (.sl (et.map PE.av)), .v (.sl (df.map PB.av)), .v (.sl (ce.map PZ.av)), .v (.sl (sp.map PF.av)), .v (.sl (ma.map PM.av))]), (2, .var [.v (.p nilV), .v (.p nilV), .v (.p nilV), .v (.p nilV), .v (.p nilV), .v (.p nilV)]), (3, .var [.v (.sl (sr.map fun a => PS.av (PS.can a))), .v (.sl (et.map fun a => PE.av (id a))), .v (.sl (df.map fun a => PB.av (PB.can a))), .v (.sl (ce.map fun a => PZ.av (PZ.can a))), .own 100 i, .v (.p nilV)]), (100, .lst 5 71 Q), (12, .var [.v (iV f1), .v (iV f2), .v (iV f3), .v (iV f4), .v (.sl (b.map fun a => PS.av (PS.can a)))])] 141 true) (by exact entA) ?_
      refine goJ ?_
      refine evG ggA (Zar (Zaa rfl) (Zaf rfl) rfl rfl rfl rfl (Zbo rfl rfl) (Nat.le_of_ble_eq_true rfl)) ?_
      refine evG ggA (Zbe (Zaa rfl) (Zaf rfl) rfl rfl hli rfl rfl (by decide) rfl (by omega) (Nat.le_of_ble_eq_true rfl) rfl) ?_
      refine goJ ?_
      exact Zad (k := sp.length - (i + 1)) (s' := mkS [(1, .ptr 1 0), (2, .ptr 2 0), (3, .ptr 3 0), (86, .v (.sl (sp.map PF.av))), (87, .v (iV sp.length)), (88, .v (iV ((i : Int) + 1)))] [(1, .var [.v (.sl (sr.map PS.av)), .v (.sl (et.map PE.av)), .v (.sl (df.map PB.av)), .v (.sl (ce.map PZ.av)), .v (.sl (sp.map PF.av)), .v (.sl (ma.map PM.av))]), (2, .var [.v (.p nilV), .v (.p nilV), .v (.p nilV), .v (.p nilV), .v (.p nilV), .v (.p nilV)]), (3, .var [.v (.sl (sr.map fun a => PS.av (PS.can a))), .v (.sl (et.map fun a => PE.av (id a))), .v (.sl (df.map fun a => PB.av (PB.can a))), .v (.sl (ce.map fun a => PZ.av (PZ.can a))), .own 100 (i + 1), .v (.p nilV)]), (100, .lst 5 71 (Q ++ [_]))] 141 true) (by omega) (by exact entA) ⟨i + 1, rfl, hlt', by rw [hQ2]; rfl⟩
     ·have d1 : decide ((k : Int) < (b.length : Int)) = true := decide_eq_true (by omega)
      have hg : b[k]? = some b[k] := List.getElem?_eq_getElem hlt
      have hm := List.getElem_mem hlt
      have hxi : (b.map PS.av)[((k : Nat) : Int).toNat]? = some (PS.av b[k]) := by rw [Int.toNat_natCast, List.getElem?_map, hg]; rfl
      have c := Zfk (q5 _ hm) (q5 _ hm).2.2
      have e1 : (b.take (k + 1)).map (fun a => PS.av (PS.can a)) = (b.take k).map (fun a => PS.av (PS.can a)) ++ [PS.av (PS.can b[k])] := Zc0 hg
      have hli := Zdl (l := b) (f := fun a => PS.av (PS.can a)) hik
      clear hg hm
      generalize b[k] = x at *
      generalize hR : (b.take k).map (fun a => PS.av (PS.can a)) = R at *
      generalize hR2 : (b.take (k + 1)).map (fun a => PS.av (PS.can a)) = R2 at *
      subst e1
      generalize x.can = y at *
      obtain ⟨xf, xc⟩ := x
      obtain ⟨yf, yc⟩ := y
      refine goJ ?_
      refine evG ggA (Zab (Zaa rfl) (Zac rfl) rfl rfl (by omega) hxi rfl) ?_
      refine goJ ?_
      refine T.drawF mixed ?_
      refine goJ ?_
      refine evG ggA (Zae (Zaa rfl) rfl rfl c) ?_
      refine goJ ?_
      refine evG ggA (Zar (Zaa rfl) (Zaf rfl) rfl rfl rfl rfl (Zbo rfl rfl) (Nat.le_of_ble_eq_true rfl)) ?_
      refine evG ggA (Zbe (Zaa rfl) (Zaf rfl) rfl rfl hli rfl rfl (by decide) rfl (by omega) (Nat.le_of_ble_eq_true rfl) rfl) ?_
      refine goJ ?_
      refine ⟨by kernel_rfl, ?_⟩
      refine goJ ?_
      exact Zad (k := b.length - (k + 1)) (s' := mkS [(1, .ptr 1 0), (2, .ptr 2 0), (3, .ptr 3 0), (86, .v (.sl (sp.map PF.av))), (87, .v (iV sp.length)), (88, .v (iV (i : Int))), (12, .ptr 12 0), (98, .v (.sl (b.map PS.av))), (99, .v (iV b.length)), (100, .v (iV ((k : Int) + 1)))] [(1, .var [.v (.sl (sr.map PS.av)), .v (.sl (et.map PE.av)), .v (.sl (df.map PB.av)), .v (.sl (ce.map PZ.av)), .v (.sl (sp.map PF.av)), .v (.sl (ma.map PM.av))]), (2, .var [.v (.p nilV), .v (.p nilV), .v (.p nilV), .v (.p nilV), .v (.p nilV), .v (.p nilV)]), (3, .var [.v (.sl (sr.map fun a => PS.av (PS.can a))), .v (.sl (et.map fun a => PE.av (id a))), .v (.sl (df.map fun a => PB.av (PB.can a))), .v (.sl (ce.map fun a => PZ.av (PZ.can a))), .own 100 i, .v (.p nilV)]), (100, .lst 5 71 Q), (12, .var [.v (iV f1), .v (iV f2), .v (iV f3), .v (iV f4), .own 110 (k + 1)]), (110, .lst 2 49 (R ++ [_]))] 141 true) (by omega) (by exact entA) ⟨k + 1, rfl, hlt, by rw [hR2]; rfl⟩
   ·have d1 : decide ((i : Int) < (ce.length : Int)) = true := decide_eq_true (by omega)
    have hg : ce[i]? = some ce[i] := List.getElem?_eq_getElem hlt
    have hm := List.getElem_mem hlt
    have eml := True.intro
    have hxi : (ce.map PZ.av)[((i : Nat) : Int).toNat]? = some (PZ.av ce[i]) := by rw [Int.toNat_natCast, List.getElem?_map, hg]; rfl
    obtain ⟨q1, q2, ⟨q3, q4⟩, q5, q6, q7⟩ := h3 _ hm
    have c1 := Zgs q1
    have c2 := Zgs q2
    have c3 := canonDefs_p q3 q4
    have c4 := Zfk q7 q7.2.2
    clear q1 q2 q3 q4 q5 q6 q7
    have e1 : (ce.take (i + 1)).map (fun a => PZ.av (PZ.can a)) = (ce.take i).map (fun a => PZ.av (PZ.can a)) ++ [PZ.av (PZ.can ce[i])] := Zc0 hg
    have hli := Zdl (l := ce) (f := fun a => PZ.av (PZ.can a)) hii
    clear hg hm
    generalize ce[i] = x at *
    generalize hQ : (ce.take i).map (fun a => PZ.av (PZ.can a)) = Q at *
    generalize hQ2 : (ce.take (i + 1)).map (fun a => PZ.av (PZ.can a)) = Q2 at *
    subst e1
    obtain ⟨xa, xb, xd, xk, xo, xc⟩ := x
    have eY : PZ.av (PZ.can ⟨xa, xb, xd, xk, xo, xc⟩) = .agg (xa.can.cs ++ (xb.can.cs ++ (.sl ((xd.map PB.can).map PB.av) :: (xk.cs ++ (iV xo :: xc.can.cs))))) := rfl
    rw [eY] at hQ2
    clear eY
    change PC _ _ [xa.av] xa.can.av at c1
    change PC _ _ [xb.av] xb.can.av at c2
    change PC _ _ [.sl (xd.map PB.av)] (.sl ((xd.map PB.can).map PB.av)) at c3
    change PC _ _ [xc.av] xc.can.av at c4
    generalize xa.can = ya at *
    generalize xb.can = yb at *
    generalize xc.can = yc at *
    generalize (xd.map PB.can).map PB.av = yd at *
    obtain ⟨op1, ns1, ⟨⟨ga1, da1⟩, ⟨gb1, db1⟩⟩, nm1, gs1⟩ := xa
    obtain ⟨op2, ns2, ⟨⟨ga2, da2⟩, ⟨gb2, db2⟩⟩, nm2, gs2⟩ := xb
    obtain ⟨op3, ns3, ⟨⟨ga3, da3⟩, ⟨gb3, db3⟩⟩, nm3, gs3⟩ := ya
    obtain ⟨op4, ns4, ⟨⟨ga4, da4⟩, ⟨gb4, db4⟩⟩, nm4, gs4⟩ := yb
    obtain ⟨k1, k2, k3, k4, ku⟩ := xk
    obtain ⟨xf, xc⟩ := xc
    obtain ⟨yf, yc⟩ := yc
    refine goJ ?_
    refine evG ggA (Zab (Zaa rfl) (Zac rfl) rfl rfl (by omega) hxi rfl) ?_
    refine goJ ?_
    refine T.drawF mixed ?_
    refine goJ ?_
    refine evG ggA (Zae (Zaa rfl) rfl rfl c1) ?_
    refine goJ ?_
    refine evG ggA (Zae (Zaa rfl) rfl rfl c2) ?_
    refine goJ ?_
    refine evG ggA (Zae (Zaa rfl) rfl rfl c3) ?_
    refine goJ ?_
    refine evG ggA (Zae (Zaa rfl) rfl rfl c4) ?_
    refine goJ ?_
    refine evG ggA (Zar (Zaa rfl) (Zaf rfl) rfl rfl rfl rfl (Zbo rfl rfl) (Nat.le_of_ble_eq_true rfl)) ?_
    refine evG ggA (Zbe (Zaa rfl) (Zaf rfl) rfl rfl hli rfl rfl (by decide) rfl (by omega) (Nat.le_of_ble_eq_true rfl) rfl) ?_
    refine goJ ?_
    refine ⟨by kernel_rfl, ?_⟩
    refine goJ ?_
    exact Zad (k := ce.length - (i + 1)) (s' := mkS [(1, .ptr 1 0), (2, .ptr 2 0), (3, .ptr 3 0), (56, .v (.sl (ce.map PZ.av))), (57, .v (iV ce.length)), (58, .v (iV ((i : Int) + 1)))] [(1, .var [.v (.sl (sr.map PS.av)), .v (.sl (et.map PE.av)), .v (.sl (df.map PB.av)), .v (.sl (ce.map PZ.av)), .v (.sl (sp.map PF.av)), .v (.sl (ma.map PM.av))]), (2, .var [.v (.p nilV), .v (.p nilV), .v (.p nilV), .v (.p nilV), .v (.p nilV), .v (.p nilV)]), (3, .var [.v (.sl (sr.map fun a => PS.av (PS.can a))), .v (.sl (et.map fun a => PE.av (id a))), .v (.sl (df.map fun a => PB.av (PB.can a))), .own 100 (i + 1), .v (.p nilV), .v (.p nilV)]), (100, .lst 25 75 (Q ++ [_]))] 141 true) (by omega) (by exact entA) ⟨i + 1, rfl, hlt, by rw [hQ2]; rfl⟩
  ·have d1 : decide ((i : Int) < (et.length : Int)) = true := decide_eq_true (by omega)
   have hg : et[i]? = some et[i] := List.getElem?_eq_getElem hlt
   have hm := List.getElem_mem hlt
   have eml := True.intro
   have hxi : (et.map PE.av)[((i : Nat) : Int).toNat]? = some (PE.av et[i]) := by rw [Int.toNat_natCast, List.getElem?_map, hg]; rfl
   have c := cloneI_p (iV_one et[i].e) (by rw [List.length_map]; have := (h1 _ hm).2.2; omega)
   have e1 : (et.take (i + 1)).map (fun a => PE.av (id a)) = (et.take i).map (fun a => PE.av (id a)) ++ [PE.av (id et[i])] := Zc0 hg
   have hli := Zdl (l := et) (f := fun a => PE.av (id a)) hii
   clear hg hm
   generalize et[i] = x at *
   generalize hQ : (et.take i).map (fun a => PE.av (id a)) = Q at *
   generalize hQ2 : (et.take (i + 1)).map (fun a => PE.av (id a)) = Q2 at *
   subst e1
   obtain ⟨xf, xc⟩ := x
   refine goJ ?_
   refine evG ggA (Zab (Zaa rfl) (Zac rfl) rfl rfl (by omega) hxi rfl) ?_
   refine goJ ?_
   refine T.drawF mixed ?_
   refine goJ ?_
   refine evG ggA (Zae (Zaa rfl) rfl rfl c) ?_
   refine goJ ?_
   refine evG ggA (Zar (Zaa rfl) (Zaf rfl) rfl rfl rfl rfl (Zbo rfl rfl) (Nat.le_of_ble_eq_true rfl)) ?_
   refine evG ggA (Zbe (Zaa rfl) (Zaf rfl) rfl rfl hli rfl rfl (by decide) rfl (by omega) (Nat.le_of_ble_eq_true rfl) rfl) ?_
   refine goJ ?_
   refine ⟨by kernel_rfl, ?_⟩
   refine goJ ?_
   exact Zad (k := et.length - (i + 1)) (s' := mkS [(1, .ptr 1 0), (2, .ptr 2 0), (3, .ptr 3 0), (33, .v (.sl (et.map PE.av))), (34, .v (iV et.length)), (35, .v (iV ((i : Int) + 1)))] [(1, .var [.v (.sl (sr.map PS.av)), .v (.sl (et.map PE.av)), .v (.sl (df.map PB.av)), .v (.sl (ce.map PZ.av)), .v (.sl (sp.map PF.av)), .v (.sl (ma.map PM.av))]), (2, .var [.v (.p nilV), .v (.p nilV), .v (.p nilV), .v (.p nilV), .v (.p nilV), .v (.p nilV)]), (3, .var [.v (.sl (sr.map fun a => PS.av (PS.can a))), .own 100 (i + 1), .v (.p nilV), .v (.p nilV), .v (.p nilV), .v (.p nilV)]), (100, .lst 2 67 (Q ++ [_]))] 141 true) (by omega) (by exact entA) ⟨i + 1, rfl, hlt, by rw [hQ2]; rfl⟩
 ·have d1 : decide ((i : Int) < (sr.length : Int)) = true := decide_eq_true (by omega)
  have hg : sr[i]? = some sr[i] := List.getElem?_eq_getElem hlt
  have hm := List.getElem_mem hlt
  have eml := True.intro
  have hxi : (sr.map PS.av)[((i : Nat) : Int).toNat]? = some (PS.av sr[i]) := by rw [Int.toNat_natCast, List.getElem?_map, hg]; rfl
  have c := Zfk (h0 _ hm) (h0 _ hm).2.2
  have e1 : (sr.take (i + 1)).map (fun a => PS.av (PS.can a)) = (sr.take i).map (fun a => PS.av (PS.can a)) ++ [PS.av (PS.can sr[i])] := Zc0 hg
  have hli := Zdl (l := sr) (f := fun a => PS.av (PS.can a)) hii
  clear hg hm
  generalize sr[i] = x at *
  generalize hQ : (sr.take i).map (fun a => PS.av (PS.can a)) = Q at *
  generalize hQ2 : (sr.take (i + 1)).map (fun a => PS.av (PS.can a)) = Q2 at *
  subst e1
  generalize x.can = y at *
  obtain ⟨xf, xc⟩ := x
  obtain ⟨yf, yc⟩ := y
  refine goJ ?_
  refine evG ggA (Zab (Zaa rfl) (Zac rfl) rfl rfl (by omega) hxi rfl) ?_
  refine goJ ?_
  refine T.drawF mixed ?_
  refine goJ ?_
  refine evG ggA (Zae (Zaa rfl) rfl rfl c) ?_
  refine goJ ?_
  refine evG ggA (Zar (Zaa rfl) (Zaf rfl) rfl rfl rfl rfl (Zbo rfl rfl) (Nat.le_of_ble_eq_true rfl)) ?_
  refine evG ggA (Zbe (Zaa rfl) (Zaf rfl) rfl rfl hli rfl rfl (by decide) rfl (by omega) (Nat.le_of_ble_eq_true rfl) rfl) ?_
  refine goJ ?_
  refine ⟨by kernel_rfl, ?_⟩
  refine goJ ?_
  exact Zad (k := sr.length - (i + 1)) (s' := mkS [(1, .ptr 1 0), (2, .ptr 2 0), (3, .ptr 3 0), (18, .v (.sl (sr.map PS.av))), (19, .v (iV sr.length)), (20, .v (iV ((i : Int) + 1)))] [(1, .var [.v (.sl (sr.map PS.av)), .v (.sl (et.map PE.av)), .v (.sl (df.map PB.av)), .v (.sl (ce.map PZ.av)), .v (.sl (sp.map PF.av)), .v (.sl (ma.map PM.av))]), (2, .var [.v (.p nilV), .v (.p nilV), .v (.p nilV), .v (.p nilV), .v (.p nilV), .v (.p nilV)]), (3, .var [.own 100 (i + 1), .v (.p nilV), .v (.p nilV), .v (.p nilV), .v (.p nilV), .v (.p nilV)]), (100, .lst 2 49 (Q ++ [_]))] 141 true) (by omega) (by exact entA) ⟨i + 1, rfl, hlt, by rw [hQ2]; rfl⟩
end Ab
