/- Drawn regions: pure calls and copies of lists look at none of the call's own memory. The document's normal forms of lists and expressions (printed by tools/gen_pl.py). The document's Canonical (printed by tools/gen_pl.py). -/
import Derived.Test.YtbpdgaolmikjbaaGreatEnP
import Derived.Test.YtbpdgaolmikjbaaGreatRfW
set_option linter.all false
namespace Ab
open Go Go.RowKit Go.Proofs Hp
section
variable {dm : Bool} {P : Program} {ops : Array Oper} {r : List Oper} {s : AS} {K : List OpD → AS → Prop}
theorem ec_pcall {f : FuncId} {l : List Operand} {ts : Array TypeId} {avs : List AV} {res : AV} {dst : Option Tmp} {ty : TypeId} {pos : String} {after : Array Edge} (hin : InB s dst) (hnd : (!dm || s.nd) = true) (ha : Zd2 s l = some avs) (hc : PCD dm P f avs res)
  (k : EvC dm P ops r (s.actd dst ⟨.v res, fun _ => false, []⟩) (fun ds z => K (⟨.v res, fun _ => false, []⟩ :: ds) z)) : EvC dm P ops (⟨dst, .call ⟨.value (.func f), l.toArray, ts⟩, ty, pos, after, none⟩ :: r) s K := by
 refine ⟨⟨.v res, fun _ => false, []⟩, ⟨fun j hj => (by cases hj), fun s' hag w0 M0 a w hM hr next Q hn => ?_⟩, k⟩
 rw [if_pos (by simp [Region.wanted])]
 obtain ⟨ρ, hr⟩ := hr
 obtain ⟨⟨fn, h1, h2, h3⟩, hc⟩ := hc
 have hreps := Zfd (s := s) hr l (fun x hx => hag.ev (by simp [Op.operands, Call.operands, hx])) avs ha
 have hcall := hc w _ (okm_of hM hr (by rw [hag.nd]; exact hnd)) _ hreps
 have hrun : (execOp a.eval ⟨dst, .call ⟨.value (.func f), l.toArray, ts⟩, ty, pos, after, none⟩).run P w = .ok (.enter f (l.map a.eval).toArray) w := by
  simp only [execOp, resolve, Deferred.ofValue, invoke, callFunc, Sem.run_bind, Sem.run_pure, Result.andThen_ok, run_program, h1, h2, h3, Act.eval, Bool.false_eq_true, if_false, List.map_toArray, Array.append_empty, Array.empty_append]
  first | done | rfl
 unfold Oper.wp
 rw [hrun, Oper.upon_enter]
 refine hcall.mono fun e w' he => ?_
 obtain ⟨v, rfl, hb, hv⟩ := he
 exact hn _ _ ⟨ρ, (hr.ext hb).put (by unfold InB at *; rw [hag.nt]; exact hin) hv⟩
theorem ec_apem {t e : TypeId} {n bytes : Nat} {z : List Value} {y x : Operand} {xs : List AV} {dst : Option Tmp} {ty : TypeId} {pos : String} {after : Array Edge} (hin : InB s dst) (ht : Zek P t e n bytes z) (hy : s.ev y = some .em) (hx : s.ev x = some (.v (.sl xs))) (hxs : ∀ a, a ∈ xs → a.cells.length = n)
  (hn0 : 0 < n) (h63 : xs.length ≤ maxLen) (hby : xs.length * bytes ≤ 140737488355328)
  (k : EvC dm P ops r (s.actd dst ⟨.v (.sl xs), fun _ => false, []⟩) (fun ds z => K (⟨.v (.sl xs), fun _ => false, []⟩ :: ds) z)) : EvC dm P ops (⟨dst, .call ⟨.builtin .append, #[y, x], #[t, t]⟩, ty, pos, after, none⟩ :: r) s K :=
 ⟨_, cs_none rfl (Zfp hin ht hy hx hxs hn0 h63 hby) (fun _ e => by cases e) (fun e => by cases e) (fun y' e i hi => by
  have e : some y = some y' := e
  injection e with e
  subst e
  rw [hy] at hi
  cases hi), k⟩
theorem Zg3 {y : Operand} {t : TypeId} {x : TV} {e : AV} {o : Nat} {dst : Option Tmp} {ty : TypeId} {pos : String} {after : Array Edge} (h : Zbb dm P ops ⟨dst, .load t y, ty, pos, after, none⟩ s x .none) (hy : s.ev y = some (.ep e o))
  (k : EvC dm P ops r (s.actd dst ⟨x, fun _ => false, []⟩) (fun ds z => K (⟨x, fun _ => false, []⟩ :: ds) z)) : EvC dm P ops (⟨dst, .load t y, ty, pos, after, none⟩ :: r) s K :=
 ⟨_, cs_none rfl h (fun _ e => by cases e) (fun e => by cases e) (fun y' e i hi => by
  have e : some y = some y' := e
  injection e with e
  subst e
  rw [hy] at hi
  cases hi), k⟩
end
end Ab
namespace Ab
open Go Go.RowKit Go.Proofs Hp
set_option maxRecDepth 100000
set_option maxHeartbeats 4000000
theorem normal_p {a : BR} (h : a.ok) : PC Tryz.prog 105 [a.av] a.can.av := by
 rw [can_av]
 exact (refnormal_p (isV_br h) (by decide)).up
theorem plainRats_p {l : List BR} (h : ∀ a, a ∈ l → a.ok) (hn : l.length ≤ 1000000000) : PC Tryz.prog 65 [.sl (l.map BR.av)] (.sl ((l.map BR.can).map BR.av)) := by
 have emm : (l.map BR.can).map BR.av = l.map fun a => BR.av (BR.can a) := by rw [List.map_map]; rfl
 rw [emm]
 refine Zak true Tryz.func65 rfl rfl rfl (Nat.le_of_ble_eq_true rfl) Zay.tmp ?_
 refine goJ ?_
 refine T.loop (fun N s1 => ∃ i : Nat, N = l.length - i ∧ i ≤ l.length ∧ s1 = mkS [(0, .v (.sl (l.map BR.av))), (3, .own 100 i), (4, .v (iV i))] [(100, .lst 4 54 ((l.take i).map fun a => BR.av (BR.can a)))] 20 true) l.length
  (s' := mkS [(0, .v (.sl (l.map BR.av))), (3, .own 100 0), (4, .v (iV ((0 : Nat) : Int)))] [(100, .lst 4 54 [])] 20 true) (by exact entA) ⟨0, rfl, Nat.zero_le _, rfl⟩ ?_
 rintro _ _ ⟨i, rfl, hii, rfl⟩
 by_cases hlti : i < l.length
 rotate_left
 ·obtain rfl : i = l.length := by omega
  have e1 : decide ((l.length : Int) < ((l.map BR.av).length : Int)) = false := decide_eq_false (by rw [List.length_map]; omega)
  rw [List.take_length]
  refine T.seq ?_
  refine r1A ?_
  refine T.condF rfl (by assumption) ?_
  refine T.exit ?_
  refine osA ?_
  refine T.weak (s' := mkS [(3, .v (.sl (l.map fun a => BR.av (BR.can a))))] [] 20 true) (by exact entA) ?_
  refine goJ ?_
  exact rfl
 ·have e1 : decide ((i : Int) < ((l.map BR.av).length : Int)) = true := decide_eq_true (by rw [List.length_map]; omega)
  have hg : l[i]? = some l[i] := List.getElem?_eq_getElem hlti
  have hm := List.getElem_mem hlti
  have hx : (l.map BR.av)[((i : Nat) : Int).toNat]? = some (BR.av l[i]) := by rw [Int.toNat_natCast, List.getElem?_map, hg]; rfl
  have c := normal_p (h _ hm)
  have hs : (l.take (i + 1)).map (fun a => BR.av (BR.can a)) = (l.take i).map (fun a => BR.av (BR.can a)) ++ [BR.av (BR.can l[i])] := Zbo hg
  have hli := Zb2 (l := l) (f := fun a => BR.av (BR.can a)) hii
  clear hg hm
  generalize l[i] = x at *
  generalize hQ : (l.take i).map (fun a => BR.av (BR.can a)) = Q at *
  generalize hQ2 : (l.take (i + 1)).map (fun a => BR.av (BR.can a)) = Q2 at *
  subst hs
  generalize x.can = y at *
  obtain ⟨⟨ga1, da1⟩, ⟨gb1, db1⟩⟩ := x
  obtain ⟨⟨ga2, da2⟩, ⟨gb2, db2⟩⟩ := y
  refine goJ ?_
  refine evG ggA (Zab (Zaa rfl) (Zae rfl) rfl rfl (by omega) hx rfl) ?_
  refine goJ ?_
  refine evG ggA (Zac (Zaa rfl) rfl rfl c) ?_
  refine goJ ?_
  refine evG ggA (Zas (Zaa rfl) (Zag rfl) rfl rfl rfl rfl (Zbi rfl rfl) (Nat.le_of_ble_eq_true rfl)) ?_
  refine evG ggA (Za7 (Zaa rfl) (Zag rfl) rfl rfl hli rfl rfl (by decide) rfl (by omega) (Nat.le_of_ble_eq_true rfl) rfl) ?_
  refine goJ ?_
  exact Zad (k := l.length - (i + 1)) (s' := mkS [(0, .v (.sl (l.map BR.av))), (3, .own 100 (i + 1)), (4, .v (iV ((i : Int) + 1)))] [(100, .lst 4 54 (Q ++ [_]))] 20 true) (by omega) (by exact entA) ⟨i + 1, rfl, hlti, by rw [hQ2]; rfl⟩
theorem Zfb {a : PS} (h : a.ok) : PC Tryz.prog 63 [a.av] a.can.av := by
 obtain ⟨f, cs⟩ := a
 have c := plainRats_p (l := cs) h.2.1 h.2.2
 show PC Tryz.prog 63 [.agg [iV f, .sl (cs.map BR.av)]] (.agg [iV f, .sl ((cs.map BR.can).map BR.av)])
 refine Zak true Tryz.func63 rfl rfl rfl (Nat.le_of_ble_eq_true rfl) (Zay.agg (Za5 rfl)) ?_
 refine goJ ?_
 refine T.drawF mixed ?_
 refine goJ ?_
 refine evG ggA (Zac (Zaa rfl) rfl rfl c) ?_
 refine goJ ?_
 refine ⟨by kernel_rfl, ?_⟩
 refine goJ ?_
 exact rfl
theorem plainExpr_p' : ∀ (n : Nat) (a : PX), sizeOf a ≤ n → a.ok → PC Tryz.prog 64 [a.av] a.can.av := by
  intro n
  induction n with
  | zero => intro a hs; cases a; simp at hs
  | succ n ih =>
    rintro ⟨op, ns, c, nm, gs⟩ hs ha
    obtain ⟨h1, ⟨h2, h3⟩, h4, h5, h6, h7⟩ := ha
    have cg : ∀ x, x ∈ gs → PC Tryz.prog 64 [x.av] x.can.av := fun x hx => ih x (by have := List.sizeOf_lt_of_mem hx; simp at hs; omega) ((PX.oks_iff gs).1 h6 x hx)
    have cr := normal_p h4
    have hns : (ns.map iV).length ≤ 2000000000 := by rw [List.length_map]; omega
    have hi1 := iV_one ns
    have e0 : PX.av (.mk op ns c nm gs) = .agg (iV op :: .sl (ns.map iV) :: (c.cs ++ [tV nm, .sl (gs.map PX.av)])) := by
      show AV.agg (PX.cs _) = _
      rw [PX.cs, PX.avs_map]
    have e2 : PX.av (PX.can (.mk op ns c nm gs)) = .agg (iV op :: .sl (ns.map iV) :: (c.can.cs ++ [tV nm, .sl (gs.map fun a => a.can.av)])) := by
      rw [PX.can]
      show AV.agg (PX.cs _) = _
      rw [PX.cs, PX.avs_map, PX.cans_map, List.map_map]; rfl
    rw [e0, e2]
    clear e0 e2 ih hs h6
    generalize c.can = cc at *
    obtain ⟨⟨ga, da⟩, ⟨gb, db⟩⟩ := c
    obtain ⟨⟨gc, dc⟩, ⟨gd, dd⟩⟩ := cc
    refine Zak true Tryz.func64 rfl rfl rfl (Nat.le_of_ble_eq_true rfl) (Zay.agg (Za5 rfl)) ?_
    refine goJ ?_
    refine T.drawC mixed ?_
    refine Zao (Zai (Zaa rfl) (Zam rfl) rfl) rfl rfl ?_
    refine Zba (Zah (Zaa rfl) (Zaz rfl) rfl rfl rfl) rfl ?_
    refine Zao (Zf6 (Zaa rfl) (Zag rfl)) rfl rfl ?_
    refine Zao (Zai (Zaa rfl) (Zam rfl) rfl) rfl rfl ?_
    refine Zba (Zah (Zaa rfl) (Zaz rfl) rfl rfl rfl) rfl ?_
    refine ec_apem (Zaa rfl) (Zag rfl) rfl rfl hi1 (by decide) (by unfold maxLen; omega) (by omega) ?_
    refine Zao (Zai (Zaa rfl) (Zam rfl) rfl) rfl rfl ?_
    refine Zba (Zbf (Zaa rfl) (Za5 rfl) rfl rfl rfl rfl) rfl ?_
    refine ec_pcall (Zaa rfl) rfl rfl cr ?_
    refine Zao (Zai (Zaa rfl) (Zam rfl) rfl) rfl rfl ?_
    refine Zba (Zah (Zaa rfl) (Zaz rfl) rfl rfl rfl) rfl ?_
    refine Zao (Zcl (Zaa rfl) (Zbv rfl) rfl rfl rfl) rfl rfl ?_
    refine ec_new (Zcq (Zaa rfl) (Zd3 rfl) rfl rfl rfl) rfl rfl ?_
    refine ec_set (Zb0 rfl (Zc7 rfl) rfl rfl rfl rfl rfl (Nat.le_of_ble_eq_true rfl) rfl) rfl rfl rfl (fun i h => h) ?_
    refine ⟨by kernel_rfl, ?_⟩
    refine goJ ?_
    refine T.loop (fun N s1 => ∃ i : Nat, N = gs.length - i ∧ i ≤ gs.length ∧ s1 = mkS [(1, .ptr 1 0), (2, .ptr 2 0), (3, .ptr 3 0), (4, .v (iV i))] [(1, .var [.v (iV op), .v (.sl (ns.map iV)), .v (boV ga), .v (.sl (da.map u32)), .v (boV gb), .v (.sl (db.map u32)), .v (tV nm), .v (.sl (gs.map PX.av))]), (2, .var [.v (iV 0), .v (.p nilV), .v (boV false), .v (.p nilV), .v (boV false), .v (.p nilV), .v (tV ByteArray.empty), .v (.p nilV)]), (3, .var [.v (iV op), .v (.sl (ns.map iV)), .v (boV gc), .v (.sl (dc.map u32)), .v (boV gd), .v (.sl (dd.map u32)), .v (tV nm), .own 100 i]), (100, .lst 8 59 ((gs.take i).map fun a => PX.av (PX.can a)))] 36 true) gs.length
      (s' := mkS [(1, .ptr 1 0), (2, .ptr 2 0), (3, .ptr 3 0), (4, .v (iV ((0 : Nat) : Int)))] [(1, .var [.v (iV op), .v (.sl (ns.map iV)), .v (boV ga), .v (.sl (da.map u32)), .v (boV gb), .v (.sl (db.map u32)), .v (tV nm), .v (.sl (gs.map PX.av))]), (2, .var [.v (iV 0), .v (.p nilV), .v (boV false), .v (.p nilV), .v (boV false), .v (.p nilV), .v (tV ByteArray.empty), .v (.p nilV)]), (3, .var [.v (iV op), .v (.sl (ns.map iV)), .v (boV gc), .v (.sl (dc.map u32)), .v (boV gd), .v (.sl (dd.map u32)), .v (tV nm), .own 100 0]), (100, .lst 8 59 [])] 36 true) (by exact entA) ⟨0, rfl, Nat.zero_le _, rfl⟩ ?_
    rintro _ _ ⟨i, rfl, hii, rfl⟩
    by_cases hlti : i < gs.length
    rotate_left
    · obtain rfl : i = gs.length := by omega
      have e1 : decide ((gs.length : Int) < ((gs.map PX.av).length : Int)) = false := decide_eq_false (by rw [List.length_map]; omega)
      rw [List.take_length]
      refine T.seq ?_
      refine r1A ?_
      refine T.condF rfl (by assumption) ?_
      refine T.exit ?_
      refine osA ?_
      refine T.weak (s' := mkS [(2, .ptr 2 0), (3, .ptr 3 0)] [(2, .var [.v (iV 0), .v (.p nilV), .v (boV false), .v (.p nilV), .v (boV false), .v (.p nilV), .v (tV ByteArray.empty), .v (.p nilV)]), (3, .var [.v (iV op), .v (.sl (ns.map iV)), .v (boV gc), .v (.sl (dc.map u32)), .v (boV gd), .v (.sl (dd.map u32)), .v (tV nm), .v (.sl (gs.map fun a => PX.av (PX.can a)))])] 36 true) (by exact entA) ?_
      refine goJ ?_
      exact rfl
    · have e1 : decide ((i : Int) < ((gs.map PX.av).length : Int)) = true := decide_eq_true (by rw [List.length_map]; omega)
      have hg : gs[i]? = some gs[i] := List.getElem?_eq_getElem hlti
      have hm := List.getElem_mem hlti
      have hx : (gs.map PX.av)[((i : Nat) : Int).toNat]? = some (PX.av gs[i]) := by rw [Int.toNat_natCast, List.getElem?_map, hg]; rfl
      have c := cg _ hm
      have hs : (gs.take (i + 1)).map (fun a => PX.av (PX.can a)) = (gs.take i).map (fun a => PX.av (PX.can a)) ++ [PX.av (PX.can gs[i])] := Zbo hg
      have hli := Zb2 (l := gs) (f := fun a => PX.av (PX.can a)) hii
      clear hg hm
      generalize gs[i] = x at *
      generalize hQ : (gs.take i).map (fun a => PX.av (PX.can a)) = Q at *
      generalize hQ2 : (gs.take (i + 1)).map (fun a => PX.av (PX.can a)) = Q2 at *
      subst hs
      generalize x.can = y at *
      obtain ⟨op', ns', ⟨⟨ga', da'⟩, ⟨gb', db'⟩⟩, nm', gs'⟩ := x
      obtain ⟨op2, ns2, ⟨⟨ga2, da2⟩, ⟨gb2, db2⟩⟩, nm2, gs2⟩ := y
      refine goJ ?_
      refine T.drawF mixed ?_
      refine goJ ?_
      refine evG ggA (Zab (Zaa rfl) (Zae rfl) rfl rfl (by omega) hx rfl) ?_
      refine goJ ?_
      refine evG ggA (Zac (Zaa rfl) rfl rfl c) ?_
      refine goJ ?_
      refine evG ggA (Zas (Zaa rfl) (Zag rfl) rfl rfl rfl rfl (Zbi rfl rfl) (Nat.le_of_ble_eq_true rfl)) ?_
      refine evG ggA (Za7 (Zaa rfl) (Zag rfl) rfl rfl hli rfl rfl (by decide) rfl (by omega) (Nat.le_of_ble_eq_true rfl) rfl) ?_
      refine goJ ?_
      refine ⟨by kernel_rfl, ?_⟩
      refine goJ ?_
      exact Zad (k := gs.length - (i + 1)) (s' := mkS [(1, .ptr 1 0), (2, .ptr 2 0), (3, .ptr 3 0), (4, .v (iV ((i : Int) + 1)))] [(1, .var [.v (iV op), .v (.sl (ns.map iV)), .v (boV ga), .v (.sl (da.map u32)), .v (boV gb), .v (.sl (db.map u32)), .v (tV nm), .v (.sl (gs.map PX.av))]), (2, .var [.v (iV 0), .v (.p nilV), .v (boV false), .v (.p nilV), .v (boV false), .v (.p nilV), .v (tV ByteArray.empty), .v (.p nilV)]), (3, .var [.v (iV op), .v (.sl (ns.map iV)), .v (boV gc), .v (.sl (dc.map u32)), .v (boV gd), .v (.sl (dd.map u32)), .v (tV nm), .own 100 (i + 1)]), (100, .lst 8 59 (Q ++ [_]))] 36 true) (by omega) (by exact entA) ⟨i + 1, rfl, hlti, by rw [hQ2]; rfl⟩
theorem Zgk {a : PX} (h : a.ok) : PC Tryz.prog 64 [a.av] a.can.av := plainExpr_p' _ a (Nat.le_refl _) h
theorem plainDefs_p {l : List PB} (h : ∀ a, a ∈ l → a.ok) (hn : l.length ≤ 1000000000) : PC Tryz.prog 62 [.sl (l.map PB.av)] (.sl ((l.map PB.can).map PB.av)) := by
 have emm : (l.map PB.can).map PB.av = l.map fun a => PB.av (PB.can a) := by rw [List.map_map]; rfl
 rw [emm]
 refine Zak true Tryz.func62 rfl rfl rfl (Nat.le_of_ble_eq_true rfl) Zay.tmp ?_
 refine goJ ?_
 refine T.loop (fun N s1 => ∃ i : Nat, N = l.length - i ∧ i ≤ l.length ∧ s1 = mkS [(0, .v (.sl (l.map PB.av))), (3, .own 100 i), (4, .v (iV i))] [(100, .lst 9 61 ((l.take i).map fun a => PB.av (PB.can a)))] 27 true) l.length
  (s' := mkS [(0, .v (.sl (l.map PB.av))), (3, .own 100 0), (4, .v (iV ((0 : Nat) : Int)))] [(100, .lst 9 61 [])] 27 true) (by exact entA) ⟨0, rfl, Nat.zero_le _, rfl⟩ ?_
 rintro _ _ ⟨i, rfl, hii, rfl⟩
 by_cases hlti : i < l.length
 rotate_left
 ·obtain rfl : i = l.length := by omega
  have e1 : decide ((l.length : Int) < ((l.map PB.av).length : Int)) = false := decide_eq_false (by rw [List.length_map]; omega)
  rw [List.take_length]
  refine T.seq ?_
  refine r1A ?_
  refine T.condF rfl (by assumption) ?_
  refine T.exit ?_
  refine osA ?_
  refine T.weak (s' := mkS [(3, .v (.sl (l.map fun a => PB.av (PB.can a))))] [] 27 true) (by exact entA) ?_
  refine goJ ?_
  exact rfl
 ·have e1 : decide ((i : Int) < ((l.map PB.av).length : Int)) = true := decide_eq_true (by rw [List.length_map]; omega)
  have hg : l[i]? = some l[i] := List.getElem?_eq_getElem hlti
  have hm := List.getElem_mem hlti
  have hx : (l.map PB.av)[((i : Nat) : Int).toNat]? = some (PB.av l[i]) := by rw [Int.toNat_natCast, List.getElem?_map, hg]; rfl
  have c := Zgk (h _ hm).2
  have hs : (l.take (i + 1)).map (fun a => PB.av (PB.can a)) = (l.take i).map (fun a => PB.av (PB.can a)) ++ [PB.av (PB.can l[i])] := Zbo hg
  have hli := Zb2 (l := l) (f := fun a => PB.av (PB.can a)) hii
  clear hg hm
  generalize l[i] = x at *
  generalize hQ : (l.take i).map (fun a => PB.av (PB.can a)) = Q at *
  generalize hQ2 : (l.take (i + 1)).map (fun a => PB.av (PB.can a)) = Q2 at *
  subst hs
  obtain ⟨nx, e⟩ := x
  have eY : (PB.can ⟨nx, e⟩).av = .agg (tV nx :: e.can.cs) := rfl
  rw [eY] at hQ2
  clear eY
  change PC _ _ [e.av] e.can.av at c
  generalize e.can = y at *
  obtain ⟨op', ns', ⟨⟨ga', da'⟩, ⟨gb', db'⟩⟩, nm', gs'⟩ := e
  obtain ⟨op2, ns2, ⟨⟨ga2, da2⟩, ⟨gb2, db2⟩⟩, nm2, gs2⟩ := y
  refine goJ ?_
  refine T.drawF mixed ?_
  refine goJ ?_
  refine evG ggA (Zab (Zaa rfl) (Zae rfl) rfl rfl (by omega) hx rfl) ?_
  refine goJ ?_
  refine evG ggA (Zab (Zaa rfl) (Zae rfl) rfl rfl (by omega) hx rfl) ?_
  refine goJ ?_
  refine evG ggA (Zac (Zaa rfl) rfl rfl c) ?_
  refine goJ ?_
  refine evG ggA (Zas (Zaa rfl) (Zag rfl) rfl rfl rfl rfl (Zbi rfl rfl) (Nat.le_of_ble_eq_true rfl)) ?_
  refine evG ggA (Za7 (Zaa rfl) (Zag rfl) rfl rfl hli rfl rfl (by decide) rfl (by omega) (Nat.le_of_ble_eq_true rfl) rfl) ?_
  refine goJ ?_
  refine ⟨by kernel_rfl, ?_⟩
  refine goJ ?_
  exact Zad (k := l.length - (i + 1)) (s' := mkS [(0, .v (.sl (l.map PB.av))), (3, .own 100 (i + 1)), (4, .v (iV ((i : Int) + 1)))] [(100, .lst 9 61 (Q ++ [_]))] 27 true) (by omega) (by exact entA) ⟨i + 1, rfl, hlti, by rw [hQ2]; rfl⟩
end Ab
namespace Ab
open Go Go.RowKit Go.Proofs Hp
set_option maxRecDepth 100000
set_option maxHeartbeats 4000000
theorem refCanonical_p {p : PP} (h : p.ok) : PC Tryz.prog 16 [p.av] p.can.av := by
 obtain ⟨sr, et, df, ce, sp, ma⟩ := p
 obtain ⟨⟨h0, n0⟩, ⟨h1, n1⟩, ⟨h2, n2⟩, ⟨h3, n3⟩, ⟨h4, n4⟩, h5, n5⟩ := h
 have h0 : ∀ s, s ∈ sr → s.ok := h0
 have n0 : sr.length ≤ 1000000000 := n0
 have h1 : ∀ s, s ∈ et → s.ok := h1
 have n1 : et.length ≤ 1000000000 := n1
 have h2 : ∀ s, s ∈ df → s.ok := h2
 have n2 : df.length ≤ 1000000000 := n2
 have h3 : ∀ s, s ∈ ce → s.ok := h3
 have n3 : ce.length ≤ 1000000000 := n3
 have h4 : ∀ s, s ∈ sp → s.ok := h4
 have n4 : sp.length ≤ 1000000000 := n4
 have h5 : ∀ s, s ∈ ma → s.ok := h5
 have n5 : ma.length ≤ 1000000000 := n5
 have cd := plainDefs_p h2 n2
 have eR : PP.av (PP.can ⟨sr, et, df, ce, sp, ma⟩) = .agg [.sl (sr.map fun a => PS.av (PS.can a)), .sl (et.map fun a => PE.av (id a)), .sl ((df.map PB.can).map PB.av), .sl (ce.map fun a => PZ.av (PZ.can a)), .sl (sp.map fun a => PF.av (PF.can a)), .sl (ma.map fun a => PM.av (PM.can a))] := by
  show AV.agg [.sl ((sr.map PS.can).map PS.av), .sl (et.map PE.av), .sl ((df.map PB.can).map PB.av), .sl ((ce.map PZ.can).map PZ.av), .sl ((sp.map PF.can).map PF.av), .sl ((ma.map PM.can).map PM.av)] = _
  simp only [List.map_map]; rfl
 rw [eR]
 clear eR
 refine Zak true Tryz.func16 rfl rfl rfl (Nat.le_of_ble_eq_true rfl) (Zay.agg (Za5 rfl)) ?_
 refine goJ ?_
 refine evG ggA (Zac (Zaa rfl) rfl rfl cd) ?_
 refine evG ggA (Zcl (Zaa rfl) (Zbv rfl) rfl rfl rfl) ?_
 refine goJ ?_
 refine T.loop (fun N s1 => ∃ i : Nat, N = sr.length - i ∧ i ≤ sr.length ∧ s1 = mkS [(1, .ptr 1 0), (2, .ptr 2 0), (3, .ptr 3 0), (4, .v (iV i))] [(1, .var [.v (.sl (sr.map PS.av)), .v (.sl (et.map PE.av)), .v (.sl (df.map PB.av)), .v (.sl (ce.map PZ.av)), .v (.sl (sp.map PF.av)), .v (.sl (ma.map PM.av))]), (2, .var [.v (.p nilV), .v (.p nilV), .v (.p nilV), .v (.p nilV), .v (.p nilV), .v (.p nilV)]), (3, .var [.own 100 i, .v (.p nilV), .v (.sl ((df.map PB.can).map PB.av)), .v (.p nilV), .v (.p nilV), .v (.p nilV)]), (100, .lst 2 49 ((sr.take i).map fun a => PS.av (PS.can a)))] 174 true) sr.length
  (s' := mkS [(1, .ptr 1 0), (2, .ptr 2 0), (3, .ptr 3 0), (4, .v (iV ((0 : Nat) : Int)))] [(1, .var [.v (.sl (sr.map PS.av)), .v (.sl (et.map PE.av)), .v (.sl (df.map PB.av)), .v (.sl (ce.map PZ.av)), .v (.sl (sp.map PF.av)), .v (.sl (ma.map PM.av))]), (2, .var [.v (.p nilV), .v (.p nilV), .v (.p nilV), .v (.p nilV), .v (.p nilV), .v (.p nilV)]), (3, .var [.own 100 0, .v (.p nilV), .v (.sl ((df.map PB.can).map PB.av)), .v (.p nilV), .v (.p nilV), .v (.p nilV)]), (100, .lst 2 49 [])] 174 true) (by exact entA) ⟨0, rfl, Nat.zero_le _, rfl⟩ ?_
 rintro _ _ ⟨i, rfl, hii, rfl⟩
 by_cases hlti : i < sr.length
 rotate_left
 ·obtain rfl : i = sr.length := by omega
  have e1 : decide ((sr.length : Int) < ((sr.map PS.av).length : Int)) = false := decide_eq_false (by rw [List.length_map]; omega)
  rw [List.take_length]
  refine T.seq ?_
  refine r1A ?_
  refine T.condF rfl (by assumption) ?_
  refine T.exit ?_
  refine osA ?_
  refine T.weak (s' := mkS [(1, .ptr 1 0), (2, .ptr 2 0), (3, .ptr 3 0)] [(1, .var [.v (.sl (sr.map PS.av)), .v (.sl (et.map PE.av)), .v (.sl (df.map PB.av)), .v (.sl (ce.map PZ.av)), .v (.sl (sp.map PF.av)), .v (.sl (ma.map PM.av))]), (2, .var [.v (.p nilV), .v (.p nilV), .v (.p nilV), .v (.p nilV), .v (.p nilV), .v (.p nilV)]), (3, .var [.v (.sl (sr.map fun a => PS.av (PS.can a))), .v (.p nilV), .v (.sl ((df.map PB.can).map PB.av)), .v (.p nilV), .v (.p nilV), .v (.p nilV)])] 174 true) (by exact entA) ?_
  refine goJ ?_
  refine T.loop (fun N s1 => ∃ i : Nat, N = et.length - i ∧ i ≤ et.length ∧ s1 = mkS [(1, .ptr 1 0), (2, .ptr 2 0), (3, .ptr 3 0), (5, .v (iV i))] [(1, .var [.v (.sl (sr.map PS.av)), .v (.sl (et.map PE.av)), .v (.sl (df.map PB.av)), .v (.sl (ce.map PZ.av)), .v (.sl (sp.map PF.av)), .v (.sl (ma.map PM.av))]), (2, .var [.v (.p nilV), .v (.p nilV), .v (.p nilV), .v (.p nilV), .v (.p nilV), .v (.p nilV)]), (3, .var [.v (.sl (sr.map fun a => PS.av (PS.can a))), .own 100 i, .v (.sl ((df.map PB.can).map PB.av)), .v (.p nilV), .v (.p nilV), .v (.p nilV)]), (100, .lst 2 67 ((et.take i).map fun a => PE.av (id a)))] 174 true) et.length
   (s' := mkS [(1, .ptr 1 0), (2, .ptr 2 0), (3, .ptr 3 0), (5, .v (iV ((0 : Nat) : Int)))] [(1, .var [.v (.sl (sr.map PS.av)), .v (.sl (et.map PE.av)), .v (.sl (df.map PB.av)), .v (.sl (ce.map PZ.av)), .v (.sl (sp.map PF.av)), .v (.sl (ma.map PM.av))]), (2, .var [.v (.p nilV), .v (.p nilV), .v (.p nilV), .v (.p nilV), .v (.p nilV), .v (.p nilV)]), (3, .var [.v (.sl (sr.map fun a => PS.av (PS.can a))), .own 100 0, .v (.sl ((df.map PB.can).map PB.av)), .v (.p nilV), .v (.p nilV), .v (.p nilV)]), (100, .lst 2 67 [])] 174 true) (by exact entA) ⟨0, rfl, Nat.zero_le _, rfl⟩ ?_
  rintro _ _ ⟨i, rfl, hii, rfl⟩
  by_cases hlti : i < et.length
  rotate_left
  ·obtain rfl : i = et.length := by omega
   have e1 : decide ((et.length : Int) < ((et.map PE.av).length : Int)) = false := decide_eq_false (by rw [List.length_map]; omega)
   rw [List.take_length]
   refine T.seq ?_
   refine r1A ?_
   refine T.condF rfl (by assumption) ?_
   refine T.exit ?_
   refine osA ?_
   refine T.weak (s' := mkS [(1, .ptr 1 0), (2, .ptr 2 0), (3, .ptr 3 0)] [(1, .var [.v (.sl (sr.map PS.av)), .v (.sl (et.map PE.av)), .v (.sl (df.map PB.av)), .v (.sl (ce.map PZ.av)), .v (.sl (sp.map PF.av)), .v (.sl (ma.map PM.av))]), (2, .var [.v (.p nilV), .v (.p nilV), .v (.p nilV), .v (.p nilV), .v (.p nilV), .v (.p nilV)]), (3, .var [.v (.sl (sr.map fun a => PS.av (PS.can a))), .v (.sl (et.map fun a => PE.av (id a))), .v (.sl ((df.map PB.can).map PB.av)), .v (.p nilV), .v (.p nilV), .v (.p nilV)])] 174 true) (by exact entA) ?_
   refine goJ ?_
   refine T.loop (fun N s1 => ∃ i : Nat, N = ce.length - i ∧ i ≤ ce.length ∧ s1 = mkS [(1, .ptr 1 0), (2, .ptr 2 0), (3, .ptr 3 0), (6, .v (iV i))] [(1, .var [.v (.sl (sr.map PS.av)), .v (.sl (et.map PE.av)), .v (.sl (df.map PB.av)), .v (.sl (ce.map PZ.av)), .v (.sl (sp.map PF.av)), .v (.sl (ma.map PM.av))]), (2, .var [.v (.p nilV), .v (.p nilV), .v (.p nilV), .v (.p nilV), .v (.p nilV), .v (.p nilV)]), (3, .var [.v (.sl (sr.map fun a => PS.av (PS.can a))), .v (.sl (et.map fun a => PE.av (id a))), .v (.sl ((df.map PB.can).map PB.av)), .own 100 i, .v (.p nilV), .v (.p nilV)]), (100, .lst 25 75 ((ce.take i).map fun a => PZ.av (PZ.can a)))] 174 true) ce.length
    (s' := mkS [(1, .ptr 1 0), (2, .ptr 2 0), (3, .ptr 3 0), (6, .v (iV ((0 : Nat) : Int)))] [(1, .var [.v (.sl (sr.map PS.av)), .v (.sl (et.map PE.av)), .v (.sl (df.map PB.av)), .v (.sl (ce.map PZ.av)), .v (.sl (sp.map PF.av)), .v (.sl (ma.map PM.av))]), (2, .var [.v (.p nilV), .v (.p nilV), .v (.p nilV), .v (.p nilV), .v (.p nilV), .v (.p nilV)]), (3, .var [.v (.sl (sr.map fun a => PS.av (PS.can a))), .v (.sl (et.map fun a => PE.av (id a))), .v (.sl ((df.map PB.can).map PB.av)), .own 100 0, .v (.p nilV), .v (.p nilV)]), (100, .lst 25 75 [])] 174 true) (by exact entA) ⟨0, rfl, Nat.zero_le _, rfl⟩ ?_
   rintro _ _ ⟨i, rfl, hii, rfl⟩
   by_cases hlti : i < ce.length
   rotate_left
   ·obtain rfl : i = ce.length := by omega
    have e1 : decide ((ce.length : Int) < ((ce.map PZ.av).length : Int)) = false := decide_eq_false (by rw [List.length_map]; omega)
    rw [List.take_length]
    refine T.seq ?_
    refine r1A ?_
    refine T.condF rfl (by assumption) ?_
    refine T.exit ?_
    refine osA ?_
    refine T.weak (s' := mkS [(1, .ptr 1 0), (2, .ptr 2 0), (3, .ptr 3 0)] [(1, .var [.v (.sl (sr.map PS.av)), .v (.sl (et.map PE.av)), .v (.sl (df.map PB.av)), .v (.sl (ce.map PZ.av)), .v (.sl (sp.map PF.av)), .v (.sl (ma.map PM.av))]), (2, .var [.v (.p nilV), .v (.p nilV), .v (.p nilV), .v (.p nilV), .v (.p nilV), .v (.p nilV)]), (3, .var [.v (.sl (sr.map fun a => PS.av (PS.can a))), .v (.sl (et.map fun a => PE.av (id a))), .v (.sl ((df.map PB.can).map PB.av)), .v (.sl (ce.map fun a => PZ.av (PZ.can a))), .v (.p nilV), .v (.p nilV)])] 174 true) (by exact entA) ?_
    refine goJ ?_
    refine T.loop (fun N s1 => ∃ i : Nat, N = sp.length - i ∧ i ≤ sp.length ∧ s1 = mkS [(1, .ptr 1 0), (2, .ptr 2 0), (3, .ptr 3 0), (8, .v (iV i))] [(1, .var [.v (.sl (sr.map PS.av)), .v (.sl (et.map PE.av)), .v (.sl (df.map PB.av)), .v (.sl (ce.map PZ.av)), .v (.sl (sp.map PF.av)), .v (.sl (ma.map PM.av))]), (2, .var [.v (.p nilV), .v (.p nilV), .v (.p nilV), .v (.p nilV), .v (.p nilV), .v (.p nilV)]), (3, .var [.v (.sl (sr.map fun a => PS.av (PS.can a))), .v (.sl (et.map fun a => PE.av (id a))), .v (.sl ((df.map PB.can).map PB.av)), .v (.sl (ce.map fun a => PZ.av (PZ.can a))), .own 100 i, .v (.p nilV)]), (100, .lst 5 71 ((sp.take i).map fun a => PF.av (PF.can a)))] 174 true) sp.length
     (s' := mkS [(1, .ptr 1 0), (2, .ptr 2 0), (3, .ptr 3 0), (8, .v (iV ((0 : Nat) : Int)))] [(1, .var [.v (.sl (sr.map PS.av)), .v (.sl (et.map PE.av)), .v (.sl (df.map PB.av)), .v (.sl (ce.map PZ.av)), .v (.sl (sp.map PF.av)), .v (.sl (ma.map PM.av))]), (2, .var [.v (.p nilV), .v (.p nilV), .v (.p nilV), .v (.p nilV), .v (.p nilV), .v (.p nilV)]), (3, .var [.v (.sl (sr.map fun a => PS.av (PS.can a))), .v (.sl (et.map fun a => PE.av (id a))), .v (.sl ((df.map PB.can).map PB.av)), .v (.sl (ce.map fun a => PZ.av (PZ.can a))), .own 100 0, .v (.p nilV)]), (100, .lst 5 71 [])] 174 true) (by exact entA) ⟨0, rfl, Nat.zero_le _, rfl⟩ ?_
    rintro _ _ ⟨i, rfl, hii, rfl⟩
    by_cases hlti : i < sp.length
    rotate_left
    ·obtain rfl : i = sp.length := by omega
     have e1 : decide ((sp.length : Int) < ((sp.map PF.av).length : Int)) = false := decide_eq_false (by rw [List.length_map]; omega)
     rw [List.take_length]
     refine T.seq ?_
     refine r1A ?_
     refine T.condF rfl (by assumption) ?_
     refine T.exit ?_
     refine osA ?_
     refine T.weak (s' := mkS [(1, .ptr 1 0), (2, .ptr 2 0), (3, .ptr 3 0)] [(1, .var [.v (.sl (sr.map PS.av)), .v (.sl (et.map PE.av)), .v (.sl (df.map PB.av)), .v (.sl (ce.map PZ.av)), .v (.sl (sp.map PF.av)), .v (.sl (ma.map PM.av))]), (2, .var [.v (.p nilV), .v (.p nilV), .v (.p nilV), .v (.p nilV), .v (.p nilV), .v (.p nilV)]), (3, .var [.v (.sl (sr.map fun a => PS.av (PS.can a))), .v (.sl (et.map fun a => PE.av (id a))), .v (.sl ((df.map PB.can).map PB.av)), .v (.sl (ce.map fun a => PZ.av (PZ.can a))), .v (.sl (sp.map fun a => PF.av (PF.can a))), .v (.p nilV)])] 174 true) (by exact entA) ?_
     refine goJ ?_
     refine T.loop (fun N s1 => ∃ i : Nat, N = ma.length - i ∧ i ≤ ma.length ∧ s1 = mkS [(1, .ptr 1 0), (2, .ptr 2 0), (3, .ptr 3 0), (11, .v (iV i))] [(1, .var [.v (.sl (sr.map PS.av)), .v (.sl (et.map PE.av)), .v (.sl (df.map PB.av)), .v (.sl (ce.map PZ.av)), .v (.sl (sp.map PF.av)), .v (.sl (ma.map PM.av))]), (2, .var [.v (.p nilV), .v (.p nilV), .v (.p nilV), .v (.p nilV), .v (.p nilV), .v (.p nilV)]), (3, .var [.v (.sl (sr.map fun a => PS.av (PS.can a))), .v (.sl (et.map fun a => PE.av (id a))), .v (.sl ((df.map PB.can).map PB.av)), .v (.sl (ce.map fun a => PZ.av (PZ.can a))), .v (.sl (sp.map fun a => PF.av (PF.can a))), .own 100 i]), (100, .lst 3 63 ((ma.take i).map fun a => PM.av (PM.can a)))] 174 true) ma.length
      (s' := mkS [(1, .ptr 1 0), (2, .ptr 2 0), (3, .ptr 3 0), (11, .v (iV ((0 : Nat) : Int)))] [(1, .var [.v (.sl (sr.map PS.av)), .v (.sl (et.map PE.av)), .v (.sl (df.map PB.av)), .v (.sl (ce.map PZ.av)), .v (.sl (sp.map PF.av)), .v (.sl (ma.map PM.av))]), (2, .var [.v (.p nilV), .v (.p nilV), .v (.p nilV), .v (.p nilV), .v (.p nilV), .v (.p nilV)]), (3, .var [.v (.sl (sr.map fun a => PS.av (PS.can a))), .v (.sl (et.map fun a => PE.av (id a))), .v (.sl ((df.map PB.can).map PB.av)), .v (.sl (ce.map fun a => PZ.av (PZ.can a))), .v (.sl (sp.map fun a => PF.av (PF.can a))), .own 100 0]), (100, .lst 3 63 [])] 174 true) (by exact entA) ⟨0, rfl, Nat.zero_le _, rfl⟩ ?_
     rintro _ _ ⟨i, rfl, hii, rfl⟩
     by_cases hlti : i < ma.length
     rotate_left
     ·obtain rfl : i = ma.length := by omega
      have e1 : decide ((ma.length : Int) < ((ma.map PM.av).length : Int)) = false := decide_eq_false (by rw [List.length_map]; omega)
      rw [List.take_length]
      refine T.seq ?_
      refine r1A ?_
      refine T.condF rfl (by assumption) ?_
      refine T.exit ?_
      refine osA ?_
      refine T.weak (s' := mkS [(1, .ptr 1 0), (2, .ptr 2 0), (3, .ptr 3 0)] [(1, .var [.v (.sl (sr.map PS.av)), .v (.sl (et.map PE.av)), .v (.sl (df.map PB.av)), .v (.sl (ce.map PZ.av)), .v (.sl (sp.map PF.av)), .v (.sl (ma.map PM.av))]), (2, .var [.v (.p nilV), .v (.p nilV), .v (.p nilV), .v (.p nilV), .v (.p nilV), .v (.p nilV)]), (3, .var [.v (.sl (sr.map fun a => PS.av (PS.can a))), .v (.sl (et.map fun a => PE.av (id a))), .v (.sl ((df.map PB.can).map PB.av)), .v (.sl (ce.map fun a => PZ.av (PZ.can a))), .v (.sl (sp.map fun a => PF.av (PF.can a))), .v (.sl (ma.map fun a => PM.av (PM.can a)))])] 174 true) (by exact entA) ?_
      refine goJ ?_
      exact rfl
     ·have e1 : decide ((i : Int) < ((ma.map PM.av).length : Int)) = true := decide_eq_true (by rw [List.length_map]; omega)
      have hg : ma[i]? = some ma[i] := List.getElem?_eq_getElem hlti
      have hm := List.getElem_mem hlti
      have hx : (ma.map PM.av)[((i : Nat) : Int).toNat]? = some (PM.av ma[i]) := by rw [Int.toNat_natCast, List.getElem?_map, hg]; rfl
      obtain ⟨q1, q2, q3, q4⟩ := h5 _ hm
      have c := plainRats_p q3 q4
      have hs : (ma.take (i + 1)).map (fun a => PM.av (PM.can a)) = (ma.take i).map (fun a => PM.av (PM.can a)) ++ [PM.av (PM.can ma[i])] := Zbo hg
      have hli := Zb2 (l := ma) (f := fun a => PM.av (PM.can a)) hii
      clear hg hm
      generalize ma[i] = x at *
      generalize hQ : (ma.take i).map (fun a => PM.av (PM.can a)) = Q at *
      generalize hQ2 : (ma.take (i + 1)).map (fun a => PM.av (PM.can a)) = Q2 at *
      subst hs
      obtain ⟨xr, xc, xa⟩ := x
      have eY : PM.av (PM.can ⟨xr, xc, xa⟩) = .agg [iV xr, iV xc, .sl ((xa.map BR.can).map BR.av)] := rfl
      rw [eY] at hQ2
      clear eY q3 q4
      change PC _ _ [.sl (xa.map BR.av)] (.sl ((xa.map BR.can).map BR.av)) at c
      generalize (xa.map BR.can).map BR.av = ya at *
      refine goJ ?_
      refine evG ggA (Zab (Zaa rfl) (Zae rfl) rfl rfl (by omega) hx rfl) ?_
      refine goJ ?_
      refine T.drawF mixed ?_
      refine goJ ?_
      refine evG ggA (Zac (Zaa rfl) rfl rfl c) ?_
      refine goJ ?_
      refine evG ggA (Zas (Zaa rfl) (Zag rfl) rfl rfl rfl rfl (Zbi rfl rfl) (Nat.le_of_ble_eq_true rfl)) ?_
      refine evG ggA (Za7 (Zaa rfl) (Zag rfl) rfl rfl hli rfl rfl (by decide) rfl (by omega) (Nat.le_of_ble_eq_true rfl) rfl) ?_
      refine goJ ?_
      refine ⟨by kernel_rfl, ?_⟩
      refine goJ ?_
      exact Zad (k := ma.length - (i + 1)) (s' := mkS [(1, .ptr 1 0), (2, .ptr 2 0), (3, .ptr 3 0), (11, .v (iV ((i : Int) + 1)))] [(1, .var [.v (.sl (sr.map PS.av)), .v (.sl (et.map PE.av)), .v (.sl (df.map PB.av)), .v (.sl (ce.map PZ.av)), .v (.sl (sp.map PF.av)), .v (.sl (ma.map PM.av))]), (2, .var [.v (.p nilV), .v (.p nilV), .v (.p nilV), .v (.p nilV), .v (.p nilV), .v (.p nilV)]), (3, .var [.v (.sl (sr.map fun a => PS.av (PS.can a))), .v (.sl (et.map fun a => PE.av (id a))), .v (.sl ((df.map PB.can).map PB.av)), .v (.sl (ce.map fun a => PZ.av (PZ.can a))), .v (.sl (sp.map fun a => PF.av (PF.can a))), .own 100 (i + 1)]), (100, .lst 3 63 (Q ++ [_]))] 174 true) (by omega) (by exact entA) ⟨i + 1, rfl, hlti, by rw [hQ2]; rfl⟩
    ·have e1 : decide ((i : Int) < ((sp.map PF.av).length : Int)) = true := decide_eq_true (by rw [List.length_map]; omega)
     have hg : sp[i]? = some sp[i] := List.getElem?_eq_getElem hlti
     have hm := List.getElem_mem hlti
     have hx : (sp.map PF.av)[((i : Nat) : Int).toNat]? = some (PF.av sp[i]) := by rw [Int.toNat_natCast, List.getElem?_map, hg]; rfl
     obtain ⟨q1, q2, q3, q4, q5, q6⟩ := h4 _ hm
     have hs : (sp.take (i + 1)).map (fun a => PF.av (PF.can a)) = (sp.take i).map (fun a => PF.av (PF.can a)) ++ [PF.av (PF.can sp[i])] := Zbo hg
     have hli := Zb2 (l := sp) (f := fun a => PF.av (PF.can a)) hii
     clear hg hm
     generalize sp[i] = x at *
     generalize hQ : (sp.take i).map (fun a => PF.av (PF.can a)) = Q at *
     generalize hQ2 : (sp.take (i + 1)).map (fun a => PF.av (PF.can a)) = Q2 at *
     subst hs
     obtain ⟨f1, f2, f3, f4, b⟩ := x
     have q5 : ∀ a, a ∈ b → a.ok := q5
     have q6 : b.length ≤ 1000000000 := q6
     have eY : PF.av (PF.can ⟨f1, f2, f3, f4, b⟩) = .agg [iV f1, iV f2, iV f3, iV f4, .sl (b.map fun a => PS.av (PS.can a))] := by
      show AV.agg [_, _, _, _, .sl ((b.map PS.can).map PS.av)] = _
      rw [List.map_map]; rfl
     rw [eY] at hQ2
     clear eY
     have hx1 := hx
     refine goJ ?_
     refine T.drawF mixed ?_
     refine goJ ?_
     refine evG ggA (Zab (Zaa rfl) (Zae rfl) rfl rfl (by omega) hx rfl) ?_
     refine goJ ?_
     refine evG ggA (Zab (Zaa rfl) (Zae rfl) rfl rfl (by omega) hx rfl) ?_
     refine stpA ?_
     refine stpA ?_
     refine evG ggA (Zcl (Zaa rfl) (Zbv rfl) rfl rfl rfl) ?_
     refine goJ ?_
     refine ⟨by kernel_rfl, ?_⟩
     refine goJ ?_
     refine T.loop (fun N s1 => ∃ k : Nat, N = b.length - k ∧ k ≤ b.length ∧ s1 = mkS [(1, .ptr 1 0), (2, .ptr 2 0), (3, .ptr 3 0), (8, .v (iV (i : Int))), (9, .ptr 9 0), (10, .v (iV k))] [(1, .var [.v (.sl (sr.map PS.av)), .v (.sl (et.map PE.av)), .v (.sl (df.map PB.av)), .v (.sl (ce.map PZ.av)), .v (.sl (sp.map PF.av)), .v (.sl (ma.map PM.av))]), (2, .var [.v (.p nilV), .v (.p nilV), .v (.p nilV), .v (.p nilV), .v (.p nilV), .v (.p nilV)]), (3, .var [.v (.sl (sr.map fun a => PS.av (PS.can a))), .v (.sl (et.map fun a => PE.av (id a))), .v (.sl ((df.map PB.can).map PB.av)), .v (.sl (ce.map fun a => PZ.av (PZ.can a))), .own 100 i, .v (.p nilV)]), (100, .lst 5 71 Q), (9, .var [.v (iV f1), .v (iV f2), .v (iV f3), .v (iV f4), .own 110 k]), (110, .lst 2 49 ((b.take k).map fun a => PS.av (PS.can a)))] 174 true) b.length
      (s' := mkS [(1, .ptr 1 0), (2, .ptr 2 0), (3, .ptr 3 0), (8, .v (iV (i : Int))), (9, .ptr 9 0), (10, .v (iV ((0 : Nat) : Int)))] [(1, .var [.v (.sl (sr.map PS.av)), .v (.sl (et.map PE.av)), .v (.sl (df.map PB.av)), .v (.sl (ce.map PZ.av)), .v (.sl (sp.map PF.av)), .v (.sl (ma.map PM.av))]), (2, .var [.v (.p nilV), .v (.p nilV), .v (.p nilV), .v (.p nilV), .v (.p nilV), .v (.p nilV)]), (3, .var [.v (.sl (sr.map fun a => PS.av (PS.can a))), .v (.sl (et.map fun a => PE.av (id a))), .v (.sl ((df.map PB.can).map PB.av)), .v (.sl (ce.map fun a => PZ.av (PZ.can a))), .own 100 i, .v (.p nilV)]), (100, .lst 5 71 Q), (9, .var [.v (iV f1), .v (iV f2), .v (iV f3), .v (iV f4), .own 110 0]), (110, .lst 2 49 [])] 174 true) (by exact entA) ⟨0, rfl, Nat.zero_le _, rfl⟩ ?_
     rintro _ _ ⟨k, rfl, hik, rfl⟩
     by_cases hltk : k < b.length
     rotate_left
     ·obtain rfl : k = b.length := by omega
      have e1 : decide ((b.length : Int) < ((b.map PS.av).length : Int)) = false := decide_eq_false (by rw [List.length_map]; omega)
      rw [List.take_length]
      refine T.seq ?_
      refine T.seq ?_
      refine T.region ?_
      refine runA ?_
      refine evG ggA (Zab (Zaa rfl) (Zae rfl) rfl rfl (by omega) hx1 rfl) ?_
      refine runA ?_
      refine Zb5 ?_
      refine Zb4 ?_
      refine T.condF rfl (by assumption) ?_
      refine T.exit ?_
      refine osA ?_
      refine T.weak (s' := mkS [(1, .ptr 1 0), (2, .ptr 2 0), (3, .ptr 3 0), (8, .v (iV (i : Int))), (9, .ptr 9 0)] [(1, .var [.v (.sl (sr.map PS.av)), .v (.sl (et.map PE.av)), .v (.sl (df.map PB.av)), .v (.sl (ce.map PZ.av)), .v (.sl (sp.map PF.av)), .v (.sl (ma.map PM.av))]), (2, .var [.v (.p nilV), .v (.p nilV), .v (.p nilV), .v (.p nilV), .v (.p nilV), .v (.p nilV)]), (3, .var [.v (.sl (sr.map fun a => PS.av (PS.can a))), .v (.sl (et.map fun a => PE.av (id a))), .v (.sl ((df.map PB.can).map PB.av)), .v (.sl (ce.map fun a => PZ.av (PZ.can a))), .own 100 i, .v (.p nilV)]), (100, .lst 5 71 Q), (9, .var [.v (iV f1), .v (iV f2), .v (iV f3), .v (iV f4), .v (.sl (b.map fun a => PS.av (PS.can a)))])] 174 true) (by exact entA) ?_
      refine goJ ?_
      refine evG ggA (Zas (Zaa rfl) (Zag rfl) rfl rfl rfl rfl (Zbi rfl rfl) (Nat.le_of_ble_eq_true rfl)) ?_
      refine evG ggA (Za7 (Zaa rfl) (Zag rfl) rfl rfl hli rfl rfl (by decide) rfl (by omega) (Nat.le_of_ble_eq_true rfl) rfl) ?_
      refine goJ ?_
      exact Zad (k := sp.length - (i + 1)) (s' := mkS [(1, .ptr 1 0), (2, .ptr 2 0), (3, .ptr 3 0), (8, .v (iV ((i : Int) + 1)))] [(1, .var [.v (.sl (sr.map PS.av)), .v (.sl (et.map PE.av)), .v (.sl (df.map PB.av)), .v (.sl (ce.map PZ.av)), .v (.sl (sp.map PF.av)), .v (.sl (ma.map PM.av))]), (2, .var [.v (.p nilV), .v (.p nilV), .v (.p nilV), .v (.p nilV), .v (.p nilV), .v (.p nilV)]), (3, .var [.v (.sl (sr.map fun a => PS.av (PS.can a))), .v (.sl (et.map fun a => PE.av (id a))), .v (.sl ((df.map PB.can).map PB.av)), .v (.sl (ce.map fun a => PZ.av (PZ.can a))), .own 100 (i + 1), .v (.p nilV)]), (100, .lst 5 71 (Q ++ [_]))] 174 true) (by omega) (by exact entA) ⟨i + 1, rfl, hlti, by rw [hQ2]; rfl⟩
     ·have e1 : decide ((k : Int) < ((b.map PS.av).length : Int)) = true := decide_eq_true (by rw [List.length_map]; omega)
      have hg : b[k]? = some b[k] := List.getElem?_eq_getElem hltk
      have hm := List.getElem_mem hltk
      have hx : (b.map PS.av)[((k : Nat) : Int).toNat]? = some (PS.av b[k]) := by rw [Int.toNat_natCast, List.getElem?_map, hg]; rfl
      have c := Zfb (q5 _ hm)
      have hsk : (b.take (k + 1)).map (fun a => PS.av (PS.can a)) = (b.take k).map (fun a => PS.av (PS.can a)) ++ [PS.av (PS.can b[k])] := Zbo hg
      have hlk := Zb2 (l := b) (f := fun a => PS.av (PS.can a)) hik
      clear hg hm
      generalize b[k] = x at *
      generalize hW : (b.take k).map (fun a => PS.av (PS.can a)) = W at *
      generalize hW2 : (b.take (k + 1)).map (fun a => PS.av (PS.can a)) = W2 at *
      subst hsk
      generalize x.can = y at *
      obtain ⟨xf, xc⟩ := x
      obtain ⟨yf, yc⟩ := y
      refine goJ ?_
      refine evG ggA (Zab (Zaa rfl) (Zae rfl) rfl rfl (by omega) hx1 rfl) ?_
      refine goJ ?_
      refine T.drawF mixed ?_
      refine goJ ?_
      refine evG ggA (Zab (Zaa rfl) (Zae rfl) rfl rfl (by omega) hx1 rfl) ?_
      refine goJ ?_
      refine evG ggA (Zab (Zaa rfl) (Zae rfl) rfl rfl (by omega) hx rfl) ?_
      refine goJ ?_
      refine evG ggA (Zac (Zaa rfl) rfl rfl c) ?_
      refine goJ ?_
      refine evG ggA (Zas (Zaa rfl) (Zag rfl) rfl rfl rfl rfl (Zbi rfl rfl) (Nat.le_of_ble_eq_true rfl)) ?_
      refine evG ggA (Za7 (Zaa rfl) (Zag rfl) rfl rfl hlk rfl rfl (by decide) rfl (by omega) (Nat.le_of_ble_eq_true rfl) rfl) ?_
      refine goJ ?_
      refine ⟨by kernel_rfl, ?_⟩
      refine goJ ?_
      exact Zad (k := b.length - (k + 1)) (s' := mkS [(1, .ptr 1 0), (2, .ptr 2 0), (3, .ptr 3 0), (8, .v (iV (i : Int))), (9, .ptr 9 0), (10, .v (iV ((k : Int) + 1)))] [(1, .var [.v (.sl (sr.map PS.av)), .v (.sl (et.map PE.av)), .v (.sl (df.map PB.av)), .v (.sl (ce.map PZ.av)), .v (.sl (sp.map PF.av)), .v (.sl (ma.map PM.av))]), (2, .var [.v (.p nilV), .v (.p nilV), .v (.p nilV), .v (.p nilV), .v (.p nilV), .v (.p nilV)]), (3, .var [.v (.sl (sr.map fun a => PS.av (PS.can a))), .v (.sl (et.map fun a => PE.av (id a))), .v (.sl ((df.map PB.can).map PB.av)), .v (.sl (ce.map fun a => PZ.av (PZ.can a))), .own 100 i, .v (.p nilV)]), (100, .lst 5 71 Q), (9, .var [.v (iV f1), .v (iV f2), .v (iV f3), .v (iV f4), .own 110 (k + 1)]), (110, .lst 2 49 (W ++ [_]))] 174 true) (by omega) (by exact entA) ⟨k + 1, rfl, hltk, by rw [hW2]; rfl⟩
   ·have e1 : decide ((i : Int) < ((ce.map PZ.av).length : Int)) = true := decide_eq_true (by rw [List.length_map]; omega)
    have hg : ce[i]? = some ce[i] := List.getElem?_eq_getElem hlti
    have hm := List.getElem_mem hlti
    have hx : (ce.map PZ.av)[((i : Nat) : Int).toNat]? = some (PZ.av ce[i]) := by rw [Int.toNat_natCast, List.getElem?_map, hg]; rfl
    obtain ⟨q1, q2, ⟨q3, q4⟩, q5, q6, q7⟩ := h3 _ hm
    have c1 := Zgk q1
    have c2 := Zgk q2
    have c3 := plainDefs_p q3 q4
    have c4 := Zfb q7
    clear q1 q2 q3 q4 q5 q6 q7
    have hs : (ce.take (i + 1)).map (fun a => PZ.av (PZ.can a)) = (ce.take i).map (fun a => PZ.av (PZ.can a)) ++ [PZ.av (PZ.can ce[i])] := Zbo hg
    have hli := Zb2 (l := ce) (f := fun a => PZ.av (PZ.can a)) hii
    clear hg hm
    generalize ce[i] = x at *
    generalize hQ : (ce.take i).map (fun a => PZ.av (PZ.can a)) = Q at *
    generalize hQ2 : (ce.take (i + 1)).map (fun a => PZ.av (PZ.can a)) = Q2 at *
    subst hs
    obtain ⟨xa, xb, xd, xk, xo, xc⟩ := x
    have eY : PZ.av (PZ.can ⟨xa, xb, xd, xk, xo, xc⟩) = .agg (xa.can.cs ++ (xb.can.cs ++ (.sl ((xd.map PB.can).map PB.av) :: (xk.cs ++ (iV xo :: xc.can.cs))))) := rfl
    rw [eY] at hQ2
    clear eY
    change PC _ _ [xa.av] xa.can.av at c1
    change PC _ _ [xb.av] xb.can.av at c2
    change PC _ _ [.sl (xd.map PB.av)] (.sl ((xd.map PB.can).map PB.av)) at c3
    change PC _ _ [xc.av] xc.can.av at c4
    generalize xa.can = ya at *
    generalize xb.can = yb at *
    generalize xc.can = yc at *
    generalize (xd.map PB.can).map PB.av = yd at *
    obtain ⟨op1, ns1, ⟨⟨ga1, da1⟩, ⟨gb1, db1⟩⟩, nm1, gs1⟩ := xa
    obtain ⟨op2, ns2, ⟨⟨ga2, da2⟩, ⟨gb2, db2⟩⟩, nm2, gs2⟩ := xb
    obtain ⟨op3, ns3, ⟨⟨ga3, da3⟩, ⟨gb3, db3⟩⟩, nm3, gs3⟩ := ya
    obtain ⟨op4, ns4, ⟨⟨ga4, da4⟩, ⟨gb4, db4⟩⟩, nm4, gs4⟩ := yb
    obtain ⟨k1, k2, k3, k4, ku⟩ := xk
    obtain ⟨xf, xc⟩ := xc
    obtain ⟨yf, yc⟩ := yc
    refine goJ ?_
    refine evG ggA (Zab (Zaa rfl) (Zae rfl) rfl rfl (by omega) hx rfl) ?_
    refine goJ ?_
    refine T.drawF mixed ?_
    refine goJ ?_
    refine evG ggA (Zac (Zaa rfl) rfl rfl c1) ?_
    refine goJ ?_
    refine evG ggA (Zac (Zaa rfl) rfl rfl c2) ?_
    refine goJ ?_
    refine evG ggA (Zac (Zaa rfl) rfl rfl c3) ?_
    refine goJ ?_
    refine evG ggA (Zac (Zaa rfl) rfl rfl c4) ?_
    refine goJ ?_
    refine evG ggA (Zas (Zaa rfl) (Zag rfl) rfl rfl rfl rfl (Zbi rfl rfl) (Nat.le_of_ble_eq_true rfl)) ?_
    refine evG ggA (Za7 (Zaa rfl) (Zag rfl) rfl rfl hli rfl rfl (by decide) rfl (by omega) (Nat.le_of_ble_eq_true rfl) rfl) ?_
    refine goJ ?_
    refine ⟨by kernel_rfl, ?_⟩
    refine goJ ?_
    exact Zad (k := ce.length - (i + 1)) (s' := mkS [(1, .ptr 1 0), (2, .ptr 2 0), (3, .ptr 3 0), (6, .v (iV ((i : Int) + 1)))] [(1, .var [.v (.sl (sr.map PS.av)), .v (.sl (et.map PE.av)), .v (.sl (df.map PB.av)), .v (.sl (ce.map PZ.av)), .v (.sl (sp.map PF.av)), .v (.sl (ma.map PM.av))]), (2, .var [.v (.p nilV), .v (.p nilV), .v (.p nilV), .v (.p nilV), .v (.p nilV), .v (.p nilV)]), (3, .var [.v (.sl (sr.map fun a => PS.av (PS.can a))), .v (.sl (et.map fun a => PE.av (id a))), .v (.sl ((df.map PB.can).map PB.av)), .own 100 (i + 1), .v (.p nilV), .v (.p nilV)]), (100, .lst 25 75 (Q ++ [_]))] 174 true) (by omega) (by exact entA) ⟨i + 1, rfl, hlti, by rw [hQ2]; rfl⟩
  ·have e1 : decide ((i : Int) < ((et.map PE.av).length : Int)) = true := decide_eq_true (by rw [List.length_map]; omega)
   have hg : et[i]? = some et[i] := List.getElem?_eq_getElem hlti
   have hm := List.getElem_mem hlti
   have hx : (et.map PE.av)[((i : Nat) : Int).toNat]? = some (PE.av et[i]) := by rw [Int.toNat_natCast, List.getElem?_map, hg]; rfl
   have hn1 : (et[i].e.map iV).length ≤ 2000000000 := by rw [List.length_map]; have := (h1 _ hm).2.2; omega
   have hi1 := iV_one et[i].e
   have hs : (et.take (i + 1)).map (fun a => PE.av (id a)) = (et.take i).map (fun a => PE.av (id a)) ++ [PE.av (id et[i])] := Zbo hg
   have hli := Zb2 (l := et) (f := fun a => PE.av (id a)) hii
   clear hg hm
   generalize et[i] = x at *
   generalize hQ : (et.take i).map (fun a => PE.av (id a)) = Q at *
   generalize hQ2 : (et.take (i + 1)).map (fun a => PE.av (id a)) = Q2 at *
   subst hs
   obtain ⟨xf, xc⟩ := x
   change (xc.map iV).length ≤ 2000000000 at hn1
   change ∀ a, a ∈ xc.map iV → a.cells.length = 1 at hi1
   refine goJ ?_
   refine T.drawC mixed ?_
   refine Zao (Zai (Zaa rfl) (Zam rfl) rfl) rfl rfl ?_
   refine Zba (Zah (Zaa rfl) (Zaz rfl) rfl rfl rfl) rfl ?_
   refine Zao (Zai (Zaa rfl) (Zam rfl) rfl) rfl rfl ?_
   refine Zba (Zah (Zaa rfl) (Zaz rfl) rfl rfl rfl) rfl ?_
   refine Zao (Zbs (Zaa rfl) rfl) rfl rfl ?_
   refine Zd8 (Zab (Zaa rfl) (Zae rfl) rfl rfl (by omega) hx rfl) rfl rfl rfl ?_
   refine Zao (Zbn (Zaa rfl) (Zam rfl) rfl) rfl rfl ?_
   refine Zg3 (Zbq (Zaa rfl) (Zaz rfl) rfl rfl) rfl ?_
   refine Zao (Zf6 (Zaa rfl) (Zag rfl)) rfl rfl ?_
   refine Zao (Zai (Zaa rfl) (Zam rfl) rfl) rfl rfl ?_
   refine Zba (Zah (Zaa rfl) (Zaz rfl) rfl rfl rfl) rfl ?_
   refine Zao (Zbs (Zaa rfl) rfl) rfl rfl ?_
   refine Zd8 (Zab (Zaa rfl) (Zae rfl) rfl rfl (by omega) hx rfl) rfl rfl rfl ?_
   refine Zao (Zbn (Zaa rfl) (Zam rfl) rfl) rfl rfl ?_
   refine Zg3 (Zbq (Zaa rfl) (Zaz rfl) rfl rfl) rfl ?_
   refine ec_apem (xs := xc.map iV) (Zaa rfl) (Zag rfl) rfl rfl hi1 (by decide) (by unfold maxLen; omega) (by omega) ?_
   refine Zao (Zd4 (Zaa rfl) (Zbv rfl) rfl rfl rfl) rfl rfl ?_
   refine Zao (Zas (Zaa rfl) (Zag rfl) rfl rfl rfl rfl (Zbi rfl rfl) (Nat.le_of_ble_eq_true rfl)) rfl rfl ?_
   refine ec_set (Za7 (Zaa rfl) (Zag rfl) rfl rfl hli rfl rfl (by decide) rfl (by omega) (Nat.le_of_ble_eq_true rfl) rfl) rfl rfl rfl (fun i h => h) ?_
   refine Zao (Zai (Zaa rfl) (Zam rfl) rfl) rfl rfl ?_
   refine ec_set (Zb0 rfl (Zc7 rfl) rfl rfl rfl rfl rfl (Nat.le_of_ble_eq_true rfl) rfl) rfl rfl rfl (fun i h => h) ?_
   refine ⟨by kernel_rfl, ?_⟩
   refine goJ ?_
   exact Zad (k := et.length - (i + 1)) (s' := mkS [(1, .ptr 1 0), (2, .ptr 2 0), (3, .ptr 3 0), (5, .v (iV ((i : Int) + 1)))] [(1, .var [.v (.sl (sr.map PS.av)), .v (.sl (et.map PE.av)), .v (.sl (df.map PB.av)), .v (.sl (ce.map PZ.av)), .v (.sl (sp.map PF.av)), .v (.sl (ma.map PM.av))]), (2, .var [.v (.p nilV), .v (.p nilV), .v (.p nilV), .v (.p nilV), .v (.p nilV), .v (.p nilV)]), (3, .var [.v (.sl (sr.map fun a => PS.av (PS.can a))), .own 100 (i + 1), .v (.sl ((df.map PB.can).map PB.av)), .v (.p nilV), .v (.p nilV), .v (.p nilV)]), (100, .lst 2 67 (Q ++ [_]))] 174 true) (by omega) (by exact entA) ⟨i + 1, rfl, hlti, by rw [hQ2]; rfl⟩
 ·have e1 : decide ((i : Int) < ((sr.map PS.av).length : Int)) = true := decide_eq_true (by rw [List.length_map]; omega)
  have hg : sr[i]? = some sr[i] := List.getElem?_eq_getElem hlti
  have hm := List.getElem_mem hlti
  have hx : (sr.map PS.av)[((i : Nat) : Int).toNat]? = some (PS.av sr[i]) := by rw [Int.toNat_natCast, List.getElem?_map, hg]; rfl
  have c := Zfb (h0 _ hm)
  have hs : (sr.take (i + 1)).map (fun a => PS.av (PS.can a)) = (sr.take i).map (fun a => PS.av (PS.can a)) ++ [PS.av (PS.can sr[i])] := Zbo hg
  have hli := Zb2 (l := sr) (f := fun a => PS.av (PS.can a)) hii
  clear hg hm
  generalize sr[i] = x at *
  generalize hQ : (sr.take i).map (fun a => PS.av (PS.can a)) = Q at *
  generalize hQ2 : (sr.take (i + 1)).map (fun a => PS.av (PS.can a)) = Q2 at *
  subst hs
  generalize x.can = y at *
  obtain ⟨xf, xc⟩ := x
  obtain ⟨yf, yc⟩ := y
  refine goJ ?_
  refine T.drawF mixed ?_
  refine goJ ?_
  refine evG ggA (Zab (Zaa rfl) (Zae rfl) rfl rfl (by omega) hx rfl) ?_
  refine goJ ?_
  refine evG ggA (Zac (Zaa rfl) rfl rfl c) ?_
  refine goJ ?_
  refine evG ggA (Zas (Zaa rfl) (Zag rfl) rfl rfl rfl rfl (Zbi rfl rfl) (Nat.le_of_ble_eq_true rfl)) ?_
  refine evG ggA (Za7 (Zaa rfl) (Zag rfl) rfl rfl hli rfl rfl (by decide) rfl (by omega) (Nat.le_of_ble_eq_true rfl) rfl) ?_
  refine goJ ?_
  refine ⟨by kernel_rfl, ?_⟩
  refine goJ ?_
  exact Zad (k := sr.length - (i + 1)) (s' := mkS [(1, .ptr 1 0), (2, .ptr 2 0), (3, .ptr 3 0), (4, .v (iV ((i : Int) + 1)))] [(1, .var [.v (.sl (sr.map PS.av)), .v (.sl (et.map PE.av)), .v (.sl (df.map PB.av)), .v (.sl (ce.map PZ.av)), .v (.sl (sp.map PF.av)), .v (.sl (ma.map PM.av))]), (2, .var [.v (.p nilV), .v (.p nilV), .v (.p nilV), .v (.p nilV), .v (.p nilV), .v (.p nilV)]), (3, .var [.own 100 (i + 1), .v (.p nilV), .v (.sl ((df.map PB.can).map PB.av)), .v (.p nilV), .v (.p nilV), .v (.p nilV)]), (100, .lst 2 49 (Q ++ [_]))] 174 true) (by omega) (by exact entA) ⟨i + 1, rfl, hlti, by rw [hQ2]; rfl⟩
end Ab
