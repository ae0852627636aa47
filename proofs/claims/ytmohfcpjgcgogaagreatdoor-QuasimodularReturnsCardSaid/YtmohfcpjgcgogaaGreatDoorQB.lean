/- More steps: calls of function values, parts of elements of own lists, a list held against nil, Grow of nothing. Polynomials in E2, E4, E6 as lists of terms: the normalized form is fixed by its coefficients. Plain arithmetic. Sorting of terms by their exponents: what insertion, rotation and merging by symmetric comparison rest on. Plain arithmetic. The order of terms and the library's insertion sort of terms, walked; no condition. The library's Grow of nothing, Clone and Concat at lists of terms: by the kit's contract, and walked; no condition. -/
import Derived.Test.YtmohfcpjgcgogaaGreatDoorFn
import Derived.Lib.SliceRun
import Derived.Test.YtmohfcpjgcgogaaGreatDoorSerC
import Derived.Test.YtmohfcpjgcgogaaGreatDoorTz
import Derived.Shelf.Spec.SlicesGrow
set_option linter.all false
namespace Ab
open Go Go.RowKit Go.Proofs
section
variable {dm : Bool} {P : Program} {ops : Array Oper} {s : AS} {dst : Option Tmp} {ty : TypeId} {pos : String} {after : Array Edge} {g : Option (Nat × Bool)}
theorem Zdz {f : FuncId} {y : Operand} {l : List Operand} {ts : Array TypeId} {avs : List AV} {r : AV} (hin : InB s dst) (hnd : (!dm || s.nd) = true) (hy : s.ev y = some (.fn f [])) (ha : Zd2 s l = some avs) (hc : PCD dm P f avs r) :
  Zbe dm P ops ⟨dst, .call ⟨.value y, l.toArray, ts⟩, ty, pos, after, g⟩ s (.v r) .none := by
 refine ⟨fun id b h => (by cases h), fun id b h => (by cases h), fun s' hag _ w0 M0 a w hM hr next Q hn => ?_⟩
 obtain ⟨ρ, hr⟩ := hr
 obtain ⟨⟨fn, h1, h2, h3⟩, hc⟩ := hc
 have hreps := Zgk (s := s) hr l (fun x hx => hag.ev (by simp [Op.operands, Call.operands, hx])) avs ha
 have hcall := hc w _ (okm_of hM hr (by rw [hag.nd]; exact hnd)) _ hreps
 obtain ⟨cv, e1, e2, -⟩ := hr.ev ((hag.ev (y := y) (by simp [Op.operands, Call.operands])).trans hy)
 have e2 : cv = #[] := by simpa using e2
 subst e2
 have hrun : (execOp a.eval ⟨dst, .call ⟨.value y, l.toArray, ts⟩, ty, pos, after, g⟩).run P w = .ok (.enter f (l.map a.eval).toArray) w := by
  simp only [execOp, resolve, Deferred.ofValue, e1, invoke, callFunc, Sem.run_bind, Sem.run_pure, Result.andThen_ok, run_program, h1, h2, h3, Bool.false_eq_true, if_false, List.map_toArray, Array.append_empty, Array.empty_append]
  first | done | rfl
 unfold Oper.wp
 rw [hrun, Oper.upon_enter]
 refine hcall.mono fun e w' he => ?_
 obtain ⟨v, rfl, hb, hv⟩ := he
 exact hn _ _ ⟨ρ, (hr.ext hb).put (hin.agree hag) hv⟩
theorem ss_load_oppart {t : TypeId} {y : Operand} {id m i o n p : Nat} {et : TypeId} {es : List AV} {e : AV} {l : List AV} (hin : InB s dst) (ht : AggT P t p) (hy : s.ev y = some (.op id m i o)) (hm : s.m id = some (.lst n et es)) (hlen : es.length = m) (he : es[i]? = some e) (hl : (e.cells.drop o).take p = l) (hp : l.length = p) :
  Zbe dm P ops ⟨dst, .load t y, ty, pos, after, g⟩ s (.v (.agg l)) .none :=
 Zba hin fun s' hag w0 M0 ρ a w _ hr => by
  have hm' := hag.ms _ rfl id (by rw [hy]; rfl) _ hm
  obtain ⟨sz', et', es', h4, h5, b, bo, h8, h6⟩ := hr.ev ((hag.ev (by simp [Op.operands])).trans hy)
  rw [hm'] at h4
  injection h4 with h4
  injection h4 with e1 e2 e3
  subst e1 e2 e3
  obtain ⟨rfl, k, h7⟩ := h6 hlen
  have hat : ∀ (j : Nat) c, l[j]? = some c → e.cells[o + j]? = some c := fun j c hj => by
   have hjp : j < p := by rw [← hp]; exact (List.getElem?_eq_some_iff.1 hj).1
   rw [← hl, List.getElem?_take_of_lt hjp, List.getElem?_drop] at hj
   exact hj
  have key : ∀ (j : Nat) c, l[j]? = some c → c.one = true ∧ ∃ v, w.cell? ⟨b, i * n + o + j, none⟩ = some v ∧ Rep w (MM M0 ρ s'.m) c v := fun j c hj => by
   have := own_cell hr hm' h7 he (hat j c hj)
   rw [← Nat.add_assoc] at this
   exact this
  let vs : List Value := (List.range p).map fun j => (w.cell? ⟨b, i * n + o + j, none⟩).getD undef
  have hlen' : vs.length = p := by simp [vs]
  have hvs : ∀ j, j < p → vs[j]? = w.cell? ⟨b, i * n + o + j, none⟩ := fun j hj => by
   obtain ⟨-, v, h9, -⟩ := key j l[j] (by simp [hp, hj])
   simp [vs, hj, h9]
  refine ⟨.agg vs.toArray, ?_, .agg _ _ (by simp [hlen', hp]) (fun c hc => ?_) (fun i' c v h9 h10 => ?_)⟩
  ·have := Zc9 (P := P) (w := w) (b := b) (o := i * n + o) ht vs hlen' (fun j v hj => by
    have hjn : j < p := by rw [← hlen']; exact (List.getElem?_eq_some_iff.1 hj).1
    rw [← hvs j hjn]; exact hj)
   simp [execOp, h8, this]
  ·obtain ⟨j, hj⟩ := List.getElem?_of_mem hc
   exact (key j c hj).1
  ·obtain ⟨-, u, h11, h12⟩ := key i' c h9
   have hin' : i' < p := by rw [← hp]; exact (List.getElem?_eq_some_iff.1 h9).1
   have : vs[i']? = some v := by simpa using h10
   rw [hvs i' hin', h11] at this
   injection this with this
   subst this
   exact h12
theorem Ze8 {t : TypeId} {p n : Nat} {y z : Operand} {id m i o : Nat} {et : TypeId} {es : List AV} {e x : AV} {cs : List AV} (hd : dst = none) (ht : SizeT P t p) (hy : s.ev y = some (.op id m i o)) (hm : s.m id = some (.lst n et es)) (hlen : es.length = m) (he : es[i]? = some e) (hz : s.ev z = some (.v x)) (hxn : x.cells.length = p) (hx : ∀ l, x ≠ .tup l) (hn : (!s.nd || x.cells.all AV.nu) = true) (hen : e.cells.length = n) (hop : o + p ≤ n) (hcs : e.cells.take o ++ x.cells ++ e.cells.drop (o + p) = cs) :
  Zbe dm P ops ⟨dst, .store t y z, ty, pos, after, g⟩ s (.v (.tup [])) (.set id (.lst n et (es.set i (.agg cs)))) := by
 subst hd
 refine ⟨fun id b h => (by cases h), fun i b h => (by injection h with h1 hblk; subst h1; exact ⟨rfl, ⟨_, hm⟩, fun y h => by injection h with h2; subst h2; rw [hy]; rfl, fun _ y h => by rw [hm] at h; injection h with h; rw [← h, ← hblk]; simp only [dims, List.length_set]⟩), fun s' hag _ w0 M0 a w hM hr next Q hnx => ?_⟩
 obtain ⟨ρ, hr⟩ := hr
 have hm' := hag.ms _ rfl id (by rw [hy]; rfl) _ hm
 obtain ⟨sz', et', es', h4, h5, b, bo, h2, h6⟩ := hr.ev ((hag.ev (by simp [Op.operands])).trans hy)
 rw [hm'] at h4
 injection h4 with h4
 injection h4 with e1 e2 e3
 subst e1 e2 e3
 obtain ⟨rfl, k, h1⟩ := h6 hlen
 have hi : i < m := by rw [← hlen]; exact (List.getElem?_eq_some_iff.1 he).1
 have h3 : Rep w (MM M0 ρ s'.m) x (a.eval z) := hr.ev ((hag.ev (by simp [Op.operands])).trans hz)
 obtain ⟨c1, c2⟩ := Rep.cells h3 hx
 have c3 := Rep.ones h3 hx
 have c4 : ∀ u, u ∈ (a.eval z).cells.toList → u.oneCell' = true := fun u hu => by
  obtain ⟨j, hj⟩ := List.getElem?_of_mem hu
  have hjl : j < x.cells.length := by rw [← c1]; simpa using (List.getElem?_eq_some_iff.1 hj).1
  obtain ⟨u', h7, h8⟩ := c2 j x.cells[j] (by simp [hjl])
  rw [Array.getElem?_toList, h7] at hj
  injection hj with hj
  subst hj
  exact Rep.oneCell h8 (c3 _ (List.getElem_mem hjl))
 rcases hr.slots id _ hm' with ⟨g1, -⟩ | ⟨b', cap, row, g1, g2, g3, g4, g5, g6, g7⟩
 ·rw [h1] at g1; cases g1
 rw [h1] at g1
 injection g1 with g1
 injection g1 with e1 e2
 subst e1 e2
 have hvl : (a.eval z).cells.toList.length = p := by rw [Array.length_toList, c1, hxn]
 have hin : i * n + o + p ≤ row.size := by
  rw [g5]
  have : (i + 1) * n ≤ k * n := Nat.mul_le_mul_right _ (by omega)
  rw [Nat.add_mul, Nat.one_mul] at this
  omega
 have hfit' : i * n + o + (a.eval z).cells.toList.length ≤ row.toList.length := by rw [hvl, Array.length_toList]; exact hin
 have hrun := run_store (P := P) (w := w) (b := b) (o := i * n + o) (v := a.eval z) ht g2 (c1.trans hxn) hin c4
 unfold Oper.wp
 have hexec : (execOp a.eval ⟨none, .store t y z, ty, pos, after, g⟩).run P w = .ok .skip (w.setRow b (row.toList.take (i * n + o) ++ (a.eval z).cells.toList ++ row.toList.drop (i * n + o + (a.eval z).cells.toList.length)).toArray) := by
  simp only [execOp, h2]
  rw [Sem.run_bind, hrun]
  rfl
 rw [hexec]
 have hcl : cs.length = n := by rw [← hcs]; simp [hxn, hen]; omega
 have hcat : ∀ (j : Nat) c, cs[j]? = some c → if j < o then e.cells[j]? = some c else if j < o + p then x.cells[j - o]? = some c else e.cells[j]? = some c := fun j c hj => by
  rw [← hcs] at hj
  have lo : (e.cells.take o).length = o := by rw [List.length_take]; omega
  by_cases c1 : j < o
  ·rw [if_pos c1]
   rw [List.append_assoc, List.getElem?_append_left (by omega), List.getElem?_take_of_lt c1] at hj
   exact hj
  ·rw [if_neg c1]
   by_cases c2 : j < o + p
   ·rw [if_pos c2]
    rw [List.append_assoc, List.getElem?_append_right (by omega), lo, List.getElem?_append_left (by omega)] at hj
    exact hj
   ·rw [if_neg c2]
    rw [List.getElem?_append_right (by rw [List.length_append, lo]; omega), List.length_append, lo, hxn, List.getElem?_drop, show o + p + (j - (o + p)) = j by omega] at hj
    exact hj
 refine hnx _ _ ⟨_, hr.set (y := .lst n et (es.set i (.agg cs))) (r := some (b, k)) hM hm' (by simp) (fun c hc hne => setRow_other w b c _ (fun e => hne k (by rw [h1, e]))) rfl rfl rfl (fun c l e => ?_) (fun cs' e => by cases e) (fun sz ty es0 e => ?_) (fun M' m' hk hmv hM' => ?_)⟩
 ·injection e with e; injection e with e1 e2; subst e1; exact .inl ⟨k, h1⟩
 ·injection e with e1 e2 e3
  subst e1 e2 e3
  exact ⟨_, rfl, fun _ => h1.symm, by simp⟩
 ·refine .inr ⟨b, k, _, beq_ite, setRow_heap w b row _ _ _ g2, by simpa using g3, g4, ?_, fun q e' he' => ?_, fun hnd => ?_⟩
  ·rw [List.size_toArray, Zcw hfit', Array.length_toList, g5]
  ·by_cases hq : q = i
   ·subst hq
    have : e' = .agg cs := by
     have hl : q < es.length := by omega
     simp [hl] at he'; exact he'.symm
    subst this
    refine ⟨hcl, fun j c hj => ?_⟩
    have hj : cs[j]? = some c := hj
    have hjn : j < n := by rw [← hcl]; exact (List.getElem?_eq_some_iff.1 hj).1
    have hx2 := hcat j c hj
    obtain ⟨-, g8⟩ := g6 q e he
    by_cases d1 : j < o
    ·rw [if_pos d1] at hx2
     obtain ⟨h9, u, h10, h11⟩ := g8 j c hx2
     refine ⟨h9, u, ?_, Rep.mono hk hM' h11⟩
     rw [List.getElem?_toArray, Zbl hfit', if_pos (by omega), Array.getElem?_toList]
     exact h10
    ·rw [if_neg d1] at hx2
     by_cases d2 : j < o + p
     ·rw [if_pos d2] at hx2
      obtain ⟨u, h7, h8⟩ := c2 (j - o) c hx2
      refine ⟨c3 c (List.mem_of_getElem? hx2), u, ?_, Rep.mono hk hM' h8⟩
      rw [List.getElem?_toArray, Zbl hfit', hvl, if_neg (by omega), if_pos (by omega), Array.getElem?_toList]
      rw [show q * n + j - (q * n + o) = j - o by omega]; exact h7
     ·rw [if_neg d2] at hx2
      obtain ⟨h9, u, h10, h11⟩ := g8 j c hx2
      refine ⟨h9, u, ?_, Rep.mono hk hM' h11⟩
      rw [List.getElem?_toArray, Zbl hfit', hvl, if_neg (by omega), if_neg (by omega), Array.getElem?_toList]
      exact h10
   ·rw [List.getElem?_set_ne (Ne.symm hq)] at he'
    obtain ⟨h7, h8⟩ := g6 q e' he'
    refine ⟨h7, fun j c hj => ?_⟩
    have hjn : j < n := by rw [← h7]; exact (List.getElem?_eq_some_iff.1 hj).1
    obtain ⟨h9, u, h10, h11⟩ := h8 j c hj
    refine ⟨h9, u, ?_, Rep.mono hk hM' h11⟩
    rw [List.getElem?_toArray, Zbl hfit', hvl]
    rcases Nat.lt_or_gt_of_ne hq with hlt | hgt
    ·have : (q + 1) * n ≤ i * n := Nat.mul_le_mul_right _ hlt
     rw [Nat.add_mul, Nat.one_mul] at this
     rw [if_pos (by omega), Array.getElem?_toList]; exact h10
    ·have : (i + 1) * n ≤ q * n := Nat.mul_le_mul_right _ hgt
     rw [Nat.add_mul, Nat.one_mul] at this
     rw [if_neg (by omega), if_neg (by omega), Array.getElem?_toList]; exact h10
  ·have hnd' := hnd
   rw [hag.nd] at hnd
   rw [hnd] at hn
   simp only [Bool.not_true, Bool.false_or, List.all_eq_true] at hn
   have hold := of_noDg (g7 hnd')
   refine Zev fun u hu => ?_
   simp only [List.mem_append] at hu
   rcases hu with (hu | hu) | hu
   ·exact hold u (List.mem_of_mem_take hu)
   ·obtain ⟨j, hj⟩ := List.getElem?_of_mem hu
    have hjl : j < x.cells.length := by rw [hxn, ← hvl]; exact (List.getElem?_eq_some_iff.1 hj).1
    obtain ⟨u', h7, h9⟩ := c2 j x.cells[j] (by simp [hjl])
    rw [Array.getElem?_toList, h7] at hj
    injection hj with hj
    subst hj
    exact Rep.nu h9 (hn _ (List.getElem_mem hjl))
   ·exact hold u (List.mem_of_mem_drop hu)
theorem ms_eqnil {t e yt : TypeId} {y : Operand} {l : List AV} {K : AS → Prop} (hin : inbB s dst = true) (ht : P.underlying t = some (.slice e)) (hy : s.ev y = some (.v (.sl l)))
  (k : ∀ b : Bool, (l ≠ [] → b = false) → K (s.act dst (.v (.p (.bool b))) .none)) : MStep dm P ops ⟨dst, .binOp .eql t y (.const nilV) yt, ty, pos, after, none⟩ s K := by
 intro w0 M0 hM a w hrel next Q hn
 obtain ⟨ρ, hr⟩ := hrel
 rw [if_pos (show Region.wanted _ (yielded ops a.tmps) = true from rfl)]
 obtain ⟨ad, cap, h1, -, h3⟩ := sl_inv (hr.ev hy)
 have hrun : (execOp a.eval ⟨dst, .binOp .eql t y (.const nilV) yt, ty, pos, after, none⟩).run P w = .ok (.value (.bool ad.isNone)) w := by
  have h5 : a.eval (.const nilV) = .slice none 0 0 := rfl
  simp only [execOp, h1, h5]
  rw [Sem.run_bind, Sem.run_bind]
  simp only [eqGuard]
  simp [Lib.run_eql_slice_nil w t e ad l.length cap 0 0 ht]
 unfold Oper.wp
 rw [hrun]
 refine hn _ _ _ (k ad.isNone fun hl => ?_) ⟨ρ, hr.put (Zaa hin) (.p _ rfl)⟩
 rcases h3 with h3 | ⟨b, off, sz, rfl, -⟩
 ·exact absurd h3 hl
 ·rfl
theorem ms_callO (oid : Nat) {f : FuncId} {l : List Operand} {ts : Array TypeId} {args : List AV} {sz : Nat} {et : TypeId} {es : List AV} {K : AS → Prop} (hin : inbB s dst = true) (hnd : s.nd = true) (ha : l.map s.ev = args.map (fun a => some (TV.v a))) (hc : PCO P f args sz et es) (hm : s.m oid = none)
    (k : K (s.act dst (.own oid es.length) (.new oid (.lst sz et es)))) : MStep true P ops ⟨dst, .call ⟨.value (.func f), l.toArray, ts⟩, ty, pos, after, none⟩ s K := by
  intro w0 M0 hM a w hrel next Q hn
  obtain ⟨ρ, hr⟩ := hrel
  rw [if_pos (show Region.wanted _ (yielded ops a.tmps) = true from rfl)]
  obtain ⟨⟨fn, h1, h2, h3⟩, hc⟩ := hc
  have hreps : Reps w (MM M0 ρ s.m) args (l.map a.eval) := by
    clear hc k
    induction l generalizing args with
    | nil =>
      cases args with
      | nil => exact .nil
      | cons => cases ha
    | cons x l ih =>
      cases args with
      | nil => cases ha
      | cons b args =>
        simp only [List.map_cons, List.cons.injEq] at ha
        exact .cons _ _ _ _ (hr.ev ha.1) (ih ha.2)
  have hcall := hc w _ (okm_of hM hr (by rw [hnd]; rfl)) _ hreps
  have hrun : (execOp a.eval ⟨dst, .call ⟨.value (.func f), l.toArray, ts⟩, ty, pos, after, none⟩).run P w = .ok (.enter f (l.map a.eval).toArray) w := by
    simp only [execOp, resolve, Deferred.ofValue, invoke, callFunc, Sem.run_bind, Sem.run_pure, Result.andThen_ok, run_program, h1, h2, h3, Act.eval, Bool.false_eq_true, if_false, List.map_toArray, Array.append_empty, Array.empty_append]
    first | done | rfl
  unfold Oper.wp
  rw [hrun, Oper.upon_enter]
  refine hcall.mono fun e w' he => ?_
  obtain ⟨v, rfl, hb, hv⟩ := he
  refine hn _ _ _ k ?_
  rcases hv with ⟨rfl, rfl⟩ | ⟨b, kk, row, g1, g2, g3, g4, g5, g6, rfl, g7, g8⟩
  · have hq := hr.newO (r := none) hb hm (x := .lst sz et []) (fun b k e => by cases e) (.inl ⟨by simp, rfl⟩)
    refine ⟨_, RelR.put (s := { s with m := upd s.m oid (.lst sz et []) }) hq (Zaa hin) ?_⟩
    exact ⟨sz, et, [], Za2 _ _ _, Nat.le_refl _, ⟨_, _, _, rfl⟩, fun _ => .inl ⟨by simp, rfl, rfl⟩⟩
  · have hq := hr.newO (r := some (b, kk)) hb hm (x := .lst sz et es) (fun b' k' e => by injection e with e; injection e with e1 e2; subst e1 e2; exact ⟨g1, g2⟩) (.inr ⟨b, kk, row, by simp, g3, g4, g5, g6, fun i e he => ?_, fun _ => g7⟩)
    · refine ⟨_, RelR.put (s := { s with m := upd s.m oid (.lst sz et es) }) hq (Zaa hin) ?_⟩
      exact ⟨sz, et, es, Za2 _ _ _, Nat.le_refl _, ⟨_, _, _, rfl⟩, fun _ => .inr ⟨b, kk, by simp, rfl⟩⟩
    · obtain ⟨p1, p2⟩ := g8 i e he
      refine ⟨p1, fun j cc hj => ?_⟩
      obtain ⟨q1, x, q2, q3⟩ := p2 j cc hj
      refine ⟨q1, x, q2, Rep.mono (Zbn.refl _ _) (fun b' _ hh => ?_) q3⟩
      rcases hh with hh | ⟨i', k', p3, p4⟩
      · exact .inl (.inl hh)
      · by_cases hi : i' = oid
        · subst hi
          simp at p4
          exact .inr p4.1.symm
        · have hne : Nat.beq oid i' = false := by
            cases e : Nat.beq oid i' with
            | false => rfl
            | true => exact absurd (Nat.eq_of_beq_eq_true e).symm hi
          simp only [hne, cond_false] at p4
          rw [Zax _ _ (Ne.symm hi)] at p3
          exact .inl (.inr ⟨i', k', p3, p4⟩)
end
end Ab
namespace Ab
open Go Go.RowKit Go.Proofs Hp
structure QT where
 a : Int
 b : Int
 c : Int
 q : Rat
abbrev Ky := Int × Int × Int
def QT.k (t : QT) : Ky := (t.a, t.b, t.c)
def kl (x y : Ky) : Prop := x.1 < y.1 ∨ (x.1 = y.1 ∧ (x.2.1 < y.2.1 ∨ (x.2.1 = y.2.1 ∧ x.2.2 < y.2.2)))
instance (x y : Ky) : Decidable (kl x y) := inferInstanceAs (Decidable (_ ∨ _))
theorem kl_irr (x : Ky) : ¬ kl x x := by unfold kl; omega
theorem kl_tr {x y z : Ky} (h : kl x y) (k : kl y z) : kl x z := by unfold kl at *; omega
theorem kl_tri (x y : Ky) : kl x y ∨ x = y ∨ kl y x := by
 obtain ⟨a, b, c⟩ := x
 obtain ⟨d, e, f⟩ := y
 unfold kl
 simp only [Prod.mk.injEq]
 omega
theorem kl_as {x y : Ky} (h : kl x y) (k : kl y x) : False := kl_irr x (kl_tr h k)
theorem kl_ne {x y : Ky} (h : kl x y) : x ≠ y := fun e => kl_irr y (e ▸ h)
def qco : List QT → Ky → Rat
 | [], _ => 0
 | t :: p, k => (if t.k = k then t.q else 0) + qco p k
theorem qco_app (p r : List QT) (k : Ky) : qco (p ++ r) k = qco p k + qco r k := by
 induction p with
 | nil => simp [qco, Rat.zero_add]
 | cons t p ih => simp only [List.cons_append, qco, ih, Rat.add_assoc]
theorem qco_perm {p r : List QT} (h : p.Perm r) (k : Ky) : qco p k = qco r k := by
 induction h with
 | nil => rfl
 | cons t _ ih => simp only [qco, ih]
 | swap t u l => simp only [qco]; grind
 | trans _ _ ih1 ih2 => rw [ih1, ih2]
theorem Zcz {p : List QT} {k : Ky} (h : ∀ t, t ∈ p → t.k ≠ k) : qco p k = 0 := by
 induction p with
 | nil => rfl
 | cons t p ih => rw [qco, if_neg (h t (List.mem_cons_self ..)), ih fun u hu => h u (List.mem_cons_of_mem _ hu), Rat.add_zero]
def QN : List QT → Prop
 | [] => True
 | t :: p => t.q ≠ 0 ∧ (∀ u, u ∈ p → kl t.k u.k) ∧ QN p
theorem qn_ext : ∀ {p r : List QT}, QN p → QN r → (∀ k, qco p k = qco r k) → p = r
  | [], [], _, _, _ => rfl
  | [], u :: r, _, h, e => by
    have := e u.k
    rw [qco, qco, if_pos rfl, Zcz fun t ht => (kl_ne (h.2.1 t ht)).symm, Rat.add_zero] at this
    exact absurd this.symm h.1
  | t :: p, [], h, _, e => by
    have := e t.k
    rw [qco, qco, if_pos rfl, Zcz fun u hu => (kl_ne (h.2.1 u hu)).symm, Rat.add_zero] at this
    exact absurd this h.1
  | t :: p, u :: r, h, k, e => by
    have ht := e t.k
    have hu := e u.k
    rw [qco, qco, if_pos rfl, Zcz fun u hu => (kl_ne (h.2.1 u hu)).symm, Rat.add_zero] at ht
    rw [qco, qco, if_pos rfl, Zcz (p := r) fun t ht => (kl_ne (k.2.1 t ht)).symm, Rat.add_zero] at hu
    rcases kl_tri t.k u.k with c | c | c
    · rw [if_neg (kl_ne c).symm, Zcz (p := r) fun v hv ev => kl_irr t.k (by have := kl_tr c (k.2.1 v hv); rwa [ev] at this), Rat.add_zero] at ht
      exact absurd ht h.1
    · rw [if_pos c.symm, Zcz (p := r) fun v hv ev => kl_irr u.k (by have := k.2.1 v hv; rwa [ev, c] at this), Rat.add_zero] at ht
      have e1 : t = u := by
        obtain ⟨a, b, d, q⟩ := t
        obtain ⟨a', b', d', q'⟩ := u
        simp only [QT.k, Prod.mk.injEq] at c
        obtain ⟨rfl, rfl, rfl⟩ := c
        have ht : q = q' := ht
        rw [ht]
      subst e1
      rw [qn_ext h.2.2 k.2.2 fun x => by have := e x; rw [qco, qco] at this; grind]
    · rw [if_neg (kl_ne c).symm, Zcz (p := p) fun v hv ev => kl_irr u.k (by have := kl_tr c (h.2.1 v hv); rwa [ev] at this), Rat.add_zero] at hu
      exact absurd hu.symm k.1
def qput : List QT → QT → List QT
 | [], t => if t.q = 0 then [] else [t]
 | u :: p, t => if kl u.k t.k then u :: qput p t else if kl t.k u.k then (if t.q = 0 then u :: p else t :: u :: p) else (if u.q + t.q = 0 then p else { t with q := u.q + t.q } :: p)
theorem qput_mem : ∀ (p : List QT) (t u : QT), u ∈ qput p t → u.k = t.k ∨ u ∈ p
  | [], t, u, h => by
    rw [qput] at h
    split at h
    · cases h
    · rw [List.mem_singleton] at h; subst h; exact .inl rfl
  | v :: p, t, u, h => by
    rw [qput] at h
    split at h
    · rcases List.mem_cons.1 h with rfl | h
      · exact .inr (List.mem_cons_self ..)
      · rcases qput_mem p t u h with h | h
        · exact .inl h
        · exact .inr (List.mem_cons_of_mem _ h)
    · split at h
      · split at h
        · exact .inr h
        · rcases List.mem_cons.1 h with rfl | h
          · exact .inl rfl
          · exact .inr h
      · split at h
        · exact .inr (List.mem_cons_of_mem _ h)
        · rcases List.mem_cons.1 h with rfl | h
          · exact .inl rfl
          · exact .inr (List.mem_cons_of_mem _ h)
theorem qput_spec : ∀ (p : List QT) (t : QT), QN p → QN (qput p t) ∧ ∀ k, qco (qput p t) k = qco p k + if t.k = k then t.q else 0
  | [], t, _ => by
    rw [qput]
    split
    · rename_i h
      refine ⟨trivial, fun k => ?_⟩
      rw [h]; simp [qco, Rat.zero_add]
    · rename_i h
      exact ⟨⟨h, fun u hu => (by cases hu), trivial⟩, fun k => (by simp only [qco]; rw [Rat.add_comm])⟩
  | u :: p, t, h => by
    obtain ⟨h1, h2, h3⟩ := h
    obtain ⟨i1, i2⟩ := qput_spec p t h3
    rw [qput]
    split
    · rename_i c
      refine ⟨⟨h1, fun v hv => ?_, i1⟩, fun k => by simp only [qco, i2, Rat.add_assoc]⟩
      rcases qput_mem p t v hv with e | e
      · rw [e]; exact c
      · exact h2 v e
    · rename_i c
      split
      · rename_i d
        split
        · rename_i z
          refine ⟨⟨h1, h2, h3⟩, fun k => ?_⟩
          rw [z]; simp [Rat.add_zero]
        · rename_i z
          refine ⟨⟨z, fun v hv => ?_, h1, h2, h3⟩, fun k => by simp only [qco]; grind⟩
          rcases List.mem_cons.1 hv with rfl | hv
          · exact d
          · exact kl_tr d (h2 v hv)
      · rename_i d
        have e : u.k = t.k := by
          rcases kl_tri u.k t.k with x | x | x
          · exact absurd x c
          · exact x
          · exact absurd x d
        split
        · rename_i z
          refine ⟨h3, fun k => ?_⟩
          simp only [qco, e]
          by_cases x : t.k = k
          · rw [if_pos x, if_pos x]; grind
          · rw [if_neg x, if_neg x, Rat.zero_add, Rat.add_zero]
        · rename_i z
          refine ⟨⟨z, fun v hv => by have := h2 v hv; rw [e] at this; exact this, h3⟩, fun k => ?_⟩
          simp only [qco, e]
          have e2 : QT.k { t with q := u.q + t.q } = t.k := rfl
          rw [e2]
          by_cases x : t.k = k
          · rw [if_pos x, if_pos x, if_pos x]; grind
          · rw [if_neg x, if_neg x, if_neg x, Rat.zero_add, Rat.add_zero]
def qnf (p : List QT) : List QT := p.foldl qput []
theorem qfold_spec : ∀ (l p : List QT), QN p → QN (l.foldl qput p) ∧ ∀ k, qco (l.foldl qput p) k = qco p k + qco l k
  | [], p, h => ⟨h, fun k => by simp [qco, Rat.add_zero]⟩
  | t :: l, p, h => by
    obtain ⟨i1, i2⟩ := qput_spec p t h
    obtain ⟨j1, j2⟩ := qfold_spec l _ i1
    exact ⟨j1, fun k => by rw [List.foldl_cons, j2, i2, qco, Rat.add_assoc]⟩
theorem qnf_n (p : List QT) : QN (qnf p) := (qfold_spec p [] trivial).1
theorem qnf_co (p : List QT) (k : Ky) : qco (qnf p) k = qco p k := by
 rw [qnf, (qfold_spec p [] trivial).2, qco, Rat.zero_add]
theorem qnf_eq {p r : List QT} (h : ∀ k, qco p k = qco r k) : qnf p = qnf r := qn_ext (qnf_n p) (qnf_n r) fun k => by rw [qnf_co, qnf_co, h]
theorem qnf_id {p : List QT} (h : QN p) : qnf p = p := qn_ext (qnf_n p) h fun k => qnf_co p k
def qgr (t : QT) : List QT → List QT
 | [] => if t.q = 0 then [] else [t]
 | u :: l => if u.k = t.k then qgr { t with q := t.q + u.q } l else (if t.q = 0 then [] else [t]) ++ qgr u l
def qtd : List QT → List QT
 | [] => []
 | t :: l => qgr t l
def QS (l : List QT) : Prop := l.Pairwise fun t u => ¬ kl u.k t.k
theorem qgr_mem : ∀ (l : List QT) (t u : QT), u ∈ qgr t l → u.k = t.k ∨ ∃ v, v ∈ l ∧ u.k = v.k
  | [], t, u, h => by
    rw [qgr] at h
    split at h
    · cases h
    · rw [List.mem_singleton] at h; subst h; exact .inl rfl
  | v :: l, t, u, h => by
    rw [qgr] at h
    split at h
    · rcases qgr_mem l _ u h with e | ⟨w, hw, e⟩
      · exact .inl e
      · exact .inr ⟨w, List.mem_cons_of_mem _ hw, e⟩
    · rcases List.mem_append.1 h with h | h
      · split at h
        · cases h
        · rw [List.mem_singleton] at h; subst h; exact .inl rfl
      · rcases qgr_mem l v u h with e | ⟨w, hw, e⟩
        · exact .inr ⟨v, List.mem_cons_self .., e⟩
        · exact .inr ⟨w, List.mem_cons_of_mem _ hw, e⟩
theorem qgr_spec : ∀ (l : List QT) (t : QT), QS (t :: l) → QN (qgr t l) ∧ ∀ k, qco (qgr t l) k = qco (t :: l) k
  | [], t, _ => by
    rw [qgr]
    split
    · rename_i h
      refine ⟨trivial, fun k => ?_⟩
      simp [qco, h, Rat.add_zero]
    · rename_i h
      exact ⟨⟨h, fun u hu => (by cases hu), trivial⟩, fun k => rfl⟩
  | u :: l, t, h => by
    obtain ⟨h1, h2⟩ := List.pairwise_cons.1 h
    obtain ⟨h3, h4⟩ := List.pairwise_cons.1 h2
    rw [qgr]
    split
    · rename_i e
      obtain ⟨i1, i2⟩ := qgr_spec l { t with q := t.q + u.q } (List.pairwise_cons.2 ⟨fun v hv => h1 v (List.mem_cons_of_mem _ hv), h4⟩)
      refine ⟨i1, fun k => ?_⟩
      rw [i2]
      simp only [qco]
      have e2 : QT.k { t with q := t.q + u.q } = t.k := rfl
      rw [e2, e]
      by_cases x : t.k = k
      · rw [if_pos x, if_pos x, if_pos x, Rat.add_assoc]
      · rw [if_neg x, if_neg x, if_neg x, Rat.zero_add, Rat.zero_add]
    · rename_i e
      obtain ⟨i1, i2⟩ := qgr_spec l u h2
      have hlt : kl t.k u.k := by
        rcases kl_tri t.k u.k with x | x | x
        · exact x
        · exact absurd x.symm e
        · exact absurd x (h1 u (List.mem_cons_self ..))
      have hall : ∀ v, v ∈ qgr u l → kl t.k v.k := fun v hv => by
        rcases qgr_mem l u v hv with x | ⟨w, hw, x⟩
        · rw [x]; exact hlt
        · rw [x]
          rcases kl_tri u.k w.k with y | y | y
          · exact kl_tr hlt y
          · rw [← y]; exact hlt
          · exact absurd y (h3 w hw)
      split
      · rename_i z
        refine ⟨i1, fun k => ?_⟩
        rw [List.nil_append, i2, qco.eq_2 k t, z]
        simp [Rat.zero_add]
      · rename_i z
        exact ⟨⟨z, hall, i1⟩, fun k => by rw [List.cons_append, List.nil_append, qco.eq_2 k t, i2, ← qco.eq_2]⟩
theorem qtd_eq {l p : List QT} (hs : QS l) (hp : l.Perm p) : qtd l = qnf p := by
 refine qn_ext ?_ (qnf_n p) fun k => ?_
 ·cases l with
  | nil => exact trivial
  | cons t l => exact (qgr_spec l t hs).1
 ·rw [qnf_co, ← qco_perm hp]
  cases l with
  | nil => rfl
  | cons t l => exact (qgr_spec l t hs).2 k
theorem qn_co : ∀ {p : List QT}, QN p → ∀ t, t ∈ p → qco p t.k = t.q
  | [], _, t, h => by cases h
  | u :: p, hn, t, h => by
    rcases List.mem_cons.1 h with rfl | h
    · rw [qco, if_pos rfl, Zcz (p := p) fun v hv => (kl_ne (hn.2.1 v hv)).symm, Rat.add_zero]
    · rw [qco, if_neg (kl_ne (hn.2.1 t h)), Rat.zero_add, qn_co hn.2.2 t h]
theorem qco_ht {K : Nat} (hK : 1 ≤ K) (k : Ky) : ∀ {p : List QT}, (∀ t, t ∈ p → Ht t.q K) → Ht (qco p k) (1 + p.length * (K + 1))
  | [], _ => ht0 (by simp)
  | t :: p, h => by
    have h1 := qco_ht hK k (p := p) fun u hu => h u (List.mem_cons_of_mem _ hu)
    have h2 : Ht (if t.k = k then t.q else 0) K := by
      split
      · exact h t (List.mem_cons_self ..)
      · exact ht0 hK
    rw [qco]
    refine (Ze2 h2 h1).mono ?_
    rw [List.length_cons, Nat.add_mul]
    omega
theorem qnf_ht {K : Nat} (hK : 1 ≤ K) {p : List QT} (h : ∀ t, t ∈ p → Ht t.q K) : ∀ t, t ∈ qnf p → Ht t.q (1 + p.length * (K + 1)) := fun t ht => by
 rw [← qn_co (qnf_n p) t ht, qnf_co]
 exact qco_ht hK t.k h
theorem qput_len : ∀ (p : List QT) (t : QT), (qput p t).length ≤ p.length + 1
  | [], t => by rw [qput]; split <;> simp
  | u :: p, t => by
    rw [qput]
    split
    · have := qput_len p t
      rw [List.length_cons, List.length_cons]; omega
    · split <;> split <;> simp only [List.length_cons] <;> omega
theorem qfold_len : ∀ (l p : List QT), (l.foldl qput p).length ≤ p.length + l.length
  | [], p => by simp
  | t :: l, p => by
    have h1 := qfold_len l (qput p t)
    have h2 := qput_len p t
    rw [List.foldl_cons, List.length_cons]
    omega
theorem qnf_len (p : List QT) : (qnf p).length ≤ p.length := by
 have := qfold_len p []
 simpa [qnf] using this
theorem Zff {p : List QT} {t : QT} (h : t ∈ qnf p) : ∃ u, u ∈ p ∧ u.k = t.k := by
  have key : ∀ (l r : List QT), t ∈ l.foldl qput r → (∃ u, u ∈ l ∧ u.k = t.k) ∨ t ∈ r := by
    intro l
    induction l with
    | nil => intro r h; exact .inr h
    | cons v l ih =>
      intro r h
      rcases ih _ h with ⟨u, hu, e⟩ | h
      · exact .inl ⟨u, List.mem_cons_of_mem _ hu, e⟩
      · rcases qput_mem r v t h with e | h
        · exact .inl ⟨v, List.mem_cons_self .., e.symm⟩
        · exact .inr h
  rcases key p [] h with h | h
  · exact h
  · cases h
def qlf (φ : Ky → Rat) : List QT → Rat
 | [] => 0
 | t :: p => t.q * φ t.k + qlf φ p
theorem qlf_put (φ : Ky → Rat) : ∀ (p : List QT) (t : QT), qlf φ (qput p t) = qlf φ p + t.q * φ t.k
  | [], t => by
    rw [qput]
    split
    · rename_i h
      rw [h, Rat.zero_mul, Rat.add_zero]
    · simp only [qlf, Rat.add_zero, Rat.zero_add]
  | u :: p, t => by
    rw [qput]
    split
    · simp only [qlf, qlf_put φ p t, Rat.add_assoc]
    · rename_i c
      split
      · split
        · rename_i z
          rw [z, Rat.zero_mul, Rat.add_zero]
        · simp only [qlf]
          exact Rat.add_comm ..
      · rename_i d
        have e : u.k = t.k := by
          rcases kl_tri u.k t.k with x | x | x
          · exact absurd x c
          · exact x
          · exact absurd x d
        split
        · rename_i z
          have : u.q * φ t.k + t.q * φ t.k = 0 := by rw [← Rat.add_mul, z, Rat.zero_mul]
          simp only [qlf, e]
          grind
        · simp only [qlf, e]
          have e2 : QT.k { t with q := u.q + t.q } = t.k := rfl
          rw [e2, Rat.add_mul]
          grind
theorem qlf_fold (φ : Ky → Rat) : ∀ (l p : List QT), qlf φ (l.foldl qput p) = qlf φ p + qlf φ l
 | [], p => by simp [qlf, Rat.add_zero]
 | t :: l, p => by rw [List.foldl_cons, qlf_fold φ l, qlf_put, qlf, Rat.add_assoc]
theorem qlf_nf (φ : Ky → Rat) (p : List QT) : qlf φ (qnf p) = qlf φ p := by
 rw [qnf, qlf_fold, qlf, Rat.zero_add]
theorem qlf_app (φ : Ky → Rat) (p r : List QT) : qlf φ (p ++ r) = qlf φ p + qlf φ r := by
 induction p with
 | nil => simp [qlf, Rat.zero_add]
 | cons t p ih => simp only [List.cons_append, qlf, ih, Rat.add_assoc]
end Ab
namespace Ab
open Go Go.RowKit Go.Proofs Hp
structure QE where
 a : Int
 b : Int
 c : Int
 g : Bool
 d : List AV
 g' : Bool
 d' : List AV
 q : Rat
def QE.r (e : QE) : AV := .agg [.p (.bool e.g), .sl e.d, .p (.bool e.g'), .sl e.d']
def QE.ok (K : Nat) (e : QE) : Prop := IsV e.r K e.q
def QE.t (e : QE) : QT := ⟨e.a, e.b, e.c, e.q⟩
def QE.k (e : QE) : Ky := (e.a, e.b, e.c)
def QE.av (e : QE) : AV := .agg [.p (.int .i64 e.a), .p (.int .i64 e.b), .p (.int .i64 e.c), .p (.bool e.g), .sl e.d, .p (.bool e.g'), .sl e.d']
def ke (x y : QE) : Prop := ¬ kl y.k x.k
theorem ke_tr {x y z : QE} (h : ke x y) (k : ke y z) : ke x z := by unfold ke kl at *; omega
theorem ke_lt {x y : QE} (h : kl x.k y.k) : ke x y := fun k => kl_as h k
theorem ke_rf (x : QE) : ke x x := kl_irr _
def ES (l : List QE) : Prop := l.Pairwise ke
theorem Zfp {l r : List QE} : ES (l ++ r) ↔ ES l ∧ ES r ∧ ∀ x, x ∈ l → ∀ y, y ∈ r → ke x y := List.pairwise_append
theorem es_cons {x : QE} {l : List QE} : ES (x :: l) ↔ (∀ y, y ∈ l → ke x y) ∧ ES l := List.pairwise_cons
theorem es_last {l : List QE} {z : QE} (h : ES (l ++ [z])) : ∀ x, x ∈ l ++ [z] → ke x z := fun x hx => by
 rcases List.mem_append.1 hx with hx | hx
 ·exact (Zfp.1 h).2.2 x hx z (List.mem_singleton.2 rfl)
 ·rw [List.mem_singleton.1 hx]; exact ke_rf z
theorem es_head {l : List QE} {z : QE} (h : ES (z :: l)) : ∀ x, x ∈ z :: l → ke z x := fun x hx => by
 rcases List.mem_cons.1 hx with rfl | hx
 ·exact ke_rf x
 ·exact (es_cons.1 h).1 x hx
theorem es_ins {l r : List QE} {x : QE} (h : ES (l ++ r)) (h1 : ∀ y, y ∈ l → ke y x) (h2 : ∀ y, y ∈ r → ke x y) : ES (l ++ x :: r) := by
 obtain ⟨a, b, c⟩ := Zfp.1 h
 refine Zfp.2 ⟨a, es_cons.2 ⟨h2, b⟩, fun y hy z hz => ?_⟩
 rcases List.mem_cons.1 hz with rfl | hz
 ·exact h1 y hy
 ·exact c y hy z hz
theorem set_swap {α : Type} {q : List α} {x y : α} : ∀ {p : List α} {j : Nat}, p.length = j → ((p ++ x :: y :: q).set (j + 1) x).set j y = p ++ y :: x :: q
 | [], _, rfl => rfl
 | a :: p, _, rfl => congrArg (a :: ·) (set_swap (p := p) rfl)
theorem Zdp {α : Type} {p q : List α} {x : α} {j : Nat} (hj : p.length = j) : (p ++ x :: q)[j]? = some x := by
 subst hj
 rw [List.getElem?_append_right (by omega), Nat.sub_self]
 rfl
theorem get_app1 {α : Type} {p q : List α} {x y : α} {j : Nat} (hj : p.length = j) : (p ++ x :: y :: q)[j + 1]? = some y := by
 subst hj
 rw [List.getElem?_append_right (by omega), show p.length + 1 - p.length = 1 by omega]
 rfl
theorem nil_or {α : Type} (l : List α) : l = [] ∨ ∃ r z, l = r ++ [z] := by
 rcases List.eq_nil_or_concat l with h | ⟨r, z, h⟩
 ·exact .inl h
 ·exact .inr ⟨r, z, by rw [h, List.concat_eq_append]⟩
theorem Zf1 {α : Type} {l : List α} {n : Nat} (h : n ≤ l.length) : ∃ p r, l = p ++ r ∧ p.length = n := ⟨l.take n, l.drop n, (List.take_append_drop n l).symm, by rw [List.length_take]; omega⟩
theorem es_merge {u1 u2 v1 v2 w1 w2 : List QE} (_hu : ES (u1 ++ u2)) (_hv : ES (v1 ++ v2)) (c1 : ∀ x, x ∈ u1 → ∀ y, y ∈ v2 → ke x y) (c2 : ∀ x, x ∈ v1 → ∀ y, y ∈ u2 → ke x y)
  (h1 : ES w1) (p1 : w1.Perm (u1 ++ v1)) (h2 : ES w2) (p2 : w2.Perm (u2 ++ v2)) : ES (w1 ++ w2) ∧ (w1 ++ w2).Perm ((u1 ++ u2) ++ (v1 ++ v2)) := by
 refine ⟨Zfp.2 ⟨h1, h2, fun x hx y hy => ?_⟩, ?_⟩
 ·have hx := p1.mem_iff.1 hx
  have hy := p2.mem_iff.1 hy
  rcases List.mem_append.1 hx with hx | hx <;> rcases List.mem_append.1 hy with hy | hy
  ·exact (Zfp.1 _hu).2.2 x hx y hy
  ·exact c1 x hx y hy
  ·exact c2 x hx y hy
  ·exact (Zfp.1 _hv).2.2 x hx y hy
 ·refine (p1.append p2).trans ?_
  rw [List.append_assoc, List.append_assoc]
  refine List.Perm.append_left u1 ?_
  rw [← List.append_assoc, ← List.append_assoc]
  exact List.Perm.append_right v2 List.perm_append_comm
theorem ke_cross {u v : List QE} {x y : QE} (hu : ∀ z, z ∈ u → ke z x) (hv : ∀ z, z ∈ v → ke y z) (h : ke x y) : ∀ z, z ∈ u → ∀ t, t ∈ v → ke z t := fun z hz t ht => ke_tr (hu z hz) (ke_tr h (hv t ht))
def qin : List QE → QE → List QE
 | [], x => [x]
 | y :: l, x => if kl x.k y.k then x :: y :: l else y :: qin l x
theorem qin_eq : ∀ (l r : List QE) (x : QE), (∀ y, y ∈ l → ke y x) → (∀ y, y ∈ r → kl x.k y.k) → qin (l ++ r) x = l ++ x :: r
  | [], [], x, _, _ => rfl
  | [], y :: r, x, _, h => by
    show qin (y :: r) x = _
    rw [qin, if_pos (h y (List.mem_cons_self ..))]
    rfl
  | y :: l, r, x, h, k => by
    show qin (y :: (l ++ r)) x = _
    rw [qin, if_neg (h y (List.mem_cons_self ..)), qin_eq l r x (fun z hz => h z (List.mem_cons_of_mem _ hz)) k]
    rfl
theorem qin_perm : ∀ (l : List QE) (x : QE), (qin l x).Perm (x :: l)
  | [], x => List.Perm.refl _
  | y :: l, x => by
    rw [qin]
    split
    · exact List.Perm.refl _
    · exact ((qin_perm l x).cons y).trans (List.Perm.swap x y l)
theorem qin_sorted : ∀ (l : List QE) (x : QE), ES l → ES (qin l x)
  | [], x, _ => es_cons.2 ⟨fun y hy => (by cases hy), List.Pairwise.nil⟩
  | y :: l, x, h => by
    obtain ⟨h1, h2⟩ := es_cons.1 h
    rw [qin]
    split
    · rename_i c
      refine es_cons.2 ⟨fun z hz => ?_, h⟩
      rcases List.mem_cons.1 hz with rfl | hz
      · exact ke_lt c
      · exact ke_tr (ke_lt c) (h1 z hz)
    · rename_i c
      refine es_cons.2 ⟨fun z hz => ?_, qin_sorted l x h2⟩
      rcases List.mem_cons.1 ((qin_perm l x).mem_iff.1 hz) with rfl | hz
      · exact c
      · exact h1 z hz
def qis (l : List QE) : List QE := l.foldl qin []
theorem qis_app (l : List QE) (x : QE) : qis (l ++ [x]) = qin (qis l) x := by
 unfold qis
 rw [List.foldl_append]
 rfl
theorem qfi_perm : ∀ (l r : List QE), (l.foldl qin r).Perm (r ++ l)
  | [], r => by rw [List.append_nil]; exact List.Perm.refl _
  | x :: l, r => by
    refine (qfi_perm l (qin r x)).trans ?_
    refine ((qin_perm r x).append_right l).trans ?_
    exact List.perm_middle.symm
theorem Zf3 (l : List QE) : (qis l).Perm l := qfi_perm l []
theorem qfi_sorted : ∀ (l r : List QE), ES r → ES (l.foldl qin r)
 | [], _, h => h
 | x :: l, r, h => qfi_sorted l _ (qin_sorted r x h)
theorem Zej (l : List QE) : ES (qis l) := qfi_sorted l [] List.Pairwise.nil
theorem qis_len (l : List QE) : (qis l).length = l.length := (Zf3 l).length_eq
end Ab
namespace Ab
open Go Go.RowKit Go.Proofs Hp
set_option maxRecDepth 100000
def QE.sm (e : QE) : Prop := (-1000000 ≤ e.a ∧ e.a ≤ 1000000) ∧ (-1000000 ≤ e.b ∧ e.b ≤ 1000000) ∧ -1000000 ≤ e.c ∧ e.c ≤ 1000000
def ordR (x y : QE) : Int := if x.a = y.a then (if x.b = y.b then x.c - y.c else x.b - y.b) else x.a - y.a
theorem Zfg (x y : QE) : ordR x y < 0 ↔ kl x.k y.k := by
 unfold ordR kl QE.k
 split
 ·split <;> simp only [] <;> omega
 ·simp only []; omega
theorem ordR_0 (x y : QE) : ordR x y = 0 ↔ x.k = y.k := by
 unfold ordR QE.k
 simp only [Prod.mk.injEq]
 split
 ·split <;> omega
 ·omega
theorem order_p {x y : QE} (hx : x.sm) (hy : y.sm) : PC Tryz.prog 64 [x.av, y.av] (iV (ordR x y)) := by
 obtain ⟨a, b, c, g, d, g', d', q⟩ := x
 obtain ⟨a2, b2, c2, g2, d2, g2', d2', q2⟩ := y
 obtain ⟨⟨h1, h2⟩, ⟨h3, h4⟩, h5, h6⟩ := hx
 obtain ⟨⟨k1, k2⟩, ⟨k3, k4⟩, k5, k6⟩ := hy
 simp only at h1 h2 h3 h4 h5 h6 k1 k2 k3 k4 k5 k6
 unfold ordR QE.av
 simp only []
 by_cases e1 : a = a2
 ·have b1 : (a != a2) = false := by simp [e1]
  rw [if_pos e1]
  by_cases e2 : b = b2
  ·have b3 : (b != b2) = false := by simp [e2]
   rw [if_pos e2]
   refine Zam true Tryz.func64 rfl rfl rfl (Nat.le_of_ble_eq_true rfl) Zao.tmp ?_
   refine goA ?_
   exact rfl
  ·have b3 : (b != b2) = true := by simp [e2]
   rw [if_neg e2]
   refine Zam true Tryz.func64 rfl rfl rfl (Nat.le_of_ble_eq_true rfl) Zao.tmp ?_
   refine goA ?_
   exact rfl
 ·have b1 : (a != a2) = true := by simp [e1]
  rw [if_neg e1]
  refine Zam true Tryz.func64 rfl rfl rfl (Nat.le_of_ble_eq_true rfl) Zao.tmp ?_
  refine goA ?_
  exact rfl
abbrev QL (l : List QE) : List (Nat × Blk) := [(0, .lst 7 54 (l.map QE.av))]
theorem Zc3 {p q : List QE} {x : QE} {j : Nat} (hj : p.length = j) : ((p ++ x :: q).map QE.av)[j]? = some x.av := by
 rw [List.map_append, List.map_cons]
 exact Zdp (by rw [List.length_map]; exact hj)
theorem av_get1 {p q : List QE} {x y : QE} {j : Nat} (hj : p.length = j) : ((p ++ x :: y :: q).map QE.av)[j + 1]? = some y.av := by
 rw [List.map_append, List.map_cons, List.map_cons]
 exact get_app1 (by rw [List.length_map]; exact hj)
theorem av_swap {p q : List QE} {x y : QE} {j : Nat} (hj : p.length = j) : (((p ++ x :: y :: q).map QE.av).set (j + 1) x.av).set j y.av = (p ++ y :: x :: q).map QE.av := by
 rw [List.map_append, List.map_cons, List.map_cons, List.map_append, List.map_cons, List.map_cons]
 exact set_swap (by rw [List.length_map]; exact hj)
set_option maxHeartbeats 8000000 in
theorem isort_p {n a b : Nat} {pre U post : List QE} (hn : (pre ++ (U ++ post)).length = n) (hn2 : n ≤ 1000000) (ha : pre.length = a) (hb : a + U.length = b) (hs : ∀ e, e ∈ U → e.sm) :
  PCM true Tryz.prog 123 [.own 0 n, .v (iV a), .v (iV b), .fn 64 []] (QL (pre ++ (U ++ post))) true (.v (.tup [])) (QL (pre ++ (qis U ++ post))) := by
 have hlen : pre.length + (U.length + post.length) = n := by rw [← hn]; simp
 refine Zbp Tryz.func123 rfl rfl rfl (Nat.le_of_ble_eq_true rfl) ?_
 refine goA ?_
 rcases U with _ | ⟨u, V⟩
 ·refine T.loop (fun N s1 => s1 = mkP [(0, .own 0 n), (1, .v (iV a)), (2, .v (iV b)), (3, .fn 64 []), (8, .v (iV ((a : Int) + 1)))] (QL (pre ++ ([] ++ post))) 53 true [0]) 0
   (s' := mkP [(0, .own 0 n), (1, .v (iV a)), (2, .v (iV b)), (3, .fn 64 []), (8, .v (iV ((a : Int) + 1)))] (QL (pre ++ ([] ++ post))) 53 true [0]) (by exact Za5) rfl ?_
  rintro _ _ rfl
  have hb1 : decide ((a : Int) + 1 < (b : Int)) = false := decide_eq_false (by simp at hb; omega)
  refine goA ?_
  exact ⟨.inl rfl, by exact Za5⟩
 simp only [List.length_cons] at hlen hb
 refine T.loop (fun N s1 => ∃ (D R : List QE) (i : Int), u :: V = D ++ R ∧ N = R.length ∧ i = (a : Int) + D.length ∧ s1 = mkP [(0, .own 0 n), (1, .v (iV a)), (2, .v (iV b)), (3, .fn 64 []), (8, .v (iV i))] (QL (pre ++ (qis D ++ (R ++ post)))) 53 true [0]) V.length
  (s' := mkP [(0, .own 0 n), (1, .v (iV a)), (2, .v (iV b)), (3, .fn 64 []), (8, .v (iV ((a : Int) + 1)))] (QL (pre ++ (qis [u] ++ (V ++ post)))) 53 true [0]) (by exact Za5) ⟨[u], V, (a : Int) + 1, rfl, rfl, rfl, rfl⟩ ?_
 rintro _ _ ⟨D, R, i, hU, rfl, hi, rfl⟩
 have hDR : V.length + 1 = D.length + R.length := by have := congrArg List.length hU; simpa using this
 rcases R with _ | ⟨x, R⟩
 ·have hb1 : decide (i < (b : Int)) = false := decide_eq_false (by simp at hDR; omega)
  rw [List.append_nil] at hU
  subst hU
  refine goA ?_
  exact ⟨.inl rfl, by exact Za5⟩
 have hb1 : decide (i < (b : Int)) = true := decide_eq_true (by simp at hDR; omega)
 have hxs : x.sm := hs x (by rw [hU]; simp)
 have hDs : ∀ e, e ∈ qis D → e.sm := fun e he => hs e (by rw [hU]; exact List.mem_append_left _ ((Zf3 D).mem_iff.1 he))
 have hql := qis_len D
 simp only [List.length_cons] at hDR
 refine goA ?_
 refine T.loop (fun N s1 => ∃ (S1 S2 : List QE) (j : Int), qis D = S1 ++ S2 ∧ N = S1.length ∧ (∀ y, y ∈ S2 → kl x.k y.k) ∧ j = (a : Int) + S1.length ∧ s1 = mkP [(0, .own 0 n), (1, .v (iV a)), (2, .v (iV b)), (3, .fn 64 []), (8, .v (iV i)), (9, .v (iV j))] (QL (pre ++ (S1 ++ x :: (S2 ++ (R ++ post))))) 53 true [0]) (qis D).length
  (s' := mkP [(0, .own 0 n), (1, .v (iV a)), (2, .v (iV b)), (3, .fn 64 []), (8, .v (iV i)), (9, .v (iV i))] (QL (pre ++ (qis D ++ x :: ([] ++ (R ++ post))))) 53 true [0]) (by exact Za5) ⟨qis D, [], i, (List.append_nil _).symm, rfl, fun y hy => (by cases hy), by omega, rfl⟩ ?_
 rintro _ _ ⟨S1, S2, j, hS, rfl, hgt, hj, rfl⟩
 have hSl : S1.length + S2.length = D.length := by rw [← hql, hS]; simp
 have hnx : i + 1 = (a : Int) + ((D ++ [x]).length : Nat) := by simp; omega
 rcases nil_or S1 with h0 | ⟨S, y, h0⟩
 ·subst h0
  have hb2 : decide (j > (a : Int)) = false := decide_eq_false (by simp at hj; omega)
  have e1 : qis (D ++ [x]) = x :: S2 := by rw [qis_app, hS]; exact qin_eq [] S2 x (fun y hy => (by cases hy)) hgt
  refine goA ?_
  exact Zae (k := R.length) (s' := mkP [(0, .own 0 n), (1, .v (iV a)), (2, .v (iV b)), (3, .fn 64 []), (8, .v (iV (i + 1)))] (QL (pre ++ (x :: S2 ++ (R ++ post)))) 53 true [0]) (by simp) (by exact Za5) ⟨D ++ [x], R, i + 1, by rw [hU, List.append_assoc]; rfl, rfl, hnx, by rw [e1]⟩
 subst h0
 simp only [List.length_append, List.length_cons, List.length_nil] at hSl hj
 have hb2 : decide (j > (a : Int)) = true := decide_eq_true (by omega)
 have hys : y.sm := hDs y (by rw [hS]; simp)
 have hL : pre ++ (S ++ [y] ++ x :: (S2 ++ (R ++ post))) = (pre ++ S) ++ y :: x :: (S2 ++ (R ++ post)) := by simp
 rw [hL]
 obtain ⟨P, hP⟩ : ∃ P, P = pre ++ S := ⟨_, rfl⟩
 have hPl : P.length = a + S.length := by rw [hP]; simp [ha]
 rw [← hP]
 have hQl : ((P ++ y :: x :: (S2 ++ (R ++ post))).map QE.av).length = n := by simp; omega
 have g0 : ((P ++ y :: x :: (S2 ++ (R ++ post))).map QE.av)[a + S.length]? = some y.av := Zc3 hPl
 have g1 : ((P ++ y :: x :: (S2 ++ (R ++ post))).map QE.av)[a + S.length + 1]? = some x.av := av_get1 hPl
 have gs : (((P ++ y :: x :: (S2 ++ (R ++ post))).map QE.av).set (a + S.length + 1) y.av).set (a + S.length) x.av = (P ++ x :: y :: (S2 ++ (R ++ post))).map QE.av := av_swap hPl
 have t1 : j.toNat = a + S.length + 1 := by omega
 have t2 : (j - 1).toNat = a + S.length := by omega
 have c1 := order_p hxs hys
 by_cases hlt : kl x.k y.k
 ·have hb3 : decide (ordR x y < 0) = true := decide_eq_true ((Zfg x y).2 hlt)
  refine goA ?_
  refine evG ggA (Zaf (Zaa rfl) (Zac rfl) rfl rfl hQl rfl (by omega) (by omega)) ?_
  rw [t1]
  refine evG ggA (Zah (Zaa rfl) (Zau rfl) rfl rfl hQl g1) ?_
  refine goA ?_
  refine evG ggA (Zaf (Zaa rfl) (Zac rfl) rfl rfl hQl rfl (by omega) (by omega)) ?_
  rw [t2]
  refine evG ggA (Zah (Zaa rfl) (Zau rfl) rfl rfl hQl g0) ?_
  refine goA ?_
  refine evG ggA (Zdz (Zaa rfl) rfl rfl rfl c1) ?_
  refine goA ?_
  refine evG ggA (Zaf (Zaa rfl) (Zac rfl) rfl rfl hQl rfl (by omega) (by omega)) ?_
  rw [t2]
  refine evG ggA (Zah (Zaa rfl) (Zau rfl) rfl rfl hQl g0) ?_
  refine goA ?_
  refine evG ggA (Zaf (Zaa rfl) (Zac rfl) rfl rfl hQl rfl (by omega) (by omega)) ?_
  rw [t1]
  refine evG ggA (Zah (Zaa rfl) (Zau rfl) rfl rfl hQl g1) ?_
  refine evG ggA (Zaf (Zaa rfl) (Zac rfl) rfl rfl hQl rfl (by omega) (by omega)) ?_
  rw [t1]
  refine evG ggA (Za8 (x := y.av) rfl (Zbj rfl) rfl rfl hQl (by omega) rfl rfl (fun l e => by cases e) rfl) ?_
  refine evG ggA (Zaf (Zaa rfl) (Zac rfl) rfl rfl (by rw [List.length_set]; exact hQl) rfl (by omega) (by omega)) ?_
  rw [t2]
  refine evG ggA (Za8 (x := x.av) rfl (Zbj rfl) rfl rfl (by rw [List.length_set]; exact hQl) (by omega) rfl rfl (fun l e => by cases e) rfl) ?_
  rw [gs]
  refine goA ?_
  have hL2 : P ++ x :: y :: (S2 ++ (R ++ post)) = pre ++ (S ++ x :: ((y :: S2) ++ (R ++ post))) := by rw [hP]; simp
  rw [hL2]
  exact Zae (k := S.length) (s' := mkP [(0, .own 0 n), (1, .v (iV a)), (2, .v (iV b)), (3, .fn 64 []), (8, .v (iV i)), (9, .v (iV (j - 1)))] (QL (pre ++ (S ++ x :: ((y :: S2) ++ (R ++ post))))) 53 true [0]) (by simp) (by exact Za5) ⟨S, y :: S2, j - 1, by rw [hS]; simp, rfl, fun z hz => by
   rcases List.mem_cons.1 hz with rfl | hz
   ·exact hlt
   ·exact hgt z hz, by omega, rfl⟩
 ·have hb3 : decide (ordR x y < 0) = false := decide_eq_false fun h => hlt ((Zfg x y).1 h)
  have e1 : qis (D ++ [x]) = (S ++ [y]) ++ x :: S2 := by
   rw [qis_app, hS]
   have hso : ES (S ++ [y]) := (Zfp.1 (by rw [← hS]; exact Zej D)).1
   refine qin_eq (S ++ [y]) S2 x (fun z hz => ?_) hgt
   exact ke_tr (es_last hso z hz) hlt
  refine goA ?_
  refine evG ggA (Zaf (Zaa rfl) (Zac rfl) rfl rfl hQl rfl (by omega) (by omega)) ?_
  rw [t1]
  refine evG ggA (Zah (Zaa rfl) (Zau rfl) rfl rfl hQl g1) ?_
  refine goA ?_
  refine evG ggA (Zaf (Zaa rfl) (Zac rfl) rfl rfl hQl rfl (by omega) (by omega)) ?_
  rw [t2]
  refine evG ggA (Zah (Zaa rfl) (Zau rfl) rfl rfl hQl g0) ?_
  refine goA ?_
  refine evG ggA (Zdz (Zaa rfl) rfl rfl rfl c1) ?_
  refine goA ?_
  have hL2 : P ++ y :: x :: (S2 ++ (R ++ post)) = pre ++ ((S ++ [y]) ++ x :: S2 ++ (R ++ post)) := by rw [hP]; simp
  rw [hL2, ← e1]
  exact Zae (k := R.length) (s' := mkP [(0, .own 0 n), (1, .v (iV a)), (2, .v (iV b)), (3, .fn 64 []), (8, .v (iV (i + 1)))] (QL (pre ++ (qis (D ++ [x]) ++ (R ++ post)))) 53 true [0]) (by simp) (by exact Za5) ⟨D ++ [x], R, i + 1, by rw [hU, List.append_assoc]; rfl, rfl, hnx, rfl⟩
def SortOK (N : Nat) : Prop := ∀ U : List QE, U.length ≤ N → (∀ e, e ∈ U → e.sm) → ∃ W, ES W ∧ W.Perm U ∧
 PCM true Tryz.prog 63 [.own 0 U.length, .fn 64 []] (QL U) true (.v (.tup [])) (QL W)
theorem stable20_p {U : List QE} (hU : U.length ≤ 20) (hs : ∀ e, e ∈ U → e.sm) : ∃ W, ES W ∧ W.Perm U ∧ PCM true Tryz.prog 98 [.own 0 U.length, .v (iV U.length), .fn 64 []] (QL U) true (.v (.tup [])) (QL W) := by
 by_cases h20 : U.length = 20
 ·-- sorted once as a block and once more as what is left (nothing)
  have c1 := isort_p (n := U.length) (a := 0) (b := 20) (pre := []) (U := U) (post := []) (by simp) (by omega) rfl (by omega) hs
  have c2 := isort_p (n := U.length) (a := 20) (b := 20) (pre := qis U) (U := []) (post := []) (by simp [qis_len]) (by omega) (by rw [qis_len, h20]) (by simp) (fun e he => by cases he)
  simp only [List.nil_append, List.append_nil] at c1 c2
  rw [show qis [] = [] from rfl, List.append_nil] at c2
  refine ⟨qis U, Zej U, Zf3 U, ?_⟩
  have hl : ((qis U).map QE.av).length = 20 := by rw [List.length_map, qis_len, h20]
  rw [h20] at c1 c2 ⊢
  generalize qis U = W at *
  refine Zbp Tryz.func98 rfl rfl rfl (Nat.le_of_ble_eq_true rfl) ?_
  refine goA ?_
  refine T.loop (fun N s1 => (N = 1 ∧ s1 = mkP [(0, .own 0 20), (1, .v (iV (20 : Nat))), (2, .fn 64 []), (6, .v (iV 20)), (7, .v (iV (0 : Nat))), (8, .v (iV 20))] (QL U) 63 true [0]) ∨ (N = 0 ∧ s1 = mkP [(0, .own 0 20), (1, .v (iV (20 : Nat))), (2, .fn 64 []), (6, .v (iV 20)), (7, .v (iV (20 : Nat))), (8, .v (iV 40))] (QL W) 63 true [0])) 1
   (s' := mkP [(0, .own 0 20), (1, .v (iV (20 : Nat))), (2, .fn 64 []), (6, .v (iV 20)), (7, .v (iV (0 : Nat))), (8, .v (iV 20))] (QL U) 63 true [0]) (by exact Za5) (.inl ⟨rfl, rfl⟩) ?_
  rintro _ _ (⟨rfl, rfl⟩ | ⟨rfl, rfl⟩)
  ·refine goA ?_
   refine evM (Zbs [(0, 0)] c1 rfl rfl rfl rfl rfl rfl ⟨rfl, trivial⟩ ⟨.inl rfl, trivial⟩ ?_)
   refine goA ?_
   exact Zae (k := 0) (s' := mkP [(0, .own 0 20), (1, .v (iV (20 : Nat))), (2, .fn 64 []), (6, .v (iV 20)), (7, .v (iV (20 : Nat))), (8, .v (iV 40))] (QL W) 63 true [0]) (by omega) (by exact Za5) (.inr ⟨rfl, rfl⟩)
  ·refine goA ?_
   refine evM (Zbs [(0, 0)] c2 rfl rfl rfl rfl rfl rfl ⟨rfl, trivial⟩ ⟨.inl rfl, trivial⟩ ?_)
   refine goA ?_
   refine T.loop (fun N s1 => s1 = mkP [(0, .own 0 20), (1, .v (iV (20 : Nat))), (2, .fn 64 []), (6, .v (iV 20))] (QL W) 63 true [0]) 0
    (s' := mkP [(0, .own 0 20), (1, .v (iV (20 : Nat))), (2, .fn 64 []), (6, .v (iV 20))] (QL W) 63 true [0]) (by exact Za5) rfl ?_
   rintro _ _ rfl
   refine goA ?_
   exact ⟨.inl rfl, by exact Za5⟩
 ·have c1 := isort_p (n := U.length) (a := 0) (b := U.length) (pre := []) (U := U) (post := []) (by simp) (by omega) rfl (by omega) hs
  simp only [List.nil_append, List.append_nil] at c1
  refine ⟨qis U, Zej U, Zf3 U, ?_⟩
  have hl : ((qis U).map QE.av).length = U.length := by rw [List.length_map, qis_len]
  generalize qis U = W at *
  obtain ⟨n, hn⟩ : ∃ n, n = U.length := ⟨_, rfl⟩
  rw [← hn] at c1 hl ⊢
  have b1 : decide ((20 : Int) ≤ (n : Int)) = false := decide_eq_false (by omega)
  have b2 : decide ((20 : Int) < (n : Int)) = false := decide_eq_false (by omega)
  refine Zbp Tryz.func98 rfl rfl rfl (Nat.le_of_ble_eq_true rfl) ?_
  refine goA ?_
  refine T.loop (fun N s1 => s1 = mkP [(0, .own 0 n), (1, .v (iV n)), (2, .fn 64 []), (6, .v (iV 20)), (7, .v (iV (0 : Nat))), (8, .v (iV 20))] (QL U) 63 true [0]) 0
   (s' := mkP [(0, .own 0 n), (1, .v (iV n)), (2, .fn 64 []), (6, .v (iV 20)), (7, .v (iV (0 : Nat))), (8, .v (iV 20))] (QL U) 63 true [0]) (by exact Za5) rfl ?_
  rintro _ _ rfl
  refine goA ?_
  refine evM (Zbs [(0, 0)] c1 rfl rfl rfl rfl rfl rfl ⟨rfl, trivial⟩ ⟨.inl rfl, trivial⟩ ?_)
  refine goA ?_
  refine T.loop (fun N s1 => s1 = mkP [(0, .own 0 n), (1, .v (iV n)), (2, .fn 64 []), (6, .v (iV 20))] (QL W) 63 true [0]) 0
   (s' := mkP [(0, .own 0 n), (1, .v (iV n)), (2, .fn 64 []), (6, .v (iV 20))] (QL W) 63 true [0]) (by exact Za5) rfl ?_
  rintro _ _ rfl
  refine goA ?_
  exact ⟨.inl rfl, by exact Za5⟩
theorem Zgx : SortOK 20 := fun U hU hs => by
 obtain ⟨W, h1, h2, c1⟩ := stable20_p hU hs
 refine ⟨W, h1, h2, ?_⟩
 have hl : (U.map QE.av).length = U.length := by rw [List.length_map]
 refine Zbp Tryz.func63 rfl rfl rfl (Nat.le_of_ble_eq_true rfl) ?_
 refine goA ?_
 refine evM (Zbs [(0, 0)] c1 rfl rfl rfl rfl rfl rfl ⟨rfl, trivial⟩ ⟨.inl rfl, trivial⟩ ?_)
 refine goA ?_
 exact ⟨.inl rfl, by exact Za5⟩
end Ab
namespace Ab
open Go Go.RowKit Go.Proofs Hp
set_option maxRecDepth 100000
def rnG : Go.Shelf.Ren := ⟨fun _ => 87, fun k => match k with | 0 => 0 | 3 => 3 | 4 => 4 | 9 => 9 | 20 => 20 | 22 => 29 | 25 => 54 | _ => 0, fun _ => 0⟩
theorem layG : Lays8.n4 Tryz.prog rnG := by
 constructor
 case f4 => exact ⟨Tryz.f87.name, by kernel_rfl, by kernel_rfl⟩
 all_goals first
  | kernel_rfl
  | (intro w; kernel_rfl)
theorem grow_p {n : Nat} (hn : n ≤ 1000000) : PCO Tryz.prog 87 [.p nilV, iV n] 7 54 [] := by
 refine ⟨Zc4 Tryz.func87 rfl rfl, fun w M hM vs hvs => ?_⟩
 obtain ⟨v, u, rfl, hv, hu⟩ := reps2 hvs
 rw [Rep.p_inv hv, Rep.p_inv hu]
 rcases Nat.eq_zero_or_pos n with h0 | h0
 ·subst h0
  refine (Any8.slices_Grow_room layG none 0 0 0 w (Nat.le_refl _) (by decide) (by decide) (Nat.le_refl _)).mono ?_
  rintro e w' ⟨rfl, rfl⟩
  exact ⟨_, rfl, Below.refl _ _, .inl ⟨rfl, rfl⟩⟩
 ·obtain ⟨-, i0, z, hi0, hs, hb, hz, hzl, -⟩ := Zga
  refine (Any8.slices_Grow_grow layG i0 z hi0 hz (by rw [hs]; decide) none 0 0 n [] w (Nat.le_refl _) (by omega) (by rw [hb]; omega) (by omega) (by simp) (fun _ => rfl) (fun a h => by cases h)).mono ?_
  rintro e w' ⟨rfl, rfl⟩
  have hzs : z.cells.size = 7 := by rw [← Array.length_toList, hzl]; rfl
  have hge := grownCap_ge w (0 + n) 0 (rnG.t 25)
  refine ⟨_, rfl, (Below.refl _ _).drew.alloc (Nat.le_refl _) _, .inr ⟨w.heap.size, grownCap w (0 + n) 0 (rnG.t 25), _, Nat.le_refl _, by simp, heap_alloc_new w.drew _, Nat.zero_le _, grownCap_le_maxLen w (0 + n) 0 _ (by unfold maxLen; omega), ?_, rfl, Zev fun u hu => ?_, fun i e he => by cases he⟩⟩
  ·simp only [Array.size_append, size_zeroCells, hzs]
   simp only [List.size_toArray, List.length_nil]
   omega
  ·simp only [Array.toList_append, List.mem_append] at hu
   have hzn : z.cells.toList.all nuV = true := by rw [hzl]; rfl
   rcases hu with (hu | hu) | hu
   ·cases hu
   ·exact zero_nu hzn (by omega) u hu
   ·exact zero_nu hzn (by omega) u hu
set_option maxHeartbeats 4000000 in
theorem clone_p (U : List QE) (hU : U.length ≤ 100000) : PCO Tryz.prog 62 [.sl (U.map QE.av)] 7 54 (U.map QE.av) := by
 have hc7 : ∀ a, a ∈ U.map QE.av → a.cells.length = 7 := fun a ha => by obtain ⟨e, -, rfl⟩ := List.mem_map.1 ha; rfl
 have hnu : ∀ a, a ∈ U.map QE.av → ∀ c, c ∈ a.cells → c.nu = true := fun a ha => by
  obtain ⟨e, -, rfl⟩ := List.mem_map.1 ha
  exact List.all_eq_true.1 (show (QE.av e).cells.all AV.nu = true from rfl)
 have hl : (U.map QE.av).length ≤ 100000 := by simpa using hU
 generalize U.map QE.av = xs at *
 refine pc_bodyO (t := 2) (id := 100) Tryz.func62 rfl rfl rfl (Nat.le_of_ble_eq_true rfl) ?_
 refine goA ?_
 refine evM (ms_eqnil rfl sl_QuasiPoly rfl fun b hb => ?_)
 refine goA ?_
 refine T.cond rfl (fun hbt => ?_) (fun hbf => ?_)
 ·have hx : xs = [] := by
   cases xs with
   | nil => rfl
   | cons x xs => have := hb (fun e => by cases e); rw [this] at hbt; cases hbt
  subst hx
  refine T.weak (s' := mkS [(0, .v (.sl [])), (2, .v (.p nilV))] [] 8 true) (by exact entA) ?_
  refine T.seq ?_
  refine regA ?_
  refine runA ?_
  refine Za1 ?_
  refine Zbx ?_
  refine T.weak (s' := mkS [(2, .own 100 0)] [(100, .lst 7 54 [])] 8 true) (by exact entA) ?_
  refine goA ?_
  exact ⟨.inr rfl, rfl, rfl, rfl⟩
 ·refine goA ?_
  refine evG ggA (Zb8 100 (xs := []) (Zaa rfl) rfl (Zak rfl) rfl rfl rfl rfl (fun x hx => by cases hx) (Nat.le_of_ble_eq_true rfl) (by decide) (fun _ a ha => by cases ha)) ?_
  refine goA ?_
  refine evG ggA (Zce (Zaa rfl) (Zak rfl) rfl rfl rfl rfl hc7 (by decide) (by unfold maxLen; simp; omega) (by simp; omega) rfl (fun _ => hnu)) ?_
  refine goA ?_
  exact ⟨.inr rfl, rfl, by simp [AS.act, AS.put, updo, upd], by simp [AS.act, mact, upd]⟩
end Ab
