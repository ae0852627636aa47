/- More steps: calls of function values, parts of elements of own lists, a list held against nil, Grow of nothing. -/
import Derived.Test.YtkbccidalhefaaaFn
import Derived.Lib.SliceRun
set_option linter.all false
namespace Ab
open Go Go.RowKit Go.Proofs
section
variable {dm : Bool} {P : Program} {ops : Array Oper} {s : AS} {dst : Option Tmp} {ty : TypeId} {pos : String} {after : Array Edge} {g : Option (Nat × Bool)}
/-- a call of a function value that catches nothing -/
theorem ss_callV {f : FuncId} {y : Operand} {l : List Operand} {ts : Array TypeId} {avs : List AV} {r : AV} (hin : InB s dst) (hnd : (!dm || s.nd) = true) (hy : s.ev y = some (.fn f [])) (ha : evArgs s l = some avs) (hc : PCD dm P f avs r) :
    SStep dm P ops ⟨dst, .call ⟨.value y, l.toArray, ts⟩, ty, pos, after, g⟩ s (.v r) .none := by
  refine ⟨fun id b h => (by cases h), fun id b h => (by cases h), fun s' hag _ w0 M0 a w hM hr next Q hn => ?_⟩
  obtain ⟨ρ, hr⟩ := hr
  obtain ⟨⟨fn, h1, h2, h3⟩, hc⟩ := hc
  have hreps := evArgs_reps (s := s) hr l (fun x hx => hag.ev (by simp [Op.operands, Call.operands, hx])) avs ha
  have hcall := hc w _ (okm_of hM hr (by rw [hag.nd]; exact hnd)) _ hreps
  obtain ⟨cv, e1, e2, -⟩ := hr.ev ((hag.ev (y := y) (by simp [Op.operands, Call.operands])).trans hy)
  have e2 : cv = #[] := by simpa using e2
  subst e2
  have hrun : (execOp a.eval ⟨dst, .call ⟨.value y, l.toArray, ts⟩, ty, pos, after, g⟩).run P w = .ok (.enter f (l.map a.eval).toArray) w := by
    simp only [execOp, resolve, Deferred.ofValue, e1, invoke, callFunc, Sem.run_bind, Sem.run_pure, Result.andThen_ok, run_program, h1, h2, h3, Bool.false_eq_true, if_false, List.map_toArray, Array.append_empty, Array.empty_append]
    first | done | rfl
  unfold Oper.wp
  rw [hrun, Oper.upon_enter]
  refine hcall.mono fun e w' he => ?_
  obtain ⟨v, rfl, hb, hv⟩ := he
  exact hn _ _ ⟨ρ, (hr.ext hb).put (hin.agree hag) hv⟩
/-- a part of an element of an own list -/
theorem ss_load_oppart {t : TypeId} {y : Operand} {id m i o n p : Nat} {et : TypeId} {es : List AV} {e : AV} {l : List AV} (hin : InB s dst) (ht : AggT P t p) (hy : s.ev y = some (.op id m i o)) (hm : s.m id = some (.lst n et es)) (hlen : es.length = m) (he : es[i]? = some e) (hl : (e.cells.drop o).take p = l) (hp : l.length = p) :
    SStep dm P ops ⟨dst, .load t y, ty, pos, after, g⟩ s (.v (.agg l)) .none :=
  ss_pure hin fun s' hag w0 M0 ρ a w _ hr => by
    have hm' := hag.ms _ rfl id (by rw [hy]; rfl) _ hm
    obtain ⟨sz', et', es', h4, h5, b, bo, h8, h6⟩ := hr.ev ((hag.ev (by simp [Op.operands])).trans hy)
    rw [hm'] at h4
    injection h4 with h4
    injection h4 with e1 e2 e3
    subst e1 e2 e3
    obtain ⟨rfl, k, h7⟩ := h6 hlen
    have hat : ∀ (j : Nat) c, l[j]? = some c → e.cells[o + j]? = some c := fun j c hj => by
      have hjp : j < p := by rw [← hp]; exact (List.getElem?_eq_some_iff.1 hj).1
      rw [← hl, List.getElem?_take_of_lt hjp, List.getElem?_drop] at hj
      exact hj
    have key : ∀ (j : Nat) c, l[j]? = some c → c.one = true ∧ ∃ v, w.cell? ⟨b, i * n + o + j, none⟩ = some v ∧ Rep w (MM M0 ρ s'.m) c v := fun j c hj => by
      have := own_cell hr hm' h7 he (hat j c hj)
      rw [← Nat.add_assoc] at this
      exact this
    let vs : List Value := (List.range p).map fun j => (w.cell? ⟨b, i * n + o + j, none⟩).getD undef
    have hlen' : vs.length = p := by simp [vs]
    have hvs : ∀ j, j < p → vs[j]? = w.cell? ⟨b, i * n + o + j, none⟩ := fun j hj => by
      obtain ⟨-, v, h9, -⟩ := key j l[j] (by simp [hp, hj])
      simp [vs, hj, h9]
    refine ⟨.agg vs.toArray, ?_, .agg _ _ (by simp [hlen', hp]) (fun c hc => ?_) (fun i' c v h9 h10 => ?_)⟩
    · have := run_load_agg (P := P) (w := w) (b := b) (o := i * n + o) ht vs hlen' (fun j v hj => by
        have hjn : j < p := by rw [← hlen']; exact (List.getElem?_eq_some_iff.1 hj).1
        rw [← hvs j hjn]; exact hj)
      simp [execOp, h8, this]
    · obtain ⟨j, hj⟩ := List.getElem?_of_mem hc
      exact (key j c hj).1
    · obtain ⟨-, u, h11, h12⟩ := key i' c h9
      have hin' : i' < p := by rw [← hp]; exact (List.getElem?_eq_some_iff.1 h9).1
      have : vs[i']? = some v := by simpa using h10
      rw [hvs i' hin', h11] at this
      injection this with this
      subst this
      exact h12
/-- a part of an element of an own list is written -/
theorem ss_store_oppart {t : TypeId} {p n : Nat} {y z : Operand} {id m i o : Nat} {et : TypeId} {es : List AV} {e x : AV} {cs : List AV} (hd : dst = none) (ht : SizeT P t p) (hy : s.ev y = some (.op id m i o)) (hm : s.m id = some (.lst n et es)) (hlen : es.length = m) (he : es[i]? = some e) (hz : s.ev z = some (.v x)) (hxn : x.cells.length = p) (hx : ∀ l, x ≠ .tup l) (hn : (!s.nd || x.cells.all AV.nu) = true) (hen : e.cells.length = n) (hop : o + p ≤ n) (hcs : e.cells.take o ++ x.cells ++ e.cells.drop (o + p) = cs) :
    SStep dm P ops ⟨dst, .store t y z, ty, pos, after, g⟩ s (.v (.tup [])) (.set id (.lst n et (es.set i (.agg cs)))) := by
  subst hd
  refine ⟨fun id b h => (by cases h), fun i b h => (by injection h with h1 hblk; subst h1; exact ⟨rfl, ⟨_, hm⟩, fun y h => by injection h with h2; subst h2; rw [hy]; rfl, fun _ y h => by rw [hm] at h; injection h with h; rw [← h, ← hblk]; simp only [dims, List.length_set]⟩), fun s' hag _ w0 M0 a w hM hr next Q hnx => ?_⟩
  obtain ⟨ρ, hr⟩ := hr
  have hm' := hag.ms _ rfl id (by rw [hy]; rfl) _ hm
  obtain ⟨sz', et', es', h4, h5, b, bo, h2, h6⟩ := hr.ev ((hag.ev (by simp [Op.operands])).trans hy)
  rw [hm'] at h4
  injection h4 with h4
  injection h4 with e1 e2 e3
  subst e1 e2 e3
  obtain ⟨rfl, k, h1⟩ := h6 hlen
  have hi : i < m := by rw [← hlen]; exact (List.getElem?_eq_some_iff.1 he).1
  have h3 : Rep w (MM M0 ρ s'.m) x (a.eval z) := hr.ev ((hag.ev (by simp [Op.operands])).trans hz)
  obtain ⟨c1, c2⟩ := Rep.cells h3 hx
  have c3 := Rep.ones h3 hx
  have c4 : ∀ u, u ∈ (a.eval z).cells.toList → u.oneCell' = true := fun u hu => by
    obtain ⟨j, hj⟩ := List.getElem?_of_mem hu
    have hjl : j < x.cells.length := by rw [← c1]; simpa using (List.getElem?_eq_some_iff.1 hj).1
    obtain ⟨u', h7, h8⟩ := c2 j x.cells[j] (by simp [hjl])
    rw [Array.getElem?_toList, h7] at hj
    injection hj with hj
    subst hj
    exact Rep.oneCell h8 (c3 _ (List.getElem_mem hjl))
  rcases hr.slots id _ hm' with ⟨g1, -⟩ | ⟨b', cap, row, g1, g2, g3, g4, g5, g6, g7⟩
  · rw [h1] at g1; cases g1
  rw [h1] at g1
  injection g1 with g1
  injection g1 with e1 e2
  subst e1 e2
  have hvl : (a.eval z).cells.toList.length = p := by rw [Array.length_toList, c1, hxn]
  have hin : i * n + o + p ≤ row.size := by
    rw [g5]
    have : (i + 1) * n ≤ k * n := Nat.mul_le_mul_right _ (by omega)
    rw [Nat.add_mul, Nat.one_mul] at this
    omega
  have hfit' : i * n + o + (a.eval z).cells.toList.length ≤ row.toList.length := by rw [hvl, Array.length_toList]; exact hin
  have hrun := run_store (P := P) (w := w) (b := b) (o := i * n + o) (v := a.eval z) ht g2 (c1.trans hxn) hin c4
  unfold Oper.wp
  have hexec : (execOp a.eval ⟨none, .store t y z, ty, pos, after, g⟩).run P w = .ok .skip (w.setRow b (row.toList.take (i * n + o) ++ (a.eval z).cells.toList ++ row.toList.drop (i * n + o + (a.eval z).cells.toList.length)).toArray) := by
    simp only [execOp, h2]
    rw [Sem.run_bind, hrun]
    rfl
  rw [hexec]
  have hcl : cs.length = n := by rw [← hcs]; simp [hxn, hen]; omega
  have hcat : ∀ (j : Nat) c, cs[j]? = some c → if j < o then e.cells[j]? = some c else if j < o + p then x.cells[j - o]? = some c else e.cells[j]? = some c := fun j c hj => by
    rw [← hcs] at hj
    have lo : (e.cells.take o).length = o := by rw [List.length_take]; omega
    by_cases c1 : j < o
    · rw [if_pos c1]
      rw [List.append_assoc, List.getElem?_append_left (by omega), List.getElem?_take_of_lt c1] at hj
      exact hj
    · rw [if_neg c1]
      by_cases c2 : j < o + p
      · rw [if_pos c2]
        rw [List.append_assoc, List.getElem?_append_right (by omega), lo, List.getElem?_append_left (by omega)] at hj
        exact hj
      · rw [if_neg c2]
        rw [List.getElem?_append_right (by rw [List.length_append, lo]; omega), List.length_append, lo, hxn, List.getElem?_drop, show o + p + (j - (o + p)) = j by omega] at hj
        exact hj
  refine hnx _ _ ⟨_, hr.set (y := .lst n et (es.set i (.agg cs))) (r := some (b, k)) hM hm' (by simp) (fun c hc hne => setRow_other w b c _ (fun e => hne k (by rw [h1, e]))) rfl rfl rfl (fun c l e => ?_) (fun cs' e => by cases e) (fun sz ty es0 e => ?_) (fun M' m' hk hmv hM' => ?_)⟩
  · injection e with e; injection e with e1 e2; subst e1; exact .inl ⟨k, h1⟩
  · injection e with e1 e2 e3
    subst e1 e2 e3
    exact ⟨_, rfl, fun _ => h1.symm, by simp⟩
  · refine .inr ⟨b, k, _, beq_ite, setRow_heap w b row _ _ _ g2, by simpa using g3, g4, ?_, fun q e' he' => ?_, fun hnd => ?_⟩
    · rw [List.size_toArray, splice_len hfit', Array.length_toList, g5]
    · by_cases hq : q = i
      · subst hq
        have : e' = .agg cs := by
          have hl : q < es.length := by omega
          simp [hl] at he'; exact he'.symm
        subst this
        refine ⟨hcl, fun j c hj => ?_⟩
        have hj : cs[j]? = some c := hj
        have hjn : j < n := by rw [← hcl]; exact (List.getElem?_eq_some_iff.1 hj).1
        have hx2 := hcat j c hj
        obtain ⟨-, g8⟩ := g6 q e he
        by_cases d1 : j < o
        · rw [if_pos d1] at hx2
          obtain ⟨h9, u, h10, h11⟩ := g8 j c hx2
          refine ⟨h9, u, ?_, Rep.mono hk hM' h11⟩
          rw [List.getElem?_toArray, splice_get hfit', if_pos (by omega), Array.getElem?_toList]
          exact h10
        · rw [if_neg d1] at hx2
          by_cases d2 : j < o + p
          · rw [if_pos d2] at hx2
            obtain ⟨u, h7, h8⟩ := c2 (j - o) c hx2
            refine ⟨c3 c (List.mem_of_getElem? hx2), u, ?_, Rep.mono hk hM' h8⟩
            rw [List.getElem?_toArray, splice_get hfit', hvl, if_neg (by omega), if_pos (by omega), Array.getElem?_toList]
            rw [show q * n + j - (q * n + o) = j - o by omega]; exact h7
          · rw [if_neg d2] at hx2
            obtain ⟨h9, u, h10, h11⟩ := g8 j c hx2
            refine ⟨h9, u, ?_, Rep.mono hk hM' h11⟩
            rw [List.getElem?_toArray, splice_get hfit', hvl, if_neg (by omega), if_neg (by omega), Array.getElem?_toList]
            exact h10
      · rw [List.getElem?_set_ne (Ne.symm hq)] at he'
        obtain ⟨h7, h8⟩ := g6 q e' he'
        refine ⟨h7, fun j c hj => ?_⟩
        have hjn : j < n := by rw [← h7]; exact (List.getElem?_eq_some_iff.1 hj).1
        obtain ⟨h9, u, h10, h11⟩ := h8 j c hj
        refine ⟨h9, u, ?_, Rep.mono hk hM' h11⟩
        rw [List.getElem?_toArray, splice_get hfit', hvl]
        rcases Nat.lt_or_gt_of_ne hq with hlt | hgt
        · have : (q + 1) * n ≤ i * n := Nat.mul_le_mul_right _ hlt
          rw [Nat.add_mul, Nat.one_mul] at this
          rw [if_pos (by omega), Array.getElem?_toList]; exact h10
        · have : (i + 1) * n ≤ q * n := Nat.mul_le_mul_right _ hgt
          rw [Nat.add_mul, Nat.one_mul] at this
          rw [if_neg (by omega), if_neg (by omega), Array.getElem?_toList]; exact h10
    · have hnd' := hnd
      rw [hag.nd] at hnd
      rw [hnd] at hn
      simp only [Bool.not_true, Bool.false_or, List.all_eq_true] at hn
      have hold := of_noDg (g7 hnd')
      refine noDg_of fun u hu => ?_
      simp only [List.mem_append] at hu
      rcases hu with (hu | hu) | hu
      · exact hold u (List.mem_of_mem_take hu)
      · obtain ⟨j, hj⟩ := List.getElem?_of_mem hu
        have hjl : j < x.cells.length := by rw [hxn, ← hvl]; exact (List.getElem?_eq_some_iff.1 hj).1
        obtain ⟨u', h7, h9⟩ := c2 j x.cells[j] (by simp [hjl])
        rw [Array.getElem?_toList, h7] at hj
        injection hj with hj
        subst hj
        exact Rep.nu h9 (hn _ (List.getElem_mem hjl))
      · exact hold u (List.mem_of_mem_drop hu)
/-- a list held against nil: what comes out is known of lists with elements -/
theorem ms_eqnil {t e yt : TypeId} {y : Operand} {l : List AV} {K : AS → Prop} (hin : inbB s dst = true) (ht : P.underlying t = some (.slice e)) (hy : s.ev y = some (.v (.sl l)))
    (k : ∀ b : Bool, (l ≠ [] → b = false) → K (s.act dst (.v (.p (.bool b))) .none)) : MStep dm P ops ⟨dst, .binOp .eql t y (.const nilV) yt, ty, pos, after, none⟩ s K := by
  intro w0 M0 hM a w hrel next Q hn
  obtain ⟨ρ, hr⟩ := hrel
  rw [if_pos (show Region.wanted _ (yielded ops a.tmps) = true from rfl)]
  obtain ⟨ad, cap, h1, -, h3⟩ := sl_inv (hr.ev hy)
  have hrun : (execOp a.eval ⟨dst, .binOp .eql t y (.const nilV) yt, ty, pos, after, none⟩).run P w = .ok (.value (.bool ad.isNone)) w := by
    have h5 : a.eval (.const nilV) = .slice none 0 0 := rfl
    simp only [execOp, h1, h5]
    rw [Sem.run_bind, Sem.run_bind]
    simp only [eqGuard]
    simp [Lib.run_eql_slice_nil w t e ad l.length cap 0 0 ht]
  unfold Oper.wp
  rw [hrun]
  refine hn _ _ _ (k ad.isNone fun hl => ?_) ⟨ρ, hr.put (InB_of hin) (.p _ rfl)⟩
  rcases h3 with h3 | ⟨b, off, sz, rfl, -⟩
  · exact absurd h3 hl
  · rfl
/-- a call whose result is a list of the caller's own, by its arguments as they are -/
theorem ms_callO (oid : Nat) {f : FuncId} {l : List Operand} {ts : Array TypeId} {args : List AV} {sz : Nat} {et : TypeId} {es : List AV} {K : AS → Prop} (hin : inbB s dst = true) (hnd : s.nd = true) (ha : l.map s.ev = args.map (fun a => some (TV.v a))) (hc : PCO P f args sz et es) (hm : s.m oid = none)
    (k : K (s.act dst (.own oid es.length) (.new oid (.lst sz et es)))) : MStep true P ops ⟨dst, .call ⟨.value (.func f), l.toArray, ts⟩, ty, pos, after, none⟩ s K := by
  intro w0 M0 hM a w hrel next Q hn
  obtain ⟨ρ, hr⟩ := hrel
  rw [if_pos (show Region.wanted _ (yielded ops a.tmps) = true from rfl)]
  obtain ⟨⟨fn, h1, h2, h3⟩, hc⟩ := hc
  have hreps : Reps w (MM M0 ρ s.m) args (l.map a.eval) := by
    clear hc k
    induction l generalizing args with
    | nil =>
      cases args with
      | nil => exact .nil
      | cons => cases ha
    | cons x l ih =>
      cases args with
      | nil => cases ha
      | cons b args =>
        simp only [List.map_cons, List.cons.injEq] at ha
        exact .cons _ _ _ _ (hr.ev ha.1) (ih ha.2)
  have hcall := hc w _ (okm_of hM hr (by rw [hnd]; rfl)) _ hreps
  have hrun : (execOp a.eval ⟨dst, .call ⟨.value (.func f), l.toArray, ts⟩, ty, pos, after, none⟩).run P w = .ok (.enter f (l.map a.eval).toArray) w := by
    simp only [execOp, resolve, Deferred.ofValue, invoke, callFunc, Sem.run_bind, Sem.run_pure, Result.andThen_ok, run_program, h1, h2, h3, Act.eval, Bool.false_eq_true, if_false, List.map_toArray, Array.append_empty, Array.empty_append]
    first | done | rfl
  unfold Oper.wp
  rw [hrun, Oper.upon_enter]
  refine hcall.mono fun e w' he => ?_
  obtain ⟨v, rfl, hb, hv⟩ := he
  refine hn _ _ _ k ?_
  rcases hv with ⟨rfl, rfl⟩ | ⟨b, kk, row, g1, g2, g3, g4, g5, g6, rfl, g7, g8⟩
  · have hq := hr.newO (r := none) hb hm (x := .lst sz et []) (fun b k e => by cases e) (.inl ⟨by simp, rfl⟩)
    refine ⟨_, RelR.put (s := { s with m := upd s.m oid (.lst sz et []) }) hq (InB_of hin) ?_⟩
    exact ⟨sz, et, [], upd_same _ _ _, Nat.le_refl _, ⟨_, _, _, rfl⟩, fun _ => .inl ⟨by simp, rfl, rfl⟩⟩
  · have hq := hr.newO (r := some (b, kk)) hb hm (x := .lst sz et es) (fun b' k' e => by injection e with e; injection e with e1 e2; subst e1 e2; exact ⟨g1, g2⟩) (.inr ⟨b, kk, row, by simp, g3, g4, g5, g6, fun i e he => ?_, fun _ => g7⟩)
    · refine ⟨_, RelR.put (s := { s with m := upd s.m oid (.lst sz et es) }) hq (InB_of hin) ?_⟩
      exact ⟨sz, et, es, upd_same _ _ _, Nat.le_refl _, ⟨_, _, _, rfl⟩, fun _ => .inr ⟨b, kk, by simp, rfl⟩⟩
    · obtain ⟨p1, p2⟩ := g8 i e he
      refine ⟨p1, fun j cc hj => ?_⟩
      obtain ⟨q1, x, q2, q3⟩ := p2 j cc hj
      refine ⟨q1, x, q2, Rep.mono (Keeps.refl _ _) (fun b' _ hh => ?_) q3⟩
      rcases hh with hh | ⟨i', k', p3, p4⟩
      · exact .inl (.inl hh)
      · by_cases hi : i' = oid
        · subst hi
          simp at p4
          exact .inr p4.1.symm
        · have hne : Nat.beq oid i' = false := by
            cases e : Nat.beq oid i' with
            | false => rfl
            | true => exact absurd (Nat.eq_of_beq_eq_true e).symm hi
          simp only [hne, cond_false] at p4
          rw [upd_ne _ _ (Ne.symm hi)] at p3
          exact .inl (.inr ⟨i', k', p3, p4⟩)
end
end Ab
