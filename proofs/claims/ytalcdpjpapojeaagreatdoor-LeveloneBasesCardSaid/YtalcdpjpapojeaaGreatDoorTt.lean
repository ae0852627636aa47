/- A drawn region whose last operation waits for all others. -/
import Derived.Test.YtalcdpjpapojeaaGreatDoorWo
set_option linter.all false
namespace Ab
open Go Go.RowKit Go.Proofs
variable {dm : Bool}
section
variable {P : Program} {l : List Oper} {o : Oper} {x : Nat → TV} {e : Nat → Eff} {s : AS} {A : Array Nat}
end
end Ab

namespace Ab
open Go Go.RowKit Go.Proofs
variable {dm : Bool}
def TLies (w : World) (M : Nat → Prop) (ρ : Nat → Option (Nat × Nat)) (m : Nat → Option Blk) (cs : List TV) (get : Nat → Option Value) : Prop := ∀ (j : Nat) c, cs[j]? = some c → ∃ v, get j = some v ∧ v.oneCell' = true ∧ TRep w M ρ m c v
theorem TLies.app {w : World} {M : Nat → Prop} {ρ : Nat → Option (Nat × Nat)} {m : Nat → Option Blk} {cs xs : List TV} {row : Array Value} {A news C : List Value} (h : TLies w M ρ m cs (fun k => row[k]?)) (hx : TLies w M ρ m xs (fun k => news[k]?)) (hA : A.length = cs.length) (hAk : ∀ k, k < cs.length → A[k]? = row[k]?) :
  TLies w M ρ m (cs ++ xs) (fun k => (A ++ (news ++ C)).toArray[k]?) := by
 intro j c hj
 by_cases hq : j < cs.length
 ·rw [List.getElem?_append_left hq] at hj
  obtain ⟨v, h1, h2, h3⟩ := h j c hj
  refine ⟨v, ?_, h2, h3⟩
  show (A ++ (news ++ C)).toArray[j]? = some v
  rw [List.getElem?_toArray, List.getElem?_append_left oM, hAk _ hq]
  exact h1
 ·rw [List.getElem?_append_right oM] at hj
  obtain ⟨v, h1, h2, h3⟩ := hx _ c hj
  have h1 : news[j - cs.length]? = some v := h1
  refine ⟨v, ?_, h2, h3⟩
  show (A ++ (news ++ C)).toArray[j]? = some v
  rw [List.getElem?_toArray, List.getElem?_append_right oM, hA, List.getElem?_append_left (List.getElem?_eq_some_iff.1 h1).1]
  exact h1
section
variable {P : Program} {ops : Array Oper} {s : AS} {dst : Option Tmp} {ty : TypeId} {pos : String} {after : Array Edge} {g : Option (Nat × Bool)}
theorem Zb6 {ts : Array TypeId} {t e : TypeId} {y : Operand} {id n : Nat} {et : TypeId} {cs : List TV} (hin : InB s dst) (ht : ts[0]? = some t) (hu : P.underlying t = some (.slice e)) (hy : s.ev y = some (.ot id n)) (hm : s.m id = some (.tl et cs)) (hn : cs.length = n) : Za9 dm P ops ⟨dst, .call ⟨.builtin .len, #[y], ts⟩, ty, pos, after, g⟩ s (.v (iV n)) .none :=
 Za6 hin fun s' hag w0 M0 ρ a w _ hr => by
  obtain ⟨et', cs', h1, h2, -, h3⟩ := hr.ev ((hag.ev (by simp [Op.operands, Call.operands])).trans hy)
  obtain ⟨x', g1, g2⟩ := hag.ml rfl (by show (!ownTV (s.ev y)) = false; rw [hy]; rfl) id _ hm
  rw [g1] at h1
  injection h1 with h1
  subst h1
  injection g2 with g2
  have hn : cs'.length = n := (congrArg (fun x : Nat × TypeId × Nat => x.2.2) g2).trans hn
  refine ⟨.int .i64 n, ?_, .p _ rfl⟩
  rcases h3 hn with ⟨-, rfl, h4⟩ | ⟨b, k, -, h4⟩
  ·simp [execOp, resolve, invoke, builtin, h4, Builtin.len_, ht, run_underlying hu, goInt]
  ·simp [execOp, resolve, invoke, builtin, h4, Builtin.len_, ht, run_underlying hu, goInt]
theorem Za7 {t e : TypeId} {y z : Operand} {k : IntKind} {i : Int} {id m : Nat} {et : TypeId} {cs : List TV} (hin : InB s dst) (ht : ElemT P t e 1) (hy : s.ev y = some (.ot id m)) (hm : s.m id = some (.tl et cs)) (hlen : cs.length = m) (hz : s.ev z = some (.v (.p (.int k i)))) (h0 : 0 ≤ i) (hi : i < m) :
  Za9 dm P ops ⟨dst, .indexAddr t y z, ty, pos, after, g⟩ s (.opt id m i.toNat) .none :=
 Za6 hin fun s' hag w0 M0 ρ a w _ hr => by
  obtain ⟨h1, ei, h2, h3⟩ := ht
  obtain ⟨et', cs', h4, h5, -, h6⟩ := hr.ev ((hag.ev (by simp [Op.operands])).trans hy)
  obtain ⟨x', g1, g2⟩ := hag.ml rfl (by show (!ownTV (s.ev y)) = false; rw [hy]; rfl) id _ hm
  have hm' := g1
  rw [hm'] at h4
  injection h4 with h4
  subst h4
  injection g2 with g2
  have hlen : cs'.length = m := (congrArg (fun x : Nat × TypeId × Nat => x.2.2) g2).trans hlen
  have h7 := Rep.p_inv (hr.ev ((hag.ev (by simp [Op.operands])).trans hz))
  rcases h6 hlen with ⟨-, h8, -⟩ | ⟨b, kk, h8, h9⟩
  ·omega
  ·refine ⟨.pointer (some ⟨b, i.toNat, none⟩), ?_, et', cs', hm', oM, b, i.toNat, rfl, fun _ => ⟨rfl, kk, h8⟩⟩
   have hi' : 0 ≤ i ∧ i < (m : Int) := ⟨h0, hi⟩
   simp [execOp, h9, h7, Instr.indexAt, asIntOf, run_underlying h1, hi', Go.sizeOf, typeInfo, h2, h3, addr_add]
theorem Zba {t : TypeId} {y : Operand} {id m i : Nat} {et : TypeId} {cs : List TV} {c : TV} (hin : InB s dst) (ht : OneT P t) (hy : s.ev y = some (.opt id m i)) (hm : s.m id = some (.tl et cs)) (hlen : cs.length = m) (hx : cs[i]? = some c) : Za9 dm P ops ⟨dst, .load t y, ty, pos, after, g⟩ s c .none :=
 Za6 hin fun s' hag w0 M0 ρ a w _ hr => by
  have hm' := hag.ms _ rfl id (by rw [hy]; rfl) _ hm
  obtain ⟨et', cs', h4, h5, b, bo, h8, h6⟩ := hr.ev ((hag.ev (by simp [Op.operands])).trans hy)
  rw [hm'] at h4
  injection h4 with h4
  injection h4 with e1 e2
  subst e1 e2
  obtain ⟨rfl, k, h7⟩ := h6 hlen
  rcases hr.slots id _ hm' with ⟨h1, -⟩ | ⟨b', cap, row, h1, h2, h3, -, -, h9, -⟩
  ·rw [h7] at h1; cases h1
  rw [h7] at h1
  injection h1 with h1
  injection h1 with e1 e2
  subst e1 e2
  obtain ⟨v, h10, h11, h12⟩ := h9 _ c hx
  refine ⟨v, ?_, h12⟩
  have := Zd7 (P := P) (w := w) (b := b) (o := bo) ht (v := v) (by simp [World.cell?, h2, h10])
  simp [execOp, h8, this]
theorem ss_store_opt {t : TypeId} {y z : Operand} {id m i : Nat} {et : TypeId} {cs : List TV} {x c : TV} (hd : dst = none) (ht : SizeT P t 1) (hy : s.ev y = some (.opt id m i)) (hm : s.m id = some (.tl et cs)) (hlen : cs.length = m) (hi : i < m) (hz : s.ev z = some x) (hx : Zcd x = some [c]) (hn : (!s.nd || c.nu) = true) :
  Za9 dm P ops ⟨dst, .store t y z, ty, pos, after, g⟩ s (.v (.tup [])) (.set id (.tl et (cs.set i c))) := by
 subst hd
 refine ⟨fun id b h => (by cases h), fun i b h => (by injection h with h1 hblk; subst h1; exact ⟨rfl, ⟨_, hm⟩, fun y h => by injection h with h2; subst h2; rw [hy]; rfl, fun _ y h => by rw [hm] at h; injection h with h; rw [← h, ← hblk]; simp only [dims, List.length_set]⟩), fun s' hag _ w0 M0 a w hM hr next Q hnx => ?_⟩
 obtain ⟨ρ, hr⟩ := hr
 have hm' := hag.ms _ rfl id (by rw [hy]; rfl) _ hm
 obtain ⟨et', cs', h4, h5, b, bo, h2, h6⟩ := hr.ev ((hag.ev (by simp [Op.operands])).trans hy)
 rw [hm'] at h4
 injection h4 with h4
 injection h4 with e1 e2
 subst e1 e2
 obtain ⟨rfl, k, h1⟩ := h6 hlen
 have h3 := hr.ev ((hag.ev (by simp [Op.operands])).trans hz)
 obtain ⟨c1, c2, c3⟩ := Zet h3 hx
 rcases hr.slots id _ hm' with ⟨g1, -⟩ | ⟨b', cap, row, g1, g2, g3, g4, g5, g6, g7⟩
 ·rw [h1] at g1; cases g1
 rw [h1] at g1
 injection g1 with g1
 injection g1 with e1 e2
 subst e1 e2
 have hvl : (a.eval z).cells.toList.length = 1 := by rw [Array.length_toList, c1]; rfl
 have hin : bo + 1 ≤ row.size := oM
 have hfit' : bo + (a.eval z).cells.toList.length ≤ row.toList.length := by rw [hvl, Array.length_toList]; exact hin
 have hrun := run_store (P := P) (w := w) (b := b) (o := bo) (v := a.eval z) ht g2 c1 hin c2
 unfold Oper.wp
 have hexec : (execOp a.eval ⟨none, .store t y z, ty, pos, after, g⟩).run P w = .ok .skip (w.setRow b (row.toList.take bo ++ (a.eval z).cells.toList ++ row.toList.drop (bo + (a.eval z).cells.toList.length)).toArray) := by
  simp only [execOp, h2]
  rw [Sem.run_bind, hrun]
  rfl
 rw [hexec]
 refine hnx _ _ ⟨_, hr.set (y := .tl et (cs.set bo c)) (r := some (b, k)) hM hm' (by simp) (fun c hc hne => setRow_other w b c _ (fun e => hne k (by rw [h1, e]))) rfl rfl rfl (fun c l e => ?_) (fun cs' e => by cases e) (fun sz ty es0 e => by cases e) (fun M' m' hk hmv hM' => ?_) (fun es e => by cases e) (fun ty cs0 e => ?_)⟩
 ·injection e with e; injection e with e1 e2; subst e1; exact .inl ⟨k, h1⟩
 ·refine .inr ⟨b, k, _, beq_ite, setRow_heap w b row _ _ _ g2, by simpa using g3, g4, ?_, fun q e he => ?_, fun hnd => ?_⟩
  ·rw [List.size_toArray, Zco hfit', Array.length_toList, g5]
  ·by_cases hq : bo = q
   ·subst hq
    have : e = c := by
     rw [List.getElem?_set_self oM] at he
     injection he with he; exact he.symm
    subst this
    obtain ⟨u, h7, h8, h9⟩ := c3 0 e rfl
    refine ⟨u, ?_, h8, TRep.mono hk hM' hmv h9⟩
    rw [List.getElem?_toArray, Zbw hfit', hvl, if_neg oM, if_pos oM, Array.getElem?_toList, Nat.sub_self]
    exact h7
   ·rw [List.getElem?_set_ne hq] at he
    obtain ⟨u, h7, h8, h9⟩ := g6 q e he
    refine ⟨u, ?_, h8, TRep.mono hk hM' hmv h9⟩
    rw [List.getElem?_toArray, Zbw hfit', hvl, Array.getElem?_toList]
    rcases Nat.lt_or_gt_of_ne hq with hlt | hgt
    ·rw [if_neg oM, if_neg oM]; exact h7
    ·rw [if_pos oM]; exact h7
  ·have hnd' := hnd
   rw [hag.nd] at hnd
   rw [hnd] at hn
   simp only [Bool.not_true, Bool.false_or] at hn
   have hold := Zfm (g7 hnd')
   refine Zef fun u hu => ?_
   simp only [List.mem_append] at hu
   rcases hu with (hu | hu) | hu
   ·exact hold u (List.mem_of_mem_take hu)
   ·obtain ⟨j, hj⟩ := List.getElem?_of_mem hu
    have hjl : j < 1 := by rw [← hvl]; exact (List.getElem?_eq_some_iff.1 hj).1
    obtain rfl : j = 0 := oM
    obtain ⟨u', h7, -, h9⟩ := c3 0 c rfl
    rw [Array.getElem?_toList, h7] at hj
    injection hj with hj
    subst hj
    exact TRep.nu h9 hn
   ·exact hold u (List.mem_of_mem_drop hu)
 ·injection e with e1 e2
  subst e1 e2
  exact ⟨_, rfl, fun _ => h1.symm, by simp⟩
theorem ms_set {o : Oper} {id : Nat} {y : Blk} {x : TV} {K : AS → Prop} (hg : o.guard = none) (hin : InB s o.dst)
  (h : ∀ w0 M0 ρ a w, OKC dm M0 w0 → RelR w0 M0 ρ s a w → ∃ v w' ρ', (execOp a.eval o).run P w = .ok (.value v) w' ∧ RelR w0 M0 ρ' { s with m := upd s.m id y } a w' ∧ TRep w' (MM M0 ρ' (upd s.m id y)) ρ' (upd s.m id y) x v)
  (k : K { s with t := updo s.t o.dst x, m := upd s.m id y }) : MStep dm P ops o s K := by
 intro w0 M0 hM a w hrel next Q hn
 obtain ⟨ρ, hr⟩ := hrel
 rw [if_pos (show Region.wanted o (yielded ops a.tmps) = true by simp [Region.wanted, hg])]
 obtain ⟨v, w', ρ', h1, h2, h3⟩ := h w0 M0 ρ a w hM hr
 unfold Oper.wp
 rw [h1]
 exact hn _ _ _ k ⟨ρ', RelR.put (s := { s with m := upd s.m id y }) h2 hin h3⟩
theorem ms_append_ot {t e : TypeId} {bytes : Nat} {z : List Value} {y x : Operand} {id m id2 n2 : Nat} {cs xs : List TV} {K : AS → Prop} (hin : InB s dst) (ht : MakeT P t e 1 bytes z) (hy : s.ev y = some (.ot id m)) (hm : s.m id = some (.tl e cs)) (hlen : cs.length = m) (hx : s.ev x = some (.ot id2 n2)) (hm2 : s.m id2 = some (.tl e xs)) (hlen2 : xs.length = n2) (h0 : 0 < n2)
  (h63 : m + n2 ≤ maxLen) (hby : (m + n2) * bytes ≤ 140737488355328) (hz : (!s.nd || z.all nuV) = true) (hnu : (!s.nd || xs.all TV.nu) = true)
  (k : K { s with t := updo s.t dst (.ot id (m + n2)), m := upd s.m id (.tl e (cs ++ xs)) }) :
  MStep dm P ops ⟨dst, .call ⟨.builtin .append, #[y, x], #[t, t]⟩, ty, pos, after, none⟩ s K := by
 refine ms_set (id := id) rfl hin (fun w0 M0 ρ a w hM hr => ?_) k
 obtain ⟨h1, i, zv, h2, h3, h4, h5, h6, h7⟩ := ht
 obtain ⟨et', cs', g1, g2, -, g3⟩ := hr.ev hy
 rw [hm] at g1
 injection g1 with g1
 injection g1 with e1 e2
 subst e1 e2
 obtain ⟨et', cs', q1, q2, -, q3⟩ := hr.ev hx
 rw [hm2] at q1
 injection q1 with q1
 injection q1 with e1 e2
 subst e1 e2
 have hexec : ∀ u w', (Builtin.append_ #[t, t] ty #[a.eval y, a.eval x]).run P w = .ok u w' → (execOp a.eval ⟨dst, .call ⟨.builtin .append, #[y, x], #[t, t]⟩, ty, pos, after, none⟩).run P w = .ok (.value u) w' := by
  intro u w' h
  simp only [execOp, resolve, invoke, builtin, Sem.run_bind, Sem.run_pure, Result.andThen_ok, List.map_toArray, List.map_cons, List.map_nil, h]
 have hzs : zv.cells.size = 1 := by rw [← Array.length_toList, h6, h7]
 -- the new elements
 obtain ⟨yb, yc, news, k1, k2, k3, k4, k5, k6⟩ : ∃ (yb yc : Nat) (news : List Value), a.eval x = .slice (some ⟨yb, 0, none⟩) n2 yc ∧ news.length = n2 ∧ (∀ (j : Nat) u, news[j]? = some u → w.cell? ⟨yb, 0 + j, none⟩ = some u) ∧ TLies w (MM M0 ρ s.m) ρ s.m xs (fun k => news[k]?) ∧ (∀ u, u ∈ news → u.oneCell' = true) ∧ (s.nd = true → ∀ u, u ∈ news → ∀ d, u ≠ Value.int .u32 d) := by
  rcases q3 hlen2 with ⟨-, q4, -⟩ | ⟨b, kk, q4, q5⟩
  ·omega
  rcases hr.slots id2 _ hm2 with ⟨g4, -⟩ | ⟨b', cap, row, g4, g5, g6, -, g7, g8, g9⟩
  ·rw [q4] at g4; cases g4
  rw [q4] at g4
  injection g4 with g4
  injection g4 with e1 e2
  subst e1 e2
  have hlr : n2 ≤ row.toList.length := by rw [Array.length_toList]; omega
  refine ⟨b, kk, row.toList.take n2, q5, by rw [List.length_take]; omega, fun j u hj => ?_, fun j c hj => ?_, fun u hu => ?_, fun hnd u hu => Zfm (g9 hnd) u (List.mem_of_mem_take hu)⟩
  ·have hjl : j < n2 := by have := (List.getElem?_eq_some_iff.1 hj).1; rw [List.length_take] at this; omega
   rw [List.getElem?_take_of_lt hjl, Array.getElem?_toList] at hj
   rw [Nat.zero_add]
   simp [World.cell?, g5, hj]
  ·obtain ⟨v, r1, r2, r3⟩ := g8 j c hj
   have hjl : j < n2 := by rw [← hlen2]; exact (List.getElem?_eq_some_iff.1 hj).1
   refine ⟨v, ?_, r2, r3⟩
   show (row.toList.take n2)[j]? = some v
   rw [List.getElem?_take_of_lt hjl, Array.getElem?_toList]
   exact r1
  ·obtain ⟨j, hj⟩ := List.getElem?_of_mem hu
   have hjl : j < n2 := by have := (List.getElem?_eq_some_iff.1 hj).1; rw [List.length_take] at this; omega
   rw [List.getElem?_take_of_lt hjl, Array.getElem?_toList] at hj
   obtain ⟨v, r1, r2, -⟩ := g8 j xs[j] (by simp [hlen2, hjl])
   rw [r1] at hj
   injection hj with hj
   subst hj
   exact r2
 have hnews : ∀ (j : Nat) v, news[j]? = some v → w.cell? ((⟨yb, 0, none⟩ : Addr).add j) = some v := fun j v hj => by rw [addr_add]; exact k3 j v hj
 have hlx : (cs ++ xs).length = m + n2 := by simp [hlen, hlen2]
 have hmove : ∀ r, ∀ ty0 cs0, Blk.tl e cs = .tl ty0 cs0 → ∃ cs', Blk.tl e (cs ++ xs) = .tl ty0 cs' ∧ (cs'.length = cs0.length → r = ρ id) ∧ cs0.length ≤ cs'.length := by
  intro r ty0 cs0 e
  injection e with e1 e2
  subst e1 e2
  exact ⟨_, rfl, fun h => by rw [hlx, hlen] at h; omega, by rw [hlx]; omega⟩
 have hsz : i.size = 1 := h3
 have newrow : ∀ (w' : World) (A C : List Value) (cap : Nat) (row : Array Value), w' = w.drew.alloc (.cells (A ++ (news ++ C)).toArray e) → m + n2 ≤ cap → cap ≤ maxLen → (A ++ (news ++ C)).length = cap → A.length = cs.length → (∀ k, k < cs.length → A[k]? = row[k]?) →
   TLies w (MM M0 ρ s.m) ρ s.m cs (fun k => row[k]?) → (s.nd = true → ∀ u, u ∈ A ++ (news ++ C) → ∀ d, u ≠ Value.int .u32 d) →
   (Builtin.append_ #[t, t] ty #[a.eval y, a.eval x]).run P w = .ok (.slice (some ⟨w.heap.size, 0, none⟩) (m + n2) cap) w' →
   ∃ v w' ρ', (execOp a.eval ⟨dst, .call ⟨.builtin .append, #[y, x], #[t, t]⟩, ty, pos, after, none⟩).run P w = .ok (.value v) w' ∧ RelR w0 M0 ρ' { s with m := upd s.m id (.tl e (cs ++ xs)) } a w' ∧ TRep w' (MM M0 ρ' (upd s.m id (.tl e (cs ++ xs)))) ρ' (upd s.m id (.tl e (cs ++ xs))) (.ot id (m + n2)) v := by
  rintro w' A C cap row rfl q1 q2 q3 q4 q5 q6 q7 q8
  have hb : Below w.heap.size w (w.drew.alloc (.cells (A ++ (news ++ C)).toArray e)) := (Below.refl _ _).drew.alloc (Nat.le_refl _) _
  refine ⟨_, _, _, hexec _ _ q8, hr.set (y := .tl e (cs ++ xs)) (r := some (w.heap.size, cap)) hM hm hb.size (fun b hbl _ => hb.block b hbl) rfl rfl rfl ?_ (fun cs e => by cases e) (fun sz ty es e => by cases e) (fun M' m' hk hmv hM' => ?_) (fun es e => by cases e) (hmove _), ?_⟩
  ·rintro b k e; injection e with e; injection e with e1 e2; subst e1; exact .inr ⟨Nat.le_refl _, by simp⟩
  ·refine .inr ⟨w.heap.size, cap, _, beq_ite, heap_alloc_new w.drew _, by rw [hlx]; exact q1, q2, by rw [List.size_toArray]; exact q3, ?_, fun hnd => Zef ?_⟩
   ·intro j c hj
    obtain ⟨v, r1, r2, r3⟩ := TLies.app (C := C) q6 k4 q4 q5 j c hj
    exact ⟨v, r1, r2, TRep.mono hk hM' hmv r3⟩
   ·exact q7 hnd
  ·exact ⟨e, cs ++ xs, Zat _ _ _, by rw [hlx]; exact Nat.le_refl _, ⟨_, _, _, rfl⟩, fun _ => .inr ⟨_, _, beq_ite, rfl⟩⟩
 have hz1 : ∀ k, (Builtin.zeroCells zv.cells k).toList.length = k := fun k => by simp [size_zeroCells, hzs]
 have hznu : s.nd = true → zv.cells.toList.all nuV = true := fun hnd => by rw [h6]; rw [hnd] at hz; simpa using hz
 rcases g3 hlen with ⟨c1, c2, c3⟩ | ⟨b, cap, c1, c2⟩
 ·subst c2
  have hes : cs = [] := List.eq_nil_of_length_eq_zero hlen
  rw [Nat.zero_add] at hby h63
  have hrun := run_append_nil (P := P) w t ty e i zv h1 h2 h5 ⟨yb, 0, none⟩ n2 yc news (by rw [hsz, Nat.mul_one]; exact k2) hnews oM (by unfold maxLen at h63; omega) (by rw [h4]; omega)
  have hge := grownCap_ge w n2 0 e
  have harr : news.toArray ++ Builtin.zeroCells zv.cells (grownCap w n2 0 e - n2) = (([] : List Value) ++ (news ++ (Builtin.zeroCells zv.cells (grownCap w n2 0 e - n2)).toList)).toArray := by apply Array.ext'; simp
  rw [harr] at hrun
  refine newrow _ [] (Builtin.zeroCells zv.cells (grownCap w n2 0 e - n2)).toList (grownCap w n2 0 e) #[] rfl oM (grownCap_le_maxLen w n2 0 e oM) ?_ (by rw [hes]; rfl) (fun k hk => by rw [hes] at hk; simp at hk) (by rw [hes]; intro q e he; simp at he) (fun hnd u hu => ?_) ?_
  ·rw [List.nil_append, List.length_append, k2, hz1]
   omega
  ·simp only [List.nil_append, List.mem_append] at hu
   rcases hu with hu | hu
   ·exact k6 hnd u hu
   ·exact zero_nu (hznu hnd) oM u hu
  ·rw [c3, k1, hrun, Nat.zero_add]
 ·rcases hr.slots id _ hm with ⟨d1, -⟩ | ⟨b', cap2, row, d1, d2, d3, d4, d5, d6, d7⟩
  ·rw [c1] at d1; cases d1
  rw [c1] at d1; injection d1 with d1; injection d1 with e1 e2; subst e1 e2
  have hrl : row.toList.length = cap := by simp [d5]
  by_cases hroom : m + n2 ≤ cap
  ·have hfit : m * 1 + news.length ≤ row.toList.length := oM
   have hrun := run_append_room (P := P) w t ty e i h1 h2 b m cap row d2 ⟨yb, 0, none⟩ n2 yc news (by rw [hsz, Nat.mul_one]; exact k2) hnews k5 hroom (by rw [hsz]; simpa using hfit)
   rw [hsz] at hrun
   refine ⟨_, _, _, hexec _ _ (by rw [c2, k1]; exact hrun), hr.set (y := .tl e (cs ++ xs)) (r := some (b, cap)) hM hm (by simp) (fun c hc hne => setRow_other w b c _ (fun e => hne cap (by rw [c1, e]))) rfl rfl rfl ?_ (fun cs e => by cases e) (fun sz ty es e => by cases e) (fun M' m' hk hmv hM' => ?_) (fun es e => by cases e) (fun ty0 cs0 e => ?_), ?_⟩
   ·rintro b' k e; injection e with e; injection e with e1 e2; subst e1; exact .inl ⟨cap, c1⟩
   ·refine .inr ⟨b, cap, _, beq_ite, setRow_heap w b row _ _ _ d2, by rw [hlx]; exact hroom, d4, ?_, ?_, fun hnd => Zef fun u hu => ?_⟩
    ·rw [List.size_toArray, Zco hfit, hrl]
    ·have hA : (row.toList.take (m * 1)).length = cs.length := by rw [List.length_take, hrl, hlen]; omega
     have := TLies.app (C := row.toList.drop (m * 1 + news.length)) (show TLies w (MM M0 ρ s.m) ρ s.m cs (fun k => row[k]?) from d6) k4 hA (fun k hk => by rw [List.getElem?_take_of_lt oM, Array.getElem?_toList])
     rw [← List.append_assoc] at this
     intro j c hj
     obtain ⟨v, r1, r2, r3⟩ := this j c hj
     exact ⟨v, r1, r2, TRep.mono hk hM' hmv r3⟩
    ·have hold := Zfm (d7 hnd)
     simp only [List.mem_append] at hu
     rcases hu with (hu | hu) | hu
     ·exact hold u (List.mem_of_mem_take hu)
     ·exact k6 hnd u hu
     ·exact hold u (List.mem_of_mem_drop hu)
   ·injection e with e1 e2
    subst e1 e2
    exact ⟨_, rfl, fun _ => c1.symm, by rw [hlx]; omega⟩
   ·exact ⟨e, cs ++ xs, Zat _ _ _, by rw [hlx]; exact Nat.le_refl _, ⟨_, _, _, rfl⟩, fun _ => .inr ⟨b, cap, beq_ite, rfl⟩⟩
  ·have hA : (row.toList.take m).length = m := by rw [List.length_take]; omega
   have holds : ∀ (j : Nat) v, (row.toList.take m)[j]? = some v → w.cell? ((⟨b, 0, none⟩ : Addr).add j) = some v := fun j v hj => by
    have hjl : j < m := by rw [← hA]; exact (List.getElem?_eq_some_iff.1 hj).1
    rw [List.getElem?_take_of_lt hjl, Array.getElem?_toList] at hj
    rw [addr_add, Nat.zero_add]
    simp [World.cell?, d2, hj]
   have hrun := run_append_grow (P := P) w t ty e i zv h1 h2 h5 ⟨b, 0, none⟩ m cap (row.toList.take m) (by rw [hsz, Nat.mul_one]; exact hA) holds ⟨yb, 0, none⟩ n2 yc news (by rw [hsz, Nat.mul_one]; exact k2) hnews oM (by unfold maxLen at h63; omega) (growslice_fits oM (by rw [h4]; exact hby))
   have hge := grownCap_ge w (m + n2) cap e
   have harr : (row.toList.take m).toArray ++ news.toArray ++ Builtin.zeroCells zv.cells (grownCap w (m + n2) cap e - (m + n2)) = (row.toList.take m ++ (news ++ (Builtin.zeroCells zv.cells (grownCap w (m + n2) cap e - (m + n2))).toList)).toArray := by apply Array.ext'; simp [List.append_assoc]
   rw [harr] at hrun
   refine newrow _ (row.toList.take m) (Builtin.zeroCells zv.cells (grownCap w (m + n2) cap e - (m + n2))).toList (grownCap w (m + n2) cap e) row rfl hge (grownCap_le_maxLen w (m + n2) cap e h63) ?_ (by rw [hlen]; exact hA) (fun k hk => by rw [List.getElem?_take_of_lt oM, Array.getElem?_toList]) d6 (fun hnd u hu => ?_) (by rw [c2, k1]; exact hrun)
   ·rw [List.length_append, List.length_append, hA, k2, hz1]
    omega
   ·simp only [List.mem_append] at hu
    rcases hu with hu | hu | hu
    ·exact Zfm (d7 hnd) u (List.mem_of_mem_take hu)
    ·exact k6 hnd u hu
    ·exact zero_nu (hznu hnd) oM u hu
theorem ss_bslice_tl (id : Nat) {t e : TypeId} {bytes : Nat} {z : List Value} {y : Operand} {c : TV} (hin : InB s dst) (hid : s.m id = none) (ht : MakeT P t e 1 bytes z) (hy : s.ev y = some c) (hc : Zcd c = some [c]) (hnu : (!s.nd || c.nu) = true) : Za9 dm P ops ⟨dst, .buildSlice t 1 #[(0, y)], ty, pos, after, g⟩ s (.ot id 1) (.new id (.tl e [c])) := by
 refine ss_new hin rfl hid fun s' hag hid' w0 M0 ρ a w hM hr => ?_
 have h3 := hr.ev ((hag.ev (by simp [Op.operands])).trans hy)
 obtain ⟨c1, c2, c3⟩ := Zet h3 hc
 obtain ⟨h1, i, zv, h2, h3', h4, h5, h6, h7⟩ := ht
 have hzs : zv.cells.size = 1 := by rw [← Array.length_toList, h6, h7]
 have hvl : (a.eval y).cells.toList.length = 1 := by rw [Array.length_toList, c1]; rfl
 have hmd : (madeCells zv.cells 1).size = 1 := size_madeCells ..
 have hfill : Instr.fill (fun i => some (i * 1, 1)) (madeCells zv.cells 1) [(0, a.eval y)] = some ((madeCells zv.cells 1).toList.take 0 ++ (a.eval y).cells.toList ++ (madeCells zv.cells 1).toList.drop (0 + (a.eval y).cells.toList.length)).toArray := by
  rw [fill_cons (off := 0) (size := 1) rfl c1 (by rw [hmd]; omega)]
  rfl
 have hrow : ((madeCells zv.cells 1).toList.take 0 ++ (a.eval y).cells.toList ++ (madeCells zv.cells 1).toList.drop (0 + (a.eval y).cells.toList.length)).toArray = (a.eval y).cells := by
  apply Array.ext'
  rw [List.toList_toArray, List.take_zero, List.nil_append, List.drop_eq_nil_of_le (by rw [hvl, Array.length_toList, hmd]; omega), List.append_nil]
 rw [hrow] at hfill
 have hrun : (Instr.buildSlice t 1 #[(0, a.eval y)]).run P w = .ok (.slice (some ⟨w.heap.size, 0, none⟩) 1 1) (w.alloc (.cells (a.eval y).cells e)) := by
  simp only [Instr.buildSlice, Sem.run_bind, run_underlying h1, Result.andThen_ok, Go.sizeOf, typeInfo, run_program, h2, Sem.run_pure, h3', zeroValue, h5]
  simp only [madeCells, Nat.mul_one] at hfill
  simp [h2, h5, hfill, newRow]
 have hexec : (execOp a.eval ⟨dst, .buildSlice t 1 #[(0, y)], ty, pos, after, g⟩).run P w = .ok (.value (.slice (some ⟨w.heap.size, 0, none⟩) 1 1)) (w.alloc (.cells (a.eval y).cells e)) := by
  simp only [execOp, List.map_toArray, List.map_cons, List.map_nil]
  rw [Sem.run_bind, hrun]
  rfl
 have hbl : Below w.heap.size w (w.alloc (.cells (a.eval y).cells e)) := (Below.refl _ _).alloc (Nat.le_refl _) _
 refine ⟨_, _, some (w.heap.size, 1), hexec, hbl, ?_, fun M' m' hm hM' => ?_, fun M' => ?_⟩
 ·rintro b kk e; injection e with e; injection e with e1 e2; subst e1; exact ⟨Nat.le_refl _, by simp⟩
 ·refine .inr ⟨w.heap.size, 1, (a.eval y).cells, beq_ite, heap_alloc_new w _, Nat.le_refl _, by unfold maxLen; omega, c1, fun j c' hj => ?_, fun hnd => ?_⟩
  ·obtain ⟨u, k1, k2, k3⟩ := c3 j c' hj
   exact ⟨u, k1, k2, TRep.mono (Zbn.below hbl) hM' hm k3⟩
  ·rw [hag.nd] at hnd
   rw [hnd] at hnu
   simp only [Bool.not_true, Bool.false_or] at hnu
   intro q d hd
   have hq : q < 1 := by have := (Array.getElem?_eq_some_iff.1 hd).1; rw [c1] at this; exact this
   obtain rfl : q = 0 := oM
   obtain ⟨u, k1, -, k3⟩ := c3 0 c rfl
   rw [k1] at hd
   injection hd with hd
   exact TRep.nu k3 hnu d hd
 ·exact ⟨e, _, Zat _ _ _, Nat.le_refl _, ⟨_, _, _, rfl⟩, fun _ => .inr ⟨_, _, beq_ite, rfl⟩⟩
end
theorem Ent.nilot {s : AS} {t k : Nat} {ty : TypeId} (ht : s.t t = some (.v (.p nilV))) (hk : s.m k = none) : Ent s { s with t := upd s.t t (.ot k 0), m := upd s.m k (.tl ty []) } := by
 rintro w0 M0 a w hM ⟨ρ, hr⟩
 have h := hr.new (x := .tl ty []) (r := none) hM (Below.refl _ _) hk (fun b k e => by cases e) (fun M' m' _ _ => .inl ⟨beq_ite, rfl⟩)
 refine ⟨_, h.below, h.defers, h.nt, h.base, h.inj, h.slots, fun i x hi => ?_, h.pas, h.kid⟩
 by_cases hti : t = i
 ·subst hti
  have hi : upd s.t t (.ot k 0) t = some x := hi
  rw [Zat] at hi
  injection hi with hi
  subst hi
  obtain ⟨v, h1, h2⟩ := hr.tmps t _ ht
  have := Rep.p_inv h2
  subst this
  exact ⟨_, h1, ty, [], Zat _ _ _, Nat.le_refl _, ⟨_, _, _, rfl⟩, fun _ => .inl ⟨beq_ite, rfl, rfl⟩⟩
 ·have hi : upd s.t t (.ot k 0) i = some x := hi
  rw [Zav _ _ hti] at hi
  exact h.tmps i x hi
theorem Ent.ren {s s' : AS} (τ : Nat → Nat) (hnt : s.nt = s'.nt) (hnd : s'.nd = true → s.nd = true) (hk : s.k = []) (hk' : s'.k = [])
  (hm : ∀ j b, s'.m j = some b → s.m (τ j) = some (renB τ b)) (hinj : ∀ i j, (s'.m i).isSome = true → (s'.m j).isSome = true → τ i = τ j → i = j)
  (hcl : ∀ j b, s'.m j = some b → ∀ cs, (b = .var cs ∨ ∃ ty, b = .tl ty cs) → ∀ c, c ∈ cs → ∀ i, i ∈ c.refs → (s'.m i).isSome = true)
  (ht : ∀ i x, s'.t i = some x → s.t i = some (Zd3 τ x) ∧ ∀ j, j ∈ x.refs → (s'.m j).isSome = true) : Ent s s' := by
 rintro w0 M0 a w hM ⟨ρ, hr⟩
 let ρ' : Nat → Option (Nat × Nat) := fun j => if (s'.m j).isSome then ρ (τ j) else none
 have hρ : ∀ {j}, (s'.m j).isSome = true → ρ (τ j) = ρ' j := fun h => by simp [ρ', h]
 have hρ2 : ∀ {j b k}, ρ' j = some (b, k) → (s'.m j).isSome = true ∧ ρ (τ j) = some (b, k) := fun {j b k} h => by
  simp only [ρ'] at h
  split at h
  ·exact ⟨by assumption, h⟩
  ·cases h
 have hs : ∀ {j}, (s'.m j).isSome = true → (s.m (τ j)).isSome = true := fun {j} h => by
  obtain ⟨b, hb⟩ := Option.isSome_iff_exists.1 h
  rw [hm j b hb]; rfl
 have hMM : ∀ b, b < w.heap.size → MM M0 ρ' s'.m b → MM M0 ρ s.m b := by
  rintro b - (h | ⟨j, k, h1, h2⟩)
  ·exact .inl h
  ·exact .inr ⟨τ j, k, hs h1, (hρ2 h2).2⟩
 have hx : ∀ {l : List Nat}, (∀ j, j ∈ l → (s'.m j).isSome = true) → ∀ i, i ∈ l → ∃ b, s'.m i = some b ∧ s.m (τ i) = some (renB τ b) ∧ ρ (τ i) = ρ' i := fun h i hi => by
  obtain ⟨b, hb⟩ := Option.isSome_iff_exists.1 (h i hi)
  exact ⟨b, hb, hm i b hb, hρ (h i hi)⟩
 have hno : ∀ i, (M0.m0 i).isSome = true → False := fun i hi => by
  have := hr.kid i hi
  rw [hk] at this
  cases this
 refine ⟨ρ', hr.below, hr.defers, hr.nt.trans hnt, fun i b k h1 h2 => hr.base (τ i) b k (hs h1) (hρ2 h2).2, fun i j b k l h1 h2 h3 h4 => hinj i j h1 h2 (hr.inj _ _ b k l (hs h1) (hs h2) (hρ2 h3).2 (hρ2 h4).2), fun j b hb => ?_, fun i x hi => ?_, fun i x hi => (hno i (by rw [hi]; rfl)).elim, fun i hi => (hno i hi).elim⟩
 ·exact Zc0.unren hnd hMM (hρ (by rw [hb]; rfl)) (fun cs e c hc => hx (hcl j b hb cs e c hc)) (hr.slots (τ j) _ (hm j b hb))
 ·obtain ⟨h1, h2⟩ := ht i x hi
  obtain ⟨v, h3, h4⟩ := hr.tmps i _ h1
  exact ⟨v, h3, TRep.unren hMM (hx h2) h4⟩
end Ab

namespace Ab
open Go Go.RowKit Go.Proofs
variable {dm : Bool}
set_option maxRecDepth 100000
theorem renTV_id : ∀ x : TV, Zd3 (fun i => i) x = x
  | .v _ => rfl
  | .ptr _ _ => rfl
  | .own _ _ => rfl
  | .ep _ _ => rfl
  | .op _ _ _ _ => rfl
  | .st _ _ _ _ => rfl
  | .fn f cs => by
    show TV.fn f (cs.map fun p => (p.1, p.2)) = _
    rw [show (fun p : Nat × Nat => (p.1, p.2)) = id from rfl, List.map_id]
  | .mp _ => rfl
  | .ot _ _ => rfl
  | .opt _ _ _ => rfl
  | .bm _ _ _ => rfl
  | .em => rfl
theorem renB_id : ∀ b : Blk, renB (fun i => i) b = b
  | .var cs => by
    show Blk.var (cs.map (Zd3 fun i => i)) = _
    rw [show (Zd3 fun i => i) = id from funext renTV_id, List.map_id]
  | .lst _ _ _ => rfl
  | .mp _ => rfl
  | .tl ty cs => by
    show Blk.tl ty (cs.map (Zd3 fun i => i)) = _
    rw [show (Zd3 fun i => i) = id from funext renTV_id, List.map_id]
def okRefs (m : Nat → Option Blk) (x : TV) : Prop := ∀ j, j ∈ x.refs → (m j).isSome = true
theorem okR_v {m : Nat → Option Blk} {a : AV} : okRefs m (.v a) := fun j hj => by cases hj
theorem okR_1 {m : Nat → Option Blk} {x : TV} {k : Nat} (h : x.refs = [k]) (hk : (m k).isSome = true) : okRefs m x := fun j hj => by
 rw [h, List.mem_singleton] at hj
 rw [hj]; exact hk
def mkT (L : List (Nat × TV)) (Lm : List (Nat × Blk)) (sz : Nat) (ty : TypeId) (R : List (List AV)) (nt : Nat) : AS :=
 { t := Za5 L, m := fun k => bif Nat.blt k 1000 then Za5 Lm k else (R[k - 1000]?).map (Blk.lst sz ty), nt := nt, nd := true }
def hid (n N : Nat) : List TV := (List.range N).map fun i => .own (i + 1000) n
theorem Zaq (n N : Nat) : (hid n N).length = N := by unfold hid; simp
theorem Zcf (n : Nat) {N i : Nat} (h : i < N) : (hid n N)[i]? = some (.own (i + 1000) n) := by unfold hid; rw [List.getElem?_map, List.getElem?_range h]; rfl
theorem blt_add (i : Nat) : Nat.blt (i + 1000) 1000 = false := by
 cases h : Nat.blt (i + 1000) 1000 with
 | false => rfl
 | true => have := Nat.le_of_ble_eq_true h; omega
theorem mkT_row {L : List (Nat × TV)} {Lm : List (Nat × Blk)} {sz : Nat} {ty : TypeId} {R : List (List AV)} {nt : Nat} (i : Nat) : (mkT L Lm sz ty R nt).m (i + 1000) = (R[i]?).map (Blk.lst sz ty) := by
 show (bif Nat.blt (i + 1000) 1000 then Za5 Lm (i + 1000) else (R[i + 1000 - 1000]?).map (Blk.lst sz ty)) = _
 rw [blt_add, cond_false, show i + 1000 - 1000 = i by omega]
theorem mkT_lo {L : List (Nat × TV)} {Lm : List (Nat × Blk)} {sz : Nat} {ty : TypeId} {R : List (List AV)} {nt k : Nat} (h : Nat.blt k 1000 = true) : (mkT L Lm sz ty R nt).m k = Za5 Lm k := by
 show (bif Nat.blt k 1000 then Za5 Lm k else (R[k - 1000]?).map (Blk.lst sz ty)) = _
 rw [h]; rfl
theorem mkT_cases {L : List (Nat × TV)} {Lm : List (Nat × Blk)} {sz : Nat} {ty : TypeId} {R : List (List AV)} {nt j : Nat} {b : Blk} (h : (mkT L Lm sz ty R nt).m j = some b) : (Nat.blt j 1000 = true ∧ Za5 Lm j = some b) ∨ ∃ i r, j = i + 1000 ∧ R[i]? = some r ∧ b = .lst sz ty r := by
  cases hb : Nat.blt j 1000 with
  | true => rw [mkT_lo hb] at h; exact .inl ⟨rfl, h⟩
  | false =>
    have hj : ¬ j < 1000 := fun h => by
      have := Nat.ble_eq_true_of_le (show j + 1 ≤ 1000 from h)
      rw [show Nat.blt j 1000 = Nat.ble (j + 1) 1000 from rfl, this] at hb
      cases hb
    rw [show j = (j - 1000) + 1000 by omega, mkT_row, Option.map_eq_some_iff] at h
    obtain ⟨r, h1, h2⟩ := h
    exact .inr ⟨j - 1000, r, oM, h1, h2.symm⟩
def loOK (m' : Nat → Option Blk) (b : Blk) : Prop := match b with
 | .var cs => ∀ c, c ∈ cs → okRefs m' c
 | .tl _ cs => ∀ c, c ∈ cs → okRefs m' c
 | _ => True
theorem Zf3 {L : List (Nat × TV)} {Lm : List (Nat × Blk)} {sz : Nat} {ty ty' : TypeId} {R : List (List AV)} {nt n N : Nat} (h : N = R.length) : loOK (mkT L Lm sz ty R nt).m (.tl ty' (hid n N)) := fun c hc => by
 unfold hid at hc
 obtain ⟨i, hi, rfl⟩ := List.mem_map.1 hc
 have := List.mem_range.1 hi
 refine okR_1 rfl ?_
 rw [mkT_row, List.getElem?_eq_getElem oM]
 rfl
theorem loOK_vs {m' : Nat → Option Blk} {l : List AV} : loOK m' (.var (l.map .v)) := fun c hc => by
 obtain ⟨a, -, rfl⟩ := List.mem_map.1 hc
 exact okR_v
theorem Ent.mkT {s : AS} {L : List (Nat × TV)} {Lm : List (Nat × Blk)} {sz : Nat} {ty : TypeId} {R : List (List AV)} {nt : Nat} (τ : Nat → Nat) (hnt : s.nt = nt) (hnd : s.nd = true) (hk : s.k = [])
  (hτ : ∀ i j, ((Ab.mkT L Lm sz ty R nt).m i).isSome = true → ((Ab.mkT L Lm sz ty R nt).m j).isSome = true → τ i = τ j → i = j)
  (hm : AllP (fun p : Nat × Blk => s.m (τ p.1) = some (renB τ p.2) ∧ loOK (Ab.mkT L Lm sz ty R nt).m p.2) Lm) (hr : ∀ i r, R[i]? = some r → s.m (τ (i + 1000)) = some (.lst sz ty r))
  (ht : AllP (fun p : Nat × TV => s.t p.1 = some (Zd3 τ p.2) ∧ okRefs (Ab.mkT L Lm sz ty R nt).m p.2) L) : Ent s (Ab.mkT L Lm sz ty R nt) := by
 have hm' := Zd2 hm
 have ht' := Zd2 ht
 refine Ent.ren τ hnt (fun _ => hnd) hk rfl (fun j b hb => ?_) hτ (fun j b hb cs e c hc => ?_) fun i x hx => ?_
 ·rcases mkT_cases hb with ⟨-, h⟩ | ⟨i, r, rfl, h1, rfl⟩
  ·exact (hm' j b h).1
  ·exact hr i r h1
 ·rcases mkT_cases hb with ⟨-, h⟩ | ⟨i, r, rfl, h1, rfl⟩
  ·have := (hm' j b h).2
   rcases e with rfl | ⟨ty', rfl⟩
   ·exact this c hc
   ·exact this c hc
  ·rcases e with e | ⟨ty', e⟩ <;> cases e
 ·exact ht' i x hx
theorem Ent.mkTi {s : AS} {L : List (Nat × TV)} {Lm : List (Nat × Blk)} {sz : Nat} {ty : TypeId} {R : List (List AV)} {nt : Nat} (hnt : s.nt = nt) (hnd : s.nd = true) (hk : s.k = [])
  (hm : AllP (fun p : Nat × Blk => s.m p.1 = some p.2 ∧ loOK (Ab.mkT L Lm sz ty R nt).m p.2) Lm) (hr : ∀ i r, R[i]? = some r → s.m (i + 1000) = some (.lst sz ty r))
  (ht : AllP (fun p : Nat × TV => s.t p.1 = some p.2 ∧ okRefs (Ab.mkT L Lm sz ty R nt).m p.2) L) : Ent s (Ab.mkT L Lm sz ty R nt) := by
 refine Ent.mkT (fun i => i) hnt hnd hk (fun i j _ _ h => h) ?_ hr ?_
 ·have : ∀ l : List (Nat × Blk), AllP (fun p : Nat × Blk => s.m p.1 = some p.2 ∧ loOK (Ab.mkT L Lm sz ty R nt).m p.2) l → AllP (fun p : Nat × Blk => s.m p.1 = some (renB (fun i => i) p.2) ∧ loOK (Ab.mkT L Lm sz ty R nt).m p.2) l := by
   intro l
   induction l with
   | nil => exact fun h => h
   | cons p l ih => exact fun h => ⟨⟨(renB_id p.2).symm ▸ h.1.1, h.1.2⟩, ih h.2⟩
  exact this _ hm
 ·have : ∀ l : List (Nat × TV), AllP (fun p : Nat × TV => s.t p.1 = some p.2 ∧ okRefs (Ab.mkT L Lm sz ty R nt).m p.2) l → AllP (fun p : Nat × TV => s.t p.1 = some (Zd3 (fun i => i) p.2) ∧ okRefs (Ab.mkT L Lm sz ty R nt).m p.2) l := by
   intro l
   induction l with
   | nil => exact fun h => h
   | cons p l ih => exact fun h => ⟨⟨(renTV_id p.2).symm ▸ h.1.1, h.1.2⟩, ih h.2⟩
  exact this _ ht
theorem Ent.nilown {s : AS} {t k sz : Nat} {ty : TypeId} (ht : s.t t = some (.v (.p nilV))) (hk : s.m k = none) : Ent s { s with t := upd s.t t (.own k 0), m := upd s.m k (.lst sz ty []) } := by
 rintro w0 M0 a w hM ⟨ρ, hr⟩
 have h := hr.new (x := .lst sz ty []) (r := none) hM (Below.refl _ _) hk (fun b k e => by cases e) (fun M' m' _ _ => .inl ⟨beq_ite, rfl⟩)
 refine ⟨_, h.below, h.defers, h.nt, h.base, h.inj, h.slots, fun i x hi => ?_, h.pas, h.kid⟩
 by_cases hti : t = i
 ·subst hti
  have hi : upd s.t t (.own k 0) t = some x := hi
  rw [Zat] at hi
  injection hi with hi
  subst hi
  obtain ⟨v, h1, h2⟩ := hr.tmps t _ ht
  have := Rep.p_inv h2
  subst this
  exact ⟨_, h1, sz, ty, [], Zat _ _ _, Nat.le_refl _, ⟨_, _, _, rfl⟩, fun _ => .inl ⟨beq_ite, rfl, rfl⟩⟩
 ·have hi : upd s.t t (.own k 0) i = some x := hi
  rw [Zav _ _ hti] at hi
  exact h.tmps i x hi
theorem upd_row {m : Nat → Option Blk} {sz : Nat} {ty : TypeId} {R : List (List AV)} {c : Nat} {r' : List AV} (h : ∀ i r, R[i]? = some r → m (i + 1000) = some (.lst sz ty r)) : ∀ i r, (R.set c r')[i]? = some r → c < R.length → upd m (c + 1000) (.lst sz ty r') (i + 1000) = some (.lst sz ty r) := fun i r hi hc => by
 by_cases e : c = i
 ·subst e
  rw [List.getElem?_set_self hc] at hi
  injection hi with hi
  subst hi
  exact Zat _ _ _
 ·rw [List.getElem?_set_ne e] at hi
  rw [Zav _ _ oM]
  exact h i r hi
theorem mkT_hr {L : List (Nat × TV)} {Lm : List (Nat × Blk)} {sz : Nat} {ty : TypeId} {R : List (List AV)} {nt i : Nat} {r : List AV} (h : R[i]? = some r) : (mkT L Lm sz ty R nt).m (i + 1000) = some (.lst sz ty r) := by
 rw [mkT_row, h]; rfl
theorem loOK_4 {m' : Nat → Option Blk} {a b c d : AV} : loOK m' (.var [.v a, .v b, .v c, .v d]) := loOK_vs (l := [a, b, c, d])
theorem renTV_fix {τ : Nat → Nat} {x : TV} (h : ∀ j, j ∈ x.refs → τ j = j) : Zd3 τ x = x := by
  cases x with
  | v a => rfl
  | ep e o => rfl
  | ptr s o => show TV.ptr (τ s) o = _; rw [h s (List.mem_singleton.2 rfl)]
  | own s n => show TV.own (τ s) n = _; rw [h s (List.mem_singleton.2 rfl)]
  | op s n i o => show TV.op (τ s) n i o = _; rw [h s (List.mem_singleton.2 rfl)]
  | st p s n q => show TV.st p (τ s) n q = _; rw [h s (List.mem_singleton.2 rfl)]
  | mp s => show TV.mp (τ s) = _; rw [h s (List.mem_singleton.2 rfl)]
  | ot s n => show TV.ot (τ s) n = _; rw [h s (List.mem_singleton.2 rfl)]
  | opt s n i => show TV.opt (τ s) n i = _; rw [h s (List.mem_singleton.2 rfl)]
  | bm f s o => show TV.bm f (τ s) o = _; rw [h s (List.mem_singleton.2 rfl)]
  | em => rfl
  | fn f cs =>
    show TV.fn f (cs.map fun p => (τ p.1, p.2)) = _
    congr 1
    refine (List.map_congr_left fun p hp => ?_).trans (List.map_id _)
    show (τ p.1, p.2) = p
    rw [h p.1 (List.mem_map.2 ⟨p, hp, rfl⟩)]
theorem allP_imp {α : Type} {p q : α → Prop} (h : ∀ x, p x → q x) : ∀ l : List α, AllP p l → AllP q l
 | [], _ => trivial
 | x :: l, hl => ⟨h x hl.1, allP_imp h l hl.2⟩
theorem set2_get {α : Type} (l : List α) {c p : Nat} (x y : α) (hc : c < l.length) (hp : p < l.length) (i : Nat) : ((l.set c x).set p y)[i]? = if i = p then some y else if i = c then some x else l[i]? := by
 by_cases h1 : i = p
 ·subst h1
  rw [if_pos rfl, List.getElem?_set_self (by simpa using hp)]
 ·rw [if_neg h1, List.getElem?_set_ne (fun h => h1 h.symm)]
  by_cases h2 : i = c
  ·subst h2
   rw [if_pos rfl, List.getElem?_set_self hc]
  ·rw [if_neg h2, List.getElem?_set_ne (fun h => h2 h.symm)]
theorem Ent.swapT {s : AS} {L : List (Nat × TV)} {tyR ty : TypeId} {sz n N nt c p : Nat} {R : List (List AV)} (hnt : s.nt = nt) (hnd : s.nd = true) (hk : s.k = []) (hc : c < N) (hp : p < N) (hR : R.length = N)
  (h99 : s.m 99 = some (.tl tyR (((hid n N).set c (.own (p + 1000) n)).set p (.own (c + 1000) n)))) (hr : ∀ i r, R[i]? = some r → s.m (i + 1000) = some (.lst sz ty r))
  (ht : AllP (fun q : Nat × TV => s.t q.1 = some q.2 ∧ ∀ j, j ∈ q.2.refs → j = 99) L) : Ent s (Ab.mkT L [(99, .tl tyR (hid n N))] sz ty ((R.set c (R.getD p [])).set p (R.getD c [])) nt) := by
 have hsw : ∀ i, (if i + 1000 = c + 1000 then p + 1000 else if i + 1000 = p + 1000 then c + 1000 else i + 1000) = (if i = c then p else if i = p then c else i) + 1000 := fun i => by
  by_cases h1 : i = c
  ·rw [if_pos oM, if_pos h1]
  ·rw [if_neg oM, if_neg h1]
   by_cases h2 : i = p
   ·rw [if_pos oM, if_pos h2]
   ·rw [if_neg oM, if_neg h2]
 have h9 : (if 99 = c + 1000 then p + 1000 else if 99 = p + 1000 then c + 1000 else 99) = 99 := by rw [if_neg oM, if_neg oM]
 refine Ent.mkT (fun k => if k = c + 1000 then p + 1000 else if k = p + 1000 then c + 1000 else k) hnt hnd hk (fun i j _ _ h => ?_) ⟨⟨?_, Zf3 (by simp [hR])⟩, trivial⟩ (fun i r hi => ?_) ?_
 ·have h : (if i = c + 1000 then p + 1000 else if i = p + 1000 then c + 1000 else i) = (if j = c + 1000 then p + 1000 else if j = p + 1000 then c + 1000 else j) := h
  split at h <;> split at h <;> (try split at h) <;> (try split at h) <;> omega
 ·show s.m (if 99 = c + 1000 then p + 1000 else if 99 = p + 1000 then c + 1000 else 99) = _
  rw [h9, h99]
  congr 2
  show _ = (hid n N).map _
  refine List.ext_getElem? fun i => ?_
  by_cases hi : i < N
  ·rw [List.getElem?_map, Zcf n hi, set2_get _ _ _ (by rw [Zaq]; exact hc) (by rw [Zaq]; exact hp), Zcf n hi]
   show _ = some (TV.own (if i + 1000 = c + 1000 then p + 1000 else if i + 1000 = p + 1000 then c + 1000 else i + 1000) n)
   rw [hsw]
   by_cases h1 : i = p
   ·rw [if_pos h1]
    by_cases h2 : i = c
    ·rw [if_pos h2, ← h1, h2]
    ·rw [if_neg h2, if_pos h1]
   ·rw [if_neg h1]
    by_cases h2 : i = c
    ·rw [if_pos h2, if_pos h2]
    ·rw [if_neg h2, if_neg h2, if_neg h1]
  ·rw [List.getElem?_eq_none (by simp [Zaq]; omega), List.getElem?_eq_none (by simp [Zaq]; omega)]
 ·show s.m (if i + 1000 = c + 1000 then p + 1000 else if i + 1000 = p + 1000 then c + 1000 else i + 1000) = _
  rw [hsw]
  have hiN : i < N := by have := (List.getElem?_eq_some_iff.1 hi).1; simp at this; omega
  refine hr _ r ?_
  rw [← hi, set2_get _ _ _ oM oM]
  have hg : ∀ k, k < N → some (R.getD k []) = R[k]? := fun k hk => by rw [List.getD_eq_getElem?_getD, List.getElem?_eq_getElem oM]; rfl
  by_cases h1 : i = p
  ·rw [if_pos h1, hg c hc]
   by_cases h2 : i = c
   ·rw [if_pos h2, ← h1, h2, if_pos rfl]
   ·rw [if_neg h2, if_pos h1]
  ·rw [if_neg h1]
   by_cases h2 : i = c
   ·rw [if_pos h2, if_pos h2, hg p hp, if_neg h1]
   ·rw [if_neg h2, if_neg h2, if_neg h1]
 ·refine allP_imp (fun q hq => ⟨?_, fun j hj => ?_⟩) _ ht
  ·rw [renTV_fix fun j hj => by rw [hq.2 j hj]; exact h9]
   exact hq.1
  ·rw [hq.2 j hj]; rfl
theorem Ent.pushT {s : AS} {L : List (Nat × TV)} {tyR ty : TypeId} {sz n N nt : Nat} {R : List (List AV)} {x : List AV} (hnt : s.nt = nt) (hnd : s.nd = true) (hk : s.k = []) (hR : R.length = N)
  (h99 : s.m 99 = some (.tl tyR (hid n N ++ [.own 50 n]))) (h50 : s.m 50 = some (.lst sz ty x)) (hr : ∀ i r, R[i]? = some r → s.m (i + 1000) = some (.lst sz ty r))
  (ht : AllP (fun q : Nat × TV => s.t q.1 = some q.2 ∧ ∀ j, j ∈ q.2.refs → j = 99) L) : Ent s (Ab.mkT L [(99, .tl tyR (hid n (N + 1)))] sz ty (R ++ [x]) nt) := by
 have h9 : (if 99 = N + 1000 then 50 else 99) = 99 := by rw [if_neg oM]
 have hdom : ∀ i, ((Ab.mkT L [(99, .tl tyR (hid n (N + 1)))] sz ty (R ++ [x]) nt).m i).isSome = true → i ≠ 50 := fun i hi e => by
  subst e
  cases hi
 refine Ent.mkT (fun k => if k = N + 1000 then 50 else k) hnt hnd hk (fun i j hi hj h => ?_) ⟨⟨?_, Zf3 (by simp [hR])⟩, trivial⟩ (fun i r hi => ?_) ?_
 ·have h1 := hdom i hi
  have h2 := hdom j hj
  have h : (if i = N + 1000 then 50 else i) = (if j = N + 1000 then 50 else j) := h
  split at h <;> split at h <;> omega
 ·show s.m (if 99 = N + 1000 then 50 else 99) = _
  rw [h9, h99]
  congr 2
  show _ = (hid n (N + 1)).map _
  unfold hid
  rw [List.range_succ, List.map_append, List.map_append, List.map_map]
  refine congr (congrArg _ (List.map_congr_left fun i hi => ?_)) ?_
  ·have := List.mem_range.1 hi
   show TV.own (i + 1000) n = TV.own (if i + 1000 = N + 1000 then 50 else i + 1000) n
   rw [if_neg oM]
  ·show [TV.own 50 n] = [TV.own (if N + 1000 = N + 1000 then 50 else N + 1000) n]
   rw [if_pos rfl]
 ·show s.m (if i + 1000 = N + 1000 then 50 else i + 1000) = _
  by_cases h1 : i < N
  ·rw [if_neg oM]
   exact hr i r (by rw [List.getElem?_append_left oM] at hi; exact hi)
  ·have hil := (List.getElem?_eq_some_iff.1 hi).1
   simp at hil
   obtain rfl : i = N := oM
   rw [if_pos rfl, h50]
   rw [List.getElem?_append_right oM, hR, Nat.sub_self] at hi
   injection hi with hi
   rw [hi]
 ·refine allP_imp (fun q hq => ⟨?_, fun j hj => ?_⟩) _ ht
  ·rw [renTV_fix fun j hj => by rw [hq.2 j hj]; exact h9]
   exact hq.1
  ·rw [hq.2 j hj]; rfl
end Ab
