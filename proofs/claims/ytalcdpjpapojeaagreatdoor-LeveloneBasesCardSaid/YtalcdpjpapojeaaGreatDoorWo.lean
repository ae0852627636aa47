/- Contracts of functions that need nothing of the callers' blocks. -/
import Derived.Test.YtalcdpjpapojeaaGreatDoorTf
import Derived.Laws.StructEq
set_option linter.all false
namespace Ab
open Go Go.RowKit Go.Proofs
variable {dm : Bool}
abbrev PW (P : Program) (f : FuncId) (args : List AV) (r : AV) : Prop := PCD false P f args r
theorem evL_weak {P : Program} {ops : Array Oper} {w0 : World} {M0 : Cx} (hM : OKC dm M0 w0) {K : AS → Prop} {Q : Exit → Act → World → Prop} (hK : ∀ s a w, K s → Rel w0 M0 s a w → Q .normal a w) (l2 : List Oper) :
    ∀ (l : List Oper) (s : AS) (a : Act) (w : World), EvL dm P ops l s (fun s1 => ∃ s2, Ent s1 s2 ∧ EvL dm P ops l2 s2 K) → Rel w0 M0 s a w → wpList P ops Q (l ++ l2) a w
  | [], s, a, w, h, hr => by
    obtain ⟨s2, he, h⟩ := h
    exact Zds hM hK l2 s2 a w h (he w0 M0 a w hM.weak hr)
  | o :: r, s, a, w, h, hr => by
    rcases h with ⟨x, e, h1, h2⟩ | ⟨-, h⟩
    · refine wpList_step fun K' hK' => ?_
      exact stepG_wp h1 (Agree.refl _ _ _) (fun id b he => ((Za0 h1).1 id b he).2) hM hr K' Q (fun a' w' hr' => hK' a' w' (evL_weak hM hK l2 r _ a' w' h2 hr'))
    · refine wpList_step fun K' hK' => ?_
      exact h w0 M0 hM a w hr K' Q (fun s' a' w' hs hr' => hK' a' w' (evL_weak hM hK l2 r s' a' w' hs hr'))
theorem T.regionW {P : Program} {id : Nat} {l : List Oper} {s : AS} {Q : Exit → AS → Prop} (n : Nat) (h : EvL dm P l.toArray (l.take n) s (fun s1 => ∃ s2, Ent s1 s2 ∧ EvL dm P l.toArray (l.drop n) s2 (Q .normal))) : T dm P (.region id l.toArray false) s Q := fun w0 M0 hM a w hr => by
 have h1 := evL_weak hM (Q := fun x a' w' => ∃ s', Q x s' ∧ Rel w0 M0 s' a' w') (fun s' a' w' h1 h2 => ⟨s', h1, h2⟩) (l.drop n) (l.take n) s a w h hr
 rw [List.take_append_drop] at h1
 exact wp_region_lit h1
section
variable {P : Program} {ops : Array Oper} {s : AS} {dst : Option Tmp} {ty : TypeId} {pos : String} {after : Array Edge} {g : Option (Nat × Bool)}
theorem ss_shl {k yk : IntKind} {xt yt : TypeId} {y z : Operand} {p q c : Int} (hin : InB s dst) (hy : s.ev y = some (.v (.p (.int k p)))) (hz : s.ev z = some (.v (.p (.int yk q)))) (hq : 0 ≤ q)
  (hc : k.wrap (p * 2 ^ (min q.toNat k.bits)) = c) : Za9 dm P ops ⟨dst, .binOp .shl xt y z yt, ty, pos, after, g⟩ s (.v (.p (.int k c))) .none :=
 ss_bin hin hy hz rfl fun w => by
  have : ¬ q < 0 := oM
  simp [eqGuard, binOp, Op.shift, this, hc]
end
theorem u64w {x : Int} (h0 : 0 ≤ x) (h1 : x < 18446744073709551616) : IntKind.u64.wrap x = x := by rw [IntKind.wrap_u64]; omega
theorem u32w {x : Int} (h0 : 0 ≤ x) (h1 : x < 4294967296) : IntKind.u32.wrap x = x := by rw [IntKind.wrap_u32']; omega
theorem u32m (x : Int) : IntKind.u32.wrap x = x % 4294967296 := IntKind.wrap_u32' x
def OwnV (n0 : Nat) (w' : World) (M : Nat → Prop) (sz : Nat) (ty : TypeId) (es : List AV) (v : Value) : Prop :=
 (es = [] ∧ v = .slice none 0 0) ∨ ∃ b k row, n0 ≤ b ∧ b < w'.heap.size ∧ w'.heap[b]? = some (.cells row ty (0, 0)) ∧ es.length ≤ k ∧ k ≤ maxLen ∧ row.size = k * sz ∧ v = .slice (some ⟨b, 0, none⟩) es.length k ∧ NoDg row ∧
  ∀ (i : Nat) e, es[i]? = some e → e.cells.length = sz ∧ ∀ (j : Nat) c, e.cells[j]? = some c → c.one = true ∧ ∃ x, row[i * sz + j]? = some x ∧ Rep w' (fun b' => M b' ∨ b' = b) c x
def PCO (P : Program) (f : FuncId) (args : List AV) (sz : Nat) (ty : TypeId) (es : List AV) : Prop :=
 CallOK P f ∧ ∀ w M, OKM true M w → ∀ vs : List Value, Reps w M args vs → Calls P f vs.toArray w (fun e w' => ∃ v, e = .returned v ∧ Below w.heap.size w w' ∧ OwnV w.heap.size w' M sz ty es v)
theorem pc_bodyO {P : Program} {f : FuncId} {fn : Func} {c : Code} {args : List AV} {es : List AV} {sz t id : Nat} {ty : TypeId} (hf : P.funcs[f]? = some fn) (hname : (fn.name == "runtime.NumGoroutine") = false) (hb : fn.body = some c) (hres : fn.results = #[.tmp t]) (hn : args.length ≤ fn.ntmps)
  (hT : T true P c (Zgj args fn.ntmps true) (fun x s => (x = .normal ∨ x = .ret) ∧ s.nd = true ∧ s.t t = some (.own id es.length) ∧ s.m id = some (.lst sz ty es))) : PCO P f args sz ty es := by
 refine ⟨⟨fn, hf, hname, by rw [hb]; rfl⟩, fun w M hM vs hvs => ?_⟩
 refine calls_of_wp hf hb (Code.wp_mono (fun x a' w' hx => ?_) (hT w (.of M) (.of hM) _ w (Zfg true hvs hn)))
 obtain ⟨s', ⟨hxx, hnd, ht, hm⟩, ρ, h2⟩ := hx
 have key : a'.defers = [] ∧ ∃ v, (results fn a'.tmps).run P w' = .ok v w' ∧ ∃ v', Ending.returned v = .returned v' ∧ Below w.heap.size w w' ∧ OwnV w.heap.size w' M sz ty es v' := by
  obtain ⟨v, h3, h4⟩ := h2.tmps t _ ht
  obtain ⟨sz', ty', es', hm', hle, -, h5⟩ := h4
  rw [hm] at hm'
  injection hm' with hm'
  injection hm' with e1 e2 e3
  subst e1 e2 e3
  refine ⟨h2.defers, v, ?_, v, rfl, h2.below.to, ?_⟩
  ·simp only [results, hres]
   simp [h3]
  ·rcases h5 rfl with ⟨g1, g2, rfl⟩ | ⟨b, k, g1, rfl⟩
   ·exact .inl ⟨List.eq_nil_of_length_eq_zero g2, rfl⟩
   ·rcases h2.slots id _ hm with ⟨k1, -⟩ | ⟨b', cap, row, k1, k2, k3, k4, k5, k6, k7⟩
    ·rw [g1] at k1; cases k1
    ·rw [g1] at k1
     injection k1 with k1
     injection k1 with e1 e2
     subst e1 e2
     have hbase := h2.base id b k (by rw [hm]; rfl) g1
     refine .inr ⟨b, k, row, hbase.1.resolve_right Cx.P_of, hbase.2, k2, k3, k4, k5, rfl, k7 hnd, fun i e he => ?_⟩
     obtain ⟨p1, p2⟩ := k6 i e he
     refine ⟨p1, fun j cc hj => ?_⟩
     obtain ⟨q1, x, q2, q3⟩ := p2 j cc hj
     refine ⟨q1, x, q2, Rep.mono (Zbn.refl _ _) (fun b' _ hh => ?_) q3⟩
     rcases hh with hh | rfl
     ·exact .inl hh
     ·exact .inr ⟨id, k, by rw [hm]; rfl, g1⟩
 rcases hxx with rfl | rfl
 ·exact key
 ·exact key
theorem RelR.newO {w0 : World} {M0 : Cx} {ρ : Nat → Option (Nat × Nat)} {s : AS} {a : Act} {w w' : World} {id : Nat} {x : Blk} {r : Option (Nat × Nat)} (h : RelR w0 M0 ρ s a w) (hb : Below w.heap.size w w') (hid : s.m id = none)
  (hr : ∀ b k, r = some (b, k) → w.heap.size ≤ b ∧ b < w'.heap.size)
  (hs : Zc0 w' (MM M0 (fun j => bif Nat.beq id j then r else ρ j) (upd s.m id x)) (fun j => bif Nat.beq id j then r else ρ j) (upd s.m id x) s.nd id x) :
  RelR w0 M0 (fun j => bif Nat.beq id j then r else ρ j) { s with m := upd s.m id x } a w' := by
 have hρ : ∀ j, j ≠ id → (fun j => bif Nat.beq id j then r else ρ j) j = ρ j := fun j hj => by
  have : Nat.beq id j = false := by
   cases e : Nat.beq id j with
   | false => rfl
   | true => exact absurd (Nat.eq_of_beq_eq_true e) (Ne.symm hj)
  simp [this]
 have hρi : (fun j => bif Nat.beq id j then r else ρ j) id = r := by simp
 generalize (fun j => bif Nat.beq id j then r else ρ j) = ρ' at *
 have hm : Zfa ρ ρ' s.m (upd s.m id x) := fun i y hi => by
  have hne : i ≠ id := fun e => by rw [e, hid] at hi; cases hi
  exact ⟨y, by rw [Zav _ _ (Ne.symm hne)]; exact hi, fun cs e => ⟨⟨cs, e⟩, hρ i hne⟩, fun sz ty es e => ⟨es, e, fun _ => hρ i hne, Nat.le_refl _⟩, fun es e => ⟨⟨es, e⟩, hρ i hne⟩, fun ty cs e => ⟨cs, e, fun _ => hρ i hne, Nat.le_refl _⟩⟩
 have hM' : ∀ b, b < w.heap.size → MM M0 ρ' (upd s.m id x) b → MM M0 ρ s.m b := by
  intro b hbl hmm
  rcases hmm with h0 | ⟨i, k, h1, h2⟩
  ·exact .inl h0
  ·by_cases hi : i = id
   ·subst hi
    rw [hρi] at h2
    have := (hr b k h2).1
    omega
   ·rw [Zav _ _ (Ne.symm hi)] at h1
    rw [hρ i hi] at h2
    exact .inr ⟨i, k, h1, h2⟩
 refine h.step (Zbn.below hb) (h.below.and hb) hm hM' (fun i b k h1 h2 => ?_) (fun i j b k l h1 h2 h3 h4 => ?_) (fun i y hy => ?_)
 ·by_cases hi : i = id
  ·subst hi
   rw [hρi] at h2
   have := hr b k h2
   exact ⟨.inl (Nat.le_trans h.below.size this.1), this.2⟩
  ·rw [Zav _ _ (Ne.symm hi)] at h1
   rw [hρ i hi] at h2
   have := h.base i b k h1 h2
   exact ⟨this.1, Nat.lt_of_lt_of_le this.2 hb.size⟩
 ·by_cases hi : i = id
  ·subst hi
   by_cases hj : j = i
   ·exact hj.symm
   ·rw [Zav _ _ (Ne.symm hj)] at h2
    rw [hρ j hj] at h4
    rw [hρi] at h3
    have := (hr b k h3).1
    have := (h.base j b l h2 h4).2
    omega
  ·by_cases hj : j = id
   ·subst hj
    rw [Zav _ _ (Ne.symm hi)] at h1
    rw [hρ i hi] at h3
    rw [hρi] at h4
    have := (hr b l h4).1
    have := (h.base i b k h1 h3).2
    omega
   ·rw [Zav _ _ (Ne.symm hi)] at h1
    rw [Zav _ _ (Ne.symm hj)] at h2
    rw [hρ i hi] at h3
    rw [hρ j hj] at h4
    exact h.inj i j b k l h1 h2 h3 h4
 ·by_cases hi : i = id
  ·subst hi
   rw [Zat] at hy
   injection hy with hy
   subst hy
   exact hs
  ·rw [Zav _ _ (Ne.symm hi)] at hy
   refine (h.slots i y hy).mono (Zbn.below hb) hM' hm (hρ i hi) (fun b k h1 => ?_)
   exact hb.block b (h.base i b k (by rw [hy]; rfl) h1).2
def OCall (P : Program) (ops : Array Oper) (l : List Oper) (s : AS) (K : AS → Prop) : Prop :=
 ∃ dst f lo ts ty pos after r args sz et es oid, l = ⟨dst, .call ⟨.value (.func f), List.toArray lo, ts⟩, ty, pos, after, none⟩ :: r ∧ InB s dst ∧ s.nd = true ∧ Zd0 s lo = some args ∧ PCO P f args sz et es ∧ s.m oid = none ∧
  EvL true P ops r (s.act dst (.own oid es.length) (.new oid (.lst sz et es))) K
theorem ocall (oid : Nat) {P : Program} {ops : Array Oper} {s : AS} {K : AS → Prop} {dst : Option Tmp} {f : FuncId} {lo : List Operand} {ts : Array TypeId} {ty : TypeId} {pos : String} {after : Array Edge} {r : List Oper} {args : List AV} {sz : Nat} {et : TypeId} {es : List AV}
  (hc : PCO P f args sz et es) (hin : inbB s dst = true) (hnd : s.nd = true) (ha : Zd0 s lo = some args) (hm : s.m oid = none) (k : EvL true P ops r (s.act dst (.own oid es.length) (.new oid (.lst sz et es))) K) :
  OCall P ops (⟨dst, .call ⟨.value (.func f), List.toArray lo, ts⟩, ty, pos, after, none⟩ :: r) s K :=
 ⟨dst, f, lo, ts, ty, pos, after, r, args, sz, et, es, oid, rfl, Zaa hin, hnd, ha, hc, hm, k⟩
theorem own_wpList {P : Program} {ops : Array Oper} {w0 : World} {M0 : Cx} (hM : OKC true M0 w0) {K : AS → Prop} {Q : Exit → Act → World → Prop} (hK : ∀ s a w, K s → Rel w0 M0 s a w → Q .normal a w)
  (l : List Oper) (s : AS) (a : Act) (w : World) (h : OCall P ops l s K) (hr : Rel w0 M0 s a w) : wpList P ops Q l a w := by
 obtain ⟨dst, f, lo, ts, ty, pos, after, r, args, sz, et, es, oid, rfl, hin, hnd, ha, hc, hm, k⟩ := h
 obtain ⟨ρ, hr⟩ := hr
 obtain ⟨⟨fn, h1, h2, h3⟩, hc⟩ := hc
 refine wpList_step fun K' hK' => ?_
 rw [if_pos (show Region.wanted _ (yielded ops a.tmps) = true from rfl)]
 have hreps := Zge (s := s) hr lo (fun x hx => rfl) args ha
 have hcall := hc w _ (okm_of hM hr (by rw [hnd]; rfl)) _ hreps
 have hrun : (execOp a.eval ⟨dst, .call ⟨.value (.func f), lo.toArray, ts⟩, ty, pos, after, none⟩).run P w = .ok (.enter f (lo.map a.eval).toArray) w := by
  simp only [execOp, resolve, Deferred.ofValue, invoke, callFunc, Sem.run_bind, Sem.run_pure, Result.andThen_ok, run_program, h1, h2, h3, Act.eval, Bool.false_eq_true, if_false, List.map_toArray, Array.append_empty, Array.empty_append]
  first | done | rfl
 unfold Oper.wp
 rw [hrun, Oper.upon_enter]
 refine hcall.mono fun e w' he => ?_
 obtain ⟨v, rfl, hb, hv⟩ := he
 refine hK' _ _ ?_
 rcases hv with ⟨rfl, rfl⟩ | ⟨b, kk, row, g1, g2, g3, g4, g5, g6, rfl, g7, g8⟩
 ·have hn := hr.newO (r := none) hb hm (x := .lst sz et []) (fun b k e => by cases e) (.inl ⟨by simp, rfl⟩)
  refine Zds hM hK r _ _ w' k ⟨_, RelR.put (s := { s with m := upd s.m oid (.lst sz et []) }) hn hin ?_⟩
  exact ⟨sz, et, [], Zat _ _ _, Nat.le_refl _, ⟨_, _, _, rfl⟩, fun _ => .inl ⟨by simp, rfl, rfl⟩⟩
 ·have hn := hr.newO (r := some (b, kk)) hb hm (x := .lst sz et es) (fun b' k' e => by injection e with e; injection e with e1 e2; subst e1 e2; exact ⟨g1, g2⟩) (.inr ⟨b, kk, row, by simp, g3, g4, g5, g6, fun i e he => ?_, fun _ => g7⟩)
  ·refine Zds hM hK r _ _ w' k ⟨_, RelR.put (s := { s with m := upd s.m oid (.lst sz et es) }) hn hin ?_⟩
   exact ⟨sz, et, es, Zat _ _ _, Nat.le_refl _, ⟨_, _, _, rfl⟩, fun _ => .inr ⟨b, kk, by simp, rfl⟩⟩
  ·obtain ⟨p1, p2⟩ := g8 i e he
   refine ⟨p1, fun j cc hj => ?_⟩
   obtain ⟨q1, x, q2, q3⟩ := p2 j cc hj
   refine ⟨q1, x, q2, Rep.mono (Zbn.refl _ _) (fun b' _ hh => ?_) q3⟩
   rcases hh with hh | ⟨i', k', p3, p4⟩
   ·exact .inl (.inl hh)
   ·by_cases hi : i' = oid
    ·subst hi
     simp at p4
     exact .inr p4.1.symm
    ·have hne : Nat.beq oid i' = false := by
      cases e : Nat.beq oid i' with
      | false => rfl
      | true => exact absurd (Nat.eq_of_beq_eq_true e).symm hi
     simp only [hne, cond_false] at p4
     rw [Zav _ _ (Ne.symm hi)] at p3
     exact .inl (.inr ⟨i', k', p3, p4⟩)
theorem evL_own {P : Program} {ops : Array Oper} {w0 : World} {M0 : Cx} (hM : OKC true M0 w0) {K : AS → Prop} {Q : Exit → Act → World → Prop} (hK : ∀ s a w, K s → Rel w0 M0 s a w → Q .normal a w) (l2 : List Oper) :
    ∀ (l : List Oper) (s : AS) (a : Act) (w : World), EvL true P ops l s (fun s1 => OCall P ops l2 s1 K) → Rel w0 M0 s a w → wpList P ops Q (l ++ l2) a w
  | [], s, a, w, h, hr => own_wpList hM hK l2 s a w h hr
  | o :: r, s, a, w, h, hr => by
    rcases h with ⟨x, e, h1, h2⟩ | ⟨-, h⟩
    · refine wpList_step fun K' hK' => ?_
      exact stepG_wp h1 (Agree.refl _ _ _) (fun id b he => ((Za0 h1).1 id b he).2) hM hr K' Q (fun a' w' hr' => hK' a' w' (evL_own hM hK l2 r _ a' w' h2 hr'))
    · refine wpList_step fun K' hK' => ?_
      exact h w0 M0 hM a w hr K' Q (fun s' a' w' hs hr' => hK' a' w' (evL_own hM hK l2 r s' a' w' hs hr'))
theorem T.regionO {P : Program} {id : Nat} {l : List Oper} {s : AS} {Q : Exit → AS → Prop} (n : Nat) (h : EvL true P l.toArray (l.take n) s (fun s1 => OCall P l.toArray (l.drop n) s1 (Q .normal))) : T true P (.region id l.toArray false) s Q := fun w0 M0 hM a w hr => by
 have h1 := evL_own hM (Q := fun x a' w' => ∃ s', Q x s' ∧ Rel w0 M0 s' a' w') (fun s' a' w' h1 h2 => ⟨s', h1, h2⟩) (l.drop n) (l.take n) s a w h hr
 rw [List.take_append_drop] at h1
 exact wp_region_lit h1
variable {dm : Bool}
def Zd3 (σ : Nat → Nat) : TV → TV
 | .v a => .v a
 | .ptr s o => .ptr (σ s) o
 | .own s n => .own (σ s) n
 | .ep e o => .ep e o
 | .op s n i o => .op (σ s) n i o
 | .st p s n q => .st p (σ s) n q
 | .fn f cs => .fn f (cs.map fun p => (σ p.1, p.2))
 | .mp s => .mp (σ s)
 | .ot s n => .ot (σ s) n
 | .opt s n i => .opt (σ s) n i
 | .bm f s o => .bm f (σ s) o
 | .em => .em
def renB (σ : Nat → Nat) : Blk → Blk
 | .var cs => .var (cs.map (Zd3 σ))
 | .lst sz ty es => .lst sz ty es
 | .mp es => .mp es
 | .tl ty cs => .tl ty (cs.map (Zd3 σ))
def TV.refs : TV → List Nat
 | .ptr s _ => [s]
 | .own s _ => [s]
 | .op s _ _ _ => [s]
 | .st _ s _ _ => [s]
 | .fn _ cs => cs.map (·.1)
 | .mp s => [s]
 | .ot s _ => [s]
 | .opt s _ _ => [s]
 | .bm _ s _ => [s]
 | _ => []
theorem renB_lst {σ : Nat → Nat} {b : Blk} {sz : Nat} {ty : TypeId} {es : List AV} (h : renB σ b = .lst sz ty es) : b = .lst sz ty es := by
 cases b with
 | var => cases h
 | mp => cases h
 | tl => cases h
 | lst => exact h
theorem renB_mp {σ : Nat → Nat} {b : Blk} {es : List (AV × AV)} (h : renB σ b = .mp es) : b = .mp es := by
 cases b with
 | var => cases h
 | lst => cases h
 | tl => cases h
 | mp => exact h
theorem renB_tl {σ : Nat → Nat} {b : Blk} {ty : TypeId} {cs : List TV} (h : renB σ b = .tl ty cs) : ∃ cs', b = .tl ty cs' ∧ cs = cs'.map (Zd3 σ) := by
 cases b with
 | var => cases h
 | lst => cases h
 | mp => cases h
 | tl ty' cs' => injection h with h1 h2; subst h1; exact ⟨cs', rfl, h2.symm⟩
theorem renB_var {σ : Nat → Nat} {b : Blk} {cs : List TV} (h : renB σ b = .var cs) : ∃ cs', b = .var cs' ∧ cs = cs'.map (Zd3 σ) := by
 cases b with
 | var cs' => injection h with h; exact ⟨cs', rfl, h.symm⟩
 | lst => cases h
 | mp => cases h
 | tl => cases h
theorem TRep.ren {w : World} {M M' : Nat → Prop} {ρ ρ' : Nat → Option (Nat × Nat)} {m m' : Nat → Option Blk} {σ : Nat → Nat} (hM : ∀ b, b < w.heap.size → M' b → M b) (hm : ∀ i b, m i = some b → m' (σ i) = some (renB σ b) ∧ ρ' (σ i) = ρ i) {x : TV} {v : Value} (h : TRep w M ρ m x v) : TRep w M' ρ' m' (Zd3 σ x) v := by
  have hrep : ∀ {a : AV} {v : Value}, Rep w M a v → Rep w M' a v := fun h => Rep.mono (Zbn.refl _ _) hM h
  have hlst : ∀ {i : Nat} {sz : Nat} {ty : TypeId} {es : List AV}, m i = some (.lst sz ty es) → m' (σ i) = some (.lst sz ty es) ∧ ρ' (σ i) = ρ i := fun h => hm _ _ h
  cases x with
  | v a => exact hrep h
  | ptr s o =>
    obtain ⟨⟨cs, h1⟩, b, k, h2, h3⟩ := h
    obtain ⟨g1, g2⟩ := hm _ _ h1
    exact ⟨⟨_, g1⟩, b, k, g2.trans h2, h3⟩
  | em => exact h
  | bm f s o =>
    obtain ⟨⟨cs, h1⟩, b, k, h2, h3⟩ := h
    obtain ⟨g1, g2⟩ := hm _ _ h1
    exact ⟨⟨_, g1⟩, b, k, g2.trans h2, h3⟩
  | own s n =>
    obtain ⟨sz, ty, es, h1, h2, h3, h4⟩ := h
    obtain ⟨g1, g2⟩ := hlst h1
    exact ⟨sz, ty, es, g1, h2, h3, fun e => by rw [g2]; exact h4 e⟩
  | ep e o =>
    obtain ⟨b, off, h1, h2⟩ := h
    refine ⟨b, off, h1, fun j c hj => ?_⟩
    obtain ⟨h3, h4, x, h5, h6⟩ := h2 j c hj
    exact ⟨h3, fun hm => h4 (hM b (lt_of_cell h5) hm), x, h5, hrep h6⟩
  | op s n i o =>
    obtain ⟨sz, ty, es, h1, h2, b, off, h3, h4⟩ := h
    obtain ⟨g1, g2⟩ := hlst h1
    exact ⟨sz, ty, es, g1, h2, b, off, h3, fun e => by rw [g2]; exact h4 e⟩
  | st p s n q =>
    obtain ⟨vs, h1, h2, h3, h4, u, h5, sz, ty, es, h6, h7, h8, h9⟩ := h
    obtain ⟨g1, g2⟩ := hlst h6
    refine ⟨vs, h1, h2, fun j c hj => ⟨(h3 j c hj).1, ?_⟩, fun j c hj => ⟨(h4 j c hj).1, ?_⟩, u, h5, sz, ty, es, g1, h7, h8, fun e => by rw [g2]; exact h9 e⟩
    · obtain ⟨x, k1, k2⟩ := (h3 j c hj).2
      exact ⟨x, k1, hrep k2⟩
    · obtain ⟨x, k1, k2⟩ := (h4 j c hj).2
      exact ⟨x, k1, hrep k2⟩
  | fn f cs =>
    obtain ⟨vs, h1, h2, h3⟩ := h
    refine ⟨vs, h1, by rw [List.length_map]; exact h2, fun j p hj => ?_⟩
    rw [List.getElem?_map, Option.map_eq_some_iff] at hj
    obtain ⟨q, hq, rfl⟩ := hj
    obtain ⟨⟨c, g1⟩, b, k, g2, g3⟩ := h3 j q hq
    obtain ⟨e1, e2⟩ := hm _ _ g1
    exact ⟨⟨_, e1⟩, b, k, e2.trans g2, g3⟩
  | mp s =>
    obtain ⟨⟨es, h1⟩, b, k, h2, h3⟩ := h
    obtain ⟨g1, g2⟩ := hm _ _ h1
    exact ⟨⟨_, g1⟩, b, k, g2.trans h2, h3⟩
  | ot s n =>
    obtain ⟨ty, cs, h1, h2, h3, h4⟩ := h
    obtain ⟨g1, g2⟩ := hm _ _ h1
    exact ⟨ty, _, g1, by rw [List.length_map]; exact h2, h3, fun e => by rw [g2]; exact h4 (by rw [List.length_map] at e; exact e)⟩
  | opt s n i =>
    obtain ⟨ty, cs, h1, h2, b, off, h3, h4⟩ := h
    obtain ⟨g1, g2⟩ := hm _ _ h1
    exact ⟨ty, _, g1, by rw [List.length_map]; exact h2, b, off, h3, fun e => by rw [g2]; exact h4 (by rw [List.length_map] at e; exact e)⟩
theorem TRep.unren {w : World} {M M' : Nat → Prop} {ρ ρ' : Nat → Option (Nat × Nat)} {m m' : Nat → Option Blk} {σ : Nat → Nat} (hM : ∀ b, b < w.heap.size → M b → M' b) {x : TV} (hx : ∀ i, i ∈ x.refs → ∃ b, m i = some b ∧ m' (σ i) = some (renB σ b) ∧ ρ' (σ i) = ρ i) {v : Value} (h : TRep w M' ρ' m' (Zd3 σ x) v) : TRep w M ρ m x v := by
  have hrep : ∀ {a : AV} {v : Value}, Rep w M' a v → Rep w M a v := fun h => Rep.mono (Zbn.refl _ _) hM h
  have hlst : ∀ {i : Nat} {sz : Nat} {ty : TypeId} {es : List AV}, i ∈ x.refs → m' (σ i) = some (.lst sz ty es) → m i = some (.lst sz ty es) ∧ ρ' (σ i) = ρ i := fun hr h => by
    obtain ⟨b, g1, g2, g3⟩ := hx _ hr
    rw [g2] at h
    injection h with h
    rw [g1, renB_lst h]
    exact ⟨rfl, g3⟩
  cases x with
  | v a => exact hrep h
  | ptr s o =>
    obtain ⟨⟨cs, h1⟩, b, k, h2, h3⟩ := h
    obtain ⟨b', g1, g2, g3⟩ := hx s (List.mem_singleton.2 rfl)
    rw [g2] at h1
    injection h1 with h1
    obtain ⟨cs', rfl, -⟩ := renB_var h1
    exact ⟨⟨cs', g1⟩, b, k, g3.symm.trans h2, h3⟩
  | em => exact h
  | bm f s o =>
    obtain ⟨⟨cs, h1⟩, b, k, h2, h3⟩ := h
    obtain ⟨b', g1, g2, g3⟩ := hx s (List.mem_singleton.2 rfl)
    rw [g2] at h1
    injection h1 with h1
    obtain ⟨cs', rfl, -⟩ := renB_var h1
    exact ⟨⟨cs', g1⟩, b, k, g3.symm.trans h2, h3⟩
  | own s n =>
    obtain ⟨sz, ty, es, h1, h2, h3, h4⟩ := h
    obtain ⟨g1, g2⟩ := hlst (List.mem_singleton.2 rfl) h1
    exact ⟨sz, ty, es, g1, h2, h3, fun e => by rw [← g2]; exact h4 e⟩
  | ep e o =>
    obtain ⟨b, off, h1, h2⟩ := h
    refine ⟨b, off, h1, fun j c hj => ?_⟩
    obtain ⟨h3, h4, x, h5, h6⟩ := h2 j c hj
    exact ⟨h3, fun hm => h4 (hM b (lt_of_cell h5) hm), x, h5, hrep h6⟩
  | op s n i o =>
    obtain ⟨sz, ty, es, h1, h2, b, off, h3, h4⟩ := h
    obtain ⟨g1, g2⟩ := hlst (List.mem_singleton.2 rfl) h1
    exact ⟨sz, ty, es, g1, h2, b, off, h3, fun e => by rw [← g2]; exact h4 e⟩
  | st p s n q =>
    obtain ⟨vs, h1, h2, h3, h4, u, h5, sz, ty, es, h6, h7, h8, h9⟩ := h
    obtain ⟨g1, g2⟩ := hlst (List.mem_singleton.2 rfl) h6
    refine ⟨vs, h1, h2, fun j c hj => ⟨(h3 j c hj).1, ?_⟩, fun j c hj => ⟨(h4 j c hj).1, ?_⟩, u, h5, sz, ty, es, g1, h7, h8, fun e => by rw [← g2]; exact h9 e⟩
    · obtain ⟨x, k1, k2⟩ := (h3 j c hj).2
      exact ⟨x, k1, hrep k2⟩
    · obtain ⟨x, k1, k2⟩ := (h4 j c hj).2
      exact ⟨x, k1, hrep k2⟩
  | fn f cs =>
    obtain ⟨vs, h1, h2, h3⟩ := h
    refine ⟨vs, h1, by rw [List.length_map] at h2; exact h2, fun j p hj => ?_⟩
    obtain ⟨⟨c, k1⟩, b, k, k2, k3⟩ := h3 j (σ p.1, p.2) (by rw [List.getElem?_map, hj]; rfl)
    obtain ⟨b', g1, g2, g3⟩ := hx p.1 (List.mem_map.2 ⟨p, List.mem_of_getElem? hj, rfl⟩)
    have k1 : m' (σ p.1) = some (.var c) := k1
    rw [g2] at k1
    injection k1 with k1
    obtain ⟨cs', rfl, -⟩ := renB_var k1
    exact ⟨⟨cs', g1⟩, b, k, g3.symm.trans k2, k3⟩
  | mp s =>
    obtain ⟨⟨es, h1⟩, b, k, h2, h3⟩ := h
    obtain ⟨b', g1, g2, g3⟩ := hx s (List.mem_singleton.2 rfl)
    rw [g2] at h1
    injection h1 with h1
    have := renB_mp h1
    subst this
    exact ⟨⟨es, g1⟩, b, k, g3.symm.trans h2, h3⟩
  | ot s n =>
    obtain ⟨ty, cs, h1, h2, h3, h4⟩ := h
    obtain ⟨b', g1, g2, g3⟩ := hx s (List.mem_singleton.2 rfl)
    rw [g2] at h1
    injection h1 with h1
    obtain ⟨cs', rfl, rfl⟩ := renB_tl h1
    rw [List.length_map] at h2 h4
    exact ⟨ty, cs', g1, h2, h3, fun e => by rw [← g3]; exact h4 e⟩
  | opt s n i =>
    obtain ⟨ty, cs, h1, h2, b, off, h3, h4⟩ := h
    obtain ⟨b', g1, g2, g3⟩ := hx s (List.mem_singleton.2 rfl)
    rw [g2] at h1
    injection h1 with h1
    obtain ⟨cs', rfl, rfl⟩ := renB_tl h1
    rw [List.length_map] at h2 h4
    exact ⟨ty, cs', g1, h2, b, off, h3, fun e => by rw [← g3]; exact h4 e⟩
theorem Zc0.ren {w : World} {M M' : Nat → Prop} {ρ ρ' : Nat → Option (Nat × Nat)} {m m' : Nat → Option Blk} {nd nd' : Bool} {σ : Nat → Nat} (hnd : nd' = true → nd = true) (hM : ∀ b, b < w.heap.size → M' b → M b) (hm : ∀ i b, m i = some b → m' (σ i) = some (renB σ b) ∧ ρ' (σ i) = ρ i) {i : Nat} {x : Blk} (hi : m i = some x) (h : Zc0 w M ρ m nd i x) : Zc0 w M' ρ' m' nd' (σ i) (renB σ x) := by
  have hρ := (hm i x hi).2
  cases x with
  | var cs =>
    obtain ⟨b, k, t, row, h1, h2, h3, h4, h5⟩ := h
    refine ⟨b, k, t, row, hρ.trans h1, h2, by rw [List.length_map]; exact h3, fun j c hj => ?_, fun e => h5 (hnd e)⟩
    rw [List.getElem?_map, Option.map_eq_some_iff] at hj
    obtain ⟨c', e, rfl⟩ := hj
    obtain ⟨v, g1, g2, g3⟩ := h4 j c' e
    exact ⟨v, g1, g2, TRep.ren hM hm g3⟩
  | lst sz ty es =>
    rcases h with ⟨h1, h2⟩ | ⟨b, cap, row, h1, h2, h3, h4, h5, h6, h7⟩
    · exact .inl ⟨hρ.trans h1, h2⟩
    · refine .inr ⟨b, cap, row, hρ.trans h1, h2, h3, h4, h5, fun k e he => ⟨(h6 k e he).1, fun j c hj => ?_⟩, fun e => h7 (hnd e)⟩
      obtain ⟨g1, v, g2, g3⟩ := (h6 k e he).2 j c hj
      exact ⟨g1, v, g2, Rep.mono (Zbn.refl _ _) hM g3⟩
  | mp es =>
    obtain ⟨b, k, clock, arr, h1, h2, h3, h4⟩ := h
    refine ⟨b, k, clock, arr, hρ.trans h1, h2, h3, fun j p hj => ?_⟩
    obtain ⟨en, g1, g2, g3⟩ := h4 j p hj
    exact ⟨en, g1, Rep.mono (Zbn.refl _ _) hM g2, Rep.mono (Zbn.refl _ _) hM g3⟩
  | tl ty cs =>
    rcases h with ⟨h1, h2⟩ | ⟨b, cap, row, h1, h2, h3, h4, h5, h6, h7⟩
    · exact .inl ⟨hρ.trans h1, by rw [h2]; rfl⟩
    · refine .inr ⟨b, cap, row, hρ.trans h1, h2, by rw [List.length_map]; exact h3, h4, h5, fun j c hj => ?_, fun e => h7 (hnd e)⟩
      rw [List.getElem?_map, Option.map_eq_some_iff] at hj
      obtain ⟨c', e, rfl⟩ := hj
      obtain ⟨v, g1, g2, g3⟩ := h6 j c' e
      exact ⟨v, g1, g2, TRep.ren hM hm g3⟩
theorem Zc0.unren {w : World} {M M' : Nat → Prop} {ρ ρ' : Nat → Option (Nat × Nat)} {m m' : Nat → Option Blk} {nd nd' : Bool} {σ : Nat → Nat} (hnd : nd = true → nd' = true) (hM : ∀ b, b < w.heap.size → M b → M' b) {i : Nat} {x : Blk} (hρ : ρ' (σ i) = ρ i)
    (hx : ∀ cs, (x = .var cs ∨ ∃ ty, x = .tl ty cs) → ∀ c, c ∈ cs → ∀ i, i ∈ c.refs → ∃ b, m i = some b ∧ m' (σ i) = some (renB σ b) ∧ ρ' (σ i) = ρ i) (h : Zc0 w M' ρ' m' nd' (σ i) (renB σ x)) : Zc0 w M ρ m nd i x := by
  cases x with
  | var cs =>
    obtain ⟨b, k, t, row, h1, h2, h3, h4, h5⟩ := h
    refine ⟨b, k, t, row, hρ.symm.trans h1, h2, by rw [List.length_map] at h3; exact h3, fun j c hj => ?_, fun e => h5 (hnd e)⟩
    obtain ⟨v, g1, g2, g3⟩ := h4 j (Zd3 σ c) (by rw [List.getElem?_map, hj]; rfl)
    exact ⟨v, g1, g2, TRep.unren hM (hx cs (.inl rfl) c (List.mem_of_getElem? hj)) g3⟩
  | lst sz ty es =>
    rcases h with ⟨h1, h2⟩ | ⟨b, cap, row, h1, h2, h3, h4, h5, h6, h7⟩
    · exact .inl ⟨hρ.symm.trans h1, h2⟩
    · refine .inr ⟨b, cap, row, hρ.symm.trans h1, h2, h3, h4, h5, fun k e he => ⟨(h6 k e he).1, fun j c hj => ?_⟩, fun e => h7 (hnd e)⟩
      obtain ⟨g1, v, g2, g3⟩ := (h6 k e he).2 j c hj
      exact ⟨g1, v, g2, Rep.mono (Zbn.refl _ _) hM g3⟩
  | mp es =>
    obtain ⟨b, k, clock, arr, h1, h2, h3, h4⟩ := h
    refine ⟨b, k, clock, arr, hρ.symm.trans h1, h2, h3, fun j p hj => ?_⟩
    obtain ⟨en, g1, g2, g3⟩ := h4 j p hj
    exact ⟨en, g1, Rep.mono (Zbn.refl _ _) hM g2, Rep.mono (Zbn.refl _ _) hM g3⟩
  | tl ty cs =>
    rcases h with ⟨h1, h2⟩ | ⟨b, cap, row, h1, h2, h3, h4, h5, h6, h7⟩
    · exact .inl ⟨hρ.symm.trans h1, by cases cs with | nil => rfl | cons => cases h2⟩
    · refine .inr ⟨b, cap, row, hρ.symm.trans h1, h2, by rw [List.length_map] at h3; exact h3, h4, h5, fun j c hj => ?_, fun e => h7 (hnd e)⟩
      obtain ⟨v, g1, g2, g3⟩ := h6 j (Zd3 σ c) (by rw [List.getElem?_map, hj]; rfl)
      exact ⟨v, g1, g2, TRep.unren hM (hx cs (.inr ⟨ty, rfl⟩) c (List.mem_of_getElem? hj)) g3⟩
def PCM (dm : Bool) (P : Program) (f : FuncId) (args : List TV) (L : List (Nat × Blk)) (nd : Bool) (res : TV) (L' : List (Nat × Blk)) : Prop :=
 CallOK P f ∧ ∀ (w : World) (M0 : Cx), OKC dm M0 w → M0.m0 = Za5 L → ∀ vs : List Value,
  RelR w M0 M0.ρ0 { t := fun i => args[i]?, m := Za5 L, nt := args.length, nd := nd, k := L.map (·.1) } { tmps := vs.toArray, defers := [] } w →
  Calls P f vs.toArray w (fun e w' => ∃ v ρ', e = .returned v ∧ RelR w M0 ρ' { t := fun i => bif Nat.beq i 0 then some res else none, m := Za5 L', nt := 1, nd := nd, k := L.map (·.1) } { tmps := #[v], defers := [] } w')
section
variable {P : Program} {f : FuncId} {fn : Func} {c : Code} {args : List TV} {L L' : List (Nat × Blk)} {nd : Bool}
theorem pcm_start {w : World} {M0 : Cx} {vs : List Value} {nt : Nat} (hn : args.length ≤ nt) (hr : RelR w M0 M0.ρ0 { t := fun i => args[i]?, m := Za5 L, nt := args.length, nd := nd, k := L.map (·.1) } { tmps := vs.toArray, defers := [] } w) :
  RelR w M0 M0.ρ0 { t := fun i => args[i]?, m := Za5 L, nt := nt, nd := nd, k := L.map (·.1) } { tmps := vs.toArray ++ Array.replicate (nt - vs.toArray.size) undef, defers := [] } w := by
 have hvl : vs.length = args.length := by have := hr.nt; simpa using this
 refine ⟨hr.below, hr.defers, by simp [hvl]; omega, hr.base, hr.inj, hr.slots, fun i x hi => ?_, hr.pas, hr.kid⟩
 obtain ⟨v, h1, h2⟩ := hr.tmps i x hi
 refine ⟨v, ?_, h2⟩
 rw [Array.getElem?_append_left (Array.getElem?_eq_some_iff.1 h1).1]
 exact h1
theorem pcm_end {w w' : World} {M0 : Cx} {ρ' : Nat → Option (Nat × Nat)} {s : AS} {a : Act} {res : TV} {v : Value} {k : List Nat} (hd : [] = M0.df) (h : RelR w M0 ρ' s a w') (hv : TRep w' (MM M0 ρ' s.m) ρ' s.m res v) (hk : s.k = k) (hnd : s.nd = nd) :
  RelR w M0 ρ' { t := fun i => bif Nat.beq i 0 then some res else none, m := s.m, nt := 1, nd := nd, k := k } { tmps := #[v], defers := [] } w' := by
 subst hk hnd
 refine ⟨h.below, hd, rfl, h.base, h.inj, h.slots, fun i x hi => ?_, h.pas, h.kid⟩
 rcases i with _ | i
 ·simp at hi
  subst hi
  exact ⟨v, rfl, hv⟩
 ·cases hi
theorem pc_bodyM0 (hf : P.funcs[f]? = some fn) (hname : (fn.name == "runtime.NumGoroutine") = false) (hb : fn.body = some c) (hres : fn.results = #[]) (hn : args.length ≤ fn.ntmps)
  (hT : T dm P c { t := fun i => args[i]?, m := Za5 L, nt := fn.ntmps, nd := nd, k := L.map (·.1) } (fun x s => (x = .normal ∨ x = .ret) ∧ Ent s (mkP [] L' fn.ntmps nd (L.map (·.1))))) : PCM dm P f args L nd (.v (.tup [])) L' := by
 refine ⟨⟨fn, hf, hname, by rw [hb]; rfl⟩, fun w M0 hM hm0 vs hr => ?_⟩
 refine calls_of_wp hf hb (Code.wp_mono (fun x a' w' hx => ?_) (hT w M0 hM _ w ⟨_, pcm_start hn hr⟩))
 obtain ⟨s', ⟨hxx, he⟩, hrel⟩ := hx
 obtain ⟨ρ', h2⟩ := he w M0 a' w' hM.weak hrel
 have key : a'.defers = [] ∧ ∃ v, (results fn a'.tmps).run P w' = .ok v w' ∧ ∃ v' ρ', Ending.returned v = .returned v' ∧ RelR w M0 ρ' { t := fun i => bif Nat.beq i 0 then some (.v (.tup [])) else none, m := Za5 L', nt := 1, nd := nd, k := L.map (·.1) } { tmps := #[v'], defers := [] } w' := by
  refine ⟨h2.defers.trans hr.defers.symm, .tuple #[], ?_, _, ρ', rfl, pcm_end hr.defers h2 (rep_undef _ _) rfl rfl⟩
  simp only [results, hres]
  simp
 rcases hxx with rfl | rfl
 ·exact key
 ·exact key
end
def sg (S : List (Nat × Nat)) (i : Nat) : Nat := (Za5 S i).getD 0
def ivS (S : List (Nat × Nat)) : List (Nat × Nat) := S.map fun p => (p.2, p.1)
def nodB : List Nat → Bool
 | [] => true
 | x :: l => !(l.any fun y => Nat.beq x y) && nodB l
def memR (S : List (Nat × Nat)) (L' : List (Nat × Blk)) (m : Nat → Option Blk) (j : Nat) : Option Blk := match Za5 (ivS S) j with
 | some i => (Za5 L' i).map (renB (sg S))
 | none => m j
def refIn (L : List (Nat × Blk)) (x : TV) : Bool := x.refs.all fun i => (Za5 L i).isSome
def okS (S : List (Nat × Nat)) (L L' : List (Nat × Blk)) : Bool := nodB (S.map (·.1)) && nodB (S.map (·.2)) && (L.all fun p => (Za5 S p.1).isSome) && (L'.all fun p => (Za5 S p.1).isSome) && (S.all fun p => (Za5 L' p.1).isSome) &&
 L.all fun p => match p.2 with | .var cs => cs.all (refIn L) | .lst .. => true | .mp _ => true | .tl _ cs => cs.all (refIn L)
theorem beq_false {a b : Nat} (h : a ≠ b) : Nat.beq a b = false := by
 cases e : Nat.beq a b with
 | false => rfl
 | true => exact absurd (Nat.eq_of_beq_eq_true e) h
theorem Zd1 {α : Type} : ∀ {l : List (Nat × α)} {i : Nat} {x : α}, Za5 l i = some x → (i, x) ∈ l
  | [], i, x, h => by cases h
  | (k, y) :: r, i, x, h => by
    simp only [Za5] at h
    by_cases hk : k = i
    · subst hk
      simp at h
      subst h
      simp
    · rw [beq_false hk] at h
      exact List.mem_cons_of_mem _ (Zd1 h)
theorem alook_of {α : Type} : ∀ {l : List (Nat × α)} {i : Nat} {x : α}, nodB (l.map (·.1)) = true → (i, x) ∈ l → Za5 l i = some x
  | [], i, x, _, h => by cases h
  | (k, y) :: r, i, x, hn, h => by
    simp only [List.map_cons, nodB, Bool.and_eq_true, Bool.not_eq_true', List.any_eq_false] at hn
    simp only [Za5]
    rcases List.mem_cons.1 h with h | h
    · injection h with h1 h2
      subst h1 h2
      simp
    · have hk : k ≠ i := fun e => by
        subst e
        have := hn.1 k (List.mem_map.2 ⟨(k, x), h, rfl⟩)
        simp at this
      rw [beq_false hk]
      exact alook_of hn.2 h
theorem sg_iff {S : List (Nat × Nat)} (h1 : nodB (S.map (·.1)) = true) (h2 : nodB (S.map (·.2)) = true) {i j : Nat} : Za5 S i = some j ↔ Za5 (ivS S) j = some i := by
 have e : (ivS S).map (·.1) = S.map (·.2) := by unfold ivS; rw [List.map_map]; rfl
 constructor
 ·intro h
  exact alook_of (by rw [e]; exact h2) (List.mem_map.2 ⟨(i, j), Zd1 h, rfl⟩)
 ·intro h
  obtain ⟨⟨a, b⟩, h3, h4⟩ := List.mem_map.1 (Zd1 h)
  injection h4 with h4 h5
  subst h4 h5
  exact alook_of h1 h3
theorem evM {P : Program} {ops : Array Oper} {o : Oper} {r : List Oper} {s : AS} {K : AS → Prop} (h : MStep dm P ops o s (fun s' => EvL dm P ops r s' K)) : EvL dm P ops (o :: r) s K := .inr ⟨rfl, h⟩
theorem ms_core {P : Program} {ops : Array Oper} {s : AS} {f : FuncId} {args : List TV} {L L' : List (Nat × Blk)} {res : TV} {nd : Bool} {dst : Option Tmp} {op : Op} {ty : TypeId} {pos : String} {after : Array Edge} {K : AS → Prop} (S : List (Nat × Nat))
  (hc : PCM dm P f args L nd res L') (hS : okS S L L' = true) (hin : inbB s dst = true) (hnd : s.nd = nd) (hdm : (!dm || nd) = true) (har : args.all (refIn L) = true)
  (hL : AllP (fun p : Nat × Blk => s.m (sg S p.1) = some (renB (sg S) p.2)) L) (hnew : AllP (fun p : Nat × Nat => (Za5 L p.1).isSome = true ∨ s.m p.2 = none) S)
  (hrun : ∀ w0 M0 ρ a w, RelR w0 M0 ρ s a w → ∃ vs : List Value, vs.length = args.length ∧ (∀ (i : Nat) x, args[i]? = some x → ∃ v, vs[i]? = some v ∧ TRep w (MM M0 ρ s.m) ρ s.m (Zd3 (sg S) x) v) ∧ (execOp a.eval ⟨dst, op, ty, pos, after, none⟩).run P w = .ok (.enter f vs.toArray) w)
  (k : K { s with t := updo s.t dst (Zd3 (sg S) res), m := memR S L' s.m }) : MStep dm P ops ⟨dst, op, ty, pos, after, none⟩ s K := by
 intro w0 M0 hM a w hrel next Q hn
 obtain ⟨ρ, hr⟩ := hrel
 obtain ⟨-, hc⟩ := hc
 obtain ⟨vs, hvl, hva, hrun⟩ := hrun w0 M0 ρ a w hr
 rw [if_pos (show Region.wanted _ (yielded ops a.tmps) = true from rfl)]
 simp only [okS, Bool.and_eq_true, List.all_eq_true] at hS
 obtain ⟨⟨⟨⟨⟨n1, n2⟩, oL⟩, oL'⟩, oS⟩, cl⟩ := hS
 have hiff := fun {i j : Nat} => sg_iff (i := i) (j := j) n1 n2
 have hLm := Zd2 hL
 have inS : ∀ {L0 : List (Nat × Blk)}, (∀ p, p ∈ L0 → (Za5 S p.1).isSome = true) → ∀ {i b}, Za5 L0 i = some b → Za5 S i = some (sg S i) := fun h i b hi => by
  have := h (i, b) (Zd1 hi)
  obtain ⟨j, hj⟩ := Option.isSome_iff_exists.1 this
  unfold sg
  rw [hj]; rfl
 have iL := fun {i b} => inS oL (i := i) (b := b)
 have iL' := fun {i b} => inS oL' (i := i) (b := b)
 have F1 : ∀ i b, Za5 L i = some b → s.m (sg S i) = some (renB (sg S) b) := fun i b h => hLm i b h
 -- what the callee is given
 have hC : ∃ C : Cx, C = ⟨fun b => MM M0 ρ s.m b ∧ ¬ ∃ i k, (Za5 L i).isSome = true ∧ ρ (sg S i) = some (b, k), Za5 L, fun i => ρ (sg S i), []⟩ := ⟨_, rfl⟩
 obtain ⟨C, eC⟩ := hC
 have cM : ∀ b, C.M b ↔ (MM M0 ρ s.m b ∧ ¬ C.P b) := fun b => by rw [eC]; exact Iff.rfl
 have cm : C.m0 = Za5 L := by rw [eC]
 have cρ : ∀ i, C.ρ0 i = ρ (sg S i) := fun i => by rw [eC]
 have cd : C.df = [] := by rw [eC]
 have cP : ∀ b, C.P b → ∃ i k, (Za5 L i).isSome = true ∧ ρ (sg S i) = some (b, k) := fun b h => by rw [eC] at h; exact h
 clear eC
 have F1s : ∀ i, (Za5 L i).isSome = true → (s.m (sg S i)).isSome = true := fun i h => by
  obtain ⟨b, hb⟩ := Option.isSome_iff_exists.1 h
  rw [F1 i b hb]; rfl
 have cPb : ∀ b, C.P b → (w0.heap.size ≤ b ∨ M0.P b) ∧ b < w.heap.size := fun b h => by
  obtain ⟨i, k, h1, h2⟩ := cP b h
  exact hr.base _ b k (F1s i h1) h2
 have cPM : ∀ b, C.P b → MM M0 ρ s.m b := fun b h => by
  obtain ⟨i, k, h1, h2⟩ := cP b h
  exact .inr ⟨_, k, F1s i h1, h2⟩
 have hOKw := okm_of hM hr (by rw [hnd]; exact hdm)
 have hOK : OKC dm C w := ⟨⟨fun b hb => hOKw.1 b ((cM b).1 hb).1, fun b l hb => ⟨fun h => (hOKw.2 b l hb).1 ((cM b).1 h).1, (hOKw.2 b l hb).2⟩⟩, fun b hb => ⟨(cPb b hb).2, fun h => ((cM b).1 h).2 hb, by
  cases ht : Tabs b with
  | none => rfl
  | some l => exact ((hOKw.2 b l ht).1 (cPM b hb)).elim⟩⟩
 have sub : ∀ b, MM C C.ρ0 (Za5 L) b → MM M0 ρ s.m b := by
  rintro b (h | ⟨i, k, h1, h2⟩)
  ·exact ((cM b).1 h).1
  ·exact .inr ⟨_, k, F1s i h1, by rw [← cρ]; exact h2⟩
 have hstart : RelR w C C.ρ0 { t := fun i => args[i]?, m := Za5 L, nt := args.length, nd := nd, k := L.map (·.1) } { tmps := vs.toArray, defers := [] } w := by
  refine ⟨BelowX.refl _ _, cd.symm, by simp [hvl], fun i b k h1 h2 => ?_, fun i j b k l h1 h2 h3 h4 => ?_, fun i x hx => ?_, fun i x hx => ?_, ?_, fun i hi => ?_⟩
  ·exact ⟨.inr ⟨i, k, by rw [cm]; exact h1, h2⟩, (hr.base _ b k (F1s i h1) (by rw [← cρ]; exact h2)).2⟩
  ·have := hr.inj _ _ b k l (F1s i h1) (F1s j h2) (by rw [← cρ]; exact h3) (by rw [← cρ]; exact h4)
   obtain ⟨x, hx⟩ := Option.isSome_iff_exists.1 h1
   obtain ⟨y, hy⟩ := Option.isSome_iff_exists.1 h2
   have e1 := hiff.1 (iL hx)
   have e2 := hiff.1 (iL hy)
   rw [this, e2] at e1
   injection e1 with e1
   exact e1.symm
  ·have h1 := hr.slots _ _ (F1 i x hx)
   refine Zc0.unren (σ := sg S) (m' := s.m) (ρ' := ρ) (M' := MM M0 ρ s.m) (nd' := s.nd) (fun e => by rw [hnd]; exact e) (fun b _ h => sub b h) (cρ i).symm (fun cs e c hc j hj => ?_) h1
   have h2 := cl (i, x) (Zd1 hx)
   have h3 := List.all_eq_true.1 (show refIn L c = true by
    rcases e with e | ⟨ty, e⟩ <;> (rw [e] at h2; simp only [List.all_eq_true] at h2; exact h2 c hc)) j hj
   obtain ⟨b, hb⟩ := Option.isSome_iff_exists.1 h3
   exact ⟨b, hb, F1 j b hb, (cρ j).symm⟩
  ·have hx : args[i]? = some x := hx
   obtain ⟨v, hv1, hv2⟩ := hva i x hx
   refine ⟨v, by simpa using hv1, ?_⟩
   refine TRep.unren (σ := sg S) (m' := s.m) (ρ' := ρ) (M' := MM M0 ρ s.m) (fun b _ h => sub b h) (fun j hj => ?_) hv2
   have h3 := List.all_eq_true.1 ((List.all_eq_true.1 har) x (List.mem_of_getElem? hx)) j hj
   obtain ⟨b, hb⟩ := Option.isSome_iff_exists.1 h3
   exact ⟨b, hb, F1 j b hb, (cρ j).symm⟩
  ·rw [cm]; exact Zfa.refl _ _
  ·rw [cm] at hi
   obtain ⟨b, hb⟩ := Option.isSome_iff_exists.1 hi
   exact List.mem_map.2 ⟨_, Zd1 hb, rfl⟩
 have hcall := hc w C hOK cm vs hstart
 unfold Oper.wp
 rw [hrun, Oper.upon_enter]
 refine hcall.mono fun e w' he => ?_
 obtain ⟨v, ρ', rfl, h⟩ := he
 obtain ⟨v', hv1, hres⟩ := h.tmps 0 res rfl
 obtain rfl : v = v' := by simpa using hv1
 refine hn _ _ _ k ?_
 -- the caller's slots again
 let ρ'' : Nat → Option (Nat × Nat) := fun j => match Za5 (ivS S) j with | some i => ρ' i | none => ρ j
 have ρi : ∀ {i j}, Za5 S i = some j → ρ'' j = ρ' i := fun hij => by simp only [ρ'']; rw [hiff.1 hij]
 have ρn : ∀ {j}, Za5 (ivS S) j = none → ρ'' j = ρ j := fun hj => by simp only [ρ'']; rw [hj]
 have mi : ∀ {i j}, Za5 S i = some j → memR S L' s.m j = (Za5 L' i).map (renB (sg S)) := fun hij => by unfold memR; rw [hiff.1 hij]
 have mn : ∀ {j}, Za5 (ivS S) j = none → memR S L' s.m j = s.m j := fun hj => by unfold memR; rw [hj]
 have oS' : ∀ {i j}, Za5 S i = some j → (Za5 L' i).isSome = true := fun hij => oS _ (Zd1 hij)
 have cases' : ∀ j, (∃ i, Za5 S i = some j) ∨ Za5 (ivS S) j = none := fun j => by
  cases h : Za5 (ivS S) j with
  | none => exact .inr rfl
  | some i => exact .inl ⟨i, hiff.2 h⟩
 have hbelow := h.below
 -- which blocks are written later
 have hMM : ∀ b, b < w'.heap.size → MM M0 ρ'' (memR S L' s.m) b → MM C ρ' (Za5 L') b := by
  rintro b hb (h1 | ⟨j, kk, h1, h2⟩)
  ·refine .inl ((cM b).2 ⟨.inl h1, fun hp => ?_⟩)
   have h3 := (hM.1.1 b h1).1
   rcases (cPb b hp).1 with h4 | h4
   ·omega
   ·exact (hM.2 b h4).2.1 h1
  ·rcases cases' j with ⟨i, hij⟩ | hj
   ·rw [ρi hij] at h2
    exact .inr ⟨i, kk, oS' hij, h2⟩
   ·rw [mn hj] at h1
    rw [ρn hj] at h2
    refine .inl ((cM b).2 ⟨.inr ⟨j, kk, h1, h2⟩, fun hp => ?_⟩)
    obtain ⟨i, k2, h3, h4⟩ := cP b hp
    have := hr.inj _ _ b kk k2 h1 (F1s i h3) h2 h4
    obtain ⟨x, hx⟩ := Option.isSome_iff_exists.1 h3
    have := hiff.1 (iL hx)
    rw [← ‹j = sg S i›, hj] at this
    cases this
 have hMMo : ∀ b, b < w.heap.size → MM M0 ρ'' (memR S L' s.m) b → MM M0 ρ s.m b := by
  rintro b hb (h1 | ⟨j, kk, h1, h2⟩)
  ·exact .inl h1
  ·rcases cases' j with ⟨i, hij⟩ | hj
   ·rw [ρi hij] at h2
    rcases (h.base i b kk (oS' hij) h2).1 with h3 | h3
    ·omega
    ·exact cPM b h3
   ·rw [mn hj] at h1
    rw [ρn hj] at h2
    exact .inr ⟨j, kk, h1, h2⟩
 have hkeep : Zbn (MM M0 ρ s.m) w w' := ⟨hbelow.size, fun b hb hnm => hbelow.block b hb fun hp => hnm (cPM b hp)⟩
 have hren : ∀ i b, Za5 L' i = some b → memR S L' s.m (sg S i) = some (renB (sg S) b) ∧ ρ'' (sg S i) = ρ' i := fun i b hi => by
  have := iL' hi
  exact ⟨by rw [mi this, hi]; rfl, ρi this⟩
 have hmoves : Zfa ρ ρ'' s.m (memR S L' s.m) := by
  intro j x hj
  rcases cases' j with ⟨i, hij⟩ | hjn
  ·have hi : sg S i = j := by unfold sg; rw [hij]; rfl
   rcases Zd2 hnew i j hij with h1 | h1
   ·obtain ⟨b, hb⟩ := Option.isSome_iff_exists.1 h1
    have h2 := F1 i b hb
    rw [hi, hj] at h2
    injection h2 with h2
    obtain ⟨b', p1, p2, p3, pm, pt⟩ := h.pas i b (by rw [cm]; exact hb)
    have p1 : Za5 L' i = some b' := p1
    have q := hren i b' p1
    rw [hi] at q
    have e0 : C.ρ0 i = ρ j := by rw [cρ, hi]
    refine ⟨renB (sg S) b', q.1, fun cs e => ?_, fun sz ty es e => ?_, fun es e => ?_, fun ty cs e => ?_⟩
    ·rw [e] at h2
     obtain ⟨cs', rfl, -⟩ := renB_var h2.symm
     obtain ⟨⟨cs'', rfl⟩, p4⟩ := p2 cs' rfl
     exact ⟨⟨_, rfl⟩, by rw [q.2, p4, e0]⟩
    ·rw [e] at h2
     have := renB_lst h2.symm
     subst this
     obtain ⟨es', rfl, p4, p5⟩ := p3 sz ty es rfl
     exact ⟨es', rfl, fun hl => by rw [q.2, p4 hl, e0], p5⟩
    ·rw [e] at h2
     have := renB_mp h2.symm
     subst this
     obtain ⟨⟨es', rfl⟩, p4⟩ := pm es rfl
     exact ⟨⟨_, rfl⟩, by rw [q.2, p4, e0]⟩
    ·rw [e] at h2
     obtain ⟨cs', rfl, rfl⟩ := renB_tl h2.symm
     obtain ⟨cs'', rfl, p4, p5⟩ := pt ty cs' rfl
     exact ⟨_, rfl, fun hl => by rw [q.2, p4 (by simpa using hl), e0], by simpa using p5⟩
   ·rw [h1] at hj; cases hj
  ·exact ⟨x, by rw [mn hjn]; exact hj, fun cs e => ⟨⟨cs, e⟩, ρn hjn⟩, fun sz ty es e => ⟨es, e, fun _ => ρn hjn, Nat.le_refl _⟩, fun es e => ⟨⟨es, e⟩, ρn hjn⟩, fun ty cs e => ⟨cs, e, fun _ => ρn hjn, Nat.le_refl _⟩⟩
 have hrel : RelR w0 M0 ρ'' { s with m := memR S L' s.m } a w' := by
  refine ⟨⟨hbelow.os.trans hr.below.os, hbelow.tape.trans hr.below.tape, hbelow.output.trans hr.below.output, Nat.le_trans hr.below.size hbelow.size, fun b hb hx => ?_⟩, hr.defers, hr.nt, fun j b kk h1 h2 => ?_, fun j j' b kk l h1 h2 h3 h4 => ?_, fun j x hx => ?_, fun i x hi => ?_, hr.pas.trans hmoves, hr.kid⟩
  ·refine (hbelow.block b (Nat.lt_of_lt_of_le hb hr.below.size) fun hp => ?_).trans (hr.below.block b hb hx)
   rcases (cPb b hp).1 with h4 | h4
   ·omega
   ·exact hx h4
  ·rcases cases' j with ⟨i, hij⟩ | hj
   ·rw [ρi hij] at h2
    obtain ⟨h3, h4⟩ := h.base i b kk (oS' hij) h2
    refine ⟨?_, h4⟩
    rcases h3 with h3 | h3
    ·exact .inl (Nat.le_trans hr.below.size h3)
    ·exact (cPb b h3).1
   ·have h1 : (memR S L' s.m j).isSome = true := h1
    rw [mn hj] at h1
    rw [ρn hj] at h2
    obtain ⟨h3, h4⟩ := hr.base j b kk h1 h2
    exact ⟨h3, Nat.lt_of_lt_of_le h4 hbelow.size⟩
  ·have h1 : (memR S L' s.m j).isSome = true := h1
   have h2 : (memR S L' s.m j').isSome = true := h2
   have mixed : ∀ {i j j' kk l}, Za5 S i = some j → Za5 (ivS S) j' = none → (memR S L' s.m j').isSome = true → ρ'' j = some (b, kk) → ρ'' j' = some (b, l) → False := fun {i j j' kk l} hij hj' h2 h3 h4 => by
    rw [ρi hij] at h3
    rw [mn hj'] at h2
    rw [ρn hj'] at h4
    have h5 := (hr.base j' b l h2 h4).2
    rcases (h.base i b kk (oS' hij) h3).1 with h6 | h6
    ·omega
    ·obtain ⟨i2, k2, h7, h8⟩ := cP b h6
     have e := hr.inj _ _ b l k2 h2 (F1s i2 h7) h4 h8
     obtain ⟨x, hx⟩ := Option.isSome_iff_exists.1 h7
     have := hiff.1 (iL hx)
     rw [← e, hj'] at this
     cases this
   rcases cases' j with ⟨i, hij⟩ | hj
   ·rcases cases' j' with ⟨i', hij'⟩ | hj'
    ·rw [ρi hij] at h3
     rw [ρi hij'] at h4
     have := h.inj i i' b kk l (oS' hij) (oS' hij') h3 h4
     subst this
     rw [hij] at hij'
     injection hij'
    ·exact (mixed hij hj' h2 h3 h4).elim
   ·rcases cases' j' with ⟨i', hij'⟩ | hj'
    ·exact (mixed hij' hj h1 h4 h3).elim
    ·rw [mn hj] at h1
     rw [mn hj'] at h2
     rw [ρn hj] at h3
     rw [ρn hj'] at h4
     exact hr.inj j j' b kk l h1 h2 h3 h4
  ·have hx : memR S L' s.m j = some x := hx
   rcases cases' j with ⟨i, hij⟩ | hj
   ·have hi : sg S i = j := by unfold sg; rw [hij]; rfl
    rw [mi hij, Option.map_eq_some_iff] at hx
    obtain ⟨b, hb, rfl⟩ := hx
    have := Zc0.ren (σ := sg S) (M' := MM M0 ρ'' (memR S L' s.m)) (nd' := s.nd) (fun e => by rw [← hnd]; exact e) hMM hren hb (h.slots i b hb)
    rw [hi] at this
    exact this
   ·rw [mn hj] at hx
    refine (hr.slots j x hx).mono hkeep hMMo hmoves (ρn hj) (fun b kk h1 => ?_)
    refine hbelow.block b (hr.base j b kk (by rw [hx]; rfl) h1).2 fun hp => ?_
    obtain ⟨i2, k2, h7, h8⟩ := cP b hp
    have e := hr.inj _ _ b kk k2 (by rw [hx]; rfl) (F1s i2 h7) h1 h8
    obtain ⟨y, hy⟩ := Option.isSome_iff_exists.1 h7
    have := hiff.1 (iL hy)
    rw [← e, hj] at this
    cases this
  ·obtain ⟨u, h1, h2⟩ := hr.tmps i x hi
   exact ⟨u, h1, TRep.mono hkeep hMMo hmoves h2⟩
 exact ⟨ρ'', RelR.put (s := { s with m := memR S L' s.m }) hrel (Zaa hin) (TRep.ren hMM hren hres)⟩
theorem ms_call {P : Program} {ops : Array Oper} {s : AS} {f : FuncId} {args : List TV} {L L' : List (Nat × Blk)} {res : TV} {nd : Bool} {lo : List Operand} {dst : Option Tmp} {ts : Array TypeId} {ty : TypeId} {pos : String} {after : Array Edge} {K : AS → Prop} (S : List (Nat × Nat))
  (hc : PCM dm P f args L nd res L') (hS : okS S L L' = true) (hin : inbB s dst = true) (hnd : s.nd = nd) (hdm : (!dm || nd) = true) (ha : lo.map s.ev = args.map (fun x => some (Zd3 (sg S) x))) (har : args.all (refIn L) = true)
  (hL : AllP (fun p : Nat × Blk => s.m (sg S p.1) = some (renB (sg S) p.2)) L) (hnew : AllP (fun p : Nat × Nat => (Za5 L p.1).isSome = true ∨ s.m p.2 = none) S)
  (k : K { s with t := updo s.t dst (Zd3 (sg S) res), m := memR S L' s.m }) : MStep dm P ops ⟨dst, .call ⟨.value (.func f), lo.toArray, ts⟩, ty, pos, after, none⟩ s K := by
 have hlen : lo.length = args.length := by have := congrArg List.length ha; simpa using this
 refine ms_core S hc hS hin hnd hdm har hL hnew (fun w0 M0 ρ a w hr => ⟨lo.map a.eval, by simp [hlen], fun i x hx => ?_, ?_⟩) k
 ·have h1 : (lo.map s.ev)[i]? = some (some (Zd3 (sg S) x)) := by rw [ha, List.getElem?_map, hx]; rfl
  rw [List.getElem?_map, Option.map_eq_some_iff] at h1
  obtain ⟨y, hy, he⟩ := h1
  exact ⟨a.eval y, by simp [hy], hr.ev he⟩
 ·obtain ⟨⟨fn, g1, g2, g3⟩, -⟩ := hc
  simp only [execOp, resolve, Deferred.ofValue, invoke, callFunc, Sem.run_bind, Sem.run_pure, Result.andThen_ok, run_program, g1, g2, g3, Act.eval, Bool.false_eq_true, if_false, List.map_toArray, Array.append_empty, Array.empty_append]
  first | done | rfl
variable {dm : Bool}
section
variable {P : Program} {ops : Array Oper} {s : AS} {dst : Option Tmp} {ty : TypeId} {pos : String} {after : Array Edge} {g : Option (Nat × Bool)}
def iV (n : Int) : AV := .p (.int .i64 n)
end
end Ab
