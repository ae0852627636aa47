/- Calls whose result is a list of the caller's own. -/
import Derived.Test.YtajhaoapcapgeaaGreatDoorWeak
set_option linter.all false
namespace Ab
open Go Go.RowKit Go.Proofs

/-- a slice of a new block that nobody else has -/
def OwnV (n0 : Nat) (w' : World) (M : Nat → Prop) (sz : Nat) (ty : TypeId) (es : List AV) (v : Value) : Prop :=
  (es = [] ∧ v = .slice none 0 0) ∨ ∃ b k row, n0 ≤ b ∧ b < w'.heap.size ∧ w'.heap[b]? = some (.cells row ty (0, 0)) ∧ es.length ≤ k ∧ k ≤ maxLen ∧ row.size = k * sz ∧ v = .slice (some ⟨b, 0, none⟩) es.length k ∧ NoDg row ∧
    ∀ (i : Nat) e, es[i]? = some e → e.cells.length = sz ∧ ∀ (j : Nat) c, e.cells[j]? = some c → c.one = true ∧ ∃ x, row[i * sz + j]? = some x ∧ Rep w' (fun b' => M b' ∨ b' = b) c x
/-- the call returns such a list -/
def PCO (P : Program) (f : FuncId) (args : List AV) (sz : Nat) (ty : TypeId) (es : List AV) : Prop :=
  CallOK P f ∧ ∀ w M, OKM true M w → ∀ vs : List Value, Reps w M args vs → Calls P f vs.toArray w (fun e w' => ∃ v, e = .returned v ∧ Below w.heap.size w w' ∧ OwnV w.heap.size w' M sz ty es v)
theorem pc_bodyO {P : Program} {f : FuncId} {fn : Func} {c : Code} {args : List AV} {es : List AV} {sz t id : Nat} {ty : TypeId} (hf : P.funcs[f]? = some fn) (hname : (fn.name == "runtime.NumGoroutine") = false) (hb : fn.body = some c) (hres : fn.results = #[.tmp t]) (hn : args.length ≤ fn.ntmps)
    (hT : T true P c (start args fn.ntmps true) (fun x s => (x = .normal ∨ x = .ret) ∧ s.nd = true ∧ s.t t = some (.own id es.length) ∧ s.m id = some (.lst sz ty es))) : PCO P f args sz ty es := by
  refine ⟨⟨fn, hf, hname, by rw [hb]; rfl⟩, fun w M hM vs hvs => ?_⟩
  refine calls_of_wp hf hb (Code.wp_mono (fun x a' w' hx => ?_) (hT w (.of M) (.of hM) _ w (start_rel true hvs hn)))
  obtain ⟨s', ⟨hxx, hnd, ht, hm⟩, ρ, h2⟩ := hx
  have key : a'.defers = [] ∧ ∃ v, (results fn a'.tmps).run P w' = .ok v w' ∧ ∃ v', Ending.returned v = .returned v' ∧ Below w.heap.size w w' ∧ OwnV w.heap.size w' M sz ty es v' := by
    obtain ⟨v, h3, h4⟩ := h2.tmps t _ ht
    obtain ⟨sz', ty', es', hm', hle, -, h5⟩ := h4
    rw [hm] at hm'
    injection hm' with hm'
    injection hm' with e1 e2 e3
    subst e1 e2 e3
    refine ⟨h2.defers, v, ?_, v, rfl, h2.below.to, ?_⟩
    · simp only [results, hres]
      simp [h3]
    · rcases h5 rfl with ⟨g1, g2, rfl⟩ | ⟨b, k, g1, rfl⟩
      · exact .inl ⟨List.eq_nil_of_length_eq_zero g2, rfl⟩
      · rcases h2.slots id _ hm with ⟨k1, -⟩ | ⟨b', cap, row, k1, k2, k3, k4, k5, k6, k7⟩
        · rw [g1] at k1; cases k1
        · rw [g1] at k1
          injection k1 with k1
          injection k1 with e1 e2
          subst e1 e2
          have hbase := h2.base id b k (by rw [hm]; rfl) g1
          refine .inr ⟨b, k, row, hbase.1.resolve_right Cx.P_of, hbase.2, k2, k3, k4, k5, rfl, k7 hnd, fun i e he => ?_⟩
          obtain ⟨p1, p2⟩ := k6 i e he
          refine ⟨p1, fun j cc hj => ?_⟩
          obtain ⟨q1, x, q2, q3⟩ := p2 j cc hj
          refine ⟨q1, x, q2, Rep.mono (Keeps.refl _ _) (fun b' _ hh => ?_) q3⟩
          rcases hh with hh | rfl
          · exact .inl hh
          · exact .inr ⟨id, k, by rw [hm]; rfl, g1⟩
  rcases hxx with rfl | rfl
  · exact key
  · exact key
theorem RelR.newO {w0 : World} {M0 : Cx} {ρ : Nat → Option (Nat × Nat)} {s : AS} {a : Act} {w w' : World} {id : Nat} {x : Blk} {r : Option (Nat × Nat)} (h : RelR w0 M0 ρ s a w) (hb : Below w.heap.size w w') (hid : s.m id = none)
    (hr : ∀ b k, r = some (b, k) → w.heap.size ≤ b ∧ b < w'.heap.size)
    (hs : SlotOK w' (MM M0 (fun j => bif Nat.beq id j then r else ρ j) (upd s.m id x)) (fun j => bif Nat.beq id j then r else ρ j) (upd s.m id x) s.nd id x) :
    RelR w0 M0 (fun j => bif Nat.beq id j then r else ρ j) { s with m := upd s.m id x } a w' := by
  have hρ : ∀ j, j ≠ id → (fun j => bif Nat.beq id j then r else ρ j) j = ρ j := fun j hj => by
    have : Nat.beq id j = false := by
      cases e : Nat.beq id j with
      | false => rfl
      | true => exact absurd (Nat.eq_of_beq_eq_true e) (Ne.symm hj)
    simp [this]
  have hρi : (fun j => bif Nat.beq id j then r else ρ j) id = r := by simp
  generalize (fun j => bif Nat.beq id j then r else ρ j) = ρ' at *
  have hm : Moves ρ ρ' s.m (upd s.m id x) := fun i y hi => by
    have hne : i ≠ id := fun e => by rw [e, hid] at hi; cases hi
    exact ⟨y, by rw [upd_ne _ _ (Ne.symm hne)]; exact hi, fun cs e => ⟨⟨cs, e⟩, hρ i hne⟩, fun sz ty es e => ⟨es, e, fun _ => hρ i hne, Nat.le_refl _⟩, fun es e => ⟨⟨es, e⟩, hρ i hne⟩⟩
  have hM' : ∀ b, b < w.heap.size → MM M0 ρ' (upd s.m id x) b → MM M0 ρ s.m b := by
    intro b hbl hmm
    rcases hmm with h0 | ⟨i, k, h1, h2⟩
    · exact .inl h0
    · by_cases hi : i = id
      · subst hi
        rw [hρi] at h2
        have := (hr b k h2).1
        omega
      · rw [upd_ne _ _ (Ne.symm hi)] at h1
        rw [hρ i hi] at h2
        exact .inr ⟨i, k, h1, h2⟩
  refine h.step (Keeps.below hb) (h.below.and hb) hm hM' (fun i b k h1 h2 => ?_) (fun i j b k l h1 h2 h3 h4 => ?_) (fun i y hy => ?_)
  · by_cases hi : i = id
    · subst hi
      rw [hρi] at h2
      have := hr b k h2
      exact ⟨.inl (Nat.le_trans h.below.size this.1), this.2⟩
    · rw [upd_ne _ _ (Ne.symm hi)] at h1
      rw [hρ i hi] at h2
      have := h.base i b k h1 h2
      exact ⟨this.1, Nat.lt_of_lt_of_le this.2 hb.size⟩
  · by_cases hi : i = id
    · subst hi
      by_cases hj : j = i
      · exact hj.symm
      · rw [upd_ne _ _ (Ne.symm hj)] at h2
        rw [hρ j hj] at h4
        rw [hρi] at h3
        have := (hr b k h3).1
        have := (h.base j b l h2 h4).2
        omega
    · by_cases hj : j = id
      · subst hj
        rw [upd_ne _ _ (Ne.symm hi)] at h1
        rw [hρ i hi] at h3
        rw [hρi] at h4
        have := (hr b l h4).1
        have := (h.base i b k h1 h3).2
        omega
      · rw [upd_ne _ _ (Ne.symm hi)] at h1
        rw [upd_ne _ _ (Ne.symm hj)] at h2
        rw [hρ i hi] at h3
        rw [hρ j hj] at h4
        exact h.inj i j b k l h1 h2 h3 h4
  · by_cases hi : i = id
    · subst hi
      rw [upd_same] at hy
      injection hy with hy
      subst hy
      exact hs
    · rw [upd_ne _ _ (Ne.symm hi)] at hy
      refine (h.slots i y hy).mono (Keeps.below hb) hM' hm (hρ i hi) (fun b k h1 => ?_)
      exact hb.block b (h.base i b k (by rw [hy]; rfl) h1).2
/-- the operation ahead is such a call -/
def OCall (P : Program) (ops : Array Oper) (l : List Oper) (s : AS) (K : AS → Prop) : Prop :=
  ∃ dst f lo ts ty pos after r args sz et es oid, l = ⟨dst, .call ⟨.value (.func f), List.toArray lo, ts⟩, ty, pos, after, none⟩ :: r ∧ InB s dst ∧ s.nd = true ∧ evArgs s lo = some args ∧ PCO P f args sz et es ∧ s.m oid = none ∧
    EvL true P ops r (s.act dst (.own oid es.length) (.new oid (.lst sz et es))) K
theorem ocall (oid : Nat) {P : Program} {ops : Array Oper} {s : AS} {K : AS → Prop} {dst : Option Tmp} {f : FuncId} {lo : List Operand} {ts : Array TypeId} {ty : TypeId} {pos : String} {after : Array Edge} {r : List Oper} {args : List AV} {sz : Nat} {et : TypeId} {es : List AV}
    (hc : PCO P f args sz et es) (hin : inbB s dst = true) (hnd : s.nd = true) (ha : evArgs s lo = some args) (hm : s.m oid = none) (k : EvL true P ops r (s.act dst (.own oid es.length) (.new oid (.lst sz et es))) K) :
    OCall P ops (⟨dst, .call ⟨.value (.func f), List.toArray lo, ts⟩, ty, pos, after, none⟩ :: r) s K :=
  ⟨dst, f, lo, ts, ty, pos, after, r, args, sz, et, es, oid, rfl, InB_of hin, hnd, ha, hc, hm, k⟩
theorem own_wpList {P : Program} {ops : Array Oper} {w0 : World} {M0 : Cx} (hM : OKC true M0 w0) {K : AS → Prop} {Q : Exit → Act → World → Prop} (hK : ∀ s a w, K s → Rel w0 M0 s a w → Q .normal a w)
    (l : List Oper) (s : AS) (a : Act) (w : World) (h : OCall P ops l s K) (hr : Rel w0 M0 s a w) : wpList P ops Q l a w := by
  obtain ⟨dst, f, lo, ts, ty, pos, after, r, args, sz, et, es, oid, rfl, hin, hnd, ha, hc, hm, k⟩ := h
  obtain ⟨ρ, hr⟩ := hr
  obtain ⟨⟨fn, h1, h2, h3⟩, hc⟩ := hc
  refine wpList_step fun K' hK' => ?_
  rw [if_pos (show Region.wanted _ (yielded ops a.tmps) = true from rfl)]
  have hreps := evArgs_reps (s := s) hr lo (fun x hx => rfl) args ha
  have hcall := hc w _ (okm_of hM hr (by rw [hnd]; rfl)) _ hreps
  have hrun : (execOp a.eval ⟨dst, .call ⟨.value (.func f), lo.toArray, ts⟩, ty, pos, after, none⟩).run P w = .ok (.enter f (lo.map a.eval).toArray) w := by
    simp only [execOp, resolve, Deferred.ofValue, invoke, callFunc, Sem.run_bind, Sem.run_pure, Result.andThen_ok, run_program, h1, h2, h3, Act.eval, Bool.false_eq_true, if_false, List.map_toArray, Array.append_empty, Array.empty_append]
    first | done | rfl
  unfold Oper.wp
  rw [hrun, Oper.upon_enter]
  refine hcall.mono fun e w' he => ?_
  obtain ⟨v, rfl, hb, hv⟩ := he
  refine hK' _ _ ?_
  rcases hv with ⟨rfl, rfl⟩ | ⟨b, kk, row, g1, g2, g3, g4, g5, g6, rfl, g7, g8⟩
  · have hn := hr.newO (r := none) hb hm (x := .lst sz et []) (fun b k e => by cases e) (.inl ⟨by simp, rfl⟩)
    refine evL_wpList hM hK r _ _ w' k ⟨_, RelR.put (s := { s with m := upd s.m oid (.lst sz et []) }) hn hin ?_⟩
    exact ⟨sz, et, [], upd_same _ _ _, Nat.le_refl _, ⟨_, _, _, rfl⟩, fun _ => .inl ⟨by simp, rfl, rfl⟩⟩
  · have hn := hr.newO (r := some (b, kk)) hb hm (x := .lst sz et es) (fun b' k' e => by injection e with e; injection e with e1 e2; subst e1 e2; exact ⟨g1, g2⟩) (.inr ⟨b, kk, row, by simp, g3, g4, g5, g6, fun i e he => ?_, fun _ => g7⟩)
    · refine evL_wpList hM hK r _ _ w' k ⟨_, RelR.put (s := { s with m := upd s.m oid (.lst sz et es) }) hn hin ?_⟩
      exact ⟨sz, et, es, upd_same _ _ _, Nat.le_refl _, ⟨_, _, _, rfl⟩, fun _ => .inr ⟨b, kk, by simp, rfl⟩⟩
    · obtain ⟨p1, p2⟩ := g8 i e he
      refine ⟨p1, fun j cc hj => ?_⟩
      obtain ⟨q1, x, q2, q3⟩ := p2 j cc hj
      refine ⟨q1, x, q2, Rep.mono (Keeps.refl _ _) (fun b' _ hh => ?_) q3⟩
      rcases hh with hh | ⟨i', k', p3, p4⟩
      · exact .inl (.inl hh)
      · by_cases hi : i' = oid
        · subst hi
          simp at p4
          exact .inr p4.1.symm
        · have hne : Nat.beq oid i' = false := by
            cases e : Nat.beq oid i' with
            | false => rfl
            | true => exact absurd (Nat.eq_of_beq_eq_true e).symm hi
          simp only [hne, cond_false] at p4
          rw [upd_ne _ _ (Ne.symm hi)] at p3
          exact .inl (.inr ⟨i', k', p3, p4⟩)
theorem evL_own {P : Program} {ops : Array Oper} {w0 : World} {M0 : Cx} (hM : OKC true M0 w0) {K : AS → Prop} {Q : Exit → Act → World → Prop} (hK : ∀ s a w, K s → Rel w0 M0 s a w → Q .normal a w) (l2 : List Oper) :
    ∀ (l : List Oper) (s : AS) (a : Act) (w : World), EvL true P ops l s (fun s1 => OCall P ops l2 s1 K) → Rel w0 M0 s a w → wpList P ops Q (l ++ l2) a w
  | [], s, a, w, h, hr => own_wpList hM hK l2 s a w h hr
  | o :: r, s, a, w, h, hr => by
    rcases h with ⟨x, e, h1, h2⟩ | ⟨-, h⟩
    · refine wpList_step fun K' hK' => ?_
      exact stepG_wp h1 (Agree.refl _ _ _) (fun id b he => ((stepG_effs h1).1 id b he).2) hM hr K' Q (fun a' w' hr' => hK' a' w' (evL_own hM hK l2 r _ a' w' h2 hr'))
    · refine wpList_step fun K' hK' => ?_
      exact h w0 M0 hM a w hr K' Q (fun s' a' w' hs hr' => hK' a' w' (evL_own hM hK l2 r s' a' w' hs hr'))
theorem ss_callO (oid : Nat) {P : Program} {ops : Array Oper} {s : AS} {dst : Option Tmp} {f : FuncId} {l : List Operand} {ts : Array TypeId} {ty : TypeId} {pos : String} {after : Array Edge} {g : Option (Nat × Bool)} {args : List AV} {sz : Nat} {et : TypeId} {es : List AV}
    (hin : InB s dst) (hof : ownF f = true) (hnd : s.nd = true) (ha : evArgs s l = some args) (hc : PCO P f args sz et es) (hm : s.m oid = none) :
    SStep true P ops ⟨dst, .call ⟨.value (.func f), l.toArray, ts⟩, ty, pos, after, g⟩ s (.own oid es.length) (.new oid (.lst sz et es)) := by
  refine ⟨fun id b h => (by injection h with h1 _; subst h1; exact ⟨hof, hm⟩), fun id b h => (by cases h), fun s' hag hnew w0 M0 a w hM hr next Q hnx => ?_⟩
  have hm' := hnew oid _ rfl
  obtain ⟨ρ, hr⟩ := hr
  obtain ⟨⟨fn, h1, h2, h3⟩, hc⟩ := hc
  have hreps := evArgs_reps (s := s) hr l (fun x hx => hag.ev (by simp [Op.operands, Call.operands, hx])) args ha
  have hcall := hc w _ (okm_of hM hr (by rw [hag.nd, hnd]; rfl)) _ hreps
  have hrun : (execOp a.eval ⟨dst, .call ⟨.value (.func f), l.toArray, ts⟩, ty, pos, after, g⟩).run P w = .ok (.enter f (l.map a.eval).toArray) w := by
    simp only [execOp, resolve, Deferred.ofValue, invoke, callFunc, Sem.run_bind, Sem.run_pure, Result.andThen_ok, run_program, h1, h2, h3, Act.eval, Bool.false_eq_true, if_false, List.map_toArray, Array.append_empty, Array.empty_append]
    first | done | rfl
  have hin' := hin.agree hag
  unfold Oper.wp
  rw [hrun, Oper.upon_enter]
  refine hcall.mono fun e w' he => ?_
  obtain ⟨v, rfl, hb, hv⟩ := he
  rcases hv with ⟨rfl, rfl⟩ | ⟨b, kk, row, g1, g2, g3, g4, g5, g6, rfl, g7, g8⟩
  · have hn := hr.newO (r := none) hb hm' (x := .lst sz et []) (fun b k e => by cases e) (.inl ⟨by simp, rfl⟩)
    refine hnx _ _ ⟨_, RelR.put (s := { s' with m := upd s'.m oid (.lst sz et []) }) hn hin' ?_⟩
    exact ⟨sz, et, [], upd_same _ _ _, Nat.le_refl _, ⟨_, _, _, rfl⟩, fun _ => .inl ⟨by simp, rfl, rfl⟩⟩
  · have hn := hr.newO (r := some (b, kk)) hb hm' (x := .lst sz et es) (fun b' k' e => by injection e with e; injection e with e1 e2; subst e1 e2; exact ⟨g1, g2⟩) (.inr ⟨b, kk, row, by simp, g3, g4, g5, g6, fun i e he => ?_, fun _ => g7⟩)
    · refine hnx _ _ ⟨_, RelR.put (s := { s' with m := upd s'.m oid (.lst sz et es) }) hn hin' ?_⟩
      exact ⟨sz, et, es, upd_same _ _ _, Nat.le_refl _, ⟨_, _, _, rfl⟩, fun _ => .inr ⟨b, kk, by simp, rfl⟩⟩
    · obtain ⟨p1, p2⟩ := g8 i e he
      refine ⟨p1, fun j cc hj => ?_⟩
      obtain ⟨q1, x, q2, q3⟩ := p2 j cc hj
      refine ⟨q1, x, q2, Rep.mono (Keeps.refl _ _) (fun b' _ hh => ?_) q3⟩
      rcases hh with hh | ⟨i', k', p3, p4⟩
      · exact .inl (.inl hh)
      · by_cases hi : i' = oid
        · subst hi
          simp at p4
          exact .inr p4.1.symm
        · have hne : Nat.beq oid i' = false := by
            cases e : Nat.beq oid i' with
            | false => rfl
            | true => exact absurd (Nat.eq_of_beq_eq_true e).symm hi
          simp only [hne, cond_false] at p4
          rw [upd_ne _ _ (Ne.symm hi)] at p3
          exact .inl (.inr ⟨i', k', p3, p4⟩)
/-- a struct is written out, one cell of it a list of the call's own -/
theorem ss_build_st {dm : Bool} {P : Program} {ops : Array Oper} {s : AS} {dst : Option Tmp} {ty : TypeId} {pos : String} {after : Array Edge} {g : Option (Nat × Bool)} {t : TypeId} {pre post : List Value} {z : Value} {places : List (Nat × Nat)} {i : Nat} {y : Operand} {k n : Nat}
    (hin : InB s dst) (ht : BuildT P t (pre ++ z :: post) places) (hpre : pre.all (·.oneCell') = true) (hpost : post.all (·.oneCell') = true) (hp : places[i]? = some (pre.length, 1)) (hy : s.ev y = some (.own k n)) :
    SStep dm P ops ⟨dst, .build t #[(i, y)], ty, pos, after, g⟩ s (.st (pre.map .p) k n (post.map .p)) .none :=
  ss_pure hin fun s' hag w0 M0 ρ a w _ hr => by
    obtain ⟨fs, inf, v, h1, h2, h3, h4, h5⟩ := ht
    have hx := hr.ev ((hag.ev (y := y) (by simp [Op.operands])).trans hy)
    have hone := TRep.oneCell hx (fun a e => by cases e) (fun p s n q e => by cases e)
    have hu : (a.eval y).cells = #[a.eval y] := by
      generalize a.eval y = u at hone
      cases u <;> first | rfl | cases hone
    have hsz : v.cells.size = pre.length + (post.length + 1) := by
      have := congrArg List.length h4
      simpa using this
    have hrow : Instr.fill (places.toArray[·]?) v.cells [(i, a.eval y)] = some (pre ++ a.eval y :: post).toArray := by
      rw [fill_cons (off := pre.length) (size := 1) (by simpa using hp) (by rw [hu]; rfl) (by omega)]
      simp [Instr.fill, h4, hu]
    have hall : ∀ l : List Value, l.all (·.oneCell') = true → ∀ (j : Nat) c, (l.map AV.p)[j]? = some c → c.one = true ∧ ∃ u, l[j]? = some u ∧ Rep w (MM M0 ρ s'.m) c u := by
      intro l hl j c hj
      rw [List.getElem?_map, Option.map_eq_some_iff] at hj
      obtain ⟨u, e, rfl⟩ := hj
      simp only [List.all_eq_true] at hl
      exact ⟨rfl, u, e, .p u (hl u (List.mem_of_getElem? e))⟩
    refine ⟨.agg (pre ++ a.eval y :: post).toArray, ?_, _, rfl, by simp; omega, fun j c hj => ?_, fun j c hj => ?_, a.eval y, by simp, hx⟩
    · have hrun : (Instr.build t #[(i, a.eval y)]).run P w = .ok (.agg (pre ++ a.eval y :: post).toArray) w := by
        simp only [Instr.build, Sem.run_bind, zeroValue, typeInfo, run_program, Result.andThen_ok, h2, h3, Sem.run_pure, run_underlying h1, h5]
        rw [hrow]
        rfl
      simp only [execOp]
      rw [Sem.run_bind]
      have : (#[(i, y)].map fun (x : Nat × Operand) => match x with | (i, x) => (i, a.eval x)) = #[(i, a.eval y)] := by simp
      rw [this, hrun]
      rfl
    · obtain ⟨k1, u, k2, k3⟩ := hall pre hpre j c hj
      have hj : j < pre.length := (List.getElem?_eq_some_iff.1 k2).1
      exact ⟨k1, u, by rw [List.getElem?_toArray, List.getElem?_append_left hj]; exact k2, k3⟩
    · obtain ⟨k1, u, k2, k3⟩ := hall post hpost j c hj
      exact ⟨k1, u, by
        rw [List.getElem?_toArray, List.length_map, List.getElem?_append_right (by omega), show pre.length + 1 + j - pre.length = j + 1 by omega, List.getElem?_cons_succ]
        exact k2, k3⟩
/-- a region in the order of the text; operation n is a call whose result is an own list -/
theorem T.regionO {P : Program} {id : Nat} {l : List Oper} {s : AS} {Q : Exit → AS → Prop} (n : Nat) (h : EvL true P l.toArray (l.take n) s (fun s1 => OCall P l.toArray (l.drop n) s1 (Q .normal))) : T true P (.region id l.toArray false) s Q := fun w0 M0 hM a w hr => by
  have h1 := evL_own hM (Q := fun x a' w' => ∃ s', Q x s' ∧ Rel w0 M0 s' a' w') (fun s' a' w' h1 h2 => ⟨s', h1, h2⟩) (l.drop n) (l.take n) s a w h hr
  rw [List.take_append_drop] at h1
  exact wp_region_lit h1
end Ab
