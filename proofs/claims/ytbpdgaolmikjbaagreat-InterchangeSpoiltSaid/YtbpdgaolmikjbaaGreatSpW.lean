/- Calls that return a list of the caller's own together with one more value. The program's Encode: its result is a list of the caller's own (printed by tools/gen_eno.py). One byte changed: the checksum tells; plain. The statement InterchangeSpoilt, as a contract. The statement InterchangeSpoilt, proved: bytes one of which has been changed are not read; no condition. -/
import Derived.Test.YtbpdgaolmikjbaaGreatDrL
import Derived.Test.YtbpdgaolmikjbaaGreatEnP
import Derived.Test.YtbpdgaolmikjbaaGreatAwk
import Derived.Test.YtbpdgaolmikjbaaGreatSmW
import Derived.Test.YtbpdgaolmikjbaaGreatIcP
set_option linter.all false
namespace Ab
open Go Go.RowKit Go.Proofs
def PCO2 (P : Program) (f : FuncId) (args : List AV) (sz : Nat) (ty : TypeId) (es : List AV) (c : Value) : Prop :=
 CallOK P f ∧ ∀ w M, OKM true M w → ∀ vs : List Value, Reps w M args vs → Calls P f vs.toArray w (fun e w' => ∃ v, e = .returned (.tuple #[v, c]) ∧ Below w.heap.size w w' ∧ OwnV w.heap.size w' M sz ty es v)
theorem pc_bodyO2 {P : Program} {f : FuncId} {fn : Func} {c : Code} {args : List AV} {es : List AV} {sz t u id : Nat} {ty : TypeId} {cv : Value} (hf : P.funcs[f]? = some fn) (hname : (fn.name == "runtime.NumGoroutine") = false) (hb : fn.body = some c) (hres : fn.results = #[.tmp t, .tmp u]) (hn : args.length ≤ fn.ntmps)
  (hT : T true P c (start args fn.ntmps true) (fun x s => (x = .normal ∨ x = .ret) ∧ s.nd = true ∧ s.t t = some (.own id es.length) ∧ s.t u = some (.v (.p cv)) ∧ s.m id = some (.lst sz ty es))) : PCO2 P f args sz ty es cv := by
 refine ⟨⟨fn, hf, hname, by rw [hb]; rfl⟩, fun w M hM vs hvs => ?_⟩
 refine calls_of_wp hf hb (Code.wp_mono (fun x a' w' hx => ?_) (hT w (.of M) (.of hM) _ w (start_rel true hvs hn)))
 obtain ⟨s', ⟨hxx, hnd, ht, hu, hm⟩, ρ, h2⟩ := hx
 have key : a'.defers = [] ∧ ∃ v, (results fn a'.tmps).run P w' = .ok v w' ∧ ∃ v', Ending.returned v = .returned (.tuple #[v', cv]) ∧ Below w.heap.size w w' ∧ OwnV w.heap.size w' M sz ty es v' := by
  obtain ⟨v, h3, h4⟩ := h2.tmps t _ ht
  obtain ⟨v2, i3, i4⟩ := h2.tmps u _ hu
  have hv2 : v2 = cv := Rep.p_inv i4
  subst hv2
  obtain ⟨sz', ty', es', hm', hle, -, h5⟩ := h4
  rw [hm] at hm'
  injection hm' with hm'
  injection hm' with e1 e2 e3
  subst e1 e2 e3
  refine ⟨h2.defers, _, results2 (P := P) (a := a') (v1 := v) (v2 := v2) hres ?_ ?_, v, rfl, h2.below.to, ?_⟩
  ·show (pure (a'.tmps.getD t undef) : Sem Value).run P w' = _
   simp [h3]
  ·show (pure (a'.tmps.getD u undef) : Sem Value).run P w' = _
   simp [i3]
  ·rcases h5 rfl with ⟨g1, g2, rfl⟩ | ⟨b, k, g1, rfl⟩
   ·exact .inl ⟨List.eq_nil_of_length_eq_zero g2, rfl⟩
   ·rcases h2.slots id _ hm with ⟨k1, -⟩ | ⟨b', cap, row, k1, k2, k3, k4, k5, k6, k7⟩
    ·rw [g1] at k1; cases k1
    ·rw [g1] at k1
     injection k1 with k1
     injection k1 with e1 e2
     subst e1 e2
     have hbase := h2.base id b k (by rw [hm]; rfl) g1
     refine .inr ⟨b, k, row, hbase.1.resolve_right Cx.P_of, hbase.2, k2, k3, k4, k5, rfl, k7 hnd, fun i e he => ?_⟩
     obtain ⟨p1, p2⟩ := k6 i e he
     refine ⟨p1, fun j cc hj => ?_⟩
     obtain ⟨q1, x, q2, q3⟩ := p2 j cc hj
     refine ⟨q1, x, q2, Rep.mono (Keeps.refl _ _) (fun b' _ hh => ?_) q3⟩
     rcases hh with hh | rfl
     ·exact .inl hh
     ·exact .inr ⟨id, k, by rw [hm]; rfl, g1⟩
 rcases hxx with rfl | rfl
 ·exact key
 ·exact key
theorem RelR.putN {w0 : World} {M0 : Cx} {ρ : Nat → Option (Nat × Nat)} {s : AS} {a : Act} {w : World} {d : Tmp} {v : Value} (h : RelR w0 M0 ρ s a w) (hd : s.t d = none) : RelR w0 M0 ρ s (a.put (some d) v) w :=
 ⟨h.below, h.defers, by simp [Act.put, h.nt], h.base, h.inj, h.slots, fun i y hi => by
  have hdi : d ≠ i := fun e => by subst e; rw [hd] at hi; cases hi
  obtain ⟨u, h1, h2⟩ := h.tmps i y hi
  exact ⟨u, by simp [Act.put, Array.getElem?_setIfInBounds_ne hdi, h1], h2⟩, h.pas, h.kid⟩
def OCall2 (P : Program) (ops : Array Oper) (l : List Oper) (s : AS) (K : AS → Prop) : Prop :=
 ∃ d1 d2 d3 d4 f lo ts ty pos af ty2 pos2 af2 ty3 pos3 af3 ty4 pos4 af4 r args sz et es c oid, l = ⟨some d1, .call ⟨.value (.func f), List.toArray lo, ts⟩, ty, pos, af, none⟩ :: ⟨some d2, .move (.tmp d1), ty2, pos2, af2, none⟩ :: ⟨some d3, .extract (.tmp d2) 0, ty3, pos3, af3, none⟩ :: ⟨some d4, .extract (.tmp d2) 1, ty4, pos4, af4, none⟩ :: r ∧
  d1 < s.nt ∧ d2 < s.nt ∧ d3 < s.nt ∧ d4 < s.nt ∧ d1 ≠ d2 ∧ d2 ≠ d3 ∧ s.t d1 = none ∧ s.t d2 = none ∧ s.nd = true ∧ evArgs s lo = some args ∧ PCO2 P f args sz et es c ∧ c.oneCell' = true ∧ s.m oid = none ∧
  EvL true P ops r ((s.act (some d3) (.own oid es.length) (.new oid (.lst sz et es))).act (some d4) (.v (.p c)) .none) K
theorem ocall2 (oid : Nat) {P : Program} {ops : Array Oper} {s : AS} {K : AS → Prop} {d1 d2 d3 d4 : Tmp} {f : FuncId} {lo : List Operand} {ts : Array TypeId} {ty ty2 ty3 ty4 : TypeId} {pos pos2 pos3 pos4 : String} {af af2 af3 af4 : Array Edge} {r : List Oper} {args : List AV} {sz : Nat} {et : TypeId} {es : List AV} {c : Value}
  (hc : PCO2 P f args sz et es c) (hin : (Nat.blt d1 s.nt && (Nat.blt d2 s.nt && (Nat.blt d3 s.nt && (Nat.blt d4 s.nt && (!Nat.beq d1 d2 && !Nat.beq d2 d3))))) = true) (h1 : s.t d1 = none) (h2 : s.t d2 = none) (hnd : s.nd = true) (ha : evArgs s lo = some args) (hc1 : c.oneCell' = true) (hm : s.m oid = none)
  (k : EvL true P ops r ((s.act (some d3) (.own oid es.length) (.new oid (.lst sz et es))).act (some d4) (.v (.p c)) .none) K) :
  OCall2 P ops (⟨some d1, .call ⟨.value (.func f), List.toArray lo, ts⟩, ty, pos, af, none⟩ :: ⟨some d2, .move (.tmp d1), ty2, pos2, af2, none⟩ :: ⟨some d3, .extract (.tmp d2) 0, ty3, pos3, af3, none⟩ :: ⟨some d4, .extract (.tmp d2) 1, ty4, pos4, af4, none⟩ :: r) s K := by
 simp only [Bool.and_eq_true, Bool.not_eq_true', Nat.blt_eq] at hin
 obtain ⟨g1, g2, g3, g4, g5, g6⟩ := hin
 exact ⟨d1, d2, d3, d4, f, lo, ts, ty, pos, af, ty2, pos2, af2, ty3, pos3, af3, ty4, pos4, af4, r, args, sz, et, es, c, oid, rfl, g1, g2, g3, g4, fun e => (by rw [e] at g5; simp at g5), fun e => (by rw [e] at g6; simp at g6), h1, h2, hnd, ha, hc, hc1, hm, k⟩
theorem put_get {a : Act} {d : Tmp} {v : Value} (h : d < a.tmps.size) : (a.put (some d) v).eval (.tmp d) = v := by
 simp [Act.put, Act.eval, h]
theorem own_wpList2 {P : Program} {ops : Array Oper} {w0 : World} {M0 : Cx} (hM : OKC true M0 w0) {K : AS → Prop} {Q : Exit → Act → World → Prop} (hK : ∀ s a w, K s → Rel w0 M0 s a w → Q .normal a w)
  (l : List Oper) (s : AS) (a : Act) (w : World) (h : OCall2 P ops l s K) (hr : Rel w0 M0 s a w) : wpList P ops Q l a w := by
 obtain ⟨d1, d2, d3, d4, f, lo, ts, ty, pos, af, ty2, pos2, af2, ty3, pos3, af3, ty4, pos4, af4, r, args, sz, et, es, c, oid, rfl, b1, b2, b3, b4, n12, n23, t1, t2, hnd, ha, hc, hc1, hm, k⟩ := h
 obtain ⟨ρ, hr⟩ := hr
 obtain ⟨⟨fn, h1, h2, h3⟩, hc⟩ := hc
 refine wpList_step fun K' hK' => ?_
 rw [if_pos (show Region.wanted _ (yielded ops a.tmps) = true from rfl)]
 have hreps := evArgs_reps (s := s) hr lo (fun x hx => rfl) args ha
 have hcall := hc w _ (okm_of hM hr (by rw [hnd]; rfl)) _ hreps
 have hrun : (execOp a.eval ⟨some d1, .call ⟨.value (.func f), lo.toArray, ts⟩, ty, pos, af, none⟩).run P w = .ok (.enter f (lo.map a.eval).toArray) w := by
  simp only [execOp, resolve, Deferred.ofValue, invoke, callFunc, Sem.run_bind, Sem.run_pure, Result.andThen_ok, run_program, h1, h2, h3, Act.eval, Bool.false_eq_true, if_false, List.map_toArray, Array.append_empty, Array.empty_append]
  first | done | rfl
 unfold Oper.wp
 rw [hrun, Oper.upon_enter]
 refine hcall.mono fun e w' he => ?_
 obtain ⟨v, rfl, hb, hv⟩ := he
 refine hK' _ _ ?_
 have s1 : a.tmps.size = s.nt := hr.nt
 -- the tuple is moved, and taken apart
 generalize hA1 : a.put (some d1) (.tuple #[v, c]) = a1
 have z1 : a1.tmps.size = s.nt := by rw [← hA1]; simp [Act.put, s1]
 have v1 : a1.eval (.tmp d1) = .tuple #[v, c] := by rw [← hA1]; exact put_get (by rw [s1]; exact b1)
 have p1 : ∀ ρ' s' w', s'.t d1 = none → RelR w0 M0 ρ' s' a w' → RelR w0 M0 ρ' s' a1 w' := fun ρ' s' w' h g => by rw [← hA1]; exact g.putN h
 clear hA1
 refine wpList_step fun K2 hK2 => ?_
 rw [if_pos (show Region.wanted _ (yielded ops a1.tmps) = true from rfl)]
 have hrun2 : (execOp a1.eval ⟨some d2, .move (.tmp d1), ty2, pos2, af2, none⟩).run P w' = .ok (.value (.tuple #[v, c])) w' := by
  rw [← v1]; rfl
 unfold Oper.wp
 rw [hrun2, Oper.upon_value]
 refine hK2 _ _ ?_
 generalize hA2 : a1.put (some d2) (.tuple #[v, c]) = a2
 have z2 : a2.tmps.size = s.nt := by rw [← hA2]; simp [Act.put, z1]
 have v2 : a2.eval (.tmp d2) = .tuple #[v, c] := by rw [← hA2]; exact put_get (by rw [z1]; exact b2)
 have p2 : ∀ ρ' s' w', s'.t d1 = none → s'.t d2 = none → RelR w0 M0 ρ' s' a w' → RelR w0 M0 ρ' s' a2 w' := fun ρ' s' w' h h' g => by rw [← hA2]; exact (p1 _ _ _ h g).putN h'
 clear hA2
 refine wpList_step fun K3 hK3 => ?_
 rw [if_pos (show Region.wanted _ (yielded ops a2.tmps) = true from rfl)]
 have hrun3 : (execOp a2.eval ⟨some d3, .extract (.tmp d2) 0, ty3, pos3, af3, none⟩).run P w' = .ok (.value v) w' := by
  simp [execOp, v2, Instr.extract]
 unfold Oper.wp
 rw [hrun3, Oper.upon_value]
 refine hK3 _ _ ?_
 have v3 : (a2.put (some d3) v).eval (.tmp d2) = .tuple #[v, c] := by
  have : (a2.put (some d3) v).eval (.tmp d2) = a2.eval (.tmp d2) := by
   have hne : (a2.tmps.setIfInBounds d3 v)[d2]? = a2.tmps[d2]? := Array.getElem?_setIfInBounds_ne (Ne.symm n23)
   show (a2.tmps.setIfInBounds d3 v).getD d2 undef = a2.tmps.getD d2 undef
   rw [Array.getD_eq_getD_getElem?, Array.getD_eq_getD_getElem?, hne]
  rw [this, v2]
 refine wpList_step fun K4 hK4 => ?_
 rw [if_pos (show Region.wanted _ (yielded ops (a2.put (some d3) v).tmps) = true from rfl)]
 have hrun4 : (execOp (a2.put (some d3) v).eval ⟨some d4, .extract (.tmp d2) 1, ty4, pos4, af4, none⟩).run P w' = .ok (.value c) w' := by
  simp [execOp, v3, Instr.extract]
 unfold Oper.wp
 rw [hrun4, Oper.upon_value]
 refine hK4 _ _ ?_
 have fin : ∀ ρ' , RelR w0 M0 ρ' { s with m := upd s.m oid (.lst sz et es) } a2 w' → TRep w' (MM M0 ρ' (upd s.m oid (.lst sz et es))) ρ' (upd s.m oid (.lst sz et es)) (.own oid es.length) v → wpList P ops Q r ((a2.put (some d3) v).put (some d4) c) w' := fun ρ' hn hv => by
  refine evL_wpList hM hK r _ _ w' k ⟨ρ', ?_⟩
  have g1 := RelR.put (dst := some d3) hn b3 hv
  exact RelR.put (dst := some d4) (x := .v (.p c)) g1 b4 (.p _ hc1)
 rcases hv with ⟨rfl, rfl⟩ | ⟨b, kk, row, g1, g2, g3, g4, g5, g6, rfl, g7, g8⟩
 ·have hn := hr.newO (r := none) hb hm (x := .lst sz et []) (fun b k e => by cases e) (.inl ⟨by simp, rfl⟩)
  refine fin _ (p2 _ _ _ t1 t2 hn) ?_
  exact ⟨sz, et, [], upd_same _ _ _, Nat.le_refl _, ⟨_, _, _, rfl⟩, fun _ => .inl ⟨by simp, rfl, rfl⟩⟩
 ·have hn := hr.newO (r := some (b, kk)) hb hm (x := .lst sz et es) (fun b' k' e => by injection e with e; injection e with e1 e2; subst e1 e2; exact ⟨g1, g2⟩) (.inr ⟨b, kk, row, by simp, g3, g4, g5, g6, fun i e he => ?_, fun _ => g7⟩)
  ·refine fin _ (p2 _ _ _ t1 t2 hn) ?_
   exact ⟨sz, et, es, upd_same _ _ _, Nat.le_refl _, ⟨_, _, _, rfl⟩, fun _ => .inr ⟨b, kk, by simp, rfl⟩⟩
  ·obtain ⟨p1, p2⟩ := g8 i e he
   refine ⟨p1, fun j cc hj => ?_⟩
   obtain ⟨q1, x, q2, q3⟩ := p2 j cc hj
   refine ⟨q1, x, q2, Rep.mono (Keeps.refl _ _) (fun b' _ hh => ?_) q3⟩
   rcases hh with hh | ⟨i', k', p3, p4⟩
   ·exact .inl (.inl hh)
   ·by_cases hi : i' = oid
    ·subst hi
     simp at p4
     exact .inr p4.1.symm
    ·have hne : Nat.beq oid i' = false := by
      cases e : Nat.beq oid i' with
      | false => rfl
      | true => exact absurd (Nat.eq_of_beq_eq_true e).symm hi
     simp only [hne, cond_false] at p4
     rw [upd_ne _ _ (Ne.symm hi)] at p3
     exact .inl (.inr ⟨i', k', p3, p4⟩)
theorem evL_own2 {P : Program} {ops : Array Oper} {w0 : World} {M0 : Cx} (hM : OKC true M0 w0) {K : AS → Prop} {Q : Exit → Act → World → Prop} (hK : ∀ s a w, K s → Rel w0 M0 s a w → Q .normal a w) (l2 : List Oper) :
    ∀ (l : List Oper) (s : AS) (a : Act) (w : World), EvL true P ops l s (fun s1 => OCall2 P ops l2 s1 K) → Rel w0 M0 s a w → wpList P ops Q (l ++ l2) a w
  | [], s, a, w, h, hr => own_wpList2 hM hK l2 s a w h hr
  | o :: r, s, a, w, h, hr => by
    rcases h with ⟨x, e, h1, h2⟩ | ⟨-, h⟩
    · refine wpList_step fun K' hK' => ?_
      exact stepG_wp h1 (Agree.refl _ _ _) (fun id b he => ((stepG_effs h1).1 id b he).2) hM hr K' Q (fun a' w' hr' => hK' a' w' (evL_own2 hM hK l2 r _ a' w' h2 hr'))
    · refine wpList_step fun K' hK' => ?_
      exact h w0 M0 hM a w hr K' Q (fun s' a' w' hs hr' => hK' a' w' (evL_own2 hM hK l2 r s' a' w' hs hr'))
theorem T.regionO2 {P : Program} {id : Nat} {l : List Oper} {s : AS} {Q : Exit → AS → Prop} (n : Nat) (h : EvL true P l.toArray (l.take n) s (fun s1 => OCall2 P l.toArray (l.drop n) s1 (Q .normal))) : T true P (.region id l.toArray false) s Q := fun w0 M0 hM a w hr => by
 have h1 := evL_own2 hM (Q := fun x a' w' => ∃ s', Q x s' ∧ Rel w0 M0 s' a' w') (fun s' a' w' h1 h2 => ⟨s', h1, h2⟩) (l.drop n) (l.take n) s a w h hr
 rw [List.take_append_drop] at h1
 exact wp_region_lit h1
end Ab
namespace Ab
open Go Go.RowKit Go.Proofs Hp
set_option maxRecDepth 100000
set_option maxHeartbeats 4000000
theorem encode_o {p : PP} (h : p.ok) (hb : p.binds.length ≤ 1000000000) (hf : fewB p = true) (hsz : (eP p.can).length ≤ 16777000) : PCO2 Tryz.prog 12 [p.av] 1 5 ((encB p.can).map nV) (.int .i64 0) := by
 have c := few_p h hb
 rw [hf] at c
 have cc := canonical_p h
 have hq := PP.can_ok h
 have hby := eP_by hq
 have hbd : By (bodyB p.can) := By.app (fun c hc => by simp at hc; omega) hby
 obtain ⟨sr0, et0, df0, ce0, sp0, ma0⟩ := p
 generalize (PP.can _) = q at *
 obtain ⟨sr, et, df, ce, sp, ma⟩ := q
 obtain ⟨⟨h0, n0⟩, ⟨h1, n1⟩, ⟨h2, n2⟩, ⟨h3, n3⟩, ⟨h4, n4⟩, h5, n5⟩ := hq
 have h0 : ∀ s, s ∈ sr → s.ok := h0
 have h1 : ∀ s, s ∈ et → s.ok := h1
 have h2 : ∀ s, s ∈ df → s.ok := h2
 have h3 : ∀ s, s ∈ ce → s.ok := h3
 have h4 : ∀ s, s ∈ sp → s.ok := h4
 have h5 : ∀ s, s ∈ ma → s.ok := h5
 have hE : bodyB ⟨sr, et, df, ce, sp, ma⟩ = (((((([72, 80, 1] ++ eL eS sr) ++ eL eE et) ++ eL eD df) ++ eL eC ce) ++ eL eF sp) ++ eL eM ma) := by simp only [bodyB, eP, List.append_assoc]
 have hl : (eL eS sr).length + (eL eE et).length + (eL eD df).length + (eL eC ce).length + (eL eF sp).length + (eL eM ma).length ≤ 16777000 := by simp only [eP, List.length_append] at hsz; omega
 have c1 := w_lSer [72, 80, 1] (fun x hx l h => w_series l (h0 x hx) h) n0 (by simp only [List.length_append, List.length_cons, List.length_nil]; omega)
 have c2 := w_lEta ([72, 80, 1] ++ eL eS sr) (fun x hx l h => w_eta l (h1 x hx) h) n1 (by simp only [List.length_append, List.length_cons, List.length_nil]; omega)
 have c3 := w_lBind (([72, 80, 1] ++ eL eS sr) ++ eL eE et) (fun x hx l h => w_binding l (h2 x hx) h) n2 (by simp only [List.length_append, List.length_cons, List.length_nil]; omega)
 have c4 := w_lCert ((([72, 80, 1] ++ eL eS sr) ++ eL eE et) ++ eL eD df) (fun x hx l h => w_cert l (h3 x hx) h) n3 (by simp only [List.length_append, List.length_cons, List.length_nil]; omega)
 have c5 := w_lSpc (((([72, 80, 1] ++ eL eS sr) ++ eL eE et) ++ eL eD df) ++ eL eC ce) (fun x hx l h => w_space l (h4 x hx) h) n4 (by simp only [List.length_append, List.length_cons, List.length_nil]; omega)
 have c6 := w_lMat ((((([72, 80, 1] ++ eL eS sr) ++ eL eE et) ++ eL eD df) ++ eL eC ce) ++ eL eF sp) (fun x hx l h => w_matrix l (h5 x hx) h) n5 (by simp only [List.length_append, List.length_cons, List.length_nil]; omega)
 have hlen : ((((((([72, 80, 1] ++ eL eS sr) ++ eL eE et) ++ eL eD df) ++ eL eC ce) ++ eL eF sp) ++ eL eM ma) : List Nat).length ≤ 16777003 := by simp only [List.length_append, List.length_cons, List.length_nil]; omega
 unfold encB
 rw [hE] at hbd ⊢
 clear hE hl hsz hby h0 h1 h2 h3 h4 h5
 have csum := sumO_p hbd (by omega)
 have cput := w_put (((((([72, 80, 1] ++ eL eS sr) ++ eL eE et) ++ eL eD df) ++ eL eC ce) ++ eL eF sp) ++ eL eM ma) (tail4 (fnv (((((([72, 80, 1] ++ eL eS sr) ++ eL eE et) ++ eL eD df) ++ eL eC ce) ++ eL eF sp) ++ eL eM ma))) (by show _ + 4 ≤ _; omega)
 have hlen7 : ((((((([72, 80, 1] ++ eL eS sr) ++ eL eE et) ++ eL eD df) ++ eL eC ce) ++ eL eF sp) ++ eL eM ma) ++ tail4 (fnv (((((([72, 80, 1] ++ eL eS sr) ++ eL eE et) ++ eL eD df) ++ eL eC ce) ++ eL eF sp) ++ eL eM ma))).length ≤ 16777007 := by rw [List.length_append]; show _ + 4 ≤ _; omega
 have hH := fnv_lt (((((([72, 80, 1] ++ eL eS sr) ++ eL eE et) ++ eL eD df) ++ eL eC ce) ++ eL eF sp) ++ eL eM ma)
 generalize hHE : fnv (((((([72, 80, 1] ++ eL eS sr) ++ eL eE et) ++ eL eD df) ++ eL eC ce) ++ eL eF sp) ++ eL eM ma) = H at *
 have t1 : (H : Int).fdiv (2 ^ (min (24 : Int).toNat 32)) = ((H / 16777216 : Nat) : Int) := by rw [Int.fdiv_eq_ediv_of_nonneg _ (by decide)]; rfl
 have t2 : (H : Int).fdiv (2 ^ (min (16 : Int).toNat 32)) = ((H / 65536 : Nat) : Int) := by rw [Int.fdiv_eq_ediv_of_nonneg _ (by decide)]; rfl
 have t3 : (H : Int).fdiv (2 ^ (min (8 : Int).toNat 32)) = ((H / 256 : Nat) : Int) := by rw [Int.fdiv_eq_ediv_of_nonneg _ (by decide)]; rfl
 have s1 : IntKind.u8.wrap ((H / 16777216 : Nat) : Int) = ((H / 16777216 : Nat) : Int) := by rw [u8m]; omega
 have s2 : IntKind.u8.wrap ((H / 65536 : Nat) : Int) = ((H / 65536 % 256 : Nat) : Int) := by rw [u8m]; omega
 have s3 : IntKind.u8.wrap ((H / 256 : Nat) : Int) = ((H / 256 % 256 : Nat) : Int) := by rw [u8m]; omega
 have s4 : IntKind.u8.wrap (H : Int) = ((H % 256 : Nat) : Int) := by rw [u8m]; omega
 have e7 : (((((((([72, 80, 1] ++ eL eS sr) ++ eL eE et) ++ eL eD df) ++ eL eC ce) ++ eL eF sp) ++ eL eM ma) ++ tail4 H).map nV).length = ((((((([72, 80, 1] ++ eL eS sr) ++ eL eE et) ++ eL eD df) ++ eL eC ce) ++ eL eF sp) ++ eL eM ma) ++ tail4 H).length := List.length_map ..
 have d7 : decide (((((((((([72, 80, 1] ++ eL eS sr) ++ eL eE et) ++ eL eD df) ++ eL eC ce) ++ eL eF sp) ++ eL eM ma) ++ tail4 H).length : Nat) : Int) > 16777216) = false := decide_eq_false (by omega)
 clear hHE hlen hlen7
 refine pc_bodyO2 (t := 2) (u := 3) (id := 101) Tryz.func12 rfl rfl rfl (Nat.le_of_ble_eq_true rfl) ?_
 refine goI ?_
 refine evG ggA (ss_call (InB_of rfl) rfl rfl c) ?_
 refine goI ?_
 refine evG ggA (ss_call (InB_of rfl) rfl rfl cc) ?_
 refine goI ?_
 refine evG ggA (ss_bslice_own 101 (InB_of rfl) rfl (make_tab rfl) rfl rfl rfl rfl (fun x hx => ⟨nV_one [72, 80, 1] x hx, by simp at hx; rcases hx with rfl | rfl | rfl <;> rfl⟩) (Nat.le_of_ble_eq_true rfl) (by decide) (fun _ => nV_nu [72, 80, 1])) ?_
 refine evG ggA (ss_build_st (pre := []) (z := .slice none 0 0) (post := [.bool false]) (InB_of rfl) (build_tab rfl) rfl rfl rfl rfl) ?_
 refine goI ?_
 refine evM (ms_call [(100, 13), (101, 101)] c1 rfl rfl rfl rfl rfl rfl ⟨rfl, rfl, trivial⟩ ⟨.inl rfl, .inl rfl, trivial⟩ ?_)
 refine goI ?_
 refine evM (ms_call [(100, 13), (101, 101)] c2 rfl rfl rfl rfl rfl rfl ⟨rfl, rfl, trivial⟩ ⟨.inl rfl, .inl rfl, trivial⟩ ?_)
 refine goI ?_
 refine evM (ms_call [(100, 13), (101, 101)] c3 rfl rfl rfl rfl rfl rfl ⟨rfl, rfl, trivial⟩ ⟨.inl rfl, .inl rfl, trivial⟩ ?_)
 refine goI ?_
 refine evM (ms_call [(100, 13), (101, 101)] c4 rfl rfl rfl rfl rfl rfl ⟨rfl, rfl, trivial⟩ ⟨.inl rfl, .inl rfl, trivial⟩ ?_)
 refine goI ?_
 refine evM (ms_call [(100, 13), (101, 101)] c5 rfl rfl rfl rfl rfl rfl ⟨rfl, rfl, trivial⟩ ⟨.inl rfl, .inl rfl, trivial⟩ ?_)
 refine goI ?_
 refine evM (ms_call [(100, 13), (101, 101)] c6 rfl rfl rfl rfl rfl rfl ⟨rfl, rfl, trivial⟩ ⟨.inl rfl, .inl rfl, trivial⟩ ?_)
 refine goI ?_
 refine evM (ms_call [(101, 101)] csum rfl rfl rfl rfl rfl rfl ⟨rfl, trivial⟩ ⟨.inl rfl, trivial⟩ ?_)
 refine goI ?_
 refine evG ggA (ss_shr (InB_of rfl) rfl rfl (by decide) t1) ?_
 refine evG ggA (ss_conv (InB_of rfl) und_u32 und_u8 rfl s1) ?_
 refine goI ?_
 refine evG ggA (ss_shr (InB_of rfl) rfl rfl (by decide) t2) ?_
 refine evG ggA (ss_conv (InB_of rfl) und_u32 und_u8 rfl s2) ?_
 refine goI ?_
 refine evG ggA (ss_shr (InB_of rfl) rfl rfl (by decide) t3) ?_
 refine evG ggA (ss_conv (InB_of rfl) und_u32 und_u8 rfl s3) ?_
 refine goI ?_
 refine evG ggA (ss_conv (InB_of rfl) und_u32 und_u8 rfl s4) ?_
 refine evG ggA (ss_bslice (InB_of rfl) (make_tab rfl) rfl rfl rfl rfl (fun x hx => ⟨nV_one (tail4 H) x hx, by simp [tail4] at hx; rcases hx with rfl | rfl | rfl | rfl <;> rfl⟩) (Nat.le_of_ble_eq_true rfl)) ?_
 refine evM (ms_call [(100, 13), (101, 101)] cput rfl rfl rfl rfl rfl rfl ⟨rfl, rfl, trivial⟩ ⟨.inl rfl, .inl rfl, trivial⟩ ?_)
 refine goI ?_
 exact ⟨.inr rfl, rfl, (by rw [e7]; rfl), rfl, rfl⟩
end Ab
namespace Ab
open Go Go.RowKit Go.Proofs Hp
set_option maxRecDepth 100000
theorem bits_u8 {op : BinOp} {x y : Nat} (hx : x < 2 ^ 8) (hy : y < 2 ^ 8) : bits op .u8 (x : Int) (y : Int) = (((match op with
  | .and => BitVec.ofNat 8 x &&& BitVec.ofNat 8 y
  | .or => BitVec.ofNat 8 x ||| BitVec.ofNat 8 y
  | .xor => BitVec.ofNat 8 x ^^^ BitVec.ofNat 8 y
  | _ => BitVec.ofNat 8 x &&& ~~~(BitVec.ofNat 8 y)) : BitVec 8).toNat : Int) := by
 unfold bits
 show IntKind.u8.wrap _ = _
 rw [show (BitVec.ofInt IntKind.u8.bits (x : Int)) = BitVec.ofNat 8 x from BitVec.ofInt_natCast .., show (BitVec.ofInt IntKind.u8.bits (y : Int)) = BitVec.ofNat 8 y from BitVec.ofInt_natCast ..]
 have h : ∀ b : BitVec 8, IntKind.u8.wrap (b.toNat : Int) = (b.toNat : Int) := fun b => by
  have := b.isLt
  exact u8w (by omega) (by omega)
 cases op <;> exact h _
theorem xor8 {a b : Nat} (ha : a < 256) (hb : b < 256) : bits .xor .u8 (a : Int) (b : Int) = ((a ^^^ b : Nat) : Int) := by
 rw [bits_u8 (op := .xor) (by omega) (by omega)]
 simp only [BitVec.toNat_xor, BitVec.toNat_ofNat]
 rw [Nat.mod_eq_of_lt (show a < 2 ^ 8 by omega), Nat.mod_eq_of_lt (show b < 2 ^ 8 by omega)]
theorem xor_inj {a b c : Nat} (h : c ^^^ a = c ^^^ b) : a = b := by
 have := congrArg (fun x => c ^^^ x) h
 simpa [← Nat.xor_assoc, Nat.xor_self, Nat.zero_xor] using this
theorem xor_injr {a b c : Nat} (h : a ^^^ c = b ^^^ c) : a = b := xor_inj (c := c) (by rw [Nat.xor_comm c a, Nat.xor_comm c b]; exact h)
theorem mulp_inj {x y : Nat} (hx : x < 4294967296) (hy : y < 4294967296) (h : x * 16777619 % 4294967296 = y * 16777619 % 4294967296) : x = y := by
 have k : ∀ x : Nat, x < 4294967296 → (x * 16777619 % 4294967296) * 899433627 % 4294967296 = x := fun x hx => by
  have e : x * 16777619 * 899433627 = x + 4294967296 * (3513497 * x) := by omega
  rw [Nat.mod_mul_mod, e, Nat.add_mul_mod_self_left, Nat.mod_eq_of_lt hx]
 rw [← k x hx, h, k y hy]
theorem fnvS_h {h h' c : Nat} (h1 : h < 4294967296) (h2 : h' < 4294967296) (hc : c < 256) (hne : h ≠ h') : fnvS h c ≠ fnvS h' c := by
 unfold fnvS
 intro e
 have b1 : h ^^^ c < 2 ^ 32 := Nat.xor_lt_two_pow (by omega) (by omega)
 have b2 : h' ^^^ c < 2 ^ 32 := Nat.xor_lt_two_pow (by omega) (by omega)
 exact hne (xor_injr (mulp_inj b1 b2 e))
theorem fnvS_c {h c c' : Nat} (h1 : h < 4294967296) (hc : c < 256) (hc' : c' < 256) (hne : c ≠ c') : fnvS h c ≠ fnvS h c' := by
 unfold fnvS
 intro e
 have b1 : h ^^^ c < 2 ^ 32 := Nat.xor_lt_two_pow (by omega) (by omega)
 have b2 : h ^^^ c' < 2 ^ 32 := Nat.xor_lt_two_pow (by omega) (by omega)
 exact hne (xor_inj (mulp_inj b1 b2 e))
theorem fold_ne : ∀ (l : List Nat) (h h' : Nat), By l → h < 4294967296 → h' < 4294967296 → h ≠ h' → l.foldl fnvS h ≠ l.foldl fnvS h'
 | [], _, _, _, _, _, hne => hne
 | c :: l, h, h', hb, h1, h2, hne => fold_ne l _ _ (fun x hx => hb x (List.mem_cons_of_mem _ hx)) (fnvS_lt _ _) (fnvS_lt _ _) (fnvS_h h1 h2 (hb c (List.mem_cons_self ..)) hne)
theorem fold_set : ∀ (l : List Nat) (k x h : Nat), By l → h < 4294967296 → x < 256 → (∃ c, l[k]? = some c ∧ c ≠ x) → (l.set k x).foldl fnvS h ≠ l.foldl fnvS h
  | [], k, x, h, _, _, _, ⟨c, hc, _⟩ => by simp at hc
  | a :: l, 0, x, h, hb, h1, hx, ⟨c, hc, hne⟩ => by
    have : a = c := by simpa using hc
    subst this
    exact fold_ne l _ _ (fun x hx => hb x (List.mem_cons_of_mem _ hx)) (fnvS_lt _ _) (fnvS_lt _ _) (fnvS_c h1 hx (hb _ (List.mem_cons_self ..)) (Ne.symm hne))
  | a :: l, k + 1, x, h, hb, h1, hx, ⟨c, hc, hne⟩ => fold_set l k x _ (fun x hx => hb x (List.mem_cons_of_mem _ hx)) (fnvS_lt _ _) hx ⟨c, by simpa using hc, hne⟩
theorem fnv_set {l : List Nat} {k x c : Nat} (hb : By l) (hx : x < 256) (hc : l[k]? = some c) (hne : c ≠ x) : fnv (l.set k x) ≠ fnv l := fold_set l k x _ hb (by decide) hx ⟨c, hc, hne⟩
theorem tail4_inj {a b : Nat} (ha : a < 4294967296) (hb : b < 4294967296) (h : tail4 a = tail4 b) : a = b := by
 unfold tail4 at h
 injection h with h1 h
 injection h with h2 h
 injection h with h3 h
 injection h with h4 _
 omega
theorem fourL : ∀ l : List Nat, l.length = 4 → ∃ a b c d, l = [a, b, c, d]
 | [a, b, c, d], _ => ⟨a, b, c, d, rfl⟩
 | [], h => by simp at h
 | [_], h => by simp at h
 | [_, _], h => by simp at h
 | [_, _, _], h => by simp at h
 | _ :: _ :: _ :: _ :: _ :: _, h => by simp at h
theorem set_ne {l : List Nat} {k x c : Nat} (hc : l[k]? = some c) (hne : c ≠ x) : l.set k x ≠ l := fun e => by
 have h := congrArg (fun l : List Nat => l[k]?) e
 have hk := (List.getElem?_eq_some_iff.1 hc).1
 have h : (l.set k x)[k]? = l[k]? := h
 rw [List.getElem?_set_self hk, hc] at h
 injection h with h
 exact hne h.symm
theorem spoilt_law {p : PP} (hb : By (eP p)) {k x c : Nat} (hx : x < 256) (hc : (encB p)[k]? = some c) (hne : c ≠ x) :
  (k < 3 → ((encB p).set k x).take 3 ≠ [72, 80, 1]) ∧
  (3 ≤ k → ∃ mid y0 y1 y2 y3, (encB p).set k x = (72 :: 80 :: 1 :: mid) ++ [y0, y1, y2, y3] ∧ By (72 :: 80 :: 1 :: mid) ∧ mid.length = (eP p).length ∧ tail4 (fnv (72 :: 80 :: 1 :: mid)) ≠ [y0, y1, y2, y3]) := by
 have hE : encB p = (72 :: 80 :: 1 :: eP p) ++ tail4 (fnv (72 :: 80 :: 1 :: eP p)) := rfl
 have hbb : By (72 :: 80 :: 1 :: eP p) := fun c hc => by
  rcases List.mem_cons.1 hc with rfl | hc
  ·omega
  rcases List.mem_cons.1 hc with rfl | hc
  ·omega
  rcases List.mem_cons.1 hc with rfl | hc
  ·omega
  exact hb c hc
 rw [hE] at hc ⊢
 generalize hB : (72 :: 80 :: 1 :: eP p) = B at *
 have hBl : B.length = (eP p).length + 3 := by rw [← hB]; rfl
 refine ⟨fun h3 => ?_, fun h3 => ?_⟩
 ·rw [List.set_append_left _ _ (by omega), List.take_append_of_le_length (by rw [List.length_set]; omega), List.take_set]
  have ht : B.take 3 = [72, 80, 1] := by rw [← hB]; rfl
  rw [List.getElem?_append_left (by omega)] at hc
  have hc3 : (B.take 3)[k]? = some c := by rw [List.getElem?_take_of_lt h3]; exact hc
  have := set_ne hc3 hne
  rw [ht] at this ⊢
  exact this
 ·by_cases hk : k < B.length
  ·rw [List.getElem?_append_left hk] at hc
   rw [List.set_append_left _ _ hk]
   have h1 := fnv_set hbb hx hc hne
   have hS : B.set k x = 72 :: 80 :: 1 :: (eP p).set (k - 3) x := by
    rw [← hB]
    obtain ⟨j, rfl⟩ : ∃ j, k = j + 3 := ⟨k - 3, by omega⟩
    rfl
   refine ⟨(eP p).set (k - 3) x, _, _, _, _, by rw [hS]; rfl, ?_, by rw [List.length_set], fun e => ?_⟩
   ·rw [← hS]
    intro b hb2
    rcases List.mem_or_eq_of_mem_set hb2 with h | h
    ·exact hbb b h
    ·omega
   ·rw [← hS] at e
    exact h1 (tail4_inj (fnv_lt _) (fnv_lt _) e)
  ·rw [List.getElem?_append_right (by omega)] at hc
   rw [List.set_append_right _ _ (by omega)]
   obtain ⟨y0, y1, y2, y3, hy⟩ := fourL ((tail4 (fnv B)).set (k - B.length) x) (by rw [List.length_set]; rfl)
   refine ⟨eP p, y0, y1, y2, y3, by rw [hy, hB], by rw [hB]; exact hbb, rfl, ?_⟩
   rw [hB, ← hy]
   exact Ne.symm (set_ne hc hne)
end Ab
namespace Ab
open Go Go.RowKit Go.Proofs Hp
set_option maxRecDepth 100000
set_option maxHeartbeats 4000000
theorem mod_p {a : Int} {n : Nat} (h : I64 a) (hn : 0 < n) (hn2 : n ≤ 1000000000) : PC Tryz.prog 19 [iV a, iV n] (iV (a % (n : Int))) := by
 obtain ⟨h1, h2⟩ := h
 have hp : (0 : Int) < n := by omega
 have he := Int.emod_nonneg a (show (n : Int) ≠ 0 by omega)
 have hl := Int.emod_lt_of_pos a hp
 refine pc_body1 true Tryz.func19 rfl rfl rfl (Nat.le_of_ble_eq_true rfl) CellT.tmp ?_
 by_cases hneg : a.tmod n < 0
 ·have d1 : decide (a.tmod n < 0) = true := decide_eq_true hneg
  have hk : a.tmod n + n = a % n := by
   rw [Int.tmod_eq_emod] at hneg ⊢
   split at hneg
   ·omega
   ·rw [if_neg (by assumption)]
    have : ((n : Int).natAbs : Int) = n := by omega
    omega
  have w1 : IntKind.i64.wrap (a.tmod n + n) = a % n := by rw [hk]; exact w64 (by omega) (by omega)
  generalize a % (n : Int) = m at *
  generalize ht : a.tmod n = t at *
  refine goI ?_
  refine evG ggA (ss_div (op := .rem) (InB_of rfl) rfl rfl (by omega) ht) ?_
  refine goI ?_
  first | refine evG ggA (ss_arith (InB_of rfl) rfl rfl w1) ?_ | rw [hk]
  refine goI ?_
  exact rfl
 ·have d1 : decide (a.tmod n < 0) = false := decide_eq_false hneg
  have hk : a.tmod n = a % n := by
   rw [Int.tmod_eq_emod] at hneg ⊢
   split at hneg
   ·rw [if_pos (by assumption)]; omega
   ·have : ((n : Int).natAbs : Int) = n := by omega
    omega
  rw [hk] at d1
  generalize a % (n : Int) = m at *
  refine goI ?_
  refine evG ggA (ss_div (op := .rem) (InB_of rfl) rfl rfl (by omega) hk) ?_
  refine goI ?_
  exact rfl
theorem spoilt_p {p : PP} (h : p.wk) {at' : Int} (ha : I64 at') {y : Nat} (hy : y < 256) : PC Tryz.prog 7 [p.av, iV at', nV y] (boV true) := by
  have ca := awake_p
  have cM := small_pk h
  cases hs : smB p with
  | false =>
    rw [hs] at cM
    obtain ⟨sr, et, df, ce, sp, ma⟩ := p
    clear h hs
    refine pc_body1 true Tryz.func7 rfl rfl rfl (Nat.le_of_ble_eq_true rfl) CellT.tmp ?_
    refine goJ ?_
    refine evG ggA (ss_call (InB_of rfl) rfl rfl cM) ?_
    refine goJ ?_
    refine evG ggA (ss_call (InB_of rfl) rfl rfl ca) ?_
    refine goJ ?_
    exact rfl
  | true =>
    rw [hs] at cM
    obtain ⟨ho, hb, hf, hl⟩ := sm_all h (smB_P hs)
    by_cases hy0 : y = 0
    · subst hy0
      have q0 : (((0 : Nat) : Int) == 0) = true := rfl
      obtain ⟨sr, et, df, ce, sp, ma⟩ := p
      clear h hs ho hb hf hl
      refine pc_body1 true Tryz.func7 rfl rfl rfl (Nat.le_of_ble_eq_true rfl) CellT.tmp ?_
      refine goJ ?_
      refine evG ggA (ss_call (InB_of rfl) rfl rfl cM) ?_
      refine goJ ?_
      refine evG ggA (ss_call (InB_of rfl) rfl rfl ca) ?_
      refine goJ ?_
      exact rfl
    · have q0 : ((y : Int) == 0) = false := beq_eq_false_iff_ne.2 (by omega)
      have cE := encode_o ho hb hf (by omega)
      have hby := eP_by (PP.can_ok ho)
      have hEl : (encB p.can).length = (eP p.can).length + 7 := by show ((72 :: 80 :: 1 :: eP p.can) ++ tail4 _).length = _; rw [List.length_append]; rfl
      have cS := same_r ZP_ok
      have hm0 := Int.emod_nonneg at' (show ((encB p.can).length : Int) ≠ 0 by omega)
      have hm1 := Int.emod_lt_of_pos at' (show (0 : Int) < ((encB p.can).length : Int) by omega)
      have cm := mod_p ha (n := (encB p.can).length) (by omega) (by omega)
      obtain ⟨k, hk⟩ : ∃ k : Nat, at' % ((encB p.can).length : Int) = (k : Int) := ⟨(at' % ((encB p.can).length : Int)).toNat, by omega⟩
      rw [hk] at cm hm1
      have hkl : k < (encB p.can).length := by omega
      have hc : (encB p.can)[k]? = some (encB p.can)[k] := List.getElem?_eq_getElem hkl
      generalize hcc : (encB p.can)[k] = c at *
      have hcb : c < 256 := by
        have : By (encB p.can) := By.app (By.app (fun c hc => by simp at hc; omega) hby) (fun c hc => by
          have := fnv_lt (bodyB p.can)
          simp [tail4] at hc
          omega)
        exact this c (List.mem_of_getElem? hc)
      have hne : c ≠ c ^^^ y := fun e => hy0 (xor_inj (c := c) (by rw [← e, Nat.xor_zero]))
      have hxb : c ^^^ y < 256 := by
        have : c ^^^ y < 2 ^ 8 := Nat.xor_lt_two_pow (by omega) (by omega)
        omega
      obtain ⟨l1, l2⟩ := spoilt_law hby hxb hc hne
      have hx := xor8 hcb hy
      have eml : ((encB p.can).map nV).length = (encB p.can).length := List.length_map ..
      have hset : ((encB p.can).map nV).set k (nV (c ^^^ y)) = ((encB p.can).set k (c ^^^ y)).map nV := by rw [List.map_set]
      have hget : ((encB p.can).map nV)[k]? = some (nV c) := by rw [List.getElem?_map, hc]; rfl
      have cD : ∃ e : Int, PC Tryz.prog 17 [.sl (((encB p.can).set k (c ^^^ y)).map nV)] (.tup [PP.av ⟨[], [], [], [], [], []⟩, iV e]) ∧ e = (if k < 3 then 3 else 26) := by
        by_cases h3 : k < 3
        · rw [if_pos h3]
          exact ⟨3, dec_hdr (by rw [List.length_set]; omega) (fun hh => l1 h3 hh.2), rfl⟩
        · rw [if_neg h3]
          obtain ⟨mid, y0, y1, y2, y3, e1, e2, e3, e4⟩ := l2 (by omega)
          rw [e1]
          exact ⟨26, dec_sum e2 (by omega) e4, rfl⟩
      obtain ⟨e, cD, he⟩ := cD
      rw [← hset] at cD
      clear l1 l2 hc hcc hset hne hby h hs ho hb hf hk hm0
      generalize (encB p.can).map nV = B at *
      generalize (encB p.can).length = n at *
      rw [show (n : Int) = (B.length : Int) by omega] at cm
      obtain ⟨sr, et, df, ce, sp, ma⟩ := p
      have ei : ((k : Nat) : Int).toNat = k := by omega
      have z0 : ((B.length : Int) == 0) = false := beq_eq_false_iff_ne.2 (by omega)
      refine pc_body1 true Tryz.func7 rfl rfl rfl (Nat.le_of_ble_eq_true rfl) CellT.tmp ?_
      refine T.seq ?_
      refine regA ?_
      refine runA ?_
      refine ev_nil ?_
      refine seqQ_n ?_
      refine T.seq ?_
      refine T.seq ?_
      refine regA ?_
      refine runA ?_
      refine evG ggA (ss_call (InB_of rfl) rfl rfl cM) ?_
      refine runA ?_
      refine ev_nil ?_
      refine seqQ_n ?_
      refine T.condF rfl (by assumption) ?_
      refine T.skip ?_
      refine seqQ_n ?_
      refine T.seq ?_
      refine T.regionO2 1 ?_
      show EvL _ _ _ (_ :: _) _ _
      refine runA ?_
      refine ev_nil ?_
      refine ocall2 101 cE rfl rfl rfl rfl rfl rfl rfl ?_
      refine goJ ?_
      refine evG ggA (ss_call (InB_of rfl) rfl rfl cm) ?_
      refine goJ ?_
      refine evG ggA (ss_index_own (InB_of rfl) (elem_tab rfl) rfl rfl rfl rfl (by omega) (by omega)) ?_
      rw [ei]
      refine evG ggA (ss_load_op1 (InB_of rfl) (one_tab rfl) rfl rfl rfl hget rfl) ?_
      refine goJ ?_
      refine evG ggA (ss_bitop (InB_of rfl) rfl rfl rfl hx) ?_
      refine evG ggA (ss_index_own (InB_of rfl) (elem_tab rfl) rfl rfl rfl rfl (by omega) (by omega)) ?_
      rw [ei]
      refine evG ggA (ss_store_own rfl (size_tab rfl) rfl rfl rfl (by omega) rfl rfl (fun l e => by cases e) rfl) ?_
      refine ev_nil ?_
      refine seqQ_n ?_
      refine T.weak (s' := mkS [(7, .v (.sl (B.set k (nV (c ^^^ y))))), (9, .v (iV k))] [] 64 true) (by first | (rw [List.length_set]; exact entA) | exact entA) ?_
      by_cases h3 : k < 3
      · rw [if_pos h3] at he
        subst he
        have d3 : decide ((k : Int) < 3) = true := decide_eq_true (by omega)
        refine goJ ?_
        refine evG ggA (ss_call (InB_of rfl) rfl rfl cD) ?_
        refine goJ ?_
        refine evG ggA (ss_call (InB_of rfl) rfl rfl cS) ?_
        refine goJ ?_
        refine evG ggA (ss_call (InB_of rfl) rfl rfl ca) ?_
        refine goJ ?_
        exact rfl
      · rw [if_neg h3] at he
        subst he
        have d3 : decide ((k : Int) < 3) = false := decide_eq_false (by omega)
        refine goJ ?_
        refine evG ggA (ss_call (InB_of rfl) rfl rfl cD) ?_
        refine goJ ?_
        refine evG ggA (ss_call (InB_of rfl) rfl rfl cS) ?_
        refine goJ ?_
        refine evG ggA (ss_call (InB_of rfl) rfl rfl ca) ?_
        refine goJ ?_
        exact rfl
end Ab
namespace Go.Proofs.YtbpdgaolmikjbaaGreat
open Go.ChangeShapes Go.WideShapes Go.ChangeAt Go.RowKit Ab
set_option maxRecDepth 100000
theorem byteAgain {H : Type} {enc : TypeId × Value → H} {W W' : World} {v : Value} {d : DataW H} {ps : List MemPlace} (h : DataW.Trod enc Tryz.prog W 0 (fun _ => true) true 5 v d ps) (hb : Below W.heap.size W W') (hlt : ∀ x ∈ ps, x.block < W.heap.size) :
  DataW.Trod enc Tryz.prog W' 0 (fun b => decide (b < W.heap.size)) true 5 v d ps := Below.trod laidOut (by kernel_rfl) (of_decide_eq_true (by kernel_rfl)) h hb hlt
theorem byte_in {H : Type} {enc : TypeId × Value → H} {w : World} {base b0 : Nat} {spr : Nat → Bool} {held : Bool} {r : Reach} {v : Value} {d : DataW H} {p : List MemPlace} (hv : Value.okWide Tryz.prog w r b0 5 v) (h : DataW.Trod enc Tryz.prog w base spr held 5 v d p) : ∃ y : Nat, v = .int .u8 (y : Int) ∧ y < 256 := by
 obtain ⟨n, rfl, -, -, hw⟩ := open_int und_u8 hv h
 have h2 : IntKind.u8.min ≤ n ∧ n ≤ IntKind.u8.max := by simpa [Lit.wf] using hw
 have e0 : IntKind.u8.min = 0 := by decide
 have e1 : IntKind.u8.max = 255 := by decide
 exact ⟨n.toNat, by rw [Int.toNat_of_nonneg (by omega)], by omega⟩
theorem interchangeSpoilt_lifted (os : Os) (started : os.Started) (H : Type) (enc : TypeId × Value → H) :
  ReturnsInHanded {} Tryz.checked os 7 .any (Rows.interchangeSpoiltSpec.pre6 enc Tryz.prog Tryz.f7 Rows.interchangeSpoiltRow.domain false) (Rows.interchangeSpoiltSpec.post enc Tryz.prog Tryz.f7 false true false false) := by
 refine returnsInHanded_of_change (C := Tryz.checked) own started (by kernel_rfl) Tryz.func7
  (ChangeSpec.witness6 (enc := enc) (C := Tryz.checked) false ⟨#[], #[.agg #[.slice none 0 0, .slice none 0 0, .slice none 0 0, .slice none 0 0, .slice none 0 0, .slice none 0 0], .int .i64 0, .int .u8 0], []⟩ 8 (by kernel_rfl) (by kernel_rfl) (by kernel_rfl) (by kernel_rfl)) ?_
 intro W base args ds gs before hval0 hW hcnd _
 have hval : ∀ (j : Nat) t v, Tryz.f7.params[j]? = some t → args[j]? = some v → Value.okWide Tryz.prog W .any base t v := hval0
 have hW' := hW
 obtain ⟨p, q, hA0, hV, rfl, hfz, hnd⟩ := hW
 have hA : DataW.TrodAll enc Tryz.prog W 0 (fun _ => true) true Tryz.f7.params.toList args.toList ds p := hA0
 rw [Tryz.params7] at hA hval
 obtain ⟨v0, v1, v2, d0, d1, d2, p0, p1, p2, rfl, rfl, rfl, h0, h1, h2⟩ := trodAll_three hA
 obtain ⟨rfl, rfl⟩ := trodVars_none hV
 obtain ⟨pk, rl, hl⟩ := pkg_in (hval 0 29 v0 rfl rfl) h0
 obtain ⟨n, rfl, hlo, hhi⟩ := int_in (hval 1 3 v1 rfl rfl) h1
 obtain ⟨y, rfl, hy⟩ := byte_in (hval 2 5 v2 rfl rfl) h2
 clear hA0 hval0
 simp only [List.append_nil] at hW'
 refine ((spoilt_p hl ⟨hlo, hhi⟩ hy).2 W NoM (okNo W) [v0, .int .i64 n, .int .u8 (y : Int)] (repsCons rl (repsCons (.p _ rfl) (repsCons (.p _ rfl) .nil)))).mono fun e W' ⟨v, he, hb, hr⟩ => ?_
 subst he
 obtain rfl := hr.p_inv
 refine ⟨_, rfl, _, _, _, [], p0 ++ (p1 ++ p2), [], hW', ?_, ?_, ?_, hb.frame _, fun h => by cases h⟩
 ·exact trodAll_mk1 (shut_bool und_bool true)
 ·exact trodAll_mk3 (pkgAgain h0 hb fun x hx => hW'.lt x (by simp [hx])) (intAgain h1 hb fun x hx => hW'.lt x (by simp [hx])) (byteAgain h2 hb fun x hx => hW'.lt x (by simp [hx]))
 ·rfl
theorem interchangeSpoilt_holds : Rows.InterchangeSpoiltSaid :=
 OpenClaim.holds_of_wide 7 Tryz.f7 rfl rfl rfl rfl rfl rfl rfl ⟨rfl, rfl, rfl, rfl, rfl⟩ rfl rfl rfl rfl rfl (by kernel_rfl) Tryz.func7 (by kernel_rfl)
  (of_decide_eq_true (by kernel_rfl)) (by unfold Func.isWrapper; rw [if_neg (of_decide_eq_false (by kernel_rfl))]; exact ⟨rfl, rfl⟩)
  (fun os started H enc _ => interchangeSpoilt_lifted os started H enc)
end Go.Proofs.YtbpdgaolmikjbaaGreat
