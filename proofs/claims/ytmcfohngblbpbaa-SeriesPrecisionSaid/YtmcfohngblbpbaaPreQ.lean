/- The statement SeriesPrecision, proved. -/
import Derived.Test.YtmcfohngblbpbaaPreA
import Derived.Test.YtmcfohngblbpbaaFin
namespace Ab
open Go Go.RowKit Go.Proofs Hp Go.ChangeShapes Go.WideShapes
set_option maxRecDepth 100000
section
variable {H : Type} {enc : TypeId × Value → H} {w : World} {base : Nat} {held : Bool} {fuel : Nat} {cs : List Value} {x : DataW H × List MemPlace}
theorem int64_b {n : Int} (hw : (Lit.int .i64 n).wf = true) : -9223372036854775808 ≤ n ∧ n ≤ 9223372036854775807 := by
  have h2 : IntKind.i64.min ≤ n ∧ n ≤ 9223372036854775807 := by simpa [Lit.wf] using hw
  have e0 : IntKind.i64.min = -9223372036854775808 := by decide
  omega
theorem open_serC (h : DataW.trod enc Try.prog w base (fun _ => true) held fuel 24 cs = some x) : ∃ (c0 c1 : Value) (s : Ser), cs = [c0, c1] ∧ Rep w NoM (.p (.int .i64 s.from')) c0 ∧ Rep w NoM (.sl (s.coef.map rawA)) c1 ∧ SerOK s := by
  obtain ⟨y0, y1, n, -, hl, h0, h1⟩ := trod_struct2 Try.underlying24 h
  have hl : cs.length = 2 := hl.trans (by kernel_rfl)
  match cs, hl with
  | [c0, c1], _ =>
    have h0 : DataW.trod enc Try.prog w base (fun _ => true) held n 3 [c0] = some y0 := h0
    have h1 : DataW.trod enc Try.prog w base (fun _ => true) held n 22 [c1] = some y1 := h1
    obtain ⟨s, e0, -, hw⟩ := DataW.trod_int und_int h0
    obtain ⟨c, R, e1, hR, hd, hn⟩ := open_rats h1
    injection e0 with e0
    injection e1 with e1
    subst e0 e1
    exact ⟨_, _, ⟨s, R⟩, rfl, .p _ rfl, hR, ⟨(int64_b hw).1, (int64_b hw).2, hd, hn⟩⟩
theorem open_twoC (h : DataW.trod enc Try.prog w base (fun _ => true) held fuel 57 cs = some x) : ∃ (a b : Ser) (M N : Int), Rep w NoM (twoA a.from' (a.coef.map rawA) b.from' (b.coef.map rawA) M N) (.agg cs.toArray) ∧ SerOK a ∧ SerOK b ∧ (-9223372036854775808 ≤ M ∧ M ≤ 9223372036854775807) ∧ (-9223372036854775808 ≤ N ∧ N ≤ 9223372036854775807) := by
  obtain ⟨y0, y1, y2, y3, n, -, hl, h0, h1, h2, h3⟩ := Go.Joins.trod_struct4 Try.underlying57 h
  have hl : cs.length = 6 := hl.trans (by kernel_rfl)
  match cs, hl with
  | [c0, c1, c2, c3, c4, c5], _ =>
    have h0 : DataW.trod enc Try.prog w base (fun _ => true) held n 24 [c0, c1] = some y0 := h0
    have h1 : DataW.trod enc Try.prog w base (fun _ => true) held n 24 [c2, c3] = some y1 := h1
    have h2 : DataW.trod enc Try.prog w base (fun _ => true) held n 3 [c4] = some y2 := h2
    have h3 : DataW.trod enc Try.prog w base (fun _ => true) held n 3 [c5] = some y3 := h3
    obtain ⟨d0, d1, a, e, g0, g1, ha⟩ := open_serC h0
    obtain ⟨d2, d3, b, e', g2, g3, hb⟩ := open_serC h1
    obtain ⟨M, e4, -, hM⟩ := DataW.trod_int und_int h2
    obtain ⟨N, e5, -, hN⟩ := DataW.trod_int und_int h3
    simp only [List.cons.injEq, and_true] at e e' e4 e5
    obtain ⟨rfl, rfl⟩ := e
    obtain ⟨rfl, rfl⟩ := e'
    subst e4 e5
    refine ⟨a, b, M, N, ?_, ha, hb, int64_b hM, int64_b hN⟩
    refine .agg _ _ rfl (fun c hc => ?_) (fun i c v hi hv => ?_)
    · simp at hc
      rcases hc with rfl | rfl | rfl | rfl | rfl | rfl <;> rfl
    · rcases i with _ | _ | _ | _ | _ | _ | i
      · simp at hi hv; subst hi hv; exact g0
      · simp at hi hv; subst hi hv; exact g1
      · simp at hi hv; subst hi hv; exact g2
      · simp at hi hv; subst hi hv; exact g3
      · simp at hi hv; subst hi hv; exact .p _ rfl
      · simp at hi hv; subst hi hv; exact .p _ rfl
      · simp at hi
end
theorem open_two {H : Type} {enc : TypeId × Value → H} {w : World} {base b0 : Nat} {held : Bool} {r : Reach} {v : Value} {d : DataW H} {p : List MemPlace} (hv : Value.okWide Try.prog w r b0 57 v) (h : DataW.Trod enc Try.prog w base (fun _ => true) held 57 v d p) : ∃ (a b : Ser) (M N : Int), Rep w NoM (twoA a.from' (a.coef.map rawA) b.from' (b.coef.map rawA) M N) v ∧ SerOK a ∧ SerOK b ∧ (-9223372036854775808 ≤ M ∧ M ≤ 9223372036854775807) ∧ (-9223372036854775808 ≤ N ∧ N ≤ 9223372036854775807) := by
  obtain ⟨cs, rfl, hsz⟩ := okWide_struct Try.underlying57 hv
  obtain ⟨fuel, hf⟩ := h
  have hf : DataW.trod enc Try.prog w base (fun _ => true) held fuel 57 cs.toList = some (d, p) := hf
  obtain ⟨a, b, M, N, h1, h2⟩ := open_twoC hf
  exact ⟨a, b, M, N, h1, h2⟩
end Ab
namespace Go.Proofs.Ytmcfohngblbpbaa
open Go.ChangeShapes Go.WideShapes Go.ChangeAt Go.RowKit Ab

set_option maxRecDepth 100000 in
theorem twoAgain {H : Type} {enc : TypeId × Value → H} {W W' : World} {v : Value} {d : DataW H} {ps : List MemPlace} (h : DataW.Trod enc Try.prog W 0 (fun _ => true) true 57 v d ps) (hb : Below W.heap.size W W') (hlt : ∀ x ∈ ps, x.block < W.heap.size) :
    DataW.Trod enc Try.prog W' 0 (fun b => decide (b < W.heap.size)) true 57 v d ps := Below.trod laidOut (by kernel_rfl) (of_decide_eq_true (by kernel_rfl)) h hb hlt
set_option maxRecDepth 100000 in
theorem precision_lifted (os : Os) (started : os.Started) (H : Type) (enc : TypeId × Value → H) :
    ReturnsInHanded {} Try.checked os 6 .any (Rows.seriesPrecisionSpec.pre6 enc Try.prog Try.f6 Rows.seriesPrecisionRow.domain false) (Rows.seriesPrecisionSpec.post enc Try.prog Try.f6 false true false false) := by
  refine returnsInHanded_of_change (C := Try.checked) own started (by kernel_rfl) Try.func6
    (ChangeSpec.witness6 (enc := enc) (C := Try.checked) false ⟨#[], #[.agg #[.int .i64 0, .slice none 0 0, .int .i64 0, .slice none 0 0, .int .i64 0, .int .i64 0]], []⟩ 8 (by kernel_rfl) (by kernel_rfl) (by kernel_rfl) (by kernel_rfl)) ?_
  intro W base args ds gs before hval0 hW hcnd _
  have hval : ∀ (j : Nat) t v, Try.f6.params[j]? = some t → args[j]? = some v → Value.okWide Try.prog W .any base t v := hval0
  have hW' := hW
  obtain ⟨p, q, hA0, hV, rfl, hfz, hnd⟩ := hW
  have hA : DataW.TrodAll enc Try.prog W 0 (fun _ => true) true Try.f6.params.toList args.toList ds p := hA0
  rw [Try.params6] at hA hval
  obtain ⟨v0, d0, rfl, rfl, h0⟩ := trodAll_one hA
  obtain ⟨rfl, rfl⟩ := trodVars_none hV
  obtain ⟨a, b, M, N, ra, oa, ob, hM, hN⟩ := open_two (hval 0 57 v0 rfl rfl) h0
  clear hA0 hval0
  simp only [List.append_nil] at hW'
  refine ((precision_p a b M N oa ob hM.1 hM.2 hN.1 hN.2).2 W NoM (okNo W) [v0] (repsCons ra .nil)).mono fun e W' ⟨v, he, hb, hr⟩ => ?_
  subst he
  obtain rfl := hr.p_inv
  refine ⟨_, rfl, _, _, _, [], p, [], hW', ?_, ?_, ?_, hb.frame _, fun h => by cases h⟩
  · exact trodAll_mk1 (shut_bool und_bool true)
  · exact trodAll_mk1 (twoAgain h0 hb fun x hx => hW'.lt x (by simp [hx]))
  · rfl
theorem precision_holds : Rows.SeriesPrecisionSaid :=
  OpenClaim.holds_of_wide 6 Try.f6 rfl rfl rfl rfl rfl rfl rfl ⟨rfl, rfl, rfl, rfl, rfl⟩ rfl rfl rfl rfl rfl (by kernel_rfl) Try.func6 (by kernel_rfl)
    (of_decide_eq_true (by kernel_rfl)) (by unfold Func.isWrapper; rw [if_neg (of_decide_eq_false (by kernel_rfl))]; exact ⟨rfl, rfl⟩)
    (fun os started H enc _ => precision_lifted os started H enc)
end Go.Proofs.Ytmcfohngblbpbaa
