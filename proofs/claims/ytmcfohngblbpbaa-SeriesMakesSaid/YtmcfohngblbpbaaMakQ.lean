/- The statement SeriesMakes, proved. -/
import Derived.Test.YtmcfohngblbpbaaMak
import Derived.Test.YtmcfohngblbpbaaFin
namespace Go.Proofs.Ytmcfohngblbpbaa
open Go.ChangeShapes Go.WideShapes Go.ChangeAt Go.RowKit Ab

set_option maxRecDepth 100000 in
theorem arrAgain {H : Type} {enc : TypeId × Value → H} {W W' : World} {v : Value} {d : DataW H} {ps : List MemPlace} (h : DataW.Trod enc Try.prog W 0 (fun _ => true) true 38 v d ps) (hb : Below W.heap.size W W') (hlt : ∀ x ∈ ps, x.block < W.heap.size) :
    DataW.Trod enc Try.prog W' 0 (fun b => decide (b < W.heap.size)) true 38 v d ps := Below.trod laidOut (by kernel_rfl) (of_decide_eq_true (by kernel_rfl)) h hb hlt
set_option maxRecDepth 100000 in
theorem ratAgain {H : Type} {enc : TypeId × Value → H} {W W' : World} {v : Value} {d : DataW H} {ps : List MemPlace} (h : DataW.Trod enc Try.prog W 0 (fun _ => true) true 37 v d ps) (hb : Below W.heap.size W W') (hlt : ∀ x ∈ ps, x.block < W.heap.size) :
    DataW.Trod enc Try.prog W' 0 (fun b => decide (b < W.heap.size)) true 37 v d ps := Below.trod laidOut (by kernel_rfl) (of_decide_eq_true (by kernel_rfl)) h hb hlt
theorem wf64 {n : Int} (hw : (Lit.int .i64 n).wf = true) : -9223372036854775808 ≤ n ∧ n ≤ 9223372036854775807 := by
  have h2 : IntKind.i64.min ≤ n ∧ n ≤ 9223372036854775807 := by simpa [Lit.wf] using hw
  have e0 : IntKind.i64.min = -9223372036854775808 := by decide
  omega
set_option maxRecDepth 100000 in
theorem arr_in {H : Type} {enc : TypeId × Value → H} {w : World} {base b0 : Nat} {sp : Nat → Bool} {held : Bool} {r : Reach} {v : Value} {d : DataW H} {p : List MemPlace} (hv : Value.okWide Try.prog w r b0 38 v) (h : DataW.Trod enc Try.prog w base sp held 38 v d p) : ∃ x y : Int, v = .agg #[.int .i64 x, .int .i64 y] ∧ (-9223372036854775808 ≤ x ∧ x ≤ 9223372036854775807) := by
  have hv' : ∃ cs, v = .agg cs ∧ cs.size = Try.prog.cellsOf 38 ∧ Row.okWide Try.prog w r b0 38 cs := by
    unfold Value.okWide at hv
    rw [Try.underlying38] at hv
    exact hv
  obtain ⟨cs, rfl, hsz, -⟩ := hv'
  have h2 : Try.prog.cellsOf 38 = 2 := by kernel_rfl
  have h1 : Try.prog.cellsOf 3 = 1 := by kernel_rfl
  obtain ⟨c0, c1, rfl⟩ := Go.Joins.array2 (hsz.trans h2)
  obtain ⟨fuel, hf⟩ := h
  obtain ⟨xs, m, -, -, -, hl, hx⟩ := DataW.trod_array Try.underlying38 hf
  rw [h1] at hx
  have a0 := hx 0 (by decide)
  have a1 := hx 1 (by decide)
  obtain ⟨y0, hy0⟩ : ∃ y, xs[0]? = some y := ⟨_, List.getElem?_eq_getElem (by omega)⟩
  obtain ⟨y1, hy1⟩ : ∃ y, xs[1]? = some y := ⟨_, List.getElem?_eq_getElem (by omega)⟩
  rw [hy0] at a0
  rw [hy1] at a1
  have a0 : DataW.trod enc Try.prog w base sp held m 3 [c0] = some y0 := a0
  have a1 : DataW.trod enc Try.prog w base sp held m 3 [c1] = some y1 := a1
  obtain ⟨n0, e0, -, w0⟩ := DataW.trod_int und_int a0
  obtain ⟨n1, e1, -, w1⟩ := DataW.trod_int und_int a1
  injection e0 with e0
  injection e1 with e1
  subst e0 e1
  exact ⟨n0, n1, rfl, wf64 w0⟩
set_option maxRecDepth 100000 in
theorem rat_in {H : Type} {enc : TypeId × Value → H} {w : World} {base b0 : Nat} {held : Bool} {r : Reach} {v : Value} {d : DataW H} {p : List MemPlace} (hv : Value.okWide Try.prog w r b0 37 v) (h : DataW.Trod enc Try.prog w base (fun _ => true) held 37 v d p) : ∃ c : RQ, Rep w NoM (rawA c) v ∧ DigR c := by
  obtain ⟨cs, rfl, hsz⟩ := okWide_struct Try.underlying37 hv
  obtain ⟨fuel, hf⟩ := h
  obtain ⟨c0, c1, c2, c3, c, hc, g0, g1, g2, g3, hd⟩ := open_rat4 hf
  obtain rfl : cs = #[c0, c1, c2, c3] := Array.ext' hc
  refine ⟨c, .agg _ _ rfl (fun e he => ?_) (fun i e u hi hu => ?_), hd⟩
  · simp at he
    rcases he with rfl | rfl | rfl | rfl <;> rfl
  · rcases i with _ | _ | _ | _ | i
    · simp at hi hu; subst hi hu; exact g0
    · simp at hi hu; subst hi hu; exact g1
    · simp at hi hu; subst hi hu; exact g2
    · simp at hi hu; subst hi hu; exact g3
    · simp at hi
theorem arr_rep {w : World} {M : Nat → Prop} (x y : Int) : Rep w M (arrA x y) (.agg #[.int .i64 x, .int .i64 y]) := by
  refine .agg _ _ rfl (fun e he => ?_) (fun i e u hi hu => ?_)
  · simp at he
    rcases he with rfl | rfl <;> rfl
  · rcases i with _ | _ | i
    · simp at hi hu; subst hi hu; exact .p _ rfl
    · simp at hi hu; subst hi hu; exact .p _ rfl
    · simp at hi
set_option maxRecDepth 100000 in
theorem makes_lifted (os : Os) (started : os.Started) (H : Type) (enc : TypeId × Value → H) :
    ReturnsInHanded {} Try.checked os 4 .any (Rows.seriesMakesSpec.pre6 enc Try.prog Try.f4 Rows.seriesMakesRow.domain false) (Rows.seriesMakesSpec.post enc Try.prog Try.f4 false true false false) := by
  refine returnsInHanded_of_change (C := Try.checked) own started (by kernel_rfl) Try.func4
    (ChangeSpec.witness6 (enc := enc) (C := Try.checked) false ⟨#[], #[.agg #[.int .i64 0, .slice none 0 0], .agg #[.bool false, .slice none 0 0, .bool false, .slice none 0 0], .agg #[.int .i64 0, .int .i64 0]], []⟩ 8 (by kernel_rfl) (by kernel_rfl) (by kernel_rfl) (by kernel_rfl)) ?_
  intro W base args ds gs before hval0 hW hcnd _
  have hval : ∀ (j : Nat) t v, Try.f4.params[j]? = some t → args[j]? = some v → Value.okWide Try.prog W .any base t v := hval0
  have hW' := hW
  obtain ⟨p, q, hA0, hV, rfl, hfz, hnd⟩ := hW
  have hA : DataW.TrodAll enc Try.prog W 0 (fun _ => true) true Try.f4.params.toList args.toList ds p := hA0
  rw [Try.params4] at hA hval
  obtain ⟨v0, v1, v2, d0, d1, d2, p0, p1, p2, rfl, rfl, rfl, h0, h1, h2⟩ := trodAll_three hA
  obtain ⟨rfl, rfl⟩ := trodVars_none hV
  obtain ⟨a, ra, oa⟩ := open_ser (hval 0 24 v0 rfl rfl) h0
  obtain ⟨c, rc, dc⟩ := rat_in (hval 1 37 v1 rfl rfl) h1
  obtain ⟨x, y, rfl, x0, x1⟩ := arr_in (hval 2 38 v2 rfl rfl) h2
  clear hA0 hval0
  simp only [List.append_nil] at hW'
  refine ((makes_p a c x y oa dc x0 x1).2 W NoM (okNo W) [v0, v1, .agg #[.int .i64 x, .int .i64 y]] (repsCons ra (repsCons rc (repsCons (arr_rep x y) .nil)))).mono fun e W' ⟨v, he, hb, hr⟩ => ?_
  subst he
  obtain rfl := hr.p_inv
  refine ⟨_, rfl, _, _, _, [], p0 ++ (p1 ++ p2), [], hW', ?_, ?_, ?_, hb.frame _, fun h => by cases h⟩
  · exact trodAll_mk1 (shut_bool und_bool true)
  · exact trodAll_mk3 (serAgain h0 hb fun x hx => hW'.lt x (by simp [hx])) (ratAgain h1 hb fun x hx => hW'.lt x (by simp [hx])) (arrAgain h2 hb fun x hx => hW'.lt x (by simp [hx]))
  · rfl
theorem makes_holds : Rows.SeriesMakesSaid :=
  OpenClaim.holds_of_wide 4 Try.f4 rfl rfl rfl rfl rfl rfl rfl ⟨rfl, rfl, rfl, rfl, rfl⟩ rfl rfl rfl rfl rfl (by kernel_rfl) Try.func4 (by kernel_rfl)
    (of_decide_eq_true (by kernel_rfl)) (by unfold Func.isWrapper; rw [if_neg (of_decide_eq_false (by kernel_rfl))]; exact ⟨rfl, rfl⟩)
    (fun os started H enc _ => makes_lifted os started H enc)
end Go.Proofs.Ytmcfohngblbpbaa
