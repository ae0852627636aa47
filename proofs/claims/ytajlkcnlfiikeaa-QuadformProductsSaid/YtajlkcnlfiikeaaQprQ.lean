/- The statement QuadformProducts, proved. -/
import Derived.Test.YtajlkcnlfiikeaaQyA
import Derived.Test.YtajlkcnlfiikeaaQFin
set_option linter.all false
namespace Go.Proofs.Ytajlkcnlfiikeaa
open Go.ChangeShapes Go.WideShapes Go.ChangeAt Go.RowKit Ab

set_option maxRecDepth 100000 in
theorem arrAgain {H : Type} {enc : TypeId × Value → H} {W W' : World} {v : Value} {d : DataW H} {ps : List MemPlace} (h : DataW.Trod enc Try.prog W 0 (fun _ => true) true 37 v d ps) (hb : Below W.heap.size W W') (hlt : ∀ x ∈ ps, x.block < W.heap.size) :
    DataW.Trod enc Try.prog W' 0 (fun b => decide (b < W.heap.size)) true 37 v d ps := Below.trod laidOut (by kernel_rfl) (of_decide_eq_true (by kernel_rfl)) h hb hlt
theorem wfA {n : Int} (hw : (Lit.int .i8 n).wf = true) : B8 n := by
  have e0 : IntKind.i8.min = -128 := by decide
  have e1 : IntKind.i8.max = 127 := by decide
  have h : IntKind.i8.min ≤ n ∧ n ≤ IntKind.i8.max := by simpa only [Lit.wf, Bool.and_eq_true, decide_eq_true_eq] using hw
  unfold B8
  omega
theorem arrL4 {cs : Array Value} (h : cs.size = 4) : ∃ a b c d, cs = #[a, b, c, d] := by
  rcases cs with ⟨_ | ⟨a, _ | ⟨b, _ | ⟨c, _ | ⟨d, _ | ⟨e, l⟩⟩⟩⟩⟩⟩ <;> simp at h
  exact ⟨a, b, c, d, rfl⟩
set_option maxRecDepth 100000 in
theorem arr_in {H : Type} {enc : TypeId × Value → H} {w : World} {base b0 : Nat} {sp : Nat → Bool} {held : Bool} {r : Reach} {v : Value} {d : DataW H} {p : List MemPlace} (hv : Value.okWide Try.prog w r b0 37 v) (h : DataW.Trod enc Try.prog w base sp held 37 v d p) : ∃ x y z t : Int, v = .agg #[.int .i8 x, .int .i8 y, .int .i8 z, .int .i8 t] ∧ B8 x ∧ B8 y ∧ B8 z ∧ B8 t := by
  have hv' : ∃ cs, v = .agg cs ∧ cs.size = Try.prog.cellsOf 37 ∧ Row.okWide Try.prog w r b0 37 cs := by
    unfold Value.okWide at hv
    rw [Try.underlying37] at hv
    exact hv
  obtain ⟨cs, rfl, hsz, -⟩ := hv'
  have h2 : Try.prog.cellsOf 37 = 4 := by kernel_rfl
  have h1 : Try.prog.cellsOf 36 = 1 := by kernel_rfl
  obtain ⟨c0, c1, c2, c3, rfl⟩ := arrL4 (hsz.trans h2)
  obtain ⟨fuel, hf⟩ := h
  obtain ⟨xs, m, -, -, -, hl, hx⟩ := DataW.trod_array Try.underlying37 hf
  rw [h1] at hx
  have a0 := hx 0 (by decide)
  obtain ⟨y0, hy0⟩ : ∃ y, xs[0]? = some y := ⟨_, List.getElem?_eq_getElem (by omega)⟩
  rw [hy0] at a0
  have a0 : DataW.trod enc Try.prog w base sp held m 36 [c0] = some y0 := a0
  obtain ⟨n0, e0, -, w0⟩ := DataW.trod_int und_i8 a0
  injection e0 with e0
  have a1 := hx 1 (by decide)
  obtain ⟨y1, hy1⟩ : ∃ y, xs[1]? = some y := ⟨_, List.getElem?_eq_getElem (by omega)⟩
  rw [hy1] at a1
  have a1 : DataW.trod enc Try.prog w base sp held m 36 [c1] = some y1 := a1
  obtain ⟨n1, e1, -, w1⟩ := DataW.trod_int und_i8 a1
  injection e1 with e1
  have a2 := hx 2 (by decide)
  obtain ⟨y2, hy2⟩ : ∃ y, xs[2]? = some y := ⟨_, List.getElem?_eq_getElem (by omega)⟩
  rw [hy2] at a2
  have a2 : DataW.trod enc Try.prog w base sp held m 36 [c2] = some y2 := a2
  obtain ⟨n2, e2, -, w2⟩ := DataW.trod_int und_i8 a2
  injection e2 with e2
  have a3 := hx 3 (by decide)
  obtain ⟨y3, hy3⟩ : ∃ y, xs[3]? = some y := ⟨_, List.getElem?_eq_getElem (by omega)⟩
  rw [hy3] at a3
  have a3 : DataW.trod enc Try.prog w base sp held m 36 [c3] = some y3 := a3
  obtain ⟨n3, e3, -, w3⟩ := DataW.trod_int und_i8 a3
  injection e3 with e3
  subst e0 e1 e2 e3
  exact ⟨n0, n1, n2, n3, rfl, wfA w0, wfA w1, wfA w2, wfA w3⟩
theorem arr_rep {w : World} {M : Nat → Prop} (x y z t : Int) : Rep w M (.agg [Ab.i8 x, Ab.i8 y, Ab.i8 z, Ab.i8 t]) (.agg #[.int .i8 x, .int .i8 y, .int .i8 z, .int .i8 t]) := by
  refine .agg _ _ rfl (fun e he => ?_) (fun i e u hi hu => ?_)
  · simp at he
    rcases he with rfl | rfl | rfl | rfl <;> rfl
  · rcases i with _ | _ | _ | _ | i
    · simp at hi hu; subst hi hu; exact .p _ rfl
    · simp at hi hu; subst hi hu; exact .p _ rfl
    · simp at hi hu; subst hi hu; exact .p _ rfl
    · simp at hi hu; subst hi hu; exact .p _ rfl
    · simp at hi
set_option maxRecDepth 100000 in
theorem products_lifted (os : Os) (started : os.Started) (H : Type) (enc : TypeId × Value → H) :
    ReturnsInHanded {} Try.checked os 5 .any (Rows.quadformProductsSpec.pre6 enc Try.prog Try.f5 Rows.quadformProductsRow.domain false) (Rows.quadformProductsSpec.post enc Try.prog Try.f5 false true false false) := by
  refine returnsInHanded_of_change (C := Try.checked) own started (by kernel_rfl) Try.func5
    (ChangeSpec.witness6 (enc := enc) (C := Try.checked) false ⟨#[], #[.agg #[.int .i64 0, .int .i64 0, .int .i64 0], .agg #[.int .i64 0, .int .i64 0, .int .i64 0], .agg #[.int .i8 0, .int .i8 0, .int .i8 0, .int .i8 0]], []⟩ 8 (by kernel_rfl) (by kernel_rfl) (by kernel_rfl) (by kernel_rfl)) ?_
  intro W base args ds gs before hval0 hW hcnd _
  have hval : ∀ (j : Nat) t v, Try.f5.params[j]? = some t → args[j]? = some v → Value.okWide Try.prog W .any base t v := hval0
  have hW' := hW
  obtain ⟨p, q, hA0, hV, rfl, hfz, hnd⟩ := hW
  have hA : DataW.TrodAll enc Try.prog W 0 (fun _ => true) true Try.f5.params.toList args.toList ds p := hA0
  rw [Try.params5] at hA hval
  obtain ⟨v0, v1, v2, d0, d1, d2, p0, p1, p2, rfl, rfl, rfl, h0, h1, h2⟩ := trodAll_three hA
  obtain ⟨rfl, rfl⟩ := trodVars_none hV
  obtain ⟨a0, ra0⟩ := open_form (hval 0 23 v0 rfl rfl) h0
  obtain ⟨a1, ra1⟩ := open_form (hval 1 23 v1 rfl rfl) h1
  obtain ⟨x, y, z, t, rfl, kx, ky, kz, kt⟩ := arr_in (hval 2 37 v2 rfl rfl) h2
  clear hA0 hval0
  simp only [List.append_nil] at hW'
  refine ((products_p a0 a1 kx ky kz kt).2 W NoM (okNo W) [v0, v1, .agg #[.int .i8 x, .int .i8 y, .int .i8 z, .int .i8 t]] (repsCons ra0 (repsCons ra1 (repsCons (arr_rep x y z t) .nil)))).mono fun e W' ⟨v, he, hb, hr⟩ => ?_
  subst he
  obtain rfl := hr.p_inv
  refine ⟨_, rfl, _, _, _, [], p0 ++ (p1 ++ p2), [], hW', ?_, ?_, ?_, hb.frame _, fun h => by cases h⟩
  · exact trodAll_mk1 (shut_bool und_bool true)
  · exact trodAll_mk3 (formAgain h0 hb fun x hx => hW'.lt x (by simp [hx])) (formAgain h1 hb fun x hx => hW'.lt x (by simp [hx])) (arrAgain h2 hb fun x hx => hW'.lt x (by simp [hx]))
  · rfl
theorem products_holds : Rows.QuadformProductsSaid :=
  OpenClaim.holds_of_wide 5 Try.f5 rfl rfl rfl rfl rfl rfl rfl ⟨rfl, rfl, rfl, rfl, rfl⟩ rfl rfl rfl rfl rfl (by kernel_rfl) Try.func5 (by kernel_rfl)
    (of_decide_eq_true (by kernel_rfl)) (by unfold Func.isWrapper; rw [if_neg (of_decide_eq_false (by kernel_rfl))]; exact ⟨rfl, rfl⟩)
    (fun os started H enc _ => products_lifted os started H enc)
end Go.Proofs.Ytajlkcnlfiikeaa
