/- The statement QuadformGroup, proved. -/
import Derived.Test.YtajlkcnlfiikeaaQyG
import Derived.Test.YtajlkcnlfiikeaaQFin
set_option linter.all false
namespace Go.Proofs.Ytajlkcnlfiikeaa
open Go.ChangeShapes Go.WideShapes Go.ChangeAt Go.RowKit Ab

set_option maxRecDepth 100000 in
theorem arrAgain {H : Type} {enc : TypeId × Value → H} {W W' : World} {v : Value} {d : DataW H} {ps : List MemPlace} (h : DataW.Trod enc Try.prog W 0 (fun _ => true) true 42 v d ps) (hb : Below W.heap.size W W') (hlt : ∀ x ∈ ps, x.block < W.heap.size) :
    DataW.Trod enc Try.prog W' 0 (fun b => decide (b < W.heap.size)) true 42 v d ps := Below.trod laidOut (by kernel_rfl) (of_decide_eq_true (by kernel_rfl)) h hb hlt
theorem wfA {n : Int} (hw : (Lit.int .u16 n).wf = true) : B16 n := by
  have e0 : IntKind.u16.min = 0 := by decide
  have e1 : IntKind.u16.max = 65535 := by decide
  have h : IntKind.u16.min ≤ n ∧ n ≤ IntKind.u16.max := by simpa only [Lit.wf, Bool.and_eq_true, decide_eq_true_eq] using hw
  unfold B16
  omega
theorem arrL3 {cs : Array Value} (h : cs.size = 3) : ∃ a b c, cs = #[a, b, c] := by
  rcases cs with ⟨_ | ⟨a, _ | ⟨b, _ | ⟨c, _ | ⟨e, l⟩⟩⟩⟩⟩ <;> simp at h
  exact ⟨a, b, c, rfl⟩
set_option maxRecDepth 100000 in
theorem arr_in {H : Type} {enc : TypeId × Value → H} {w : World} {base b0 : Nat} {sp : Nat → Bool} {held : Bool} {r : Reach} {v : Value} {d : DataW H} {p : List MemPlace} (hv : Value.okWide Try.prog w r b0 42 v) (h : DataW.Trod enc Try.prog w base sp held 42 v d p) : ∃ x y z : Int, v = .agg #[.int .u16 x, .int .u16 y, .int .u16 z] ∧ B16 x ∧ B16 y ∧ B16 z := by
  have hv' : ∃ cs, v = .agg cs ∧ cs.size = Try.prog.cellsOf 42 ∧ Row.okWide Try.prog w r b0 42 cs := by
    unfold Value.okWide at hv
    rw [Try.underlying42] at hv
    exact hv
  obtain ⟨cs, rfl, hsz, -⟩ := hv'
  have h2 : Try.prog.cellsOf 42 = 3 := by kernel_rfl
  have h1 : Try.prog.cellsOf 41 = 1 := by kernel_rfl
  obtain ⟨c0, c1, c2, rfl⟩ := arrL3 (hsz.trans h2)
  obtain ⟨fuel, hf⟩ := h
  obtain ⟨xs, m, -, -, -, hl, hx⟩ := DataW.trod_array Try.underlying42 hf
  rw [h1] at hx
  have a0 := hx 0 (by decide)
  obtain ⟨y0, hy0⟩ : ∃ y, xs[0]? = some y := ⟨_, List.getElem?_eq_getElem (by omega)⟩
  rw [hy0] at a0
  have a0 : DataW.trod enc Try.prog w base sp held m 41 [c0] = some y0 := a0
  obtain ⟨n0, e0, -, w0⟩ := DataW.trod_int und_u16 a0
  injection e0 with e0
  have a1 := hx 1 (by decide)
  obtain ⟨y1, hy1⟩ : ∃ y, xs[1]? = some y := ⟨_, List.getElem?_eq_getElem (by omega)⟩
  rw [hy1] at a1
  have a1 : DataW.trod enc Try.prog w base sp held m 41 [c1] = some y1 := a1
  obtain ⟨n1, e1, -, w1⟩ := DataW.trod_int und_u16 a1
  injection e1 with e1
  have a2 := hx 2 (by decide)
  obtain ⟨y2, hy2⟩ : ∃ y, xs[2]? = some y := ⟨_, List.getElem?_eq_getElem (by omega)⟩
  rw [hy2] at a2
  have a2 : DataW.trod enc Try.prog w base sp held m 41 [c2] = some y2 := a2
  obtain ⟨n2, e2, -, w2⟩ := DataW.trod_int und_u16 a2
  injection e2 with e2
  subst e0 e1 e2
  exact ⟨n0, n1, n2, rfl, wfA w0, wfA w1, wfA w2⟩
theorem arr_rep {w : World} {M : Nat → Prop} (x y z : Int) : Rep w M (.agg [Ab.u16 x, Ab.u16 y, Ab.u16 z]) (.agg #[.int .u16 x, .int .u16 y, .int .u16 z]) := by
  refine .agg _ _ rfl (fun e he => ?_) (fun i e u hi hu => ?_)
  · simp at he
    rcases he with rfl | rfl | rfl <;> rfl
  · rcases i with _ | _ | _ | i
    · simp at hi hu; subst hi hu; exact .p _ rfl
    · simp at hi hu; subst hi hu; exact .p _ rfl
    · simp at hi hu; subst hi hu; exact .p _ rfl
    · simp at hi
set_option maxRecDepth 100000 in
theorem group_lifted (os : Os) (started : os.Started) (H : Type) (enc : TypeId × Value → H) :
    ReturnsInHanded {} Try.checked os 6 .any (Rows.quadformGroupSpec.pre6 enc Try.prog Try.f6 Rows.quadformGroupRow.domain false) (Rows.quadformGroupSpec.post enc Try.prog Try.f6 false true false false) := by
  refine returnsInHanded_of_change (C := Try.checked) own started (by kernel_rfl) Try.func6
    (ChangeSpec.witness6 (enc := enc) (C := Try.checked) false ⟨#[], #[.int .i64 0, .agg #[.int .u16 0, .int .u16 0, .int .u16 0]], []⟩ 8 (by kernel_rfl) (by kernel_rfl) (by kernel_rfl) (by kernel_rfl)) ?_
  intro W base args ds gs before hval0 hW hcnd _
  have hval : ∀ (j : Nat) t v, Try.f6.params[j]? = some t → args[j]? = some v → Value.okWide Try.prog W .any base t v := hval0
  have hW' := hW
  obtain ⟨p, q, hA0, hV, rfl, hfz, hnd⟩ := hW
  have hA : DataW.TrodAll enc Try.prog W 0 (fun _ => true) true Try.f6.params.toList args.toList ds p := hA0
  rw [Try.params6] at hA hval
  obtain ⟨v0, v1, d0, d1, p0, p1, rfl, rfl, rfl, h0, h1⟩ := trodAll_two hA
  obtain ⟨rfl, rfl⟩ := trodVars_none hV
  obtain ⟨a0, rfl, l0, u0⟩ := int_in (hval 0 3 v0 rfl rfl) h0
  obtain ⟨x, y, z, rfl, kx, ky, kz⟩ := arr_in (hval 1 42 v1 rfl rfl) h1
  clear hA0 hval0
  simp only [List.append_nil] at hW'
  refine ((group_p a0 kx ky kz).2 W NoM (okNo W) [.int .i64 a0, .agg #[.int .u16 x, .int .u16 y, .int .u16 z]] (repsCons (.p _ rfl) (repsCons (arr_rep x y z) .nil))).mono fun e W' ⟨v, he, hb, hr⟩ => ?_
  subst he
  obtain rfl := hr.p_inv
  refine ⟨_, rfl, _, _, _, [], p0 ++ p1, [], hW', ?_, ?_, ?_, hb.frame _, fun h => by cases h⟩
  · exact trodAll_mk1 (shut_bool und_bool true)
  · exact trodAll_mk2 (intAgain h0 hb fun x hx => hW'.lt x (by simp [hx])) (arrAgain h1 hb fun x hx => hW'.lt x (by simp [hx]))
  · rfl
theorem group_holds : Rows.QuadformGroupSaid :=
  OpenClaim.holds_of_wide 6 Try.f6 rfl rfl rfl rfl rfl rfl rfl ⟨rfl, rfl, rfl, rfl, rfl⟩ rfl rfl rfl rfl rfl (by kernel_rfl) Try.func6 (by kernel_rfl)
    (of_decide_eq_true (by kernel_rfl)) (by unfold Func.isWrapper; rw [if_neg (of_decide_eq_false (by kernel_rfl))]; exact ⟨rfl, rfl⟩)
    (fun os started H enc _ => group_lifted os started H enc)
end Go.Proofs.Ytajlkcnlfiikeaa
