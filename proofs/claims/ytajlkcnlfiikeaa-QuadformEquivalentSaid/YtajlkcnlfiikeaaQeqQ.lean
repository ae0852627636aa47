/- The statement QuadformEquivalent, proved. -/
import Derived.Test.YtajlkcnlfiikeaaQwS
import Derived.Test.YtajlkcnlfiikeaaQFin
set_option linter.all false
namespace Go.Proofs.Ytajlkcnlfiikeaa
open Go.ChangeShapes Go.WideShapes Go.ChangeAt Go.RowKit Ab

set_option maxRecDepth 100000 in
theorem matAgain {H : Type} {enc : TypeId × Value → H} {W W' : World} {v : Value} {d : DataW H} {ps : List MemPlace} (h : DataW.Trod enc Try.prog W 0 (fun _ => true) true 67 v d ps) (hb : Below W.heap.size W W') (hlt : ∀ x ∈ ps, x.block < W.heap.size) :
    DataW.Trod enc Try.prog W' 0 (fun b => decide (b < W.heap.size)) true 67 v d ps := Below.trod laidOut (by kernel_rfl) (of_decide_eq_true (by kernel_rfl)) h hb hlt
set_option maxRecDepth 100000 in
theorem open_mat {H : Type} {enc : TypeId × Value → H} {w : World} {base b0 : Nat} {held : Bool} {r : Reach} {v : Value} {d : DataW H} {p : List MemPlace} (hv : Value.okWide Try.prog w r b0 67 v) (h : DataW.Trod enc Try.prog w base (fun _ => true) held 67 v d p) : ∃ m : Qf.M, Rep w NoM (mA m) v := by
  obtain ⟨v0, v1, v2, v3, y0, y1, y2, y3, n, rfl, -, -, h0, h1, h2, h3⟩ := Go.Joins.open_agg4 Try.underlying67 (by kernel_rfl) (by kernel_rfl) hv h
  have h0 : DataW.trod enc Try.prog w base (fun _ => true) held n 3 [v0] = some y0 := h0
  have h1 : DataW.trod enc Try.prog w base (fun _ => true) held n 3 [v1] = some y1 := h1
  have h2 : DataW.trod enc Try.prog w base (fun _ => true) held n 3 [v2] = some y2 := h2
  have h3 : DataW.trod enc Try.prog w base (fun _ => true) held n 3 [v3] = some y3 := h3
  obtain ⟨a, e0, -, -⟩ := DataW.trod_int und_int h0
  obtain ⟨b, e1, -, -⟩ := DataW.trod_int und_int h1
  obtain ⟨c, e2, -, -⟩ := DataW.trod_int und_int h2
  obtain ⟨d, e3, -, -⟩ := DataW.trod_int und_int h3
  injection e0 with e0
  injection e1 with e1
  injection e2 with e2
  injection e3 with e3
  subst e0 e1 e2 e3
  refine ⟨⟨a, b, c, d⟩, .agg _ _ rfl (fun c hc => ?_) (fun i c v hi hv => ?_)⟩
  · simp at hc
    rcases hc with rfl | rfl | rfl | rfl <;> rfl
  · rcases i with _ | _ | _ | _ | i
    · simp at hi hv; subst hi hv; exact .p _ rfl
    · simp at hi hv; subst hi hv; exact .p _ rfl
    · simp at hi hv; subst hi hv; exact .p _ rfl
    · simp at hi hv; subst hi hv; exact .p _ rfl
    · simp at hi
set_option maxRecDepth 100000 in
theorem equivalent_lifted (os : Os) (started : os.Started) (H : Type) (enc : TypeId × Value → H) :
    ReturnsInHanded {} Try.checked os 10 .any (Rows.quadformEquivalentSpec.pre6 enc Try.prog Try.f10 Rows.quadformEquivalentRow.domain false) (Rows.quadformEquivalentSpec.post enc Try.prog Try.f10 false true false false) := by
  refine returnsInHanded_of_change (C := Try.checked) own started (by kernel_rfl) Try.func10
    (ChangeSpec.witness6 (enc := enc) (C := Try.checked) false ⟨#[], #[.agg #[.int .i64 0, .int .i64 0, .int .i64 0], .agg #[.int .i64 0, .int .i64 0, .int .i64 0, .int .i64 0], .int .i64 0], []⟩ 8 (by kernel_rfl) (by kernel_rfl) (by kernel_rfl) (by kernel_rfl)) ?_
  intro W base args ds gs before hval0 hW hcnd _
  have hval : ∀ (j : Nat) t v, Try.f10.params[j]? = some t → args[j]? = some v → Value.okWide Try.prog W .any base t v := hval0
  have hW' := hW
  obtain ⟨p, q, hA0, hV, rfl, hfz, hnd⟩ := hW
  have hA : DataW.TrodAll enc Try.prog W 0 (fun _ => true) true Try.f10.params.toList args.toList ds p := hA0
  rw [Try.params10] at hA hval
  obtain ⟨v0, v1, v2, d0, d1, d2, p0, p1, p2, rfl, rfl, rfl, h0, h1, h2⟩ := trodAll_three hA
  obtain ⟨rfl, rfl⟩ := trodVars_none hV
  obtain ⟨a, ra⟩ := open_form (hval 0 23 v0 rfl rfl) h0
  obtain ⟨b, rb⟩ := open_mat (hval 1 67 v1 rfl rfl) h1
  obtain ⟨c, rfl, c0, c1⟩ := int_in (hval 2 3 v2 rfl rfl) h2
  clear hA0 hval0
  simp only [List.append_nil] at hW'
  refine ((equivalent_p a b c c0 c1).2 W NoM (okNo W) [v0, v1, .int .i64 c] (repsCons ra (repsCons rb (repsCons (.p _ rfl) .nil)))).mono fun e W' ⟨v, he, hb, hr⟩ => ?_
  subst he
  obtain rfl := hr.p_inv
  refine ⟨_, rfl, _, _, _, [], p0 ++ (p1 ++ p2), [], hW', ?_, ?_, ?_, hb.frame _, fun h => by cases h⟩
  · exact trodAll_mk1 (shut_bool und_bool true)
  · exact trodAll_mk3 (formAgain h0 hb fun x hx => hW'.lt x (by simp [hx])) (matAgain h1 hb fun x hx => hW'.lt x (by simp [hx])) (intAgain h2 hb fun x hx => hW'.lt x (by simp [hx]))
  · rfl
theorem equivalent_holds : Rows.QuadformEquivalentSaid :=
  OpenClaim.holds_of_wide 10 Try.f10 rfl rfl rfl rfl rfl rfl rfl ⟨rfl, rfl, rfl, rfl, rfl⟩ rfl rfl rfl rfl rfl (by kernel_rfl) Try.func10 (by kernel_rfl)
    (of_decide_eq_true (by kernel_rfl)) (by unfold Func.isWrapper; rw [if_neg (of_decide_eq_false (by kernel_rfl))]; exact ⟨rfl, rfl⟩)
    (fun os started H enc _ => equivalent_lifted os started H enc)
end Go.Proofs.Ytajlkcnlfiikeaa
