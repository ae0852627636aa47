/- The statement QuasimodularDerivatives, proved: the program's operations on quasimodular polynomials are those of the document; no condition. -/
import Derived.Test.YtkbccidalhefaaaGreatQdD
import Derived.Test.YtkbccidalhefaaaGreatQrO
set_option linter.all false
namespace Go.Proofs.YtkbccidalhefaaaGreat
open Go.ChangeShapes Go.WideShapes Go.ChangeAt Go.RowKit Ab
set_option maxRecDepth 100000

set_option maxRecDepth 100000 in
theorem quasimodularDerivatives_lifted (os : Os) (started : os.Started) (H : Type) (enc : TypeId × Value → H) :
    ReturnsInHanded {} Tryz.checked os 3 .any (Rows.quasimodularDerivativesSpec.pre6 enc Tryz.prog Tryz.f3 Rows.quasimodularDerivativesRow.domain false) (Rows.quasimodularDerivativesSpec.post enc Tryz.prog Tryz.f3 false true false false) := by
  refine returnsInHanded_of_change (C := Tryz.checked) own started (by kernel_rfl) Tryz.func3
    (ChangeSpec.witness6 (enc := enc) (C := Tryz.checked) false ⟨#[], #[.slice none 0 0, .slice none 0 0, .int .i64 0], []⟩ 8 (by kernel_rfl) (by kernel_rfl) (by kernel_rfl) (by kernel_rfl)) ?_
  intro W base args ds gs before hval0 hW hcnd _
  have hval : ∀ (j : Nat) t v, Tryz.f3.params[j]? = some t → args[j]? = some v → Value.okWide Tryz.prog W .any base t v := hval0
  have hW' := hW
  obtain ⟨p, q, hA0, hV, rfl, hfz, hnd⟩ := hW
  have hA : DataW.TrodAll enc Tryz.prog W 0 (fun _ => true) true Tryz.f3.params.toList args.toList ds p := hA0
  rw [Tryz.params3] at hA hval
  obtain ⟨v0, v1, v2, d0, d1, d2, p0, p1, p2, rfl, rfl, rfl, h0, h1, h2⟩ := trodAll_three hA
  obtain ⟨rfl, rfl⟩ := trodVars_none hV
  obtain ⟨s, rs, os⟩ := open_qp (hval 0 23 v0 rfl rfl) h0
  obtain ⟨r, rr, oo⟩ := open_qp (hval 1 23 v1 rfl rfl) h1
  obtain ⟨c, rfl, l2, u2⟩ := int_in (hval 2 3 v2 rfl rfl) h2
  clear hA0 hval0
  simp only [List.append_nil] at hW'
  refine ((quasimodularDerivatives_p s os r oo c l2 u2).2 W NoM (okNo W) [v0, v1, .int .i64 c] (repsCons rs (repsCons rr (repsCons (.p _ rfl) .nil)))).mono fun e W' ⟨v, he, hb, hr⟩ => ?_
  subst he
  obtain rfl := hr.p_inv
  refine ⟨_, rfl, _, _, _, [], p0 ++ (p1 ++ p2), [], hW', ?_, ?_, ?_, hb.frame _, fun h => by cases h⟩
  · exact trodAll_mk1 (shut_bool und_bool true)
  · exact trodAll_mk3 (qpAgain h0 hb fun x hx => hW'.lt x (by simp [hx])) (qpAgain h1 hb fun x hx => hW'.lt x (by simp [hx])) (intAgain h2 hb fun x hx => hW'.lt x (by simp [hx]))
  · rfl
theorem quasimodularDerivatives_holds : Rows.QuasimodularDerivativesSaid :=
  OpenClaim.holds_of_wide 3 Tryz.f3 rfl rfl rfl rfl rfl rfl rfl ⟨rfl, rfl, rfl, rfl, rfl⟩ rfl rfl rfl rfl rfl (by kernel_rfl) Tryz.func3 (by kernel_rfl)
    (of_decide_eq_true (by kernel_rfl)) (by unfold Func.isWrapper; rw [if_neg (of_decide_eq_false (by kernel_rfl))]; exact ⟨rfl, rfl⟩)
    (fun os started H enc _ => quasimodularDerivatives_lifted os started H enc)
end Go.Proofs.YtkbccidalhefaaaGreat
