/- The statement QuasimodularRing, proved: the program's operations on quasimodular polynomials are those of the document; no condition. -/
import Derived.Test.YtkbccidalhefaaaGreatQrE
import Derived.Test.YtkbccidalhefaaaGreatQrO
set_option linter.all false
namespace Go.Proofs.YtkbccidalhefaaaGreat
open Go.ChangeShapes Go.WideShapes Go.ChangeAt Go.RowKit Ab
set_option maxRecDepth 100000

set_option maxRecDepth 100000 in
theorem quasimodularRing_lifted (os : Os) (started : os.Started) (H : Type) (enc : TypeId × Value → H) :
    ReturnsInHanded {} Tryz.checked os 4 .any (Rows.quasimodularRingSpec.pre6 enc Tryz.prog Tryz.f4 Rows.quasimodularRingRow.domain false) (Rows.quasimodularRingSpec.post enc Tryz.prog Tryz.f4 false true false false) := by
  refine returnsInHanded_of_change (C := Tryz.checked) own started (by kernel_rfl) Tryz.func4
    (ChangeSpec.witness6 (enc := enc) (C := Tryz.checked) false ⟨#[], #[.slice none 0 0, .slice none 0 0, .agg #[.bool false, .slice none 0 0, .bool false, .slice none 0 0]], []⟩ 8 (by kernel_rfl) (by kernel_rfl) (by kernel_rfl) (by kernel_rfl)) ?_
  intro W base args ds gs before hval0 hW hcnd _
  have hval : ∀ (j : Nat) t v, Tryz.f4.params[j]? = some t → args[j]? = some v → Value.okWide Tryz.prog W .any base t v := hval0
  have hW' := hW
  obtain ⟨p, q, hA0, hV, rfl, hfz, hnd⟩ := hW
  have hA : DataW.TrodAll enc Tryz.prog W 0 (fun _ => true) true Tryz.f4.params.toList args.toList ds p := hA0
  rw [Tryz.params4] at hA hval
  obtain ⟨v0, v1, v2, d0, d1, d2, p0, p1, p2, rfl, rfl, rfl, h0, h1, h2⟩ := trodAll_three hA
  obtain ⟨rfl, rfl⟩ := trodVars_none hV
  obtain ⟨s, rs, os⟩ := open_qp (hval 0 23 v0 rfl rfl) h0
  obtain ⟨r, rr, oo⟩ := open_qp (hval 1 23 v1 rfl rfl) h1
  obtain ⟨c, rc, dc⟩ := rat_in (hval 2 39 v2 rfl rfl) h2
  clear hA0 hval0
  simp only [List.append_nil] at hW'
  refine ((quasimodularRing_p s os r oo c dc).2 W NoM (okNo W) [v0, v1, v2] (repsCons rs (repsCons rr (repsCons rc .nil)))).mono fun e W' ⟨v, he, hb, hr⟩ => ?_
  subst he
  obtain rfl := hr.p_inv
  refine ⟨_, rfl, _, _, _, [], p0 ++ (p1 ++ p2), [], hW', ?_, ?_, ?_, hb.frame _, fun h => by cases h⟩
  · exact trodAll_mk1 (shut_bool und_bool true)
  · exact trodAll_mk3 (qpAgain h0 hb fun x hx => hW'.lt x (by simp [hx])) (qpAgain h1 hb fun x hx => hW'.lt x (by simp [hx])) (ratAgain h2 hb fun x hx => hW'.lt x (by simp [hx]))
  · rfl
theorem quasimodularRing_holds : Rows.QuasimodularRingSaid :=
  OpenClaim.holds_of_wide 4 Tryz.f4 rfl rfl rfl rfl rfl rfl rfl ⟨rfl, rfl, rfl, rfl, rfl⟩ rfl rfl rfl rfl rfl (by kernel_rfl) Tryz.func4 (by kernel_rfl)
    (of_decide_eq_true (by kernel_rfl)) (by unfold Func.isWrapper; rw [if_neg (of_decide_eq_false (by kernel_rfl))]; exact ⟨rfl, rfl⟩)
    (fun os started H enc _ => quasimodularRing_lifted os started H enc)
end Go.Proofs.YtkbccidalhefaaaGreat
