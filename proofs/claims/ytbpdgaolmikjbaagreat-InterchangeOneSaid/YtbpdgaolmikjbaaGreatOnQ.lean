/- The statement InterchangeOne, proved: bytes that are read are written again as they were; no condition. -/
import Derived.Test.YtbpdgaolmikjbaaGreatOnL
import Derived.Test.YtbpdgaolmikjbaaGreatIcO
set_option linter.all false
namespace Go.Proofs.YtbpdgaolmikjbaaGreat
open Go.ChangeShapes Go.WideShapes Go.ChangeAt Go.RowKit Ab
set_option maxRecDepth 100000

theorem interchangeOne_lifted (os : Os) (started : os.Started) (H : Type) (enc : TypeId × Value → H) :
    ReturnsInHanded {} Tryz.checked os 6 .any (Rows.interchangeOneSpec.pre6 enc Tryz.prog Tryz.f6 Rows.interchangeOneRow.domain false) (Rows.interchangeOneSpec.post enc Tryz.prog Tryz.f6 false true false false) := by
  refine returnsInHanded_of_change (C := Tryz.checked) own started (by kernel_rfl) Tryz.func6
    (ChangeSpec.witness6 (enc := enc) (C := Tryz.checked) false ⟨#[], #[.slice none 0 0], []⟩ 8 (by kernel_rfl) (by kernel_rfl) (by kernel_rfl) (by kernel_rfl)) ?_
  intro W base args ds gs before hval0 hW hcnd _
  have hval : ∀ (j : Nat) t v, Tryz.f6.params[j]? = some t → args[j]? = some v → Value.okWide Tryz.prog W .any base t v := hval0
  have hW' := hW
  obtain ⟨p, q, hA0, hV, rfl, hfz, hnd⟩ := hW
  have hA : DataW.TrodAll enc Tryz.prog W 0 (fun _ => true) true Tryz.f6.params.toList args.toList ds p := hA0
  rw [Tryz.params6] at hA hval
  obtain ⟨v0, d0, rfl, rfl, h0⟩ := trodAll_one hA
  obtain ⟨rfl, rfl⟩ := trodVars_none hV
  obtain ⟨l, rl, hl⟩ := bytes_in (hval 0 32 v0 rfl rfl) h0
  clear hA0 hval0
  simp only [List.append_nil] at hW'
  refine ((one_p hl).2 W NoM (okNo W) [v0] (repsCons rl .nil)).mono fun e W' ⟨v, he, hb, hr⟩ => ?_
  subst he
  obtain rfl := hr.p_inv
  refine ⟨_, rfl, _, _, _, [], p, [], hW', ?_, ?_, ?_, hb.frame _, fun h => by cases h⟩
  · exact trodAll_mk1 (shut_bool und_bool true)
  · exact trodAll_mk1 (bytesAgain h0 hb fun x hx => hW'.lt x (by simp [hx]))
  · rfl
theorem interchangeOne_holds : Rows.InterchangeOneSaid :=
  OpenClaim.holds_of_wide 6 Tryz.f6 rfl rfl rfl rfl rfl rfl rfl ⟨rfl, rfl, rfl, rfl, rfl⟩ rfl rfl rfl rfl rfl (by kernel_rfl) Tryz.func6 (by kernel_rfl)
    (of_decide_eq_true (by kernel_rfl)) (by unfold Func.isWrapper; rw [if_neg (of_decide_eq_false (by kernel_rfl))]; exact ⟨rfl, rfl⟩)
    (fun os started H enc _ => interchangeOne_lifted os started H enc)
end Go.Proofs.YtbpdgaolmikjbaaGreat
