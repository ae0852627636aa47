/- The statement LeveloneDiscriminant, proved. -/
import Derived.Test.YtdbkmjahbgcjbaaGreatDoorLxB
import Derived.Test.YtdbkmjahbgcjbaaGreatDoorFL
import Derived.Test.YtdbkmjahbgcjbaaGreatDoorLdiF
set_option linter.all false
namespace Go.Proofs.YtdbkmjahbgcjbaaGreatDoor
open Go.ChangeShapes Go.WideShapes Go.ChangeAt Go.RowKit Ab
set_option maxRecDepth 100000 in
theorem leveloneDiscriminant_lifted (os : Os) (started : os.Started) (H : Type) (enc : TypeId × Value → H) :
  ReturnsInHanded {} Tryz.checked os 7 .any (fun w args => (Rows.leveloneDiscriminantSpec.pre enc Tryz.prog Tryz.f7 Rows.leveloneDiscriminantRow.domain false w args ∧ laidMetH Tryz.prog laidL w) ∧ sizedMet enc Tryz.prog Tryz.f7 (OpenSpec.ofChange Rows.leveloneDiscriminantSpec) false w args)
   (Rows.leveloneDiscriminantSpec.post enc Tryz.prog Tryz.f7 false true false false) := by
 refine returnsInHanded_of_change_and (C := Tryz.checked) (X := fun w _ => laidMetH Tryz.prog laidL w) (fun _ _ _ hh h => h.of_heap hh) own started (by kernel_rfl) Tryz.func7
  (ChangeSpec.witness_at (enc := enc) (C := Tryz.checked) (os := os) (X := fun w _ => laidMetH Tryz.prog laidL w) false (laidWorld os) #[.int .i64 0] 8 rfl (by kernel_rfl) (by kernel_rfl) (by kernel_rfl) (by kernel_rfl) (by kernel_rfl) (laidWorld_met os _)) ?_
 intro W base args ds gs before hval0 hW _ _ hL _
 have hval : ∀ (j : Nat) t v, Tryz.f7.params[j]? = some t → args[j]? = some v → Value.okWide Tryz.prog W .any base t v := hval0
 have hW' := hW
 obtain ⟨p, q, hA0, hV0, rfl, hfz, hnd⟩ := hW
 have hA : DataW.TrodAll enc Tryz.prog W 0 (fun _ => true) true Tryz.f7.params.toList args.toList ds p := hA0
 have hV : DataW.TrodVars enc Tryz.prog W (fun _ => true) [] gs q := hV0
 rw [Tryz.params7] at hA hval
 obtain ⟨v0, d0, rfl, rfl, h0⟩ := trodAll_one hA
 obtain ⟨rfl, rfl⟩ : gs = [] ∧ q = [] := by
  cases gs with
  | nil => exact ⟨rfl, hV⟩
  | cons g r => exact absurd hV (by intro h; cases h)
 have hT := tab_of_laid hL
 obtain ⟨a0, rfl, l0, u0⟩ := int_in (hval 0 3 v0 rfl rfl) h0
 clear hA0 hval0 hV0 hV hL
 simp only [List.append_nil] at hW'
 refine ((leveloneDiscriminant_p a0 l0 u0).2 W NoM (okNo hT) [.int .i64 a0] (repsCons (.p _ rfl) .nil)).mono fun e W' ⟨v, he, hb, hr⟩ => ?_
 subst he
 obtain rfl := hr.p_inv
 refine ⟨_, rfl, _, _, _, [], p, [], hW', ?_, ?_, ?_, hb.frame _, fun h => by cases h⟩
 ·exact trodAll_mk1 (shut_bool und_bool true)
 ·exact trodAll_mk1 (intAgain h0 hb fun x hx => hW'.lt x (by simp [hx]))
 ·rfl
set_option maxRecDepth 100000 in
theorem leveloneDiscriminant_closed : joinedFacts Tryz.prog 7 Tryz.f7 Rows.leveloneDiscriminantSpec Rows.leveloneDiscriminantRow = true := by
 unfold joinedFacts
 rw [laidOut, gMaps, leveloneDiscriminant_inPlace, leveloneDiscriminant_unfoll, leveloneDiscriminant_recurs, leveloneDiscriminant_named, gHeard, gEnter, leveloneDiscriminant_lifts]
 kernel_rfl
theorem leveloneDiscriminant_said : Rows.LeveloneDiscriminantSaid :=
 OpenClaim.holds_of_wide 7 Tryz.f7 rfl rfl rfl rfl rfl rfl rfl ⟨rfl, rfl, rfl, rfl, rfl⟩ rfl rfl rfl rfl rfl (by kernel_rfl) Tryz.func7 leveloneDiscriminant_closed
  (of_decide_eq_true (by kernel_rfl)) (by unfold Func.isWrapper; rw [if_neg (of_decide_eq_false (by kernel_rfl))]; exact ⟨rfl, rfl⟩)
  (fun os started H enc _ => leveloneDiscriminant_lifted os started H enc)
theorem leveloneDiscriminant_holds : Rows.LeveloneDiscriminantCardSaid :=
 Claim7.holds_tied_plain_at .later [] [.data] true (true, "d9ead7d5ef95a0d4770931a1c09ce2d05592902195c1910bd0dcf708a09c2bdc") false
  leveloneDiscriminant_said (fun _ h => by cases h) (by kernel_rfl) (fun _ h => by cases h) leveloneDiscriminant_row_tie rfl ⟨rfl, rfl⟩ (by kernel_rfl) rfl
  (fun f fn hf hfn => by
   obtain rfl : f = 7 := Option.some.inj ((show Tryz.prog.funcNamed "halfplane/halfplanelaw39.LeveloneDiscriminant" = some 7 by kernel_rfl).symm.trans hf) |>.symm
   obtain rfl : fn = Tryz.f7 := (Option.some.inj (Tryz.func7.symm.trans hfn)).symm
   exact ⟨gLooks.symm, fun j t ht => by
    rw [Tryz.params7] at ht
    have h3 : t = 3 := by
     rcases j with _ | j
     ·skip; simpa using ht.symm
     ·simp at ht
    rcases h3 with rfl
    ·exact (show Tryz.prog.wantsStandIn 3 = false by kernel_rfl)⟩)
  leveloneDiscriminant_goes
end Go.Proofs.YtdbkmjahbgcjbaaGreatDoor
