/- The statement LeveloneBases, proved. -/
import Derived.Test.YtalcdpjpapojeaaGreatDoorMw
import Derived.Test.YtalcdpjpapojeaaGreatDoorMlnF
set_option linter.all false
namespace Go.Proofs.YtalcdpjpapojeaaGreatDoor
open Go.ChangeShapes Go.WideShapes Go.ChangeAt Go.RowKit Ab
set_option maxRecDepth 100000 in
theorem Zfy (os : Os) (started : os.Started) (H : Type) (enc : TypeId × Value → H) :
  ReturnsInHanded {} Tryz.checked os 3 .any (fun w args => (Rows.leveloneBasesSpec.pre enc Tryz.prog Tryz.f3 Rows.leveloneBasesRow.domain false w args ∧ laidMetH Tryz.prog laidL w) ∧ sizedMet enc Tryz.prog Tryz.f3 (OpenSpec.ofChange Rows.leveloneBasesSpec) false w args)
   (Rows.leveloneBasesSpec.post enc Tryz.prog Tryz.f3 false true false false) := by
 refine returnsInHanded_of_change_and (C := Tryz.checked) (X := fun w _ => laidMetH Tryz.prog laidL w) (fun _ _ _ hh h => h.of_heap hh) own started (by kernel_rfl) Tryz.func3
  (ChangeSpec.witness_at (enc := enc) (C := Tryz.checked) (os := os) (X := fun w _ => laidMetH Tryz.prog laidL w) false (laidWorld os) #[.int .i64 0, .int .i64 0] 8 rfl (by kernel_rfl) (by kernel_rfl) (by kernel_rfl) (by kernel_rfl) (by kernel_rfl) (laidWorld_met os _)) ?_
 intro W base args ds gs before hval0 hW _ _ hL _
 have hval : ∀ (j : Nat) t v, Tryz.f3.params[j]? = some t → args[j]? = some v → Value.okWide Tryz.prog W .any base t v := hval0
 have hW' := hW
 obtain ⟨p, q, hA0, hV0, rfl, hfz, hnd⟩ := hW
 have hA : DataW.TrodAll enc Tryz.prog W 0 (fun _ => true) true Tryz.f3.params.toList args.toList ds p := hA0
 have hV : DataW.TrodVars enc Tryz.prog W (fun _ => true) [] gs q := hV0
 rw [Tryz.params3] at hA hval
 obtain ⟨v0, v1, d0, d1, p0, p1, rfl, rfl, rfl, h0, h1⟩ := trodAll_two hA
 obtain ⟨rfl, rfl⟩ : gs = [] ∧ q = [] := by
  cases gs with
  | nil => exact ⟨rfl, hV⟩
  | cons g r => exact absurd hV (by intro h; cases h)
 have hT := tab_of_laid hL
 obtain ⟨a0, rfl, l0, u0⟩ := int_in (hval 0 3 v0 rfl rfl) h0
 obtain ⟨a1, rfl, l1, u1⟩ := int_in (hval 1 3 v1 rfl rfl) h1
 clear hA0 hval0 hV0 hV hL
 simp only [List.append_nil] at hW'
 refine ((leveloneBases_p a0 l0 u0 a1 l1 u1).2 W NoM (okNo hT) [.int .i64 a0, .int .i64 a1] (repsCons (.p _ rfl) (repsCons (.p _ rfl) .nil))).mono fun e W' ⟨v, he, hb, hr⟩ => ?_
 subst he
 obtain rfl := hr.p_inv
 refine ⟨_, rfl, _, _, _, [], p0 ++ p1, [], hW', ?_, ?_, ?_, hb.frame _, fun h => by cases h⟩
 ·exact trodAll_mk1 (shut_bool Zgi true)
 ·exact trodAll_mk2 (intAgain h0 hb fun x hx => hW'.lt x (by simp [hx])) (intAgain h1 hb fun x hx => hW'.lt x (by simp [hx]))
 ·rfl
set_option maxRecDepth 100000 in
theorem Zfz : joinedFacts Tryz.prog 3 Tryz.f3 Rows.leveloneBasesSpec Rows.leveloneBasesRow = true := by
 unfold joinedFacts
 rw [laidOut, gMaps, leveloneBases_inPlace, leveloneBases_unfoll, leveloneBases_recurs, leveloneBases_named, gHeard, gEnter, Zf9]
 kernel_rfl
theorem Zgt : Rows.LeveloneBasesSaid :=
 OpenClaim.holds_of_wide 3 Tryz.f3 rfl rfl rfl rfl rfl rfl rfl ⟨rfl, rfl, rfl, rfl, rfl⟩ rfl rfl rfl rfl rfl (by kernel_rfl) Tryz.func3 Zfz
  (of_decide_eq_true (by kernel_rfl)) (by unfold Func.isWrapper; rw [if_neg (of_decide_eq_false (by kernel_rfl))]; exact ⟨rfl, rfl⟩)
  (fun os started H enc _ => Zfy os started H enc)
theorem leveloneBases_holds : Rows.LeveloneBasesCardSaid :=
 Claim7.holds_tied_plain_at .later [] [.data] true (true, "b1a28c8a9e5680b07d23ed77c47306a4cb8e282b1f089906f1a25e7d4c8f79d0") false
  Zgt (fun _ h => by cases h) (by kernel_rfl) (fun _ h => by cases h) leveloneBases_row_tie rfl ⟨rfl, rfl⟩ (by kernel_rfl) rfl
  (fun f fn hf hfn => by
   obtain rfl : f = 3 := Option.some.inj ((show Tryz.prog.funcNamed "halfplane/halfplanelaw39.LeveloneBases" = some 3 by kernel_rfl).symm.trans hf) |>.symm
   obtain rfl : fn = Tryz.f3 := (Option.some.inj (Tryz.func3.symm.trans hfn)).symm
   exact ⟨gLooks.symm, fun j t ht => by
    rw [Tryz.params3] at ht
    have h3 : t = 3 := by
     rcases j with _ | _ | j
     ·skip; simpa using ht.symm
     ·skip; simpa using ht.symm
     ·simp at ht
    rcases h3 with rfl
    ·exact (show Tryz.prog.wantsStandIn 3 = false by kernel_rfl)⟩)
  Zgu
end Go.Proofs.YtalcdpjpapojeaaGreatDoor
