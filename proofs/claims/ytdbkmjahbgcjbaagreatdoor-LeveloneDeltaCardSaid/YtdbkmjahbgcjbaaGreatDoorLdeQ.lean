/- LeveloneDelta: the statement returns true for every input, proved over its row with laid table and tied card; no condition. -/
import Derived.Test.YtdbkmjahbgcjbaaGreatDoorLvP
import Derived.Test.YtdbkmjahbgcjbaaGreatDoorFL
import Derived.Test.YtdbkmjahbgcjbaaGreatDoorLdeF
set_option linter.all false
namespace Go.Proofs.YtdbkmjahbgcjbaaGreatDoor
open Go.ChangeShapes Go.WideShapes Go.ChangeAt Go.RowKit Ab
set_option maxRecDepth 100000 in
theorem leveloneDelta_lifted (os : Os) (started : os.Started) (H : Type) (enc : TypeId × Value → H) :
  ReturnsInHanded {} Tryz.checked os 3 .any (fun w args => (Rows.leveloneDeltaSpec.pre enc Tryz.prog Tryz.f3 Rows.leveloneDeltaRow.domain false w args ∧ laidMetH Tryz.prog laidL w) ∧ sizedMet enc Tryz.prog Tryz.f3 (OpenSpec.ofChange Rows.leveloneDeltaSpec) false w args)
   (Rows.leveloneDeltaSpec.post enc Tryz.prog Tryz.f3 false true false false) := by
 refine returnsInHanded_of_change_and (C := Tryz.checked) (X := fun w _ => laidMetH Tryz.prog laidL w) (fun _ _ _ hh h => h.of_heap hh) own started (by kernel_rfl) Tryz.func3
  (ChangeSpec.witness_at (enc := enc) (C := Tryz.checked) (os := os) (X := fun w _ => laidMetH Tryz.prog laidL w) false (laidWorld os) #[.int .i64 0, .int .i64 0, .int .i64 0] 8 rfl (by kernel_rfl) (by kernel_rfl) (by kernel_rfl) (by kernel_rfl) (by kernel_rfl) (laidWorld_met os _)) ?_
 intro W base args ds gs before hval0 hW _ _ hL _
 have hval : ∀ (j : Nat) t v, Tryz.f3.params[j]? = some t → args[j]? = some v → Value.okWide Tryz.prog W .any base t v := hval0
 have hW' := hW
 obtain ⟨p, q, hA0, hV0, rfl, hfz, hnd⟩ := hW
 have hA : DataW.TrodAll enc Tryz.prog W 0 (fun _ => true) true Tryz.f3.params.toList args.toList ds p := hA0
 have hV : DataW.TrodVars enc Tryz.prog W (fun _ => true) [] gs q := hV0
 rw [Tryz.params3] at hA hval
 obtain ⟨v0, v1, v2, d0, d1, d2, p0, p1, p2, rfl, rfl, rfl, h0, h1, h2⟩ := trodAll_three hA
 obtain ⟨rfl, rfl⟩ : gs = [] ∧ q = [] := by
  cases gs with
  | nil => exact ⟨rfl, hV⟩
  | cons g r => exact absurd hV (by intro h; cases h)
 have hT := tab_of_laid hL
 obtain ⟨a0, rfl, l0, u0⟩ := int_in (hval 0 3 v0 rfl rfl) h0
 obtain ⟨a1, rfl, l1, u1⟩ := int_in (hval 1 3 v1 rfl rfl) h1
 obtain ⟨a2, rfl, l2, u2⟩ := int_in (hval 2 3 v2 rfl rfl) h2
 clear hA0 hval0 hV0 hV hL
 simp only [List.append_nil] at hW'
 refine ((leveloneDelta_p a0 l0 u0 a1 l1 u1 a2 l2 u2).2 W NoM (okNo hT) [.int .i64 a0, .int .i64 a1, .int .i64 a2] (repsCons (.p _ rfl) (repsCons (.p _ rfl) (repsCons (.p _ rfl) .nil)))).mono fun e W' ⟨v, he, hb, hr⟩ => ?_
 subst he
 obtain rfl := hr.p_inv
 refine ⟨_, rfl, _, _, _, [], p0 ++ (p1 ++ p2), [], hW', ?_, ?_, ?_, hb.frame _, fun h => by cases h⟩
 ·exact trodAll_mk1 (shut_bool und_bool true)
 ·exact trodAll_mk3 (intAgain h0 hb fun x hx => hW'.lt x (by simp [hx])) (intAgain h1 hb fun x hx => hW'.lt x (by simp [hx])) (intAgain h2 hb fun x hx => hW'.lt x (by simp [hx]))
 ·rfl
set_option maxRecDepth 100000 in
theorem leveloneDelta_closed : joinedFacts Tryz.prog 3 Tryz.f3 Rows.leveloneDeltaSpec Rows.leveloneDeltaRow = true := by
 unfold joinedFacts
 rw [laidOut, gMaps, leveloneDelta_inPlace, leveloneDelta_unfoll, leveloneDelta_recurs, leveloneDelta_named, gHeard, gEnter, leveloneDelta_lifts]
 kernel_rfl
theorem leveloneDelta_said : Rows.LeveloneDeltaSaid :=
 OpenClaim.holds_of_wide 3 Tryz.f3 rfl rfl rfl rfl rfl rfl rfl ⟨rfl, rfl, rfl, rfl, rfl⟩ rfl rfl rfl rfl rfl (by kernel_rfl) Tryz.func3 leveloneDelta_closed
  (of_decide_eq_true (by kernel_rfl)) (by unfold Func.isWrapper; rw [if_neg (of_decide_eq_false (by kernel_rfl))]; exact ⟨rfl, rfl⟩)
  (fun os started H enc _ => leveloneDelta_lifted os started H enc)
theorem leveloneDelta_holds : Rows.LeveloneDeltaCardSaid :=
 Claim7.holds_tied_plain_at .later [] [.data] true (true, "d9ead7d5ef95a0d4770931a1c09ce2d05592902195c1910bd0dcf708a09c2bdc") false
  leveloneDelta_said (fun _ h => by cases h) (by kernel_rfl) (fun _ h => by cases h) leveloneDelta_row_tie rfl ⟨rfl, rfl⟩ (by kernel_rfl) rfl
  (fun f fn hf hfn => by
   obtain rfl : f = 3 := Option.some.inj ((show Tryz.prog.funcNamed "halfplane/halfplanelaw39.LeveloneDelta" = some 3 by kernel_rfl).symm.trans hf) |>.symm
   obtain rfl : fn = Tryz.f3 := (Option.some.inj (Tryz.func3.symm.trans hfn)).symm
   exact ⟨gLooks.symm, fun j t ht => by
    rw [Tryz.params3] at ht
    have h3 : t = 3 := by
     rcases j with _ | _ | _ | j
     ·skip; simpa using ht.symm
     ·skip; simpa using ht.symm
     ·skip; simpa using ht.symm
     ·simp at ht
    rcases h3 with rfl
    ·exact (show Tryz.prog.wantsStandIn 3 = false by kernel_rfl)⟩)
  leveloneDelta_goes
end Go.Proofs.YtdbkmjahbgcjbaaGreatDoor
