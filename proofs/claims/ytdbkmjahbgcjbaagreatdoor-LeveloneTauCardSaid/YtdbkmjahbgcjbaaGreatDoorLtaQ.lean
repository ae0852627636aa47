/- The statement LeveloneTau, proved. -/
import Derived.Test.YtdbkmjahbgcjbaaGreatDoorLtP
import Derived.Test.YtdbkmjahbgcjbaaGreatDoorFL
import Derived.Test.YtdbkmjahbgcjbaaGreatDoorLtaF
set_option linter.all false
namespace Go.Proofs.YtdbkmjahbgcjbaaGreatDoor
open Go.ChangeShapes Go.WideShapes Go.ChangeAt Go.RowKit Ab
set_option maxRecDepth 100000 in
theorem leveloneTau_lifted (os : Os) (started : os.Started) (H : Type) (enc : TypeId × Value → H) :
  ReturnsInHanded {} Tryz.checked os 4 .any (fun w args => (Rows.leveloneTauSpec.pre enc Tryz.prog Tryz.f4 Rows.leveloneTauRow.domain false w args ∧ laidMetH Tryz.prog laidL w) ∧ sizedMet enc Tryz.prog Tryz.f4 (OpenSpec.ofChange Rows.leveloneTauSpec) false w args)
   (Rows.leveloneTauSpec.post enc Tryz.prog Tryz.f4 false true false false) := by
 refine returnsInHanded_of_change_and (C := Tryz.checked) (X := fun w _ => laidMetH Tryz.prog laidL w) (fun _ _ _ hh h => h.of_heap hh) own started (by kernel_rfl) Tryz.func4
  (ChangeSpec.witness_at (enc := enc) (C := Tryz.checked) (os := os) (X := fun w _ => laidMetH Tryz.prog laidL w) false (laidWorld os) #[.int .i64 0, .int .i64 0] 8 rfl (by kernel_rfl) (by kernel_rfl) (by kernel_rfl) (by kernel_rfl) (by kernel_rfl) (laidWorld_met os _)) ?_
 intro W base args ds gs before hval0 hW _ _ hL _
 have hval : ∀ (j : Nat) t v, Tryz.f4.params[j]? = some t → args[j]? = some v → Value.okWide Tryz.prog W .any base t v := hval0
 have hW' := hW
 obtain ⟨p, q, hA0, hV0, rfl, hfz, hnd⟩ := hW
 have hA : DataW.TrodAll enc Tryz.prog W 0 (fun _ => true) true Tryz.f4.params.toList args.toList ds p := hA0
 have hV : DataW.TrodVars enc Tryz.prog W (fun _ => true) [] gs q := hV0
 rw [Tryz.params4] at hA hval
 obtain ⟨v0, v1, d0, d1, p0, p1, rfl, rfl, rfl, h0, h1⟩ := trodAll_two hA
 obtain ⟨rfl, rfl⟩ : gs = [] ∧ q = [] := by
  cases gs with
  | nil => exact ⟨rfl, hV⟩
  | cons g r => exact absurd hV (by intro h; cases h)
 have hT := tab_of_laid hL
 obtain ⟨a0, rfl, l0, u0⟩ := int_in (hval 0 3 v0 rfl rfl) h0
 obtain ⟨a1, rfl, l1, u1⟩ := int_in (hval 1 3 v1 rfl rfl) h1
 clear hA0 hval0 hV0 hV hL
 simp only [List.append_nil] at hW'
 refine ((leveloneTau_p a0 l0 u0 a1 l1 u1).2 W NoM (okNo hT) [.int .i64 a0, .int .i64 a1] (repsCons (.p _ rfl) (repsCons (.p _ rfl) .nil))).mono fun e W' ⟨v, he, hb, hr⟩ => ?_
 subst he
 obtain rfl := hr.p_inv
 refine ⟨_, rfl, _, _, _, [], p0 ++ p1, [], hW', ?_, ?_, ?_, hb.frame _, fun h => by cases h⟩
 ·exact trodAll_mk1 (shut_bool und_bool true)
 ·exact trodAll_mk2 (intAgain h0 hb fun x hx => hW'.lt x (by simp [hx])) (intAgain h1 hb fun x hx => hW'.lt x (by simp [hx]))
 ·rfl
set_option maxRecDepth 100000 in
theorem leveloneTau_closed : joinedFacts Tryz.prog 4 Tryz.f4 Rows.leveloneTauSpec Rows.leveloneTauRow = true := by
 unfold joinedFacts
 rw [laidOut, gMaps, leveloneTau_inPlace, leveloneTau_unfoll, leveloneTau_recurs, leveloneTau_named, gHeard, gEnter, leveloneTau_lifts]
 kernel_rfl
theorem leveloneTau_said : Rows.LeveloneTauSaid :=
 OpenClaim.holds_of_wide 4 Tryz.f4 rfl rfl rfl rfl rfl rfl rfl ⟨rfl, rfl, rfl, rfl, rfl⟩ rfl rfl rfl rfl rfl (by kernel_rfl) Tryz.func4 leveloneTau_closed
  (of_decide_eq_true (by kernel_rfl)) (by unfold Func.isWrapper; rw [if_neg (of_decide_eq_false (by kernel_rfl))]; exact ⟨rfl, rfl⟩)
  (fun os started H enc _ => leveloneTau_lifted os started H enc)
theorem leveloneTau_holds : Rows.LeveloneTauCardSaid :=
 Claim7.holds_tied_plain_at .later [] [.data] true (true, "d9ead7d5ef95a0d4770931a1c09ce2d05592902195c1910bd0dcf708a09c2bdc") false
  leveloneTau_said (fun _ h => by cases h) (by kernel_rfl) (fun _ h => by cases h) leveloneTau_row_tie rfl ⟨rfl, rfl⟩ (by kernel_rfl) rfl
  (fun f fn hf hfn => by
   obtain rfl : f = 4 := Option.some.inj ((show Tryz.prog.funcNamed "halfplane/halfplanelaw39.LeveloneTau" = some 4 by kernel_rfl).symm.trans hf) |>.symm
   obtain rfl : fn = Tryz.f4 := (Option.some.inj (Tryz.func4.symm.trans hfn)).symm
   exact ⟨gLooks.symm, fun j t ht => by
    rw [Tryz.params4] at ht
    have h3 : t = 3 := by
     rcases j with _ | _ | j
     ·skip; simpa using ht.symm
     ·skip; simpa using ht.symm
     ·simp at ht
    rcases h3 with rfl
    ·exact (show Tryz.prog.wantsStandIn 3 = false by kernel_rfl)⟩)
  leveloneTau_goes
end Go.Proofs.YtdbkmjahbgcjbaaGreatDoor
