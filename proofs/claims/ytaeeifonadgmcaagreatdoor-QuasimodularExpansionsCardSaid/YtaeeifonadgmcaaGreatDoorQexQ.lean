/- The statement QuasimodularExpansions: what the kernel reckons of the program from its function. The statement QuasimodularExpansions, proved. -/
import Derived.Test.YtaeeifonadgmcaaGreatDoorFL
import Derived.Test.YtaeeifonadgmcaaGreatDoorQA2
set_option linter.all false
namespace Go.Proofs.YtaeeifonadgmcaaGreatDoor
open Go.ChangeShapes Go.WideShapes Go.ChangeAt Go.RowKit Ab
set_option maxRecDepth 100000
theorem quasimodularExpansions_inPlace : (Rows.quasimodularExpansionsRow.inPlace == Tryz.prog.inPlace 3) = true := by kernel_rfl
theorem quasimodularExpansions_unfoll : (Rows.quasimodularExpansionsRow.unfollowed == Tryz.prog.unfollowed 3) = true := by kernel_rfl
theorem quasimodularExpansions_recurs : (Rows.quasimodularExpansionsRow.recurses == Tryz.prog.recurses 3) = true := by kernel_rfl
theorem quasimodularExpansions_named : (Rows.quasimodularExpansionsRow.named == Tryz.prog.varsNamed 3) = true := by kernel_rfl
theorem Zdr : (Rows.quasimodularExpansionsRow.lifted == Tryz.prog.liftsFinal) = true := by rw [gLifts]; kernel_rfl
theorem Zdy : false = Rows.quasimodularExpansionsRow.goesBy Tryz.prog := by kernel_rfl
end Go.Proofs.YtaeeifonadgmcaaGreatDoor
namespace Go.Proofs.YtaeeifonadgmcaaGreatDoor
open Go.ChangeShapes Go.WideShapes Go.ChangeAt Go.RowKit Ab
set_option maxRecDepth 100000 in
theorem Zdi (os : Os) (started : os.Started) (H : Type) (enc : TypeId × Value → H) :
  ReturnsInHanded {} Tryz.checked os 3 .any (fun w args => (Rows.quasimodularExpansionsSpec.pre enc Tryz.prog Tryz.f3 Rows.quasimodularExpansionsRow.domain false w args ∧ laidMetH Tryz.prog laidL w) ∧ sizedMet enc Tryz.prog Tryz.f3 (OpenSpec.ofChange Rows.quasimodularExpansionsSpec) false w args)
   (Rows.quasimodularExpansionsSpec.post enc Tryz.prog Tryz.f3 false true false false) := by
 refine returnsInHanded_of_change_and (C := Tryz.checked) (X := fun w _ => laidMetH Tryz.prog laidL w) (fun _ _ _ hh h => h.of_heap hh) own started (by kernel_rfl) Tryz.func3
  (ChangeSpec.witness_at (enc := enc) (C := Tryz.checked) (os := os) (X := fun w _ => laidMetH Tryz.prog laidL w) false (laidWorld os) #[.slice none 0 0, .int .i64 0] 8 rfl (by kernel_rfl) (by kernel_rfl) (by kernel_rfl) (by kernel_rfl) (by kernel_rfl) (laidWorld_met os _)) ?_
 intro W base args ds gs before hval0 hW _ _ hL _
 have hval : ∀ (j : Nat) t v, Tryz.f3.params[j]? = some t → args[j]? = some v → Value.okWide Tryz.prog W .any base t v := hval0
 have hW' := hW
 obtain ⟨p, q, hA0, hV0, rfl, hfz, hnd⟩ := hW
 have hA : DataW.TrodAll enc Tryz.prog W 0 (fun _ => true) true Tryz.f3.params.toList args.toList ds p := hA0
 have hV : DataW.TrodVars enc Tryz.prog W (fun _ => true) [] gs q := hV0
 rw [Tryz.params3] at hA hval
 obtain ⟨v0, v1, d0, d1, p0, p1, rfl, rfl, rfl, h0, h1⟩ := trodAll_two hA
 obtain ⟨rfl, rfl⟩ : gs = [] ∧ q = [] := by
  cases gs with
  | nil => exact ⟨rfl, hV⟩
  | cons g r => exact absurd hV (by intro h; cases h)
 have hT := tab_of_laid hL
 obtain ⟨s0, r0, o0⟩ := open_qp (hval 0 23 v0 rfl rfl) h0
 obtain ⟨a1, rfl, l1, u1⟩ := int_in (hval 1 3 v1 rfl rfl) h1
 clear hA0 hval0 hV0 hV hL
 simp only [List.append_nil] at hW'
 refine ((Zel s0 o0 a1 l1 u1).2 W NoM (okNo hT) [v0, .int .i64 a1] (repsCons r0 (repsCons (.p _ rfl) .nil))).mono fun e W' ⟨v, he, hb, hr⟩ => ?_
 subst he
 obtain rfl := hr.p_inv
 refine ⟨_, rfl, _, _, _, [], p0 ++ p1, [], hW', ?_, ?_, ?_, hb.frame _, fun h => by cases h⟩
 ·exact trodAll_mk1 (shut_bool Zfx true)
 ·exact trodAll_mk2 (qpAgain h0 hb fun x hx => hW'.lt x (by simp [hx])) (intAgain h1 hb fun x hx => hW'.lt x (by simp [hx]))
 ·rfl
set_option maxRecDepth 100000 in
theorem Zdj : joinedFacts Tryz.prog 3 Tryz.f3 Rows.quasimodularExpansionsSpec Rows.quasimodularExpansionsRow = true := by
 unfold joinedFacts
 rw [laidOut, gMaps, quasimodularExpansions_inPlace, quasimodularExpansions_unfoll, quasimodularExpansions_recurs, quasimodularExpansions_named, gHeard, gEnter, Zdr]
 kernel_rfl
theorem Zdx : Rows.QuasimodularExpansionsSaid :=
 OpenClaim.holds_of_wide 3 Tryz.f3 rfl rfl rfl rfl rfl rfl rfl ⟨rfl, rfl, rfl, rfl, rfl⟩ rfl rfl rfl rfl rfl (by kernel_rfl) Tryz.func3 Zdj
  (of_decide_eq_true (by kernel_rfl)) (by unfold Func.isWrapper; rw [if_neg (of_decide_eq_false (by kernel_rfl))]; exact ⟨rfl, rfl⟩)
  (fun os started H enc _ => Zdi os started H enc)
theorem quasimodularExpansions_holds : Rows.QuasimodularExpansionsCardSaid :=
 Claim7.holds_tied_plain_at .later [] [.data] true (true, "40659d76ac6cd48518d3a6f8f9d2db87f1ebc4e573d2e27fe489ee50a46e91c1") false
  Zdx (fun _ h => by cases h) (by kernel_rfl) (fun _ h => by cases h) quasimodularExpansions_row_tie rfl ⟨rfl, rfl⟩ (by kernel_rfl) rfl
  (fun f fn hf hfn => by
   obtain rfl : f = 3 := Option.some.inj ((show Tryz.prog.funcNamed "halfplane/halfplanelaw38.QuasimodularExpansions" = some 3 by kernel_rfl).symm.trans hf) |>.symm
   obtain rfl : fn = Tryz.f3 := (Option.some.inj (Tryz.func3.symm.trans hfn)).symm
   exact ⟨gLooks.symm, fun j t ht => by
    rw [Tryz.params3] at ht
    have h3 : t = 23 ∨ t = 3 := by
     rcases j with _ | _ | j
     ·left; simpa using ht.symm
     ·right; simpa using ht.symm
     ·simp at ht
    rcases h3 with rfl | rfl
    ·exact (show Tryz.prog.wantsStandIn 23 = false by kernel_rfl)
    ·exact (show Tryz.prog.wantsStandIn 3 = false by kernel_rfl)⟩)
  Zdy
end Go.Proofs.YtaeeifonadgmcaaGreatDoor
