/- The statement QuasimodularCommutes: what the kernel reckons of the program from its function. The statement QuasimodularCommutes, proved. -/
import Derived.Test.YtgkhcpppdadicaaGreatDoorFL
import Derived.Test.YtgkhcpppdadicaaGreatDoorCmJ
set_option linter.all false
namespace Go.Proofs.YtgkhcpppdadicaaGreatDoor
open Go.ChangeShapes Go.WideShapes Go.ChangeAt Go.RowKit Ab
set_option maxRecDepth 100000
theorem quasimodularCommutes_inPlace : (Rows.quasimodularCommutesRow.inPlace == Tryz.prog.inPlace 3) = true := by kernel_rfl
theorem quasimodularCommutes_unfoll : (Rows.quasimodularCommutesRow.unfollowed == Tryz.prog.unfollowed 3) = true := by kernel_rfl
theorem quasimodularCommutes_recurs : (Rows.quasimodularCommutesRow.recurses == Tryz.prog.recurses 3) = true := by kernel_rfl
theorem quasimodularCommutes_named : (Rows.quasimodularCommutesRow.named == Tryz.prog.varsNamed 3) = true := by kernel_rfl
theorem quasimodularCommutes_lifts : (Rows.quasimodularCommutesRow.lifted == Tryz.prog.liftsFinal) = true := by rw [gLifts]; kernel_rfl
theorem quasimodularCommutes_goes : false = Rows.quasimodularCommutesRow.goesBy Tryz.prog := by kernel_rfl
end Go.Proofs.YtgkhcpppdadicaaGreatDoor
namespace Go.Proofs.YtgkhcpppdadicaaGreatDoor
open Go.ChangeShapes Go.WideShapes Go.ChangeAt Go.RowKit Ab
set_option maxRecDepth 100000 in
theorem quasimodularCommutes_lifted (os : Os) (started : os.Started) (H : Type) (enc : TypeId × Value → H) :
  ReturnsInHanded {} Tryz.checked os 3 .any (fun w args => (Rows.quasimodularCommutesSpec.pre enc Tryz.prog Tryz.f3 Rows.quasimodularCommutesRow.domain false w args ∧ laidMetH Tryz.prog laidL w) ∧ sizedMet enc Tryz.prog Tryz.f3 (OpenSpec.ofChange Rows.quasimodularCommutesSpec) false w args)
   (Rows.quasimodularCommutesSpec.post enc Tryz.prog Tryz.f3 false true false false) := by
 refine returnsInHanded_of_change_and (C := Tryz.checked) (X := fun w _ => laidMetH Tryz.prog laidL w) (fun _ _ _ hh h => h.of_heap hh) own started (by kernel_rfl) Tryz.func3
  (ChangeSpec.witness_at (enc := enc) (C := Tryz.checked) (os := os) (X := fun w _ => laidMetH Tryz.prog laidL w) false (laidWorld os) #[.slice none 0 0, .slice none 0 0, .int .i64 0] 8 rfl (by kernel_rfl) (by kernel_rfl) (by kernel_rfl) (by kernel_rfl) (by kernel_rfl) (laidWorld_met os _)) ?_
 intro W base args ds gs before hval0 hW _ _ hL _
 have hval : ∀ (j : Nat) t v, Tryz.f3.params[j]? = some t → args[j]? = some v → Value.okWide Tryz.prog W .any base t v := hval0
 have hW' := hW
 obtain ⟨p, q, hA0, hV0, rfl, hfz, hnd⟩ := hW
 have hA : DataW.TrodAll enc Tryz.prog W 0 (fun _ => true) true Tryz.f3.params.toList args.toList ds p := hA0
 have hV : DataW.TrodVars enc Tryz.prog W (fun _ => true) [] gs q := hV0
 rw [Tryz.params3] at hA hval
 obtain ⟨v0, v1, v2, d0, d1, d2, p0, p1, p2, rfl, rfl, rfl, h0, h1, h2⟩ := trodAll_three hA
 obtain ⟨rfl, rfl⟩ : gs = [] ∧ q = [] := by
  cases gs with
  | nil => exact ⟨rfl, hV⟩
  | cons g r => exact absurd hV (by intro h; cases h)
 have hT := tab_of_laid hL
 obtain ⟨s0, r0, o0⟩ := open_qp (hval 0 23 v0 rfl rfl) h0
 obtain ⟨s1, r1, o1⟩ := open_qp (hval 1 23 v1 rfl rfl) h1
 obtain ⟨a2, rfl, l2, u2⟩ := int_in (hval 2 3 v2 rfl rfl) h2
 clear hA0 hval0 hV0 hV hL
 simp only [List.append_nil] at hW'
 refine ((quasimodularCommutes_p s0 o0 s1 o1 a2 l2 u2).2 W NoM (okNo hT) [v0, v1, .int .i64 a2] (repsCons r0 (repsCons r1 (repsCons (.p _ rfl) .nil)))).mono fun e W' ⟨v, he, hb, hr⟩ => ?_
 subst he
 obtain rfl := hr.p_inv
 refine ⟨_, rfl, _, _, _, [], p0 ++ (p1 ++ p2), [], hW', ?_, ?_, ?_, hb.frame _, fun h => by cases h⟩
 ·exact trodAll_mk1 (shut_bool und_bool true)
 ·exact trodAll_mk3 (qpAgain h0 hb fun x hx => hW'.lt x (by simp [hx])) (qpAgain h1 hb fun x hx => hW'.lt x (by simp [hx])) (intAgain h2 hb fun x hx => hW'.lt x (by simp [hx]))
 ·rfl
set_option maxRecDepth 100000 in
theorem quasimodularCommutes_closed : joinedFacts Tryz.prog 3 Tryz.f3 Rows.quasimodularCommutesSpec Rows.quasimodularCommutesRow = true := by
 unfold joinedFacts
 rw [laidOut, gMaps, quasimodularCommutes_inPlace, quasimodularCommutes_unfoll, quasimodularCommutes_recurs, quasimodularCommutes_named, gHeard, gEnter, quasimodularCommutes_lifts]
 kernel_rfl
theorem quasimodularCommutes_said : Rows.QuasimodularCommutesSaid :=
 OpenClaim.holds_of_wide 3 Tryz.f3 rfl rfl rfl rfl rfl rfl rfl ⟨rfl, rfl, rfl, rfl, rfl⟩ rfl rfl rfl rfl rfl (by kernel_rfl) Tryz.func3 quasimodularCommutes_closed
  (of_decide_eq_true (by kernel_rfl)) (by unfold Func.isWrapper; rw [if_neg (of_decide_eq_false (by kernel_rfl))]; exact ⟨rfl, rfl⟩)
  (fun os started H enc _ => quasimodularCommutes_lifted os started H enc)
theorem quasimodularCommutes_holds : Rows.QuasimodularCommutesCardSaid :=
 Claim7.holds_tied_plain_at .later [] [.data] true (true, "f7565ca3d5a697f7ea507d5cafcbf8b18ebb5ac67575df0b14e7c56f9712f69c") false
  quasimodularCommutes_said (fun _ h => by cases h) (by kernel_rfl) (fun _ h => by cases h) quasimodularCommutes_row_tie rfl ⟨rfl, rfl⟩ (by kernel_rfl) rfl
  (fun f fn hf hfn => by
   obtain rfl : f = 3 := Option.some.inj ((show Tryz.prog.funcNamed "halfplane/halfplanelaw38.QuasimodularCommutes" = some 3 by kernel_rfl).symm.trans hf) |>.symm
   obtain rfl : fn = Tryz.f3 := (Option.some.inj (Tryz.func3.symm.trans hfn)).symm
   exact ⟨gLooks.symm, fun j t ht => by
    rw [Tryz.params3] at ht
    have h3 : t = 23 ∨ t = 3 := by
     rcases j with _ | _ | _ | j
     ·left; simpa using ht.symm
     ·left; simpa using ht.symm
     ·right; simpa using ht.symm
     ·simp at ht
    rcases h3 with rfl | rfl
    ·exact (show Tryz.prog.wantsStandIn 23 = false by kernel_rfl)
    ·exact (show Tryz.prog.wantsStandIn 3 = false by kernel_rfl)⟩)
  quasimodularCommutes_goes
end Go.Proofs.YtgkhcpppdadicaaGreatDoor
