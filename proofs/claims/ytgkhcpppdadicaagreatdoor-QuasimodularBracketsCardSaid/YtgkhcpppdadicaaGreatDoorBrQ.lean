/- The statement QuasimodularBrackets: what the kernel reckons of the program from its function. The statement QuasimodularBrackets, proved. -/
import Derived.Test.YtgkhcpppdadicaaGreatDoorFL
import Derived.Test.YtgkhcpppdadicaaGreatDoorBrJ
set_option linter.all false
namespace Go.Proofs.YtgkhcpppdadicaaGreatDoor
open Go.ChangeShapes Go.WideShapes Go.ChangeAt Go.RowKit Ab
set_option maxRecDepth 100000
theorem quasimodularBrackets_inPlace : (Rows.quasimodularBracketsRow.inPlace == Tryz.prog.inPlace 4) = true := by kernel_rfl
theorem quasimodularBrackets_unfoll : (Rows.quasimodularBracketsRow.unfollowed == Tryz.prog.unfollowed 4) = true := by kernel_rfl
theorem quasimodularBrackets_recurs : (Rows.quasimodularBracketsRow.recurses == Tryz.prog.recurses 4) = true := by kernel_rfl
theorem quasimodularBrackets_named : (Rows.quasimodularBracketsRow.named == Tryz.prog.varsNamed 4) = true := by kernel_rfl
theorem quasimodularBrackets_lifts : (Rows.quasimodularBracketsRow.lifted == Tryz.prog.liftsFinal) = true := by rw [gLifts]; kernel_rfl
theorem quasimodularBrackets_goes : false = Rows.quasimodularBracketsRow.goesBy Tryz.prog := by kernel_rfl
end Go.Proofs.YtgkhcpppdadicaaGreatDoor
namespace Go.Proofs.YtgkhcpppdadicaaGreatDoor
open Go.ChangeShapes Go.WideShapes Go.ChangeAt Go.RowKit Ab
set_option maxRecDepth 100000 in
theorem quasimodularBrackets_lifted (os : Os) (started : os.Started) (H : Type) (enc : TypeId × Value → H) :
  ReturnsInHanded {} Tryz.checked os 4 .any (fun w args => (Rows.quasimodularBracketsSpec.pre enc Tryz.prog Tryz.f4 Rows.quasimodularBracketsRow.domain false w args ∧ laidMetH Tryz.prog laidL w) ∧ sizedMet enc Tryz.prog Tryz.f4 (OpenSpec.ofChange Rows.quasimodularBracketsSpec) false w args)
   (Rows.quasimodularBracketsSpec.post enc Tryz.prog Tryz.f4 false true false false) := by
 refine returnsInHanded_of_change_and (C := Tryz.checked) (X := fun w _ => laidMetH Tryz.prog laidL w) (fun _ _ _ hh h => h.of_heap hh) own started (by kernel_rfl) Tryz.func4
  (ChangeSpec.witness_at (enc := enc) (C := Tryz.checked) (os := os) (X := fun w _ => laidMetH Tryz.prog laidL w) false (laidWorld os) #[.slice none 0 0, .slice none 0 0, .int .i64 0] 8 rfl (by kernel_rfl) (by kernel_rfl) (by kernel_rfl) (by kernel_rfl) (by kernel_rfl) (laidWorld_met os _)) ?_
 intro W base args ds gs before hval0 hW _ _ hL _
 have hval : ∀ (j : Nat) t v, Tryz.f4.params[j]? = some t → args[j]? = some v → Value.okWide Tryz.prog W .any base t v := hval0
 have hW' := hW
 obtain ⟨p, q, hA0, hV0, rfl, hfz, hnd⟩ := hW
 have hA : DataW.TrodAll enc Tryz.prog W 0 (fun _ => true) true Tryz.f4.params.toList args.toList ds p := hA0
 have hV : DataW.TrodVars enc Tryz.prog W (fun _ => true) [] gs q := hV0
 rw [Tryz.params4] at hA hval
 obtain ⟨v0, v1, v2, d0, d1, d2, p0, p1, p2, rfl, rfl, rfl, h0, h1, h2⟩ := trodAll_three hA
 obtain ⟨rfl, rfl⟩ : gs = [] ∧ q = [] := by
  cases gs with
  | nil => exact ⟨rfl, hV⟩
  | cons g r => exact absurd hV (by intro h; cases h)
 have hT := tab_of_laid hL
 obtain ⟨s0, r0, o0⟩ := open_qp (hval 0 23 v0 rfl rfl) h0
 obtain ⟨s1, r1, o1⟩ := open_qp (hval 1 23 v1 rfl rfl) h1
 obtain ⟨a2, rfl, l2, u2⟩ := int_in (hval 2 3 v2 rfl rfl) h2
 clear hA0 hval0 hV0 hV hL
 simp only [List.append_nil] at hW'
 refine ((quasimodularBrackets_p s0 o0 s1 o1 a2 l2 u2).2 W NoM (okNo hT) [v0, v1, .int .i64 a2] (repsCons r0 (repsCons r1 (repsCons (.p _ rfl) .nil)))).mono fun e W' ⟨v, he, hb, hr⟩ => ?_
 subst he
 obtain rfl := hr.p_inv
 refine ⟨_, rfl, _, _, _, [], p0 ++ (p1 ++ p2), [], hW', ?_, ?_, ?_, hb.frame _, fun h => by cases h⟩
 ·exact trodAll_mk1 (shut_bool und_bool true)
 ·exact trodAll_mk3 (qpAgain h0 hb fun x hx => hW'.lt x (by simp [hx])) (qpAgain h1 hb fun x hx => hW'.lt x (by simp [hx])) (intAgain h2 hb fun x hx => hW'.lt x (by simp [hx]))
 ·rfl
set_option maxRecDepth 100000 in
theorem quasimodularBrackets_closed : joinedFacts Tryz.prog 4 Tryz.f4 Rows.quasimodularBracketsSpec Rows.quasimodularBracketsRow = true := by
 unfold joinedFacts
 rw [laidOut, gMaps, quasimodularBrackets_inPlace, quasimodularBrackets_unfoll, quasimodularBrackets_recurs, quasimodularBrackets_named, gHeard, gEnter, quasimodularBrackets_lifts]
 kernel_rfl
theorem quasimodularBrackets_said : Rows.QuasimodularBracketsSaid :=
 OpenClaim.holds_of_wide 4 Tryz.f4 rfl rfl rfl rfl rfl rfl rfl ⟨rfl, rfl, rfl, rfl, rfl⟩ rfl rfl rfl rfl rfl (by kernel_rfl) Tryz.func4 quasimodularBrackets_closed
  (of_decide_eq_true (by kernel_rfl)) (by unfold Func.isWrapper; rw [if_neg (of_decide_eq_false (by kernel_rfl))]; exact ⟨rfl, rfl⟩)
  (fun os started H enc _ => quasimodularBrackets_lifted os started H enc)
theorem quasimodularBrackets_holds : Rows.QuasimodularBracketsCardSaid :=
 Claim7.holds_tied_plain_at .later [] [.data] true (true, "f7565ca3d5a697f7ea507d5cafcbf8b18ebb5ac67575df0b14e7c56f9712f69c") false
  quasimodularBrackets_said (fun _ h => by cases h) (by kernel_rfl) (fun _ h => by cases h) quasimodularBrackets_row_tie rfl ⟨rfl, rfl⟩ (by kernel_rfl) rfl
  (fun f fn hf hfn => by
   obtain rfl : f = 4 := Option.some.inj ((show Tryz.prog.funcNamed "halfplane/halfplanelaw38.QuasimodularBrackets" = some 4 by kernel_rfl).symm.trans hf) |>.symm
   obtain rfl : fn = Tryz.f4 := (Option.some.inj (Tryz.func4.symm.trans hfn)).symm
   exact ⟨gLooks.symm, fun j t ht => by
    rw [Tryz.params4] at ht
    have h3 : t = 23 ∨ t = 3 := by
     rcases j with _ | _ | _ | j
     ·left; simpa using ht.symm
     ·left; simpa using ht.symm
     ·right; simpa using ht.symm
     ·simp at ht
    rcases h3 with rfl | rfl
    ·exact (show Tryz.prog.wantsStandIn 23 = false by kernel_rfl)
    ·exact (show Tryz.prog.wantsStandIn 3 = false by kernel_rfl)⟩)
  quasimodularBrackets_goes
end Go.Proofs.YtgkhcpppdadicaaGreatDoor
