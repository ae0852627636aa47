/- The statement QuasimodularReturns: what the kernel reckons of the program from its function. The statement QuasimodularReturns, proved. -/
import Derived.Test.YtmohfcpjgcgogaaGreatDoorFL
import Derived.Test.YtmohfcpjgcgogaaGreatDoorRwJ
set_option linter.all false
namespace Go.Proofs.YtmohfcpjgcgogaaGreatDoor
open Go.ChangeShapes Go.WideShapes Go.ChangeAt Go.RowKit Ab
set_option maxRecDepth 100000
theorem quasimodularReturns_inPlace : (Rows.quasimodularReturnsRow.inPlace == Tryz.prog.inPlace 4) = true := by kernel_rfl
theorem quasimodularReturns_unfoll : (Rows.quasimodularReturnsRow.unfollowed == Tryz.prog.unfollowed 4) = true := by kernel_rfl
theorem quasimodularReturns_recurs : (Rows.quasimodularReturnsRow.recurses == Tryz.prog.recurses 4) = true := by kernel_rfl
theorem quasimodularReturns_named : (Rows.quasimodularReturnsRow.named == Tryz.prog.varsNamed 4) = true := by kernel_rfl
theorem Zd5 : (Rows.quasimodularReturnsRow.lifted == Tryz.prog.liftsFinal) = true := by rw [gLifts]; kernel_rfl
theorem Zei : false = Rows.quasimodularReturnsRow.goesBy Tryz.prog := by kernel_rfl
end Go.Proofs.YtmohfcpjgcgogaaGreatDoor
namespace Go.Proofs.YtmohfcpjgcgogaaGreatDoor
open Go.ChangeShapes Go.WideShapes Go.ChangeAt Go.RowKit Ab
set_option maxRecDepth 100000 in
theorem Zdu (os : Os) (started : os.Started) (H : Type) (enc : TypeId × Value → H) :
  ReturnsInHanded {} Tryz.checked os 4 .any (fun w args => (Rows.quasimodularReturnsSpec.pre enc Tryz.prog Tryz.f4 Rows.quasimodularReturnsRow.domain false w args ∧ laidMetH Tryz.prog laidL w) ∧ sizedMet enc Tryz.prog Tryz.f4 (OpenSpec.ofChange Rows.quasimodularReturnsSpec) false w args)
   (Rows.quasimodularReturnsSpec.post enc Tryz.prog Tryz.f4 false true false false) := by
 refine returnsInHanded_of_change_and (C := Tryz.checked) (X := fun w _ => laidMetH Tryz.prog laidL w) (fun _ _ _ hh h => h.of_heap hh) own started (by kernel_rfl) Tryz.func4
  (ChangeSpec.witness_at (enc := enc) (C := Tryz.checked) (os := os) (X := fun w _ => laidMetH Tryz.prog laidL w) false (laidWorld os) #[.slice none 0 0] 8 rfl (by kernel_rfl) (by kernel_rfl) (by kernel_rfl) (by kernel_rfl) (by kernel_rfl) (laidWorld_met os _)) ?_
 intro W base args ds gs before hval0 hW _ _ hL _
 have hval : ∀ (j : Nat) t v, Tryz.f4.params[j]? = some t → args[j]? = some v → Value.okWide Tryz.prog W .any base t v := hval0
 have hW' := hW
 obtain ⟨p, q, hA0, hV0, rfl, hfz, hnd⟩ := hW
 have hA : DataW.TrodAll enc Tryz.prog W 0 (fun _ => true) true Tryz.f4.params.toList args.toList ds p := hA0
 have hV : DataW.TrodVars enc Tryz.prog W (fun _ => true) [] gs q := hV0
 rw [Tryz.params4] at hA hval
 obtain ⟨v0, d0, rfl, rfl, h0⟩ := trodAll_one hA
 obtain ⟨rfl, rfl⟩ : gs = [] ∧ q = [] := by
  cases gs with
  | nil => exact ⟨rfl, hV⟩
  | cons g r => exact absurd hV (by intro h; cases h)
 have hT := tab_of_laid hL
 obtain ⟨s0, r0, o0⟩ := open_qp (hval 0 29 v0 rfl rfl) h0
 clear hA0 hval0 hV0 hV hL
 simp only [List.append_nil] at hW'
 refine ((Zfe s0 o0).2 W NoM (okNo hT) [v0] (repsCons r0 .nil)).mono fun e W' ⟨v, he, hb, hr⟩ => ?_
 subst he
 obtain rfl := hr.p_inv
 refine ⟨_, rfl, _, _, _, [], p, [], hW', ?_, ?_, ?_, hb.frame _, fun h => by cases h⟩
 ·exact trodAll_mk1 (shut_bool Zfw true)
 ·exact trodAll_mk1 (qpAgain h0 hb fun x hx => hW'.lt x (by simp [hx]))
 ·rfl
set_option maxRecDepth 100000 in
theorem Zdv : joinedFacts Tryz.prog 4 Tryz.f4 Rows.quasimodularReturnsSpec Rows.quasimodularReturnsRow = true := by
 unfold joinedFacts
 rw [laidOut, gMaps, quasimodularReturns_inPlace, quasimodularReturns_unfoll, quasimodularReturns_recurs, quasimodularReturns_named, gHeard, gEnter, Zd5]
 kernel_rfl
theorem Zeh : Rows.QuasimodularReturnsSaid :=
 OpenClaim.holds_of_wide 4 Tryz.f4 rfl rfl rfl rfl rfl rfl rfl ⟨rfl, rfl, rfl, rfl, rfl⟩ rfl rfl rfl rfl rfl (by kernel_rfl) Tryz.func4 Zdv
  (of_decide_eq_true (by kernel_rfl)) (by unfold Func.isWrapper; rw [if_neg (of_decide_eq_false (by kernel_rfl))]; exact ⟨rfl, rfl⟩)
  (fun os started H enc _ => Zdu os started H enc)
theorem quasimodularReturns_holds : Rows.QuasimodularReturnsCardSaid :=
 Claim7.holds_tied_plain_at .later [] [.data] true (true, "59ce58e6540260fecab5289ed14a104c2d1ed409475378d010221e6038f2c274") false
  Zeh (fun _ h => by cases h) (by kernel_rfl) (fun _ h => by cases h) quasimodularReturns_row_tie rfl ⟨rfl, rfl⟩ (by kernel_rfl) rfl
  (fun f fn hf hfn => by
   obtain rfl : f = 4 := Option.some.inj ((show Tryz.prog.funcNamed "halfplane/halfplanelaw38.QuasimodularReturns" = some 4 by kernel_rfl).symm.trans hf) |>.symm
   obtain rfl : fn = Tryz.f4 := (Option.some.inj (Tryz.func4.symm.trans hfn)).symm
   exact ⟨gLooks.symm, fun j t ht => by
    rw [Tryz.params4] at ht
    have h3 : t = 29 := by
     rcases j with _ | j
     ·skip; simpa using ht.symm
     ·simp at ht
    rcases h3 with rfl
    ·exact (show Tryz.prog.wantsStandIn 29 = false by kernel_rfl)⟩)
  Zei
end Go.Proofs.YtmohfcpjgcgogaaGreatDoor
