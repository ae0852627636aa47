/- The statement QuasimodularSeries: what the kernel reckons of the program from its function. The statement QuasimodularSeries, proved. -/
import Derived.Test.YtaeeifonadgmcaaGreatDoorFL
import Derived.Test.YtaeeifonadgmcaaGreatDoorSeO
set_option linter.all false
namespace Go.Proofs.YtaeeifonadgmcaaGreatDoor
open Go.ChangeShapes Go.WideShapes Go.ChangeAt Go.RowKit Ab
set_option maxRecDepth 100000
theorem quasimodularSeries_inPlace : (Rows.quasimodularSeriesRow.inPlace == Tryz.prog.inPlace 4) = true := by kernel_rfl
theorem quasimodularSeries_unfoll : (Rows.quasimodularSeriesRow.unfollowed == Tryz.prog.unfollowed 4) = true := by kernel_rfl
theorem quasimodularSeries_recurs : (Rows.quasimodularSeriesRow.recurses == Tryz.prog.recurses 4) = true := by kernel_rfl
theorem quasimodularSeries_named : (Rows.quasimodularSeriesRow.named == Tryz.prog.varsNamed 4) = true := by kernel_rfl
theorem Zee : (Rows.quasimodularSeriesRow.lifted == Tryz.prog.liftsFinal) = true := by rw [gLifts]; kernel_rfl
theorem Zeu : false = Rows.quasimodularSeriesRow.goesBy Tryz.prog := by kernel_rfl
end Go.Proofs.YtaeeifonadgmcaaGreatDoor
namespace Go.Proofs.YtaeeifonadgmcaaGreatDoor
open Go.ChangeShapes Go.WideShapes Go.ChangeAt Go.RowKit Ab
set_option maxRecDepth 100000 in
theorem Zd4 (os : Os) (started : os.Started) (H : Type) (enc : TypeId × Value → H) :
  ReturnsInHanded {} Tryz.checked os 4 .any (fun w args => (Rows.quasimodularSeriesSpec.pre enc Tryz.prog Tryz.f4 Rows.quasimodularSeriesRow.domain false w args ∧ laidMetH Tryz.prog laidL w) ∧ sizedMet enc Tryz.prog Tryz.f4 (OpenSpec.ofChange Rows.quasimodularSeriesSpec) false w args)
   (Rows.quasimodularSeriesSpec.post enc Tryz.prog Tryz.f4 false true false false) := by
 refine returnsInHanded_of_change_and (C := Tryz.checked) (X := fun w _ => laidMetH Tryz.prog laidL w) (fun _ _ _ hh h => h.of_heap hh) own started (by kernel_rfl) Tryz.func4
  (ChangeSpec.witness_at (enc := enc) (C := Tryz.checked) (os := os) (X := fun w _ => laidMetH Tryz.prog laidL w) false (laidWorld os) #[.agg #[.int .i64 0, .slice none 0 0, .int .i64 0], .agg #[.int .i64 0, .slice none 0 0, .int .i64 0], .int .i64 0] 8 rfl (by kernel_rfl) (by kernel_rfl) (by kernel_rfl) (by kernel_rfl) (by kernel_rfl) (laidWorld_met os _)) ?_
 intro W base args ds gs before hval0 hW _ _ hL _
 have hval : ∀ (j : Nat) t v, Tryz.f4.params[j]? = some t → args[j]? = some v → Value.okWide Tryz.prog W .any base t v := hval0
 have hW' := hW
 obtain ⟨p, q, hA0, hV0, rfl, hfz, hnd⟩ := hW
 have hA : DataW.TrodAll enc Tryz.prog W 0 (fun _ => true) true Tryz.f4.params.toList args.toList ds p := hA0
 have hV : DataW.TrodVars enc Tryz.prog W (fun _ => true) [] gs q := hV0
 rw [Tryz.params4] at hA hval
 obtain ⟨v0, v1, v2, d0, d1, d2, p0, p1, p2, rfl, rfl, rfl, h0, h1, h2⟩ := trodAll_three hA
 obtain ⟨rfl, rfl⟩ : gs = [] ∧ q = [] := by
  cases gs with
  | nil => exact ⟨rfl, hV⟩
  | cons g r => exact absurd hV (by intro h; cases h)
 have hT := tab_of_laid hL
 obtain ⟨s0, r0, o0⟩ := open_wtd (hval 0 37 v0 rfl rfl) h0
 obtain ⟨s1, r1, o1⟩ := open_wtd (hval 1 37 v1 rfl rfl) h1
 obtain ⟨a2, rfl, l2, u2⟩ := int_in (hval 2 3 v2 rfl rfl) h2
 clear hA0 hval0 hV0 hV hL
 simp only [List.append_nil] at hW'
 refine ((Zf3 s0 o0 s1 o1 a2 l2 u2).2 W NoM (okNo hT) [v0, v1, .int .i64 a2] (repsCons r0 (repsCons r1 (repsCons (.p _ rfl) .nil)))).mono fun e W' ⟨v, he, hb, hr⟩ => ?_
 subst he
 obtain rfl := hr.p_inv
 refine ⟨_, rfl, _, _, _, [], p0 ++ (p1 ++ p2), [], hW', ?_, ?_, ?_, hb.frame _, fun h => by cases h⟩
 ·exact trodAll_mk1 (shut_bool Zfu true)
 ·exact trodAll_mk3 (wtdAgain h0 hb fun x hx => hW'.lt x (by simp [hx])) (wtdAgain h1 hb fun x hx => hW'.lt x (by simp [hx])) (intAgain h2 hb fun x hx => hW'.lt x (by simp [hx]))
 ·rfl
set_option maxRecDepth 100000 in
theorem Zd5 : joinedFacts Tryz.prog 4 Tryz.f4 Rows.quasimodularSeriesSpec Rows.quasimodularSeriesRow = true := by
 unfold joinedFacts
 rw [laidOut, gMaps, quasimodularSeries_inPlace, quasimodularSeries_unfoll, quasimodularSeries_recurs, quasimodularSeries_named, gHeard, gEnter, Zee]
 kernel_rfl
theorem Zet : Rows.QuasimodularSeriesSaid :=
 OpenClaim.holds_of_wide 4 Tryz.f4 rfl rfl rfl rfl rfl rfl rfl ⟨rfl, rfl, rfl, rfl, rfl⟩ rfl rfl rfl rfl rfl (by kernel_rfl) Tryz.func4 Zd5
  (of_decide_eq_true (by kernel_rfl)) (by unfold Func.isWrapper; rw [if_neg (of_decide_eq_false (by kernel_rfl))]; exact ⟨rfl, rfl⟩)
  (fun os started H enc _ => Zd4 os started H enc)
theorem quasimodularSeries_holds : Rows.QuasimodularSeriesCardSaid :=
 Claim7.holds_tied_plain_at .later [] [.data] true (true, "40659d76ac6cd48518d3a6f8f9d2db87f1ebc4e573d2e27fe489ee50a46e91c1") false
  Zet (fun _ h => by cases h) (by kernel_rfl) (fun _ h => by cases h) quasimodularSeries_row_tie rfl ⟨rfl, rfl⟩ (by kernel_rfl) rfl
  (fun f fn hf hfn => by
   obtain rfl : f = 4 := Option.some.inj ((show Tryz.prog.funcNamed "halfplane/halfplanelaw38.QuasimodularSeries" = some 4 by kernel_rfl).symm.trans hf) |>.symm
   obtain rfl : fn = Tryz.f4 := (Option.some.inj (Tryz.func4.symm.trans hfn)).symm
   exact ⟨gLooks.symm, fun j t ht => by
    rw [Tryz.params4] at ht
    have h3 : t = 37 ∨ t = 3 := by
     rcases j with _ | _ | _ | j
     ·left; simpa using ht.symm
     ·left; simpa using ht.symm
     ·right; simpa using ht.symm
     ·simp at ht
    rcases h3 with rfl | rfl
    ·exact (show Tryz.prog.wantsStandIn 37 = false by kernel_rfl)
    ·exact (show Tryz.prog.wantsStandIn 3 = false by kernel_rfl)⟩)
  Zeu
end Go.Proofs.YtaeeifonadgmcaaGreatDoor
