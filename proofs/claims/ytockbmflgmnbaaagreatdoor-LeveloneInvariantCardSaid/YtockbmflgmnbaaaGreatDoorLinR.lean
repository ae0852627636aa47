/- The statement LeveloneInvariant, proved. -/
import Derived.Test.YtockbmflgmnbaaaGreatDoorLiL
import Derived.Test.YtockbmflgmnbaaaGreatDoorLinF
import Derived.Test.YtockbmflgmnbaaaGreatDoorLinO
set_option linter.all false
namespace Go.Proofs.YtockbmflgmnbaaaGreatDoor
open Go.ChangeShapes Go.WideShapes Go.ChangeAt Go.RowKit Ab
set_option maxRecDepth 100000 in
theorem Zet (os : Os) (started : os.Started) (H : Type) (enc : TypeId × Value → H) :
  ReturnsInHanded {} Tryz.checked os 3 .any (fun w args => (Rows.leveloneInvariantSpec.pre enc Tryz.prog Tryz.f3 Rows.leveloneInvariantRow.domain false w args ∧ laidMetH Tryz.prog laidL w) ∧ sizedMet enc Tryz.prog Tryz.f3 (OpenSpec.ofChange Rows.leveloneInvariantSpec) false w args)
   (Rows.leveloneInvariantSpec.post enc Tryz.prog Tryz.f3 false true false false) := by
 refine returnsInHanded_of_change_and (C := Tryz.checked) (X := fun w _ => laidMetH Tryz.prog laidL w) (fun _ _ _ hh h => h.of_heap hh) own started (by kernel_rfl) Tryz.func3
  (ChangeSpec.witness_at (enc := enc) (C := Tryz.checked) (os := os) (X := fun w _ => laidMetH Tryz.prog laidL w) false (laidWorld os) #[.slice none 0 0, .agg #[.int .i64 0, .slice none 0 0], .agg #[.int .i64 0, .int .i64 0]] 8 rfl (by kernel_rfl) (by kernel_rfl) (by kernel_rfl) (by kernel_rfl) (by kernel_rfl) (laidWorld_met os _)) ?_
 intro W base args ds gs before hval0 hW _ _ hL _
 have hval : ∀ (j : Nat) t v, Tryz.f3.params[j]? = some t → args[j]? = some v → Value.okWide Tryz.prog W .any base t v := hval0
 have hW' := hW
 obtain ⟨p, q, hA0, hV0, rfl, hfz, hnd⟩ := hW
 have hA : DataW.TrodAll enc Tryz.prog W 0 (fun _ => true) true Tryz.f3.params.toList args.toList ds p := hA0
 have hV : DataW.TrodVars enc Tryz.prog W (fun _ => true) [] gs q := hV0
 rw [Tryz.params3] at hA hval
 obtain ⟨v0, v1, v2, d0, d1, d2, p0, p1, p2, rfl, rfl, rfl, h0, h1, h2⟩ := trodAll_three hA
 obtain ⟨rfl, rfl⟩ : gs = [] ∧ q = [] := by
  cases gs with
  | nil => exact ⟨rfl, hV⟩
  | cons g r => exact absurd hV (by intro h; cases h)
 have hT := tab_of_laid hL
 obtain ⟨R0, r0, g0, n0⟩ := poly_in (hval 0 23 v0 rfl rfl) h0
 obtain ⟨s1, r1, o1⟩ := open_ser (hval 1 25 v1 rfl rfl) h1
 obtain ⟨x2, y2, rfl, k2, j2⟩ := arr_in (hval 2 26 v2 rfl rfl) h2
 clear hA0 hval0 hV0 hV hL
 simp only [List.append_nil] at hW'
 refine ((Zgj R0 g0 n0 s1 o1 x2 y2 k2.1 k2.2 j2.1 j2.2).2 W NoM (okNo hT) [v0, v1, .agg #[.int .i64 x2, .int .i64 y2]] (repsCons r0 (repsCons r1 (repsCons (arr_rep x2 y2) .nil)))).mono fun e W' ⟨v, he, hb, hr⟩ => ?_
 subst he
 obtain rfl := hr.p_inv
 refine ⟨_, rfl, _, _, _, [], p0 ++ (p1 ++ p2), [], hW', ?_, ?_, ?_, hb.frame _, fun h => by cases h⟩
 ·exact trodAll_mk1 (shut_bool Zf0 true)
 ·exact trodAll_mk3 (polyAgain h0 hb fun x hx => hW'.lt x (by simp [hx])) (serAgain h1 hb fun x hx => hW'.lt x (by simp [hx])) (arrAgain h2 hb fun x hx => hW'.lt x (by simp [hx]))
 ·rfl
set_option maxRecDepth 100000 in
theorem Zeu : joinedFacts Tryz.prog 3 Tryz.f3 Rows.leveloneInvariantSpec Rows.leveloneInvariantRow = true := by
 unfold joinedFacts
 rw [laidOut, gMaps, leveloneInvariant_inPlace, leveloneInvariant_unfoll, leveloneInvariant_recurs, leveloneInvariant_named, gHeard, gEnter, Ze4]
 kernel_rfl
theorem Zfe : Rows.LeveloneInvariantSaid :=
 OpenClaim.holds_of_wide 3 Tryz.f3 rfl rfl rfl rfl rfl rfl rfl ⟨rfl, rfl, rfl, rfl, rfl⟩ rfl rfl rfl rfl rfl (by kernel_rfl) Tryz.func3 Zeu
  (of_decide_eq_true (by kernel_rfl)) (by unfold Func.isWrapper; rw [if_neg (of_decide_eq_false (by kernel_rfl))]; exact ⟨rfl, rfl⟩)
  (fun os started H enc _ => Zet os started H enc)
theorem leveloneInvariant_holds : Rows.LeveloneInvariantCardSaid :=
 Claim7.holds_tied_plain_at .later [] [.data] true (true, "59d58d24f32c925fcfd4a34d7c79fffe2daf3072eecfdf61205b132de37b9c47") false
  Zfe (fun _ h => by cases h) (by kernel_rfl) (fun _ h => by cases h) leveloneInvariant_row_tie rfl ⟨rfl, rfl⟩ (by kernel_rfl) rfl
  (fun f fn hf hfn => by
   obtain rfl : f = 3 := Option.some.inj ((show Tryz.prog.funcNamed "halfplane/halfplanelaw39.LeveloneInvariant" = some 3 by kernel_rfl).symm.trans hf) |>.symm
   obtain rfl : fn = Tryz.f3 := (Option.some.inj (Tryz.func3.symm.trans hfn)).symm
   exact ⟨gLooks.symm, fun j t ht => by
    rw [Tryz.params3] at ht
    have h3 : t = 23 ∨ t = 25 ∨ t = 26 := by
     rcases j with _ | _ | _ | j
     ·left; simpa using ht.symm
     ·right; left; simpa using ht.symm
     ·right; right; simpa using ht.symm
     ·simp at ht
    rcases h3 with rfl | rfl | rfl
    ·exact (show Tryz.prog.wantsStandIn 23 = false by kernel_rfl)
    ·exact (show Tryz.prog.wantsStandIn 25 = false by kernel_rfl)
    ·exact (show Tryz.prog.wantsStandIn 26 = false by kernel_rfl)⟩)
  Zff
end Go.Proofs.YtockbmflgmnbaaaGreatDoor
