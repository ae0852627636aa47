/- LeveloneDuality, proved. -/
import Derived.Test.YtdbkmjahbgcjbaaGreatDoorLu
import Derived.Test.YtdbkmjahbgcjbaaGreatDoorFL
import Derived.Test.YtdbkmjahbgcjbaaGreatDoorLduF
set_option linter.all false
namespace Go.Proofs.YtdbkmjahbgcjbaaGreatDoor
set_option maxRecDepth 100000
open Go.ChangeShapes Go.WideShapes Go.ChangeAt Go.RowKit Ab
theorem lft (os : Os) (s : os.Started) (H : Type) (e : TypeId × Value → H) :
  ReturnsInHanded {} Tryz.checked os 5 .any (fun w ar => (Rows.leveloneDualitySpec.pre e Tryz.prog Tryz.f5 Rows.leveloneDualityRow.domain false w ar ∧ laidMetH Tryz.prog laidL w) ∧ sizedMet e Tryz.prog Tryz.f5 (OpenSpec.ofChange Rows.leveloneDualitySpec) false w ar)
   (Rows.leveloneDualitySpec.post e Tryz.prog Tryz.f5 false true false false) := by
 refine returnsInHanded_of_change_and (C := Tryz.checked) (X := fun w _ => laidMetH Tryz.prog laidL w) (fun _ _ _ hh h => h.of_heap hh) own s (by kernel_rfl) Tryz.func5
  (ChangeSpec.witness_at (enc := e) (C := Tryz.checked) (os := os) (X := fun w _ => laidMetH Tryz.prog laidL w) false (laidWorld os) #[.int .i64 0, .int .i64 0] 8 rfl (by kernel_rfl) (by kernel_rfl) (by kernel_rfl) (by kernel_rfl) (by kernel_rfl) (laidWorld_met os _)) ?_
 intro W B ar ds gs b hv hW _ _ hL _
 have hu : ∀ (j : Nat) t v, Tryz.f5.params[j]? = some t → ar[j]? = some v → Value.okWide Tryz.prog W .any B t v := hv
 have hW' := hW
 obtain ⟨p, q, ha, hb0, rfl, hfz, hnd⟩ := hW
 have hA : DataW.TrodAll e Tryz.prog W 0 (fun _ => true) true Tryz.f5.params.toList ar.toList ds p := ha
 have hV : DataW.TrodVars e Tryz.prog W (fun _ => true) [] gs q := hb0
 rw [Tryz.params5] at hA hu
 obtain ⟨v0, v1, d0, d1, p0, p1, rfl, rfl, rfl, h0, h1⟩ := trodAll_two hA
 obtain ⟨rfl, rfl⟩ : gs = [] ∧ q = [] := by
  cases gs with
  | nil => exact ⟨rfl, hV⟩
  | cons g r => exact absurd hV (by intro h; cases h)
 have hT := tab_of_laid hL
 obtain ⟨a0, rfl, l0, u0⟩ := int_in (hu 0 3 v0 rfl rfl) h0
 obtain ⟨a1, rfl, l1, u1⟩ := int_in (hu 1 3 v1 rfl rfl) h1
 simp only [List.append_nil] at hW'
 refine ((leveloneDuality_p a0 l0 u0 a1 l1 u1).2 W NoM (okNo hT) [.int .i64 a0, .int .i64 a1] (repsCons (.p _ rfl) (repsCons (.p _ rfl) .nil))).mono fun e W' ⟨v, he, hb, hr⟩ => ?_
 subst he
 obtain rfl := hr.p_inv
 refine ⟨_, rfl, _, _, _, [], p0 ++ p1, [], hW', ?_, ?_, ?_, hb.frame _, fun h => by cases h⟩
 ·exact trodAll_mk1 (shut_bool und_bool true)
 ·exact trodAll_mk2 (intAgain h0 hb fun x hx => hW'.lt x (by simp [hx])) (intAgain h1 hb fun x hx => hW'.lt x (by simp [hx]))
 ·rfl
theorem clo : joinedFacts Tryz.prog 5 Tryz.f5 Rows.leveloneDualitySpec Rows.leveloneDualityRow = true := by
 unfold joinedFacts
 rw [laidOut, gMaps, leveloneDuality_inPlace, leveloneDuality_unfoll, leveloneDuality_recurs, leveloneDuality_named, gHeard, gEnter, leveloneDuality_lifts]
 kernel_rfl
theorem sad : Rows.LeveloneDualitySaid :=
 OpenClaim.holds_of_wide 5 Tryz.f5 rfl rfl rfl rfl rfl rfl rfl ⟨rfl, rfl, rfl, rfl, rfl⟩ rfl rfl rfl rfl rfl (by kernel_rfl) Tryz.func5 clo
  (of_decide_eq_true (by kernel_rfl)) (by unfold Func.isWrapper; rw [if_neg (of_decide_eq_false (by kernel_rfl))]; exact ⟨rfl, rfl⟩)
  (fun o s H e _ => lft o s H e)
theorem leveloneDuality_holds : Rows.LeveloneDualityCardSaid :=
 Claim7.holds_tied_plain_at .later [] [.data] true (true, "d9ead7d5ef95a0d4770931a1c09ce2d05592902195c1910bd0dcf708a09c2bdc") false
  sad (fun _ h => by cases h) (by kernel_rfl) (fun _ h => by cases h) leveloneDuality_row_tie rfl ⟨rfl, rfl⟩ (by kernel_rfl) rfl
  (fun f fn hf hfn => by
   obtain rfl : f = 5 := Option.some.inj ((show Tryz.prog.funcNamed "halfplane/halfplanelaw39.LeveloneDuality" = some 5 by kernel_rfl).symm.trans hf) |>.symm
   obtain rfl : fn = Tryz.f5 := (Option.some.inj (Tryz.func5.symm.trans hfn)).symm
   exact ⟨gLooks.symm, fun j t ht => by
    rw [Tryz.params5] at ht
    obtain rfl : t = 3 := by
     rcases j with _ | _ | j
     iterate 2 simpa using ht.symm
     simp at ht
    exact (show Tryz.prog.wantsStandIn 3 = false by kernel_rfl)⟩)
  leveloneDuality_goes
end Go.Proofs.YtdbkmjahbgcjbaaGreatDoor
