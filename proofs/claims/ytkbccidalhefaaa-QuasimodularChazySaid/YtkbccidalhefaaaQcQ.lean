/- The statement QuasimodularChazy, proved: Chazy's equation for E2 in the ring, and Serre's derivative of every multiple of the discriminant is zero; no condition. -/
import Derived.Test.YtkbccidalhefaaaQcC
import Derived.Test.YtkbccidalhefaaaRows
set_option linter.all false
namespace Go.Proofs.Ytkbccidalhefaaa
open Go.ChangeShapes Go.WideShapes Go.ChangeAt Go.RowKit Ab
set_option maxRecDepth 100000

theorem own : ownKnob Try.prog.godebug = none := by kernel_rfl
theorem laidOut : laidOutB Try.prog = true := by kernel_rfl
theorem repsCons {w : World} {M : Nat → Prop} {a : AV} {v : Value} {l : List AV} {vs : List Value} (h : Rep w M a v) (t : Reps w M l vs) : Reps w M (a :: l) (v :: vs) := .cons a v l vs h t
set_option maxRecDepth 100000 in
theorem ratAgain {H : Type} {enc : TypeId × Value → H} {W W' : World} {v : Value} {d : DataW H} {ps : List MemPlace} (h : DataW.Trod enc Try.prog W 0 (fun _ => true) true 26 v d ps) (hb : Below W.heap.size W W') (hlt : ∀ x ∈ ps, x.block < W.heap.size) :
    DataW.Trod enc Try.prog W' 0 (fun b => decide (b < W.heap.size)) true 26 v d ps := Below.trod laidOut (by kernel_rfl) (of_decide_eq_true (by kernel_rfl)) h hb hlt
set_option maxRecDepth 100000 in
theorem rat_in {H : Type} {enc : TypeId × Value → H} {w : World} {base b0 : Nat} {held : Bool} {r : Reach} {v : Value} {d : DataW H} {p : List MemPlace} (hv : Value.okWide Try.prog w r b0 26 v) (h : DataW.Trod enc Try.prog w base (fun _ => true) held 26 v d p) : ∃ c : RQ, Rep w NoM (rawA c) v ∧ DigR c := by
  obtain ⟨cs, rfl, hsz⟩ := okWide_struct Try.underlying26 hv
  obtain ⟨fuel, hf⟩ := h
  obtain ⟨c0, c1, c2, c3, c, hc, g0, g1, g2, g3, hd⟩ := open_rat4 hf
  obtain rfl : cs = #[c0, c1, c2, c3] := Array.ext' hc
  refine ⟨c, .agg _ _ rfl (fun e he => ?_) (fun i e u hi hu => ?_), hd⟩
  · simp at he
    rcases he with rfl | rfl | rfl | rfl <;> rfl
  · rcases i with _ | _ | _ | _ | i
    · simp at hi hu; subst hi hu; exact g0
    · simp at hi hu; subst hi hu; exact g1
    · simp at hi hu; subst hi hu; exact g2
    · simp at hi hu; subst hi hu; exact g3
    · simp at hi
set_option maxRecDepth 100000 in
theorem chazy_lifted (os : Os) (started : os.Started) (H : Type) (enc : TypeId × Value → H) :
    ReturnsInHanded {} Try.checked os 3 .any (Rows.quasimodularChazySpec.pre6 enc Try.prog Try.f3 Rows.quasimodularChazyRow.domain false) (Rows.quasimodularChazySpec.post enc Try.prog Try.f3 false true false false) := by
  refine returnsInHanded_of_change (C := Try.checked) own started (by kernel_rfl) Try.func3
    (ChangeSpec.witness6 (enc := enc) (C := Try.checked) false ⟨#[], #[.agg #[.bool false, .slice none 0 0, .bool false, .slice none 0 0]], []⟩ 8 (by kernel_rfl) (by kernel_rfl) (by kernel_rfl) (by kernel_rfl)) ?_
  intro W base args ds gs before hval0 hW hcnd _
  have hval : ∀ (j : Nat) t v, Try.f3.params[j]? = some t → args[j]? = some v → Value.okWide Try.prog W .any base t v := hval0
  have hW' := hW
  obtain ⟨p, q, hA0, hV, rfl, hfz, hnd⟩ := hW
  have hA : DataW.TrodAll enc Try.prog W 0 (fun _ => true) true Try.f3.params.toList args.toList ds p := hA0
  rw [Try.params3] at hA hval
  obtain ⟨v0, d0, rfl, rfl, h0⟩ := trodAll_one hA
  obtain ⟨rfl, rfl⟩ := trodVars_none hV
  obtain ⟨c, rc, dc⟩ := rat_in (hval 0 26 v0 rfl rfl) h0
  clear hA0 hval0
  simp only [List.append_nil] at hW'
  refine ((chazy_p c dc).2 W NoM (okNo W) [v0] (repsCons rc .nil)).mono fun e W' ⟨v, he, hb, hr⟩ => ?_
  subst he
  obtain rfl := hr.p_inv
  refine ⟨_, rfl, _, _, _, [], p, [], hW', ?_, ?_, ?_, hb.frame _, fun h => by cases h⟩
  · exact trodAll_mk1 (shut_bool und_bool true)
  · exact trodAll_mk1 (ratAgain h0 hb fun x hx => hW'.lt x (by simp [hx]))
  · rfl
theorem chazy_holds : Rows.QuasimodularChazySaid :=
  OpenClaim.holds_of_wide 3 Try.f3 rfl rfl rfl rfl rfl rfl rfl ⟨rfl, rfl, rfl, rfl, rfl⟩ rfl rfl rfl rfl rfl (by kernel_rfl) Try.func3 (by kernel_rfl)
    (of_decide_eq_true (by kernel_rfl)) (by unfold Func.isWrapper; rw [if_neg (of_decide_eq_false (by kernel_rfl))]; exact ⟨rfl, rfl⟩)
    (fun os started H enc _ => chazy_lifted os started H enc)
end Go.Proofs.Ytkbccidalhefaaa
