/- The statement HeckeseriesEigen, proved. -/
import Derived.Test.YtajhaoapcapgeaaGreatDoorEiJ
import Derived.Test.YtajhaoapcapgeaaGreatDoorLaidT
set_option linter.all false
namespace Ab
open Go Go.RowKit Go.Proofs Hp

set_option maxRecDepth 100000 in
theorem open_spec {H : Type} {enc : TypeId × Value → H} {w : World} {base b0 : Nat} {held : Bool} {r : Reach} {v : Value} {d : DataW H} {p : List MemPlace} (hv : Value.okWide Tryz.prog w r b0 40 v) (h : DataW.Trod enc Tryz.prog w base (fun _ => true) held 40 v d p) : ∃ N k D : Int, Rep w NoM (specA N k D) v := by
  obtain ⟨v0, v1, v2, y0, y1, y2, n, rfl, -, -, h0, h1, h2⟩ := Go.Joins.open_agg3 Tryz.underlying40 (by kernel_rfl) (by kernel_rfl) hv h
  have h0 : DataW.trod enc Tryz.prog w base (fun _ => true) held n 3 [v0] = some y0 := h0
  have h1 : DataW.trod enc Tryz.prog w base (fun _ => true) held n 3 [v1] = some y1 := h1
  have h2 : DataW.trod enc Tryz.prog w base (fun _ => true) held n 3 [v2] = some y2 := h2
  obtain ⟨a, e0, -, -⟩ := DataW.trod_int und_int h0
  obtain ⟨b, e1, -, -⟩ := DataW.trod_int und_int h1
  obtain ⟨c, e2, -, -⟩ := DataW.trod_int und_int h2
  injection e0 with e0
  injection e1 with e1
  injection e2 with e2
  subst e0 e1 e2
  refine ⟨a, b, c, .agg _ _ rfl (fun c hc => ?_) (fun i c v hi hv => ?_)⟩
  · simp at hc
    rcases hc with rfl | rfl | rfl <;> rfl
  · rcases i with _ | _ | _ | i
    · simp at hi hv; subst hi hv; exact .p _ rfl
    · simp at hi hv; subst hi hv; exact .p _ rfl
    · simp at hi hv; subst hi hv; exact .p _ rfl
    · simp at hi
end Ab
namespace Go.Proofs.YtajhaoapcapgeaaGreatDoor
open Go.ChangeShapes Go.WideShapes Go.ChangeAt Go.RowKit Ab

set_option maxRecDepth 100000 in
theorem specAgain {H : Type} {enc : TypeId × Value → H} {W W' : World} {v : Value} {d : DataW H} {ps : List MemPlace} (h : DataW.Trod enc Tryz.prog W 0 (fun _ => true) true 40 v d ps) (hb : Below W.heap.size W W') (hlt : ∀ x ∈ ps, x.block < W.heap.size) :
    DataW.Trod enc Tryz.prog W' 0 (fun b => decide (b < W.heap.size)) true 40 v d ps := Below.trod laidOut (by kernel_rfl) (of_decide_eq_true (by kernel_rfl)) h hb hlt
set_option maxRecDepth 100000 in
theorem intAgain {H : Type} {enc : TypeId × Value → H} {W W' : World} {v : Value} {d : DataW H} {ps : List MemPlace} (h : DataW.Trod enc Tryz.prog W 0 (fun _ => true) true 3 v d ps) (hb : Below W.heap.size W W') (hlt : ∀ x ∈ ps, x.block < W.heap.size) :
    DataW.Trod enc Tryz.prog W' 0 (fun b => decide (b < W.heap.size)) true 3 v d ps := Below.trod laidOut (by kernel_rfl) (of_decide_eq_true (by kernel_rfl)) h hb hlt
set_option maxRecDepth 100000 in
theorem int_in {H : Type} {enc : TypeId × Value → H} {w : World} {base b0 : Nat} {spr : Nat → Bool} {held : Bool} {r : Reach} {v : Value} {d : DataW H} {p : List MemPlace} (hv : Value.okWide Tryz.prog w r b0 3 v) (h : DataW.Trod enc Tryz.prog w base spr held 3 v d p) : ∃ x : Int, v = .int .i64 x ∧ -9223372036854775808 ≤ x ∧ x ≤ 9223372036854775807 := by
  obtain ⟨n, rfl, -, -, hw⟩ := open_int und_int hv h
  refine ⟨n, rfl, ?_⟩
  have h2 : IntKind.i64.min ≤ n ∧ n ≤ 9223372036854775807 := by simpa [Lit.wf] using hw
  have e0 : IntKind.i64.min = -9223372036854775808 := by decide
  omega
set_option maxRecDepth 100000 in
theorem ratsAgain {H : Type} {enc : TypeId × Value → H} {W W' : World} {v : Value} {d : DataW H} {ps : List MemPlace} (h : DataW.Trod enc Tryz.prog W 0 (fun _ => true) true 22 v d ps) (hb : Below W.heap.size W W') (hlt : ∀ x ∈ ps, x.block < W.heap.size) :
    DataW.Trod enc Tryz.prog W' 0 (fun b => decide (b < W.heap.size)) true 22 v d ps := Below.trod laidOut (by kernel_rfl) (of_decide_eq_true (by kernel_rfl)) h hb hlt
set_option maxRecDepth 100000 in
theorem rats_in {H : Type} {enc : TypeId × Value → H} {w : World} {base b0 : Nat} {held : Bool} {r : Reach} {v : Value} {d : DataW H} {p : List MemPlace} (hv : Value.okWide Tryz.prog w r b0 22 v) (h : DataW.Trod enc Tryz.prog w base (fun _ => true) held 22 v d p) : ∃ R : List RQ, Rep w NoM (.sl (R.map rawA)) v ∧ (∀ r, r ∈ R → DigR r) ∧ R.length ≤ maxN := by
  obtain ⟨a, len, cap, rfl⟩ := okWide_slice sl_rats hv
  obtain ⟨fuel, hf⟩ := h
  obtain ⟨c, R, hc, hR, hd, hn⟩ := open_rats hf
  simp [Value.cells] at hc
  subst hc
  exact ⟨R, hR, hd, hn⟩
set_option maxRecDepth 100000 in
theorem eigen_lifted (os : Os) (started : os.Started) (H : Type) (enc : TypeId × Value → H) :
    ReturnsInHanded {} Tryz.checked os 5 .any (fun w args => (Rows.heckeseriesEigenSpec.pre enc Tryz.prog Tryz.f5 Rows.heckeseriesEigenRow.domain false w args ∧ laidMetH Tryz.prog laidL w) ∧ sizedMet enc Tryz.prog Tryz.f5 (OpenSpec.ofChange Rows.heckeseriesEigenSpec) false w args)
      (Rows.heckeseriesEigenSpec.post enc Tryz.prog Tryz.f5 false true false false) := by
  refine returnsInHanded_of_change_and (C := Tryz.checked) (X := fun w _ => laidMetH Tryz.prog laidL w) (fun _ _ _ hh h => h.of_heap hh) own started (by kernel_rfl) Tryz.func5
    (ChangeSpec.witness_at (enc := enc) (C := Tryz.checked) (os := os) (X := fun w _ => laidMetH Tryz.prog laidL w) false (laidWorld os) #[.agg #[.int .i64 0, .int .i64 0, .int .i64 0], .slice none 0 0, .int .i64 0] 8 rfl (by kernel_rfl) (by kernel_rfl) (by kernel_rfl) (by kernel_rfl) (by kernel_rfl) (laidWorld_met os _)) ?_
  intro W base args ds gs before hval0 hW _ _ hL _
  have hval : ∀ (j : Nat) t v, Tryz.f5.params[j]? = some t → args[j]? = some v → Value.okWide Tryz.prog W .any base t v := hval0
  have hW' := hW
  obtain ⟨p, q, hA0, hV0, rfl, hfz, hnd⟩ := hW
  have hA : DataW.TrodAll enc Tryz.prog W 0 (fun _ => true) true Tryz.f5.params.toList args.toList ds p := hA0
  have hV : DataW.TrodVars enc Tryz.prog W (fun _ => true) [] gs q := hV0
  rw [Tryz.params5] at hA hval
  obtain ⟨v0, v1, v2, d0, d1, d2, p0, p1, p2, rfl, rfl, rfl, h0, h1, h2⟩ := trodAll_three hA
  obtain ⟨rfl, rfl⟩ : gs = [] ∧ q = [] := by
    cases gs with
    | nil => exact ⟨rfl, hV⟩
    | cons g r => exact absurd hV (by intro h; cases h)
  have hT := tab_of_laid hL
  obtain ⟨N, k, D, rs⟩ := open_spec (hval 0 40 v0 rfl rfl) h0
  obtain ⟨C, rC, hC, hn⟩ := rats_in (hval 1 22 v1 rfl rfl) h1
  obtain ⟨i, rfl, i0, i1⟩ := int_in (hval 2 3 v2 rfl rfl) h2
  clear hA0 hval0 hV0 hV hL
  simp only [List.append_nil] at hW'
  refine ((eigen_p C N k D i hC hn).2 W NoM (okNo hT) [v0, v1, .int .i64 i] (repsCons rs (repsCons rC (repsCons (.p _ rfl) .nil)))).mono fun e W' ⟨v, he, hb, hr⟩ => ?_
  subst he
  obtain rfl := hr.p_inv
  refine ⟨_, rfl, _, _, _, [], p0 ++ (p1 ++ p2), [], hW', ?_, ?_, ?_, hb.frame _, fun h => by cases h⟩
  · exact trodAll_mk1 (shut_bool und_bool true)
  · exact trodAll_mk3 (specAgain h0 hb fun x hx => hW'.lt x (by simp [hx])) (ratsAgain h1 hb fun x hx => hW'.lt x (by simp [hx])) (intAgain h2 hb fun x hx => hW'.lt x (by simp [hx]))
  · rfl
theorem eigen_said : Rows.HeckeseriesEigenSaid :=
  OpenClaim.holds_of_wide 5 Tryz.f5 rfl rfl rfl rfl rfl rfl rfl ⟨rfl, rfl, rfl, rfl, rfl⟩ rfl rfl rfl rfl rfl (by kernel_rfl) Tryz.func5 (by kernel_rfl)
    (of_decide_eq_true (by kernel_rfl)) (by unfold Func.isWrapper; rw [if_neg (of_decide_eq_false (by kernel_rfl))]; exact ⟨rfl, rfl⟩)
    (fun os started H enc _ => eigen_lifted os started H enc)
theorem eigen_holds : Rows.HeckeseriesEigenCardSaid :=
  Claim7.holds_tied_plain_at .later [] [.data] true (true, "1bbc2329da07b039ee9a8ea67ad3d60a493a6cba0f596d2f736b575741ae7bb4") false
    eigen_said (fun _ h => by cases h) (by kernel_rfl) (fun _ h => by cases h) heckeseriesEigen_row_tie rfl ⟨rfl, rfl⟩ (by kernel_rfl) rfl
    (fun f fn hf hfn => by
      obtain rfl : f = 5 := Option.some.inj ((show Tryz.prog.funcNamed "halfplane/halfplanelaw37.HeckeseriesEigen" = some 5 by kernel_rfl).symm.trans hf) |>.symm
      obtain rfl : fn = Tryz.f5 := (Option.some.inj (Tryz.func5.symm.trans hfn)).symm
      exact ⟨by kernel_rfl, fun j t ht => by
        rw [Tryz.params5] at ht
        have h3 : t = 40 ∨ t = 22 ∨ t = 3 := by
          rcases j with _ | _ | _ | j
          · left; exact (Option.some.inj ht).symm
          · right; left; exact (Option.some.inj ht).symm
          · right; right; exact (Option.some.inj ht).symm
          · simp at ht
        rcases h3 with rfl | rfl | rfl
        · exact (show Tryz.prog.wantsStandIn 40 = false by kernel_rfl)
        · exact (show Tryz.prog.wantsStandIn 22 = false by kernel_rfl)
        · exact (show Tryz.prog.wantsStandIn 3 = false by kernel_rfl)⟩)
    (by kernel_rfl)
end Go.Proofs.YtajhaoapcapgeaaGreatDoor
