/- The statement InterchangeWrites, as a contract. The statement InterchangeWrites, proved: Canonical and Encode return what the document specifies; no condition. -/
import Derived.Test.YtbpdgaolmikjbaaGreatRwW
import Derived.Test.YtbpdgaolmikjbaaGreatPl
import Derived.Test.YtbpdgaolmikjbaaGreatSmW
import Derived.Test.YtbpdgaolmikjbaaGreatIcP
set_option linter.all false
namespace Ab
open Go Go.RowKit Go.Proofs Hp
set_option maxRecDepth 100000
set_option maxHeartbeats 4000000
theorem xs_len {p : PP} (h : smP p) : p.xs.length ≤ 100000000 := by
  obtain ⟨-, -, h2, ⟨h3, n3⟩, -⟩ := h
  unfold PP.xs
  rw [List.length_append, List.length_map]
  have hc : ∀ l : List PZ, (∀ c, c ∈ l → c.ds.length ≤ 6) → (l.flatMap cE).length ≤ l.length * 8 := by
    intro l hl
    induction l with
    | nil => simp
    | cons a l ih =>
      rw [List.flatMap_cons, List.length_append, List.length_cons, Nat.succ_mul]
      have := ih fun c hc => hl c (List.mem_cons_of_mem _ hc)
      have := hl a (List.mem_cons_self ..)
      have : (cE a).length = a.ds.length + 2 := by unfold cE; simp
      omega
  have := hc p.cert fun c hc => (h3 c hc).2.2.2.2
  have := h2.2
  omega
theorem nV_bVw (l : List Nat) : l.map nV = (l.map fun n : Nat => (n : Int)).map bV := by rw [List.map_map]; rfl
theorem writes_p {p : PP} (h : p.wk) : PC Tryz.prog 3 [p.av] (boV true) := by
  have ca := awake_p
  have cM := small_pk h
  cases hs : smB p with
  | false =>
    rw [hs] at cM
    obtain ⟨sr, et, df, ce, sp, ma⟩ := p
    clear h hs
    refine Zak true Tryz.func3 rfl rfl rfl (Nat.le_of_ble_eq_true rfl) Zay.tmp ?_
    refine goJ ?_
    refine evG ggA (Zac (Zaa rfl) rfl rfl cM) ?_
    refine goJ ?_
    refine evG ggA (Zac (Zaa rfl) rfl rfl ca) ?_
    refine goJ ?_
    exact rfl
  | true =>
    rw [hs] at cM
    obtain ⟨ho, hb, hf, hl⟩ := sm_all h (smB_P hs)
    have cE1 := encode_p ho hb hf (by omega)
    have cE2 := rencode_p ho (xs_len (smB_P hs)) hf (by omega)
    have cC1 := canonical_p ho
    have cC2 := refCanonical_p ho
    have cS := same_r (PP.can_ok ho)
    clear h hs ho hb hf hl
    generalize p.can = q at *
    rw [nV_bVw] at cE1 cE2
    generalize ((encB q).map fun n : Nat => (n : Int)) = L at *
    obtain ⟨sr, et, df, ce, sp, ma⟩ := p
    obtain ⟨sr', et', df', ce', sp', ma'⟩ := q
    refine Zak true Tryz.func3 rfl rfl rfl (Nat.le_of_ble_eq_true rfl) Zay.tmp ?_
    refine goJ ?_
    refine evG ggA (Zac (Zaa rfl) rfl rfl cM) ?_
    refine goJ ?_
    refine evG ggA (Zac (Zaa rfl) rfl rfl cE1) ?_
    refine goJ ?_
    refine evG ggA (Zac (Zaa rfl) rfl rfl cE2) ?_
    refine goJ ?_
    refine T.drawF mixed ?_
    refine goJ ?_
    refine evG ggA (Zds (l := L) (Zaa rfl) Zgq Zbh Zc6 rfl) ?_
    refine goJ ?_
    refine evG ggA (Zds (l := L) (Zaa rfl) Zgq Zbh Zc6 rfl) ?_
    refine evG ggA (Zf5 (Zaa rfl) rfl rfl (congrArg some (str_self _))) ?_
    refine goJ ?_
    refine evG ggA (Zac (Zaa rfl) rfl rfl cC1) ?_
    refine goJ ?_
    refine evG ggA (Zac (Zaa rfl) rfl rfl cC2) ?_
    refine evG ggA (Zac (Zaa rfl) rfl rfl cS) ?_
    refine goJ ?_
    refine evG ggA (Zac (Zaa rfl) rfl rfl ca) ?_
    refine goJ ?_
    refine ⟨by kernel_rfl, ?_⟩
    refine goJ ?_
    exact rfl
end Ab
namespace Go.Proofs.YtbpdgaolmikjbaaGreat
open Go.ChangeShapes Go.WideShapes Go.ChangeAt Go.RowKit Ab
set_option maxRecDepth 100000
theorem Ze1 (os : Os) (started : os.Started) (H : Type) (enc : TypeId × Value → H) :
  ReturnsInHanded {} Tryz.checked os 3 .any (Rows.interchangeWritesSpec.pre6 enc Tryz.prog Tryz.f3 Rows.interchangeWritesRow.domain false) (Rows.interchangeWritesSpec.post enc Tryz.prog Tryz.f3 false true false false) := by
 refine returnsInHanded_of_change (C := Tryz.checked) own started (by kernel_rfl) Tryz.func3
  (ChangeSpec.witness6 (enc := enc) (C := Tryz.checked) false ⟨#[], #[.agg #[.slice none 0 0, .slice none 0 0, .slice none 0 0, .slice none 0 0, .slice none 0 0, .slice none 0 0]], []⟩ 8 (by kernel_rfl) (by kernel_rfl) (by kernel_rfl) (by kernel_rfl)) ?_
 intro W base args ds gs before hval0 hW hcnd _
 have hval : ∀ (j : Nat) t v, Tryz.f3.params[j]? = some t → args[j]? = some v → Value.okWide Tryz.prog W .any base t v := hval0
 have hW' := hW
 obtain ⟨p, q, hA0, hV, rfl, hfz, hnd⟩ := hW
 have hA : DataW.TrodAll enc Tryz.prog W 0 (fun _ => true) true Tryz.f3.params.toList args.toList ds p := hA0
 rw [Tryz.params3] at hA hval
 obtain ⟨v0, d0, rfl, rfl, h0⟩ := trodAll_one hA
 obtain ⟨rfl, rfl⟩ := trodVars_none hV
 obtain ⟨pk, rl, hl⟩ := pkg_in (hval 0 29 v0 rfl rfl) h0
 clear hA0 hval0
 simp only [List.append_nil] at hW'
 refine ((writes_p hl).2 W NoM (okNo W) [v0] (repsCons rl .nil)).mono fun e W' ⟨v, he, hb, hr⟩ => ?_
 subst he
 obtain rfl := hr.p_inv
 refine ⟨_, rfl, _, _, _, [], p, [], hW', ?_, ?_, ?_, hb.frame _, fun h => by cases h⟩
 ·exact trodAll_mk1 (shut_bool und_bool true)
 ·exact trodAll_mk1 (pkgAgain h0 hb fun x hx => hW'.lt x (by simp [hx]))
 ·rfl
theorem interchangeWrites_holds : Rows.InterchangeWritesSaid :=
 OpenClaim.holds_of_wide 3 Tryz.f3 rfl rfl rfl rfl rfl rfl rfl ⟨rfl, rfl, rfl, rfl, rfl⟩ rfl rfl rfl rfl rfl (by kernel_rfl) Tryz.func3 (by kernel_rfl)
  (of_decide_eq_true (by kernel_rfl)) (by unfold Func.isWrapper; rw [if_neg (of_decide_eq_false (by kernel_rfl))]; exact ⟨rfl, rfl⟩)
  (fun os started H enc _ => Ze1 os started H enc)
end Go.Proofs.YtbpdgaolmikjbaaGreat
