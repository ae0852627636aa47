/- The statement InterchangeReturns, as a contract. The statement InterchangeReturns, proved: what is written is read back, and written again as the same bytes; no condition. -/
import Derived.Test.YtbpdgaolmikjbaaGreatPl
import Derived.Test.YtbpdgaolmikjbaaGreatSmW
import Derived.Test.YtbpdgaolmikjbaaGreatIcP
set_option linter.all false
namespace Ab
open Go Go.RowKit Go.Proofs Hp
set_option maxRecDepth 100000
set_option maxHeartbeats 4000000
theorem nV_bV' (l : List Nat) : l.map nV = (l.map fun n : Nat => (n : Int)).map bV := by rw [List.map_map]; rfl
theorem returns_p {p : PP} (h : p.wk) : PC Tryz.prog 5 [p.av] (boV true) := by
  have ca := awake_p
  have cM := small_pk h
  cases hs : smB p with
  | false =>
    rw [hs] at cM
    obtain ⟨sr, et, df, ce, sp, ma⟩ := p
    clear h hs
    refine pc_body1 true Tryz.func5 rfl rfl rfl (Nat.le_of_ble_eq_true rfl) CellT.tmp ?_
    refine goJ ?_
    refine evG ggA (ss_call (InB_of rfl) rfl rfl cM) ?_
    refine goJ ?_
    refine evG ggA (ss_call (InB_of rfl) rfl rfl ca) ?_
    refine goJ ?_
    exact rfl
  | true =>
    rw [hs] at cM
    obtain ⟨ho, hb, hf, hl⟩ := sm_all h (smB_P hs)
    have hco := PP.can_ok ho
    have hcf : fewB p.can = true := by rw [fewB_can]; exact hf
    have cE1 := encode_p ho hb hf (by omega)
    have cD := decode_back hco (PP.can_can p) hcf (by omega)
    have cE2 := encode_p hco (by rw [binds_can, List.length_map]; exact hb) hcf (by rw [PP.can_can]; omega)
    rw [PP.can_can] at cE2
    have cC := refCanonical_p ho
    have cS := same_r hco
    clear h hs ho hb hf hl hco hcf
    generalize p.can = q at *
    rw [nV_bV'] at cE1 cE2 cD
    generalize ((encB q).map fun n : Nat => (n : Int)) = L at *
    obtain ⟨sr, et, df, ce, sp, ma⟩ := p
    obtain ⟨sr', et', df', ce', sp', ma'⟩ := q
    refine pc_body1 true Tryz.func5 rfl rfl rfl (Nat.le_of_ble_eq_true rfl) CellT.tmp ?_
    refine goJ ?_
    refine evG ggA (ss_call (InB_of rfl) rfl rfl cM) ?_
    refine goJ ?_
    refine evG ggA (ss_call (InB_of rfl) rfl rfl cE1) ?_
    refine goJ ?_
    refine evG ggA (ss_call (InB_of rfl) rfl rfl cD) ?_
    refine goJ ?_
    refine evG ggA (ss_call (InB_of rfl) rfl rfl cE2) ?_
    refine goJ ?_
    refine T.drawF mixed ?_
    refine goJ ?_
    refine evG ggA (ss_call (InB_of rfl) rfl rfl cC) ?_
    refine evG ggA (ss_call (InB_of rfl) rfl rfl cS) ?_
    refine goJ ?_
    refine evG ggA (ss_bytes_str (l := L) (InB_of rfl) und_byt' und_u8 und_str' rfl) ?_
    refine goJ ?_
    refine evG ggA (ss_bytes_str (l := L) (InB_of rfl) und_byt' und_u8 und_str' rfl) ?_
    refine evG ggA (ss_cmp_str (InB_of rfl) rfl rfl (congrArg some (str_self _))) ?_
    refine goJ ?_
    refine evG ggA (ss_call (InB_of rfl) rfl rfl ca) ?_
    refine goJ ?_
    refine ⟨by kernel_rfl, ?_⟩
    refine goJ ?_
    exact rfl
end Ab
namespace Go.Proofs.YtbpdgaolmikjbaaGreat
open Go.ChangeShapes Go.WideShapes Go.ChangeAt Go.RowKit Ab
set_option maxRecDepth 100000
theorem interchangeReturns_lifted (os : Os) (started : os.Started) (H : Type) (enc : TypeId × Value → H) :
  ReturnsInHanded {} Tryz.checked os 5 .any (Rows.interchangeReturnsSpec.pre6 enc Tryz.prog Tryz.f5 Rows.interchangeReturnsRow.domain false) (Rows.interchangeReturnsSpec.post enc Tryz.prog Tryz.f5 false true false false) := by
 refine returnsInHanded_of_change (C := Tryz.checked) own started (by kernel_rfl) Tryz.func5
  (ChangeSpec.witness6 (enc := enc) (C := Tryz.checked) false ⟨#[], #[.agg #[.slice none 0 0, .slice none 0 0, .slice none 0 0, .slice none 0 0, .slice none 0 0, .slice none 0 0]], []⟩ 8 (by kernel_rfl) (by kernel_rfl) (by kernel_rfl) (by kernel_rfl)) ?_
 intro W base args ds gs before hval0 hW hcnd _
 have hval : ∀ (j : Nat) t v, Tryz.f5.params[j]? = some t → args[j]? = some v → Value.okWide Tryz.prog W .any base t v := hval0
 have hW' := hW
 obtain ⟨p, q, hA0, hV, rfl, hfz, hnd⟩ := hW
 have hA : DataW.TrodAll enc Tryz.prog W 0 (fun _ => true) true Tryz.f5.params.toList args.toList ds p := hA0
 rw [Tryz.params5] at hA hval
 obtain ⟨v0, d0, rfl, rfl, h0⟩ := trodAll_one hA
 obtain ⟨rfl, rfl⟩ := trodVars_none hV
 obtain ⟨pk, rl, hl⟩ := pkg_in (hval 0 29 v0 rfl rfl) h0
 clear hA0 hval0
 simp only [List.append_nil] at hW'
 refine ((returns_p hl).2 W NoM (okNo W) [v0] (repsCons rl .nil)).mono fun e W' ⟨v, he, hb, hr⟩ => ?_
 subst he
 obtain rfl := hr.p_inv
 refine ⟨_, rfl, _, _, _, [], p, [], hW', ?_, ?_, ?_, hb.frame _, fun h => by cases h⟩
 ·exact trodAll_mk1 (shut_bool und_bool true)
 ·exact trodAll_mk1 (pkgAgain h0 hb fun x hx => hW'.lt x (by simp [hx]))
 ·rfl
theorem interchangeReturns_holds : Rows.InterchangeReturnsSaid :=
 OpenClaim.holds_of_wide 5 Tryz.f5 rfl rfl rfl rfl rfl rfl rfl ⟨rfl, rfl, rfl, rfl, rfl⟩ rfl rfl rfl rfl rfl (by kernel_rfl) Tryz.func5 (by kernel_rfl)
  (of_decide_eq_true (by kernel_rfl)) (by unfold Func.isWrapper; rw [if_neg (of_decide_eq_false (by kernel_rfl))]; exact ⟨rfl, rfl⟩)
  (fun os started H enc _ => interchangeReturns_lifted os started H enc)
end Go.Proofs.YtbpdgaolmikjbaaGreat
