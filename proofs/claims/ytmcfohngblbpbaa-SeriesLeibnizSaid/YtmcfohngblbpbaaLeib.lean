/- The statement SeriesLeibniz: its walk. -/
import Derived.Test.YtmcfohngblbpbaaLeibM
namespace Ab
open Go Go.RowKit Go.Proofs Hp
set_option maxRecDepth 100000

set_option maxHeartbeats 2000000 in
theorem leib_p (a b : Ser) (ha : SerOK a) (hb : SerOK b) : PC Try.prog 5 [serO a, serO b] (.p (.bool true)) := by
  have ci := inner_p [pr a, pr b] (fun x hx => by
    simp at hx
    rcases hx with rfl | rfl
    · exact pr_ok ha
    · exact pr_ok hb) (Nat.le_of_ble_eq_true rfl)
  cases hi : [pr a, pr b].all inn with
  | false =>
    rw [hi] at ci
    have aw := awake_p
    unfold serO
    unfold pr at ci
    generalize a.coef.map rawA = es at *
    generalize a.from' = s at *
    generalize b.coef.map rawA = fs at *
    generalize b.from' = t at *
    refine pc_body1 true Try.func5 rfl rfl rfl (Nat.le_of_ble_eq_true rfl) CellT.tmp ?_
    refine goA ?_
    refine evG ggA (ss_bslice (InB_of rfl) (make_tab rfl) rfl rfl rfl rfl (ones_ok rfl) (Nat.le_of_ble_eq_true rfl)) ?_
    refine evG ggA (ss_call (InB_of rfl) rfl rfl ci) ?_
    refine goA ?_
    refine evG ggA (ss_call (InB_of rfl) rfl rfl aw) ?_
    refine goA ?_
    exact rfl
  | true =>
    rw [hi] at ci
    have aw := awake_p
    have hi2 : inn (pr a) = true ∧ inn (pr b) = true := by simpa using hi
    have ga := good ha hi2.1
    have gb := good hb hi2.2
    obtain ⟨u1, c1, u2, c2, u3, c3, u4, c4, u5, c5, u6, c6, u7, c7, e1, e2, e3, e4, e5, e6, e7, hag, k1, k2, k3, k4, k5, k6, k7, v1, v2, v3, v4, v5, v6, v7⟩ := leib ga.v gb.v ga.lo ga.hi gb.lo gb.hi ga.n gb.n ga.ht gb.ht
    have la := ga.isL
    have lb := gb.isL
    have ra := ga.r
    have rb := gb.r
    have na := ga.len
    have nb := gb.len
    clear hi hi2 ga gb ha hb
    unfold serO
    unfold pr at ci
    generalize a.coef.map ratO = l at *
    generalize b.coef.map ratO = m at *
    generalize a.coef.map rawA = es at *
    generalize a.from' = s at *
    generalize b.coef.map rawA = fs at *
    generalize b.from' = t at *
    have p1 := mul_p (both_mk la lb ra rb) (by decide)
    have p2 := theta_p (fun _ => la) na ra (by decide)
    have p3 := theta_p (fun _ => lb) nb rb (by decide)
    have p4 := theta_p (s := u1) (fun _ => isL_enc k1) (by simp) (inR_enc v1) (by decide)
    have p5 := mul_p (s := u2) (both_mk (isL_enc k2) (lb.mono (by decide)) (inR_enc v2) rb) (by decide)
    have p6 := mul_p (t := u3) (both_mk (la.mono (by decide)) (isL_enc k3) ra (inR_enc v3)) (by decide)
    have p7 := add_p (s := u5) (t := u6) (both_mk (isL_enc k5) (isL_enc k6) (inR_enc v5) (inR_enc v6)) (by decide)
    have p8 := agree_p (s := u4) (t := u7) (both_mk (isL_enc k4) (isL_enc k7) (inR_enc v4) (inR_enc v7)) (by decide)
    rw [e1] at p1
    rw [e2] at p2
    rw [e3] at p3
    rw [e4] at p4
    rw [e5] at p5
    rw [e6] at p6
    rw [e7] at p7
    rw [hag] at p8
    clear k1 k2 k3 k4 k5 k6 k7 v1 v2 v3 v4 v5 v6 v7 e1 e2 e3 e4 e5 e6 e7 hag la lb ra rb na nb
    refine pc_body1 true Try.func5 rfl rfl rfl (Nat.le_of_ble_eq_true rfl) CellT.tmp ?_
    refine goA ?_
    refine evG ggA (ss_bslice (InB_of rfl) (make_tab rfl) rfl rfl rfl rfl (ones_ok rfl) (Nat.le_of_ble_eq_true rfl)) ?_
    refine evG ggA (ss_call (InB_of rfl) rfl rfl ci) ?_
    refine goA ?_
    refine evG ggA (ss_call (InB_of rfl) rfl rfl p1) ?_
    refine goA ?_
    refine evG ggA (ss_call (InB_of rfl) rfl rfl p2) ?_
    refine goA ?_
    refine evG ggA (ss_call (InB_of rfl) rfl rfl p3) ?_
    refine goA ?_
    refine evG ggA (ss_call (InB_of rfl) rfl rfl p4) ?_
    refine goA ?_
    refine evG ggA (ss_call (InB_of rfl) rfl rfl p5) ?_
    refine goA ?_
    refine evG ggA (ss_call (InB_of rfl) rfl rfl p6) ?_
    refine goA ?_
    refine evG ggA (ss_call (InB_of rfl) rfl rfl p7) ?_
    refine goA ?_
    refine evG ggA (ss_call (InB_of rfl) rfl rfl p8) ?_
    refine goA ?_
    refine evG ggA (ss_call (InB_of rfl) rfl rfl aw) ?_
    refine goA ?_
    exact rfl
end Ab
