/- The statement SeriesRing: its walk. -/
import Derived.Test.YtmcfohngblbpbaaRingN
namespace Ab
open Go Go.RowKit Go.Proofs Hp
set_option maxRecDepth 100000

theorem GoodS.in12 {a : Ser} {l : List Rat} (h : GoodS a l) : In12 a.from' l := ⟨h.v, h.lo, h.hi, h.n, h.ht⟩
theorem Is.isL {x : Option (Int × List Rat)} {u : Int} {c : List Rat} (h : Is x u c) : IsL (c.map encQ) 3000 c := isL_enc h.2.2
theorem Is.inR {x : Option (Int × List Rat)} {u : Int} {c : List Rat} (h : Is x u c) : InR u (c.map encQ).length := inR_enc h.2.1
set_option maxHeartbeats 4000000 in
theorem ring_p (a b d : Ser) (ha : SerOK a) (hb : SerOK b) (hd : SerOK d) : PC Try.prog 3 [serO a, serO b, serO d] (.p (.bool true)) := by
  have ci := inner_p [pr a, pr b, pr d] (fun x hx => by
    simp at hx
    rcases hx with rfl | rfl | rfl
    · exact pr_ok ha
    · exact pr_ok hb
    · exact pr_ok hd) (Nat.le_of_ble_eq_true rfl)
  cases hi : [pr a, pr b, pr d].all inn with
  | false =>
    rw [hi] at ci
    have aw := awake_p
    unfold serO
    unfold pr at ci
    generalize a.coef.map rawA = es at *
    generalize a.from' = s at *
    generalize b.coef.map rawA = fs at *
    generalize b.from' = t at *
    generalize d.coef.map rawA = gs at *
    generalize d.from' = r at *
    refine pc_body1 true Try.func3 rfl rfl rfl (Nat.le_of_ble_eq_true rfl) CellT.tmp ?_
    refine goA ?_
    refine evG ggA (ss_bslice (InB_of rfl) (make_tab rfl) rfl rfl rfl rfl (ones_ok rfl) (Nat.le_of_ble_eq_true rfl)) ?_
    refine evG ggA (ss_call (InB_of rfl) rfl rfl ci) ?_
    refine goA ?_
    refine evG ggA (ss_call (InB_of rfl) rfl rfl aw) ?_
    refine goA ?_
    exact rfl
  | true =>
    rw [hi] at ci
    have aw := awake_p
    have hi2 : inn (pr a) = true ∧ inn (pr b) = true ∧ inn (pr d) = true := by simpa using hi
    have ga := good ha hi2.1
    have gb := good hb hi2.2.1
    have gd := good hd hi2.2.2
    obtain ⟨u1, c1, u2, c2, u3, c3, u4, c4, u5, c5, u6, c6, u7, c7, u8, c8, i1, i1', i2, i3, i4, i5, i5', i6, i7, i8, g1, g2, g3⟩ := ring ga.in12 gb.in12 gd.in12
    have la := ga.isL
    have lb := gb.isL
    have ld := gd.isL
    have ra := ga.r
    have rb := gb.r
    have rd := gd.r
    clear hi hi2 ga gb gd ha hb hd
    unfold serO
    unfold pr at ci
    generalize a.coef.map ratO = l at *
    generalize b.coef.map ratO = m at *
    generalize d.coef.map ratO = k at *
    generalize a.coef.map rawA = es at *
    generalize a.from' = s at *
    generalize b.coef.map rawA = fs at *
    generalize b.from' = t at *
    generalize d.coef.map rawA = gs at *
    generalize d.from' = r at *
    have p1 := mul_p (both_mk la lb ra rb) (by decide)
    have p1' := mul_p (both_mk lb la rb ra) (by decide)
    have p2 := mul_p (both_mk lb ld rb rd) (by decide)
    have p3 := mul_p (both_mk la ld ra rd) (by decide)
    have p4 := add_p (both_mk lb ld rb rd) (by decide)
    have p5 := mul_p (s := u1) (both_mk i1.isL (ld.mono (by decide)) i1.inR rd) (by decide)
    have p5' := mul_p (t := u2) (both_mk (la.mono (by decide)) i2.isL ra i2.inR) (by decide)
    have p6 := mul_p (t := u4) (both_mk (la.mono (by decide)) i4.isL ra i4.inR) (by decide)
    have p7 := add_p (s := u1) (t := u3) (both_mk i1.isL i3.isL i1.inR i3.inR) (by decide)
    have p8 := sub_p (s := u4) (both_mk i4.isL (ld.mono (by decide)) i4.inR rd) (by decide)
    have q1 := agree_p (s := u5) (t := u5) (both_mk i5.isL i5.isL i5.inR i5.inR) (by decide)
    have q2 := agree_p (s := u6) (t := u7) (both_mk i6.isL i7.isL i6.inR i7.inR) (by decide)
    have q3 := agree_p (s := u8) (both_mk i8.isL (lb.mono (by decide)) i8.inR rb) (by decide)
    have n1 := valid_iff.1 i1.2.1
    have n5 := valid_iff.1 i5.2.1
    have s1 := sameQ_p (s := u1) (t := u1) (m := c1) i1.2.2 (by decide) (by omega)
    have s5 := sameQ_p (s := u5) (t := u5) (m := c5) i5.2.2 (by decide) (by omega)
    rw [decide_eq_true ⟨rfl, rfl⟩] at s1 s5
    rw [i1.1] at p1
    rw [i1'.1] at p1'
    rw [i2.1] at p2
    rw [i3.1] at p3
    rw [i4.1] at p4
    rw [i5.1] at p5
    rw [i5'.1] at p5'
    rw [i6.1] at p6
    rw [i7.1] at p7
    rw [i8.1] at p8
    rw [g1] at q1
    rw [g2] at q2
    rw [g3] at q3
    clear i1 i1' i2 i3 i4 i5 i5' i6 i7 i8 la lb ld ra rb rd n1 n5 g1 g2 g3
    refine pc_body1 true Try.func3 rfl rfl rfl (Nat.le_of_ble_eq_true rfl) CellT.tmp ?_
    refine goA ?_
    refine evG ggA (ss_bslice (InB_of rfl) (make_tab rfl) rfl rfl rfl rfl (ones_ok rfl) (Nat.le_of_ble_eq_true rfl)) ?_
    refine evG ggA (ss_call (InB_of rfl) rfl rfl ci) ?_
    refine goA ?_
    refine evG ggA (ss_call (InB_of rfl) rfl rfl p1) ?_
    refine goA ?_
    refine evG ggA (ss_call (InB_of rfl) rfl rfl p1') ?_
    refine goA ?_
    refine evG ggA (ss_call (InB_of rfl) rfl rfl p2) ?_
    refine goA ?_
    refine evG ggA (ss_call (InB_of rfl) rfl rfl p3) ?_
    refine goA ?_
    refine evG ggA (ss_call (InB_of rfl) rfl rfl p4) ?_
    refine goA ?_
    refine evG ggA (ss_call (InB_of rfl) rfl rfl s1) ?_
    refine goA ?_
    refine evG ggA (ss_call (InB_of rfl) rfl rfl p5) ?_
    refine goA ?_
    refine evG ggA (ss_call (InB_of rfl) rfl rfl p5') ?_
    refine goA ?_
    refine evG ggA (ss_call (InB_of rfl) rfl rfl p6) ?_
    refine goA ?_
    refine evG ggA (ss_call (InB_of rfl) rfl rfl p7) ?_
    refine goA ?_
    refine evG ggA (ss_call (InB_of rfl) rfl rfl p8) ?_
    refine goA ?_
    refine evG ggA (ss_call (InB_of rfl) rfl rfl q1) ?_
    refine goA ?_
    refine evG ggA (ss_call (InB_of rfl) rfl rfl s5) ?_
    refine goA ?_
    refine evG ggA (ss_call (InB_of rfl) rfl rfl q2) ?_
    refine goA ?_
    refine evG ggA (ss_call (InB_of rfl) rfl rfl q3) ?_
    refine goA ?_
    refine evG ggA (ss_call (InB_of rfl) rfl rfl aw) ?_
    refine goA ?_
    exact rfl
end Ab
