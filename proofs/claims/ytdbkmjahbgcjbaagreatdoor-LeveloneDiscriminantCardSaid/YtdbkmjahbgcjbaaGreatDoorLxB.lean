/- The statement LeveloneDiscriminant: walked; no condition beyond the range of its argument. -/
import Derived.Test.YtdbkmjahbgcjbaaGreatDoorLx
set_option linter.all false
namespace Ab
open Go Go.RowKit Go.Proofs Hp
set_option maxRecDepth 100000
theorem mcheck_p : PC Tryz.prog 117 [iV 12] (iV 0) := by
 refine pc_body1 true Tryz.func117 rfl rfl rfl (Nat.le_of_ble_eq_true rfl) CellT.tmp ?_
 refine goA ?_
 refine evG ggA (ss_div (op := .rem) (InB_of rfl) rfl rfl (by omega) rfl) ?_
 refine goA ?_
 exact rfl
theorem ht720 : Ht (720 : Rat) 9 := ⟨by decide, by decide⟩
theorem ht1728 : Ht (1728 : Rat) 9 := ⟨by decide, by decide⟩
theorem ht1R : Ht (1 : Rat) 9 := ⟨by decide, by decide⟩
theorem mon1 {p : Nat} (p0 : 1 ≤ p) (p1 : p ≤ 1000) : monR 1 0 p = some (0, tk one' p) := by
 unfold monR
 have e : MV 0 (p : Int) = true := by unfold MV; simp; omega
 rw [if_pos e, if_neg (by omega), show ((p : Int) - 0).toNat - 1 = p - 1 by omega, one_tk p0, nrm_tk one_ne (by decide) (by omega)]
theorem delP {p : Nat} (p0 : 2 ≤ p) (p1 : p ≤ 150) : PC Tryz.prog 17 [iV p] (.tup [serA 1 ((tk dV (p - 1)).map encQ), iV 0]) := by
 have c := delta_p (p := (p : Int)) (by omega)
 rw [show (p : Int) = ((p - 2 : Nat) : Int) + 1 + 1 by omega, delT_tau (by omega), show p - 2 + 1 = p - 1 by omega, show ((p - 2 : Nat) : Int) + 1 + 1 = (p : Int) by omega] at c
 exact c
theorem c4_h {p : Nat} (p1 : p ≤ 40) : ∀ i, i < p → Ht (pq (eiV 4) 3 i) 9 := fun i hi => p4_h (by decide) (by omega)
theorem d9_b : dL.all (htB 9) = true := by decide +kernel
theorem d_h9 {p : Nat} : ∀ i, i < p → Ht (dV i) 9 := fun i _ => getD_ht (by decide) (htB_all d9_b) i
theorem d720_b : ((List.range 151).all fun i => htB 9 (720 * dL.getD i 0)) = true := by decide +kernel
theorem d720_h {p : Nat} (p1 : p ≤ 150) : ∀ i, i < p → Ht (720 * dV i) 9 := fun i hi => htB_ht (List.all_eq_true.1 d720_b i (List.mem_range.2 (by omega)))
theorem one_h9 {p : Nat} : ∀ i, i < p → Ht (one' i) 9 := fun i _ => by
 unfold one'
 split
 ·exact ht1R
 ·exact ht0 (by decide)
theorem j_b : ((List.range 40).all fun i => htB 9 (jL.getD i 0)) = true := by decide +kernel
theorem j_h9 {p : Nat} (p1 : p ≤ 40) : ∀ i, i < p → Ht (jV i) 9 := fun i hi => by
 rw [jL_at (by omega)]
 exact htB_ht (List.all_eq_true.1 j_b i (List.mem_range.2 (by omega)))
theorem m_b : ((List.range 40).all fun i => htB 9 (w4.getD i 0 + -1 * (if i = 0 then 0 else 720 * dL.getD (i - 1) 0))) = true := by decide +kernel
theorem m_h9 {p : Nat} (p1 : p ≤ 40) : ∀ i, i < p → Ht (mV i) 9 := fun i hi => by
 unfold mV
 rw [w4_at (by omega)]
 exact htB_ht (List.all_eq_true.1 m_b i (List.mem_range.2 (by omega)))
theorem ne720 : (720 : Rat) ≠ 0 := by decide
theorem ne1728 : (1728 : Rat) ≠ 0 := by decide
theorem miller12_p {p : Nat} (p0 : 2 ≤ p) (p1 : p ≤ 30) : PC Tryz.prog 118 [iV 12, iV p] (.sl [serA 0 ((tk mV p).map encQ), serA 1 ((tk dV (p - 1)).map encQ)]) := by
 have cdim : PC Tryz.prog 23 [iV 12] (iV 2) := dim_p (k := 12) (by decide) (by decide)
 have cof : PC Tryz.prog 90 [iV 1] (encQ 1) := rof_p 1 (by decide) (by decide)
 have cmon := monomial_p (a := encQ 1) (c := 1) (K := 9) (n := 0) (p := (p : Int)) (isV_encQ ht1R) (by decide)
 rw [mon1 (by omega) (by omega)] at cmon
 have cei : PC Tryz.prog 45 [iV 4, iV p] (.tup [serA 0 ((eiL 4 p).map encQ), iV 0]) := enorm_p bq_ok (k := 4) rfl (by omega)
 have cdel := delP p0 (by omega)
 have cp3 : PC Tryz.prog 46 [serA 0 ((eiL 4 p).map encQ), iV 3] (.tup [serA 0 ((tk (pq (eiV 4) 3) p).map encQ), iV 0]) := e4pow_p (e := 3) (by decide) (by omega) (by omega)
 have cp0 : PC Tryz.prog 46 [serA 0 ((eiL 4 p).map encQ), iV 0] (.tup [serA 0 ((tk one' p).map encQ), iV 0]) := e4pow_p (e := 0) (by decide) (by omega) (by omega)
 have cm1 := smul_tk (s := 0) (t := 0) (f := pq (eiV 4) 3) (g := one') (n := p) (m := p) (K := 9) (by decide) (by decide) (pq_ne (eiV_ne rfl) 3) one_ne (c4_h (by omega)) one_h9 (by decide) (by decide) (by decide) (by decide) (by omega) (by omega)
 rw [nc1, Nat.min_self] at cm1
 have cm2 := smul_tk (s := 0) (t := 0) (f := one') (g := one') (n := p) (m := p) (K := 9) (by decide) (by decide) one_ne one_ne one_h9 one_h9 (by decide) (by decide) (by decide) (by decide) (by omega) (by omega)
 rw [nc1, Nat.min_self] at cm2
 have cm3 := smul_tk (s := 0) (t := 1) (f := one') (g := dV) (n := p) (m := p - 1) (K := 9) (by decide) (by decide) one_ne dV_ne one_h9 d_h9 (by decide) (by decide) (by decide) (by decide) (by omega) (by omega)
 rw [nc1', show min p (p - 1) = p - 1 by omega] at cm3
 have cc1 := scut_tk (s := 0) (p := (p : Int)) (f := pq (eiV 4) 3) (n := p) (K := 9) (by decide) (by decide) (pq_ne (eiV_ne rfl) 3) (c4_h (by omega)) (by decide) (by decide) (by omega) (by omega) (by omega)
 rw [show min p ((p : Int) - 0).toNat = p by omega] at cc1
 have cc2 := scut_tk (s := 1) (p := (p : Int)) (f := dV) (n := p - 1) (K := 9) (by decide) (by decide) dV_ne d_h9 (by decide) (by decide) (by omega) (by omega) (by omega)
 rw [show min (p - 1) ((p : Int) - 1).toNat = p - 1 by omega] at cc2
 have cat := seriesAt_p (s := 0) (n := 1) (es := (tk (pq (eiV 4) 3) p).map encQ) (l := tk (pq (eiV 4) 3) p) (K := 9) (isL_enc (ht_tk (c4_h (by omega)))) (by decide) (by rw [tkE]; exact valid_iff.2 ⟨by decide, by decide, by omega⟩) (by decide) (by rw [tkE]; omega)
 rw [cf_tk (by decide) (by omega), show ((1 : Int) - 0).toNat = 1 from rfl, p41] at cat
 have csc := sscl_tk (c := 720) (s := 1) (f := dV) (n := p - 1) (K := 9) ht720 ne720 (by decide) (by decide) dV_ne d_h9 (by decide) (by decide) (by omega)
 have csu := ssub_p (both_tk (s := 0) (t := 1) (f := pq (eiV 4) 3) (g := fun i => 720 * dV i) (n := p) (m := p - 1) (K := 9) (c4_h (by omega)) (d720_h (by omega)) (by decide) (by decide) (by decide) (by decide) (by omega) (by omega)) (by decide)
 rw [comb_01 (pq_ne (eiV_ne rfl) 3) (by omega) (by omega)] at csu
 have cc3 := scut_tk (s := 0) (p := (p : Int)) (f := mV) (n := p) (K := 9) (by decide) (by decide) mV_ne (m_h9 (by omega)) (by decide) (by decide) (by omega) (by omega) (by omega)
 rw [show min p ((p : Int) - 0).toNat = p by omega] at cc3
 obtain ⟨h, ys, h', ys', e1⟩ := isV_cells (isV_encQ ht1R)
 obtain ⟨g, xs, g', xs', e2⟩ := isV_cells (isV_encQ ht720)
 rw [e1] at cof cmon
 rw [e2] at cat csc
 exact miller_core p0 p1 cdim cof cmon cei cdel cp3 cp0 cm1 cm2 cm3 cc1 cc2 cat csc csu cc3
theorem bigMiller_p {p : Nat} (p0 : 2 ≤ p) (p1 : p ≤ 30) : PC Tryz.prog 43 [iV 12, iV p] (.tup [.sl [serA 0 ((tk mV p).map encQ), serA 1 ((tk dV (p - 1)).map encQ)], iV 0]) := by
 have c1 := mcheck_p
 have c2 := linside_p (p : Int)
 rw [ins_t (by omega) (by omega)] at c2
 have c3 := miller12_p p0 p1
 generalize (tk mV p).map encQ = M at *
 generalize (tk dV (p - 1)).map encQ = D at *
 refine pc_body2 true Tryz.func43 rfl rfl rfl (Nat.le_of_ble_eq_true rfl) CellT.tmp CellT.tmp ?_
 refine goA ?_
 refine evG ggA (ss_call (InB_of rfl) rfl rfl c1) ?_
 refine goA ?_
 refine evG ggA (ss_call (InB_of rfl) rfl rfl c2) ?_
 refine goA ?_
 refine evG ggA (ss_call (InB_of rfl) rfl rfl c3) ?_
 refine goA ?_
 exact rfl
set_option maxHeartbeats 8000000 in
theorem disc_core {p : Nat} (p0 : 2 ≤ p) (p1 : p ≤ 30) {A4 A6 C F D J M X Z : List AV} {g g' : Bool} {xs xs' : List AV}
  (aw : PC Tryz.prog 16 [] (bV true))
  (c1 : PC Tryz.prog 45 [iV 4, iV p] (.tup [serA 0 A4, iV 0]))
  (c2 : PC Tryz.prog 45 [iV 6, iV p] (.tup [serA 0 A6, iV 0]))
  (c3 : PC Tryz.prog 46 [serA 0 A4, iV 3] (.tup [serA 0 C, iV 0]))
  (c4 : PC Tryz.prog 46 [serA 0 A6, iV 2] (.tup [serA 0 F, iV 0]))
  (c5 : PC Tryz.prog 17 [iV p] (.tup [serA 1 D, iV 0]))
  (c6 : PC Tryz.prog 19 [iV ((p : Int) - 1)] (.tup [serA (-1) J, iV 0]))
  (c7 : PC Tryz.prog 43 [iV 12, iV p] (.tup [.sl [serA 0 M, serA 1 D], iV 0]))
  (q1 : PC Tryz.prog 25 [serA 1 D, serA 1 D] (bV true))
  (c8 : PC Tryz.prog 47 [serA 0 C, serA 0 F] (.tup [serA 1 X, iV 0]))
  (c9 : PC Tryz.prog 39 [iV 1728] (.agg [.p (.bool g), .sl xs, .p (.bool g'), .sl xs']))
  (ca : PC Tryz.prog 48 [.agg [.p (.bool g), .sl xs, .p (.bool g'), .sl xs'], serA 1 D] (.tup [serA 1 X, iV 0]))
  (cb : PC Tryz.prog 49 [serA (-1) J, serA 1 D] (.tup [serA 0 Z, iV 0]))
  (cc : PC Tryz.prog 50 [serA 0 Z, iV ((p : Int) - 1)] (.tup [serA 0 Z, iV 0]))
  (cd : PC Tryz.prog 50 [serA 0 C, iV ((p : Int) - 1)] (.tup [serA 0 Z, iV 0]))
  (q2 : PC Tryz.prog 25 [serA 1 X, serA 1 X] (bV true))
  (q3 : PC Tryz.prog 25 [serA 0 Z, serA 0 Z] (bV true)) :
  PC Tryz.prog 7 [iV p] (bV true) := by
 have g1 : decide ((p : Int) < 2) = false := decide_eq_false (by omega)
 have g2 : decide ((p : Int) > 30) = false := decide_eq_false (by omega)
 refine pc_body1 true Tryz.func7 rfl rfl rfl (Nat.le_of_ble_eq_true rfl) CellT.tmp ?_
 refine goA ?_
 refine evG ggA (ss_call (InB_of rfl) rfl rfl c1) ?_
 refine goA ?_
 refine evG ggA (ss_call (InB_of rfl) rfl rfl c2) ?_
 refine goA ?_
 refine evG ggA (ss_call (InB_of rfl) rfl rfl c3) ?_
 refine goA ?_
 refine evG ggA (ss_call (InB_of rfl) rfl rfl c4) ?_
 refine goA ?_
 refine evG ggA (ss_call (InB_of rfl) rfl rfl c5) ?_
 refine goA ?_
 refine evG ggA (ss_call (InB_of rfl) rfl rfl c6) ?_
 refine goA ?_
 refine evG ggA (ss_call (InB_of rfl) rfl rfl c7) ?_
 refine goA ?_
 refine evG ggA (ss_index_sl (InB_of rfl) (elem_tab rfl) rfl rfl (by decide) rfl rfl) ?_
 refine goA ?_
 refine evG ggA (ss_call (InB_of rfl) rfl rfl q1) ?_
 refine goA ?_
 refine evG ggA (ss_call (InB_of rfl) rfl rfl c8) ?_
 refine goA ?_
 refine evG ggA (ss_call (InB_of rfl) rfl rfl c9) ?_
 refine goA ?_
 refine evG ggA (ss_call (InB_of rfl) rfl rfl ca) ?_
 refine goA ?_
 refine evG ggA (ss_call (InB_of rfl) rfl rfl cb) ?_
 refine goA ?_
 refine evG ggA (ss_call (InB_of rfl) rfl rfl cc) ?_
 refine goA ?_
 refine evG ggA (ss_call (InB_of rfl) rfl rfl cd) ?_
 refine goA ?_
 refine evG ggA (ss_call (InB_of rfl) rfl rfl q2) ?_
 refine goA ?_
 refine evG ggA (ss_call (InB_of rfl) rfl rfl q3) ?_
 refine goA ?_
 refine evG ggA (ss_call (InB_of rfl) rfl rfl aw) ?_
 refine goA ?_
 exact rfl
theorem x_b : ((List.range 40).all fun i => htB 9 (1728 * dL.getD i 0)) = true := by decide +kernel
theorem discIn_p {p : Nat} (p0 : 2 ≤ p) (p1 : p ≤ 30) : PC Tryz.prog 7 [iV p] (bV true) := by
 have c1 : PC Tryz.prog 45 [iV 4, iV p] (.tup [serA 0 ((eiL 4 p).map encQ), iV 0]) := enorm_p bq_ok (k := 4) rfl (by omega)
 have c2 : PC Tryz.prog 45 [iV 6, iV p] (.tup [serA 0 ((eiL 6 p).map encQ), iV 0]) := enorm_p bq_ok (k := 6) rfl (by omega)
 have c3 : PC Tryz.prog 46 [serA 0 ((eiL 4 p).map encQ), iV 3] (.tup [serA 0 ((tk (pq (eiV 4) 3) p).map encQ), iV 0]) := e4pow_p (e := 3) (by decide) (by omega) (by omega)
 have c4 := e6pow_p (p := p) (by omega) (by omega)
 have c5 := delP p0 (by omega)
 have c6 := j_p (p := ((p - 1 : Nat) : Int)) (by omega)
 rw [jT_ok (by omega), show p - 1 + 1 = p by omega, show ((p - 1 : Nat) : Int) = (p : Int) - 1 by omega] at c6
 have c7 := bigMiller_p p0 p1
 have hx : ∀ q, q ∈ tk (fun i => 1728 * dV i) (p - 1) → Ht q 9 := ht_tk fun i hi => htB_ht (List.all_eq_true.1 x_b i (List.mem_range.2 (by omega)))
 have q1 := sameQ_p (s := 1) (t := 1) (k := 9) (m := tk dV (p - 1)) (ht_tk (d_h9 (p := p - 1))) (by decide) (by rw [tk_len]; omega)
 have q2 := sameQ_p (s := 1) (t := 1) (k := 9) (m := tk (fun i => 1728 * dV i) (p - 1)) hx (by decide) (by rw [tk_len]; omega)
 have q3 := sameQ_p (s := 0) (t := 0) (k := 9) (m := tk (pq (eiV 4) 3) (p - 1)) (ht_tk (c4_h (p := p - 1) (by omega))) (by decide) (by rw [tk_len]; omega)
 rw [decide_eq_true ⟨rfl, rfl⟩] at q1 q2 q3
 have c8 := ssub_p (both_tk (s := 0) (t := 0) (f := pq (eiV 4) 3) (g := pq (eiV 6) 2) (n := p) (m := p) (K := 9) (c4_h (by omega)) (fun i hi => p6_h (by decide) (by omega)) (by decide) (by decide) (by decide) (by decide) (by omega) (by omega)) (by decide)
 have hn1 : pq (eiV 4) 3 1 + -1 * pq (eiV 6) 2 1 ≠ 0 := by
  rw [id1 (i := 0) (by decide), dV_0, Rat.mul_one]
  exact ne1728
 rw [comb_00 id0 hn1 p0 (by omega), tk_congr (g := fun i => 1728 * dV i) fun i hi => id1 (by omega)] at c8
 have c9 : PC Tryz.prog 39 [iV 1728] (encQ 1728) := q_p 1728 (by decide) (by decide)
 have ca := sscl_tk (c := 1728) (s := 1) (f := dV) (n := p - 1) (K := 9) ht1728 ne1728 (by decide) (by decide) dV_ne d_h9 (by decide) (by decide) (by omega)
 have cb := smul_tk (s := -1) (t := 1) (f := jV) (g := dV) (n := p) (m := p - 1) (K := 9) (by decide) (by decide) jV_ne dV_ne (j_h9 (by omega)) d_h9 (by decide) (by decide) (by decide) (by decide) (by omega) (by omega)
 rw [show min p (p - 1) = p - 1 by omega, tk_congr (g := pq (eiV 4) 3) fun i hi => id2 (by omega)] at cb
 have cc := scut_tk (s := 0) (p := (p : Int) - 1) (f := pq (eiV 4) 3) (n := p - 1) (K := 9) (by decide) (by decide) (pq_ne (eiV_ne rfl) 3) (c4_h (by omega)) (by decide) (by decide) (by omega) (by omega) (by omega)
 rw [show min (p - 1) ((p : Int) - 1 - 0).toNat = p - 1 by omega] at cc
 have cd := scut_tk (s := 0) (p := (p : Int) - 1) (f := pq (eiV 4) 3) (n := p) (K := 9) (by decide) (by decide) (pq_ne (eiV_ne rfl) 3) (c4_h (by omega)) (by decide) (by decide) (by omega) (by omega) (by omega)
 rw [show min p ((p : Int) - 1 - 0).toNat = p - 1 by omega] at cd
 obtain ⟨g, xs, g', xs', e2⟩ := isV_cells (isV_encQ ht1728)
 rw [e2] at c9 ca
 exact disc_core p0 p1 l39awake_p c1 c2 c3 c4 c5 c6 c7 q1 c8 c9 ca cb cc cd q2 q3
theorem leveloneDiscriminant_p (p : Int) (p0 : -9223372036854775808 ≤ p) (p1 : p ≤ 9223372036854775807) : PC Tryz.prog 7 [iV p] (bV true) := by
  have aw := l39awake_p
  cases h1 : decide (p < 2) with
  | true =>
    refine pc_body1 true Tryz.func7 rfl rfl rfl (Nat.le_of_ble_eq_true rfl) CellT.tmp ?_
    refine goA ?_
    refine evG ggA (ss_call (InB_of rfl) rfl rfl aw) ?_
    refine goA ?_
    exact rfl
  | false =>
  cases h2 : decide (p > 30) with
  | true =>
    refine pc_body1 true Tryz.func7 rfl rfl rfl (Nat.le_of_ble_eq_true rfl) CellT.tmp ?_
    refine goA ?_
    refine evG ggA (ss_call (InB_of rfl) rfl rfl aw) ?_
    refine goA ?_
    exact rfl
  | false =>
  have := of_decide_eq_false h1
  have := of_decide_eq_false h2
  obtain ⟨a, rfl⟩ : ∃ a : Nat, p = a := ⟨p.toNat, by omega⟩
  exact discIn_p (by omega) (by omega)
end Ab
