/- The statement SeriesPrecision: its walk. -/
import Derived.Test.YtmcfohngblbpbaaPreN
import Derived.Test.YtmcfohngblbpbaaRing
import Derived.Test.YtmcfohngblbpbaaRefP
namespace Ab
open Go Go.RowKit Go.Proofs Hp
set_option maxRecDepth 100000

theorem agg_two : AggT Try.prog 57 6 := aggT_of (by kernel_rfl)
theorem fld_two0 : FieldAt Try.prog 57 0 0 := fieldAt_of (by kernel_rfl)
theorem fld_two1 : FieldAt Try.prog 57 1 2 := fieldAt_of (by kernel_rfl)
theorem fld_two2 : FieldAt Try.prog 57 2 4 := fieldAt_of (by kernel_rfl)
theorem fld_two3 : FieldAt Try.prog 57 3 5 := fieldAt_of (by kernel_rfl)
def twoA (s : Int) (es : List AV) (t : Int) (fs : List AV) (M N : Int) : AV := .agg [.p (.int .i64 s), .sl es, .p (.int .i64 t), .sl fs, .p (.int .i64 M), .p (.int .i64 N)]
theorem twocut_p {s t M N u w : Int} {es fs C D : List AV} (c1 : PC Try.prog 65 [serA s es, .p (.int .i64 M)] (.tup [serA u C, .p (.int .i64 0)])) (c2 : PC Try.prog 65 [serA t fs, .p (.int .i64 N)] (.tup [serA w D, .p (.int .i64 0)])) : PC Try.prog 29 [twoA s es t fs M N] (.tup [serA u C, serA w D, .p (.bool true)]) := by
  refine pc_body3 true Try.func29 rfl rfl rfl (Nat.le_of_ble_eq_true rfl) (CellT.agg agg_ser) (CellT.agg agg_ser) CellT.tmp ?_
  refine goA ?_
  refine evG ggA (ss_field_ptr (InB_of rfl) fld_two0 rfl) ?_
  refine goA ?_
  refine evG ggA (ss_field_ptr (InB_of rfl) fld_two2 rfl) ?_
  refine goA ?_
  refine evG ggA (ss_call (InB_of rfl) rfl rfl c1) ?_
  refine goA ?_
  refine evG ggA (ss_field_ptr (InB_of rfl) fld_two1 rfl) ?_
  refine goA ?_
  refine evG ggA (ss_field_ptr (InB_of rfl) fld_two3 rfl) ?_
  refine goA ?_
  refine evG ggA (ss_call (InB_of rfl) rfl rfl c2) ?_
  refine goA ?_
  exact rfl
/-- the law -/
theorem inv_none {u : Int} (h : ValidP u 0 = true) : invT u [] = (0, [], 18) := by unfold invT; rw [show ([] : List Rat).length = 0 from rfl, h]; rfl
set_option maxHeartbeats 8000000 in
theorem precision_p (a b : Ser) (M N : Int) (ha : SerOK a) (hb : SerOK b) (m0 : -9223372036854775808 ≤ M) (m1 : M ≤ 9223372036854775807) (n0 : -9223372036854775808 ≤ N) (n1 : N ≤ 9223372036854775807) : PC Try.prog 6 [twoA a.from' (a.coef.map rawA) b.from' (b.coef.map rawA) M N] (.p (.bool true)) := by
  have ci := inner_p [pr a, pr b] (fun x hx => by
    simp at hx
    rcases hx with rfl | rfl
    · exact pr_ok ha
    · exact pr_ok hb) (Nat.le_of_ble_eq_true rfl)
  have aw := awake_p
  unfold pr at ci
  cases hi : [pr a, pr b].all inn with
  | false =>
    unfold pr at hi
    rw [hi] at ci
    clear hi ha hb
    generalize a.coef.map rawA = es at *
    generalize a.from' = s at *
    generalize b.coef.map rawA = fs at *
    generalize b.from' = t at *
    refine pc_body1 true Try.func6 rfl rfl rfl (Nat.le_of_ble_eq_true rfl) CellT.tmp ?_
    refine goA ?_
    refine evG ggA (ss_field_ptr (InB_of rfl) fld_two0 rfl) ?_
    refine goA ?_
    refine evG ggA (ss_field_ptr (InB_of rfl) fld_two1 rfl) ?_
    refine goA ?_
    refine evG ggA (ss_bslice (InB_of rfl) (make_tab rfl) rfl rfl rfl rfl (ones_ok rfl) (Nat.le_of_ble_eq_true rfl)) ?_
    refine evG ggA (ss_call (InB_of rfl) rfl rfl ci) ?_
    refine goA ?_
    refine evG ggA (ss_call (InB_of rfl) rfl rfl aw) ?_
    refine goA ?_
    exact rfl
  | true =>
  have hi2 : inn (pr a) = true ∧ inn (pr b) = true := by simpa using hi
  unfold pr at hi
  rw [hi] at ci
  have ga := good ha hi2.1
  have gb := good hb hi2.2
  have ia := ga.in12
  have ib := gb.in12
  have la := ga.isL
  have lb := gb.isL
  have ra := ga.r
  have rb := gb.r
  have hle := ga.len
  have hlf := gb.len
  clear hi hi2 ga gb ha hb
  generalize a.coef.map ratO = l at *
  generalize b.coef.map ratO = m at *
  generalize a.coef.map rawA = es at *
  generalize a.from' = s at *
  generalize b.coef.map rawA = fs at *
  generalize b.from' = t at *
  by_cases k0 : -8 ≤ M
  case neg =>
    have b0 : decide (M < -8) = true := by simp; omega
    clear ia ib la lb ra rb hle hlf
    refine pc_body1 true Try.func6 rfl rfl rfl (Nat.le_of_ble_eq_true rfl) CellT.tmp ?_
    refine goA ?_
    refine evG ggA (ss_field_ptr (InB_of rfl) fld_two0 rfl) ?_
    refine goA ?_
    refine evG ggA (ss_field_ptr (InB_of rfl) fld_two1 rfl) ?_
    refine goA ?_
    refine evG ggA (ss_bslice (InB_of rfl) (make_tab rfl) rfl rfl rfl rfl (ones_ok rfl) (Nat.le_of_ble_eq_true rfl)) ?_
    refine evG ggA (ss_call (InB_of rfl) rfl rfl ci) ?_
    refine goA ?_
    refine evG ggA (ss_field_ptr (InB_of rfl) fld_two2 rfl) ?_
    refine goA ?_
    refine evG ggA (ss_call (InB_of rfl) rfl rfl aw) ?_
    refine goA ?_
    exact rfl
  by_cases k1 : -8 ≤ N
  case neg =>
    have b1 : decide (N < -8) = true := by simp; omega
    have b0 : decide (M < -8) = false := by simp; omega
    clear ia ib la lb ra rb hle hlf
    refine pc_body1 true Try.func6 rfl rfl rfl (Nat.le_of_ble_eq_true rfl) CellT.tmp ?_
    refine goA ?_
    refine evG ggA (ss_field_ptr (InB_of rfl) fld_two0 rfl) ?_
    refine goA ?_
    refine evG ggA (ss_field_ptr (InB_of rfl) fld_two1 rfl) ?_
    refine goA ?_
    refine evG ggA (ss_bslice (InB_of rfl) (make_tab rfl) rfl rfl rfl rfl (ones_ok rfl) (Nat.le_of_ble_eq_true rfl)) ?_
    refine evG ggA (ss_call (InB_of rfl) rfl rfl ci) ?_
    refine goA ?_
    refine evG ggA (ss_field_ptr (InB_of rfl) fld_two2 rfl) ?_
    refine goA ?_
    refine evG ggA (ss_field_ptr (InB_of rfl) fld_two3 rfl) ?_
    refine goA ?_
    refine evG ggA (ss_call (InB_of rfl) rfl rfl aw) ?_
    refine goA ?_
    exact rfl
  have b0 : decide (M < -8) = false := by simp; omega
  have b1 : decide (N < -8) = false := by simp; omega
  obtain ⟨ca, ea⟩ := cut_cu ia k0
  obtain ⟨cb, eb⟩ := cut_cu ib k1
  have p1 := cutx_p (fun _ => la) hle ra (by decide) m0 m1
  have p2 := cutx_p (fun _ => lb) hlf rb (by decide) n0 n1
  rw [ea] at p1
  rw [eb] at p2
  generalize cutS s l M = uc at *
  generalize cutS t m N = wd at *
  obtain ⟨u, c⟩ := uc
  obtain ⟨w, d⟩ := wd
  simp only at ca cb
  have ptw : PC Try.prog 29 [twoA s es t fs M N] (.tup [serA u (c.map encQ), serA w (d.map encQ), .p (.bool true)]) := twocut_p p1 p2
  obtain ⟨x1, e1, g1, v1⟩ := mul_mu ca.b cb.b (by decide) (by decide) (by decide)
  obtain ⟨x2, e2, g2, v2⟩ := mul_mu ia.bd ib.bd (by decide) (by decide) (by decide)
  obtain ⟨y1, f1, g3, v3⟩ := comb_co (d := 1) ca.b cb.b (by decide) (by decide) (by decide)
  obtain ⟨y2, f2, g4, v4⟩ := comb_co (d := 1) ia.bd ib.bd (by decide) (by decide) (by decide)
  obtain ⟨l1, h1⟩ := mu_cut ca cb g1 g2
  obtain ⟨l2, h2⟩ := co_cut ca cb g3 g4
  have k4 : (4 : Nat) ≤ 3000 := by decide
  have pm1 := mul_p (s := u) (t := w) (both_mk (isL_enc ca.b.ht) (isL_enc cb.b.ht) (inR_enc ca.b.v) (inR_enc cb.b.v)) (by decide)
  have pm2 := mul_p (both_mk la lb ra rb) (by decide)
  have pa1 := add_p (s := u) (t := w) (both_mk (isL_enc ca.b.ht) (isL_enc cb.b.ht) (inR_enc ca.b.v) (inR_enc cb.b.v)) (by decide)
  have pa2 := add_p (both_mk la lb ra rb) (by decide)
  have q1 := agree_p (s := x1) (t := x2) (both_mk (isL_enc v1.ht) (isL_enc v2.ht) (inR_enc v1.v) (inR_enc v2.v)) (by decide)
  have q2 := agree_p (s := y1) (t := y2) (both_mk (isL_enc v3.ht) (isL_enc v4.ht) (inR_enc v3.v) (inR_enc v4.v)) (by decide)
  rw [g1.e] at pm1
  rw [g2.e] at pm2
  rw [g3.e] at pa1
  rw [g4.e] at pa2
  rw [agr_true v1.v v2.v fun n hn _ => h1 n hn] at q1
  rw [agr_true v3.v v4.v fun n hn _ => h2 n hn] at q2
  have hpr : ∀ {x : Int} {e : List Rat}, ValidP x e.length = true → PC Try.prog 30 [serA x (e.map encQ)] (.p (.int .i64 (x + (e.map encQ).length))) := fun {x e} hv => by
    obtain ⟨z0, z1, z2⟩ := valid_iff.1 hv
    exact rprec_p z0 z1 (by rw [List.length_map]; exact z2)
  have r1 := hpr v1.v
  have r2 := hpr v2.v
  have r3 := hpr v3.v
  have r4 := hpr v4.v
  have d1 : decide (x1 + ((e1.map encQ).length : Int) > x2 + ((e2.map encQ).length : Int)) = false := by simp; omega
  have d2 : decide (y1 + ((f1.map encQ).length : Int) > y2 + ((f2.map encQ).length : Int)) = false := by simp; omega
  have pi1 := inv_p (s := u) (fun _ => ⟨isL_enc ca.b.ht, by have := ca.b.n; omega⟩) (by simp) (inR_enc ca.b.v) (show 1 ≤ 4 ∧ 4 ≤ 100 by decide)
  by_cases hc : c = []
  · subst hc
    have hva := ca.b.v
    obtain ⟨z0, z1, z2⟩ := valid_iff.1 hva
    have co := rord_p (s := u) (es := ([] : List Rat).map encQ) (l := []) (K := 4) trivial (by decide) z0 z1 (by simpa using z2)
    have cp := hpr hva
    have hb9 : (u + ((lead ([] : List Rat) : Nat) : Int) == u + (((([] : List Rat).map encQ).length : Nat) : Int)) = true := by simp [lead]
    rw [inv_none hva] at pi1
    clear p1 p2 ca cb g1 g2 g3 g4 v1 v2 v3 v4 hpr l1 l2 h1 h2 ia ib la lb ra rb ea eb
    refine pc_body1 true Try.func6 rfl rfl rfl (Nat.le_of_ble_eq_true rfl) CellT.tmp ?_
    refine goA ?_
    refine evG ggA (ss_field_ptr (InB_of rfl) fld_two0 rfl) ?_
    refine goA ?_
    refine evG ggA (ss_field_ptr (InB_of rfl) fld_two1 rfl) ?_
    refine goA ?_
    refine evG ggA (ss_bslice (InB_of rfl) (make_tab rfl) rfl rfl rfl rfl (ones_ok rfl) (Nat.le_of_ble_eq_true rfl)) ?_
    refine evG ggA (ss_call (InB_of rfl) rfl rfl ci) ?_
    refine goA ?_
    refine evG ggA (ss_field_ptr (InB_of rfl) fld_two2 rfl) ?_
    refine goA ?_
    refine evG ggA (ss_field_ptr (InB_of rfl) fld_two3 rfl) ?_
    refine goA ?_
    refine evG ggA (ss_load_vagg (InB_of rfl) agg_two rfl rfl rfl rfl) ?_
    refine evG ggA (ss_call (InB_of rfl) rfl rfl ptw) ?_
    refine goA ?_
    refine evG ggA (ss_call (InB_of rfl) rfl rfl pm1) ?_
    refine goA ?_
    refine evG ggA (ss_field_ptr (InB_of rfl) fld_two0 rfl) ?_
    refine goA ?_
    refine evG ggA (ss_field_ptr (InB_of rfl) fld_two1 rfl) ?_
    refine goA ?_
    refine evG ggA (ss_call (InB_of rfl) rfl rfl pm2) ?_
    refine goA ?_
    refine evG ggA (ss_call (InB_of rfl) rfl rfl pa1) ?_
    refine goA ?_
    refine evG ggA (ss_field_ptr (InB_of rfl) fld_two0 rfl) ?_
    refine goA ?_
    refine evG ggA (ss_field_ptr (InB_of rfl) fld_two1 rfl) ?_
    refine goA ?_
    refine evG ggA (ss_call (InB_of rfl) rfl rfl pa2) ?_
    refine goA ?_
    refine evG ggA (ss_call (InB_of rfl) rfl rfl q1) ?_
    refine goA ?_
    refine evG ggA (ss_call (InB_of rfl) rfl rfl q2) ?_
    refine goA ?_
    refine evG ggA (ss_call (InB_of rfl) rfl rfl r1) ?_
    refine goA ?_
    refine evG ggA (ss_call (InB_of rfl) rfl rfl r2) ?_
    refine goA ?_
    refine evG ggA (ss_call (InB_of rfl) rfl rfl r3) ?_
    refine goA ?_
    refine evG ggA (ss_call (InB_of rfl) rfl rfl r4) ?_
    refine goA ?_
    refine evG ggA (ss_call (InB_of rfl) rfl rfl pi1) ?_
    refine goA ?_
    refine evG ggA (ss_call (InB_of rfl) rfl rfl co) ?_
    refine goA ?_
    refine evG ggA (ss_call (InB_of rfl) rfl rfl cp) ?_
    refine goA ?_
    refine evG ggA (ss_call (InB_of rfl) rfl rfl aw) ?_
    refine goA ?_
    exact rfl
  · obtain ⟨j1, o1, j2, o2, i1, i2, w1, w2, t1, t2, lj, hag⟩ := inv_cut ia ca hc
    have pi2 := inv_p (fun _ => ⟨la, by have := ia.n; omega⟩) hle ra (show 1 ≤ 4 ∧ 4 ≤ 100 by decide)
    rw [i1] at pi1
    rw [i2] at pi2
    have q3 := agree_p (s := j1) (t := j2) (both_mk (isL_enc t1) (isL_enc t2) (inR_enc w1) (inR_enc w2)) (by decide)
    rw [hag] at q3
    have r5 := hpr w1
    have r6 := hpr w2
    have d3 : decide (j1 + ((o1.map encQ).length : Int) ≤ j2 + ((o2.map encQ).length : Int)) = true := by simp; omega
    clear p1 p2 ca cb g1 g2 g3 g4 v1 v2 v3 v4 hpr l1 l2 h1 h2 ia ib la lb ra rb ea eb i1 i2 w1 w2 t1 t2 lj hag hc
    refine pc_body1 true Try.func6 rfl rfl rfl (Nat.le_of_ble_eq_true rfl) CellT.tmp ?_
    refine goA ?_
    refine evG ggA (ss_field_ptr (InB_of rfl) fld_two0 rfl) ?_
    refine goA ?_
    refine evG ggA (ss_field_ptr (InB_of rfl) fld_two1 rfl) ?_
    refine goA ?_
    refine evG ggA (ss_bslice (InB_of rfl) (make_tab rfl) rfl rfl rfl rfl (ones_ok rfl) (Nat.le_of_ble_eq_true rfl)) ?_
    refine evG ggA (ss_call (InB_of rfl) rfl rfl ci) ?_
    refine goA ?_
    refine evG ggA (ss_field_ptr (InB_of rfl) fld_two2 rfl) ?_
    refine goA ?_
    refine evG ggA (ss_field_ptr (InB_of rfl) fld_two3 rfl) ?_
    refine goA ?_
    refine evG ggA (ss_load_vagg (InB_of rfl) agg_two rfl rfl rfl rfl) ?_
    refine evG ggA (ss_call (InB_of rfl) rfl rfl ptw) ?_
    refine goA ?_
    refine evG ggA (ss_call (InB_of rfl) rfl rfl pm1) ?_
    refine goA ?_
    refine evG ggA (ss_field_ptr (InB_of rfl) fld_two0 rfl) ?_
    refine goA ?_
    refine evG ggA (ss_field_ptr (InB_of rfl) fld_two1 rfl) ?_
    refine goA ?_
    refine evG ggA (ss_call (InB_of rfl) rfl rfl pm2) ?_
    refine goA ?_
    refine evG ggA (ss_call (InB_of rfl) rfl rfl pa1) ?_
    refine goA ?_
    refine evG ggA (ss_field_ptr (InB_of rfl) fld_two0 rfl) ?_
    refine goA ?_
    refine evG ggA (ss_field_ptr (InB_of rfl) fld_two1 rfl) ?_
    refine goA ?_
    refine evG ggA (ss_call (InB_of rfl) rfl rfl pa2) ?_
    refine goA ?_
    refine evG ggA (ss_call (InB_of rfl) rfl rfl q1) ?_
    refine goA ?_
    refine evG ggA (ss_call (InB_of rfl) rfl rfl q2) ?_
    refine goA ?_
    refine evG ggA (ss_call (InB_of rfl) rfl rfl r1) ?_
    refine goA ?_
    refine evG ggA (ss_call (InB_of rfl) rfl rfl r2) ?_
    refine goA ?_
    refine evG ggA (ss_call (InB_of rfl) rfl rfl r3) ?_
    refine goA ?_
    refine evG ggA (ss_call (InB_of rfl) rfl rfl r4) ?_
    refine goA ?_
    refine evG ggA (ss_call (InB_of rfl) rfl rfl pi1) ?_
    refine goA ?_
    refine evG ggA (ss_field_ptr (InB_of rfl) fld_two0 rfl) ?_
    refine goA ?_
    refine evG ggA (ss_call (InB_of rfl) rfl rfl pi2) ?_
    refine goA ?_
    refine evG ggA (ss_call (InB_of rfl) rfl rfl q3) ?_
    refine goA ?_
    refine evG ggA (ss_call (InB_of rfl) rfl rfl r5) ?_
    refine goA ?_
    refine evG ggA (ss_call (InB_of rfl) rfl rfl r6) ?_
    refine goA ?_
    refine evG ggA (ss_call (InB_of rfl) rfl rfl aw) ?_
    refine goA ?_
    exact rfl
end Ab
