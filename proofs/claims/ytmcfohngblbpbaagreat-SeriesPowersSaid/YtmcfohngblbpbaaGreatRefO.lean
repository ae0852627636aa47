/- Package ref02: Over, Of, Normal, Mul, in abstract values. -/
import Derived.Test.YtmcfohngblbpbaaGreatRefN
namespace Ab
open Go Go.RowKit Go.Proofs Hp
set_option maxRecDepth 100000

abbrev varQ : Blk := .var [.v (.p (.bool false)), .v (.p nilV), .v (.p (.bool false)), .v (.p nilV)]
/-- the divisor with its sign -/
def gsg (n d : Int) : Int := if d < 0 then -((Int.gcd n d : Nat) : Int) else ((Int.gcd n d : Nat) : Int)
theorem gcdZ_def (n d : Int) : gcdZ n d = ((Int.gcd n d : Nat) : Int) := rfl
theorem gsg_ne {n d : Int} (hd : d ≠ 0) : gsg n d ≠ 0 := by
  have : 0 < Int.gcd n d := Int.gcd_pos_of_ne_zero_right _ hd
  unfold gsg
  split <;> omega
theorem gsg_parts {n d : Int} (hd : d ≠ 0) : (Rat.divInt n d).num = n / gsg n d ∧ ((Rat.divInt n d).den : Int) = d / gsg n d := by
  by_cases h : d < 0
  · have e : Rat.divInt n d = Rat.divInt (-n) (-d) := (Rat.neg_divInt_neg n d).symm
    have hp := divInt_parts (n := -n) (d := -d) (by omega)
    rw [e, hp.1, hp.2, gcdZ_def, Int.gcd_neg, Int.neg_gcd]
    unfold gsg
    rw [if_pos h, Int.ediv_neg, Int.ediv_neg, Int.neg_ediv_of_dvd (Int.gcd_dvd_left n d), Int.neg_ediv_of_dvd (Int.gcd_dvd_right n d)]
    exact ⟨rfl, rfl⟩
  · have hp := divInt_parts (n := n) (d := d) (by omega)
    unfold gsg
    rw [if_neg h]
    exact hp
theorem gsg_lt {n d : Int} {k : Nat} (hd : d ≠ 0) (h : d.natAbs < pw k) : (gsg n d).natAbs < pw k := by
  have h1 : Int.gcd n d ≤ d.natAbs := Nat.gcd_le_right _ (by omega)
  have : (gsg n d).natAbs = Int.gcd n d := by unfold gsg; split <;> omega
  omega
theorem ri_iff {x y : Int} : decide (ri x = ri y) = decide (x = y) := by
  rw [decide_eq_decide]
  exact ⟨ri_inj, fun h => by rw [h]⟩
theorem refof2_p (x : Int) (h0 : -9223372036854775808 ≤ x) (h1 : x ≤ 9223372036854775807) : PW Tryz.prog 107 [.p (.int .i64 x)] (encQ (x : Rat)) := by
  have c1 := refof_p x h0 h1
  have c2 := refof_p 1 (by decide) (by decide)
  have e : encQ (x : Rat) = .agg (ci x ++ ci 1) := by unfold encQ; rw [Rat.num_intCast, Rat.den_intCast]; rfl
  rw [e]
  unfold encI at c1 c2
  refine pc_body1 false Tryz.func107 rfl rfl rfl (Nat.le_of_ble_eq_true rfl) (CellT.agg agg_rat) ?_
  refine goA ?_
  refine evG ggA (ss_call (InB_of rfl) rfl rfl c1) ?_
  refine evG ggA (ss_call (InB_of rfl) rfl rfl c2) ?_
  refine goA ?_
  exact rfl
set_option maxHeartbeats 4000000 in
theorem over_p {a b : AV} {k : Nat} {n d : Int} (ha : IsI a k n) (hb : IsI b k d) (hk : k ≤ 274877906944) : PW Tryz.prog 89 [a, b] (encQ (Rat.divInt n d)) := by
  have cs := refsign_p hb (by omega)
  by_cases h0 : d = 0
  · have hb0 : (sgn d == 0) = true := by rw [h0]; rfl
    have co := refof2_p 0 (by decide) (by decide)
    have e : Rat.divInt n d = ((0 : Int) : Rat) := by rw [h0, Rat.divInt_zero]; rfl
    rw [e]
    obtain ⟨cs', rfl, g, ds, rfl, -⟩ := ha
    obtain ⟨cs', rfl, g', ds', rfl, -⟩ := hb
    unfold encQ at co ⊢
    refine pc_body1 false Tryz.func89 rfl rfl rfl (Nat.le_of_ble_eq_true rfl) (CellT.agg agg_rat) ?_
    refine goA ?_
    refine evG ggA (ss_call (InB_of rfl) rfl rfl cs) ?_
    refine goA ?_
    refine evG ggA (ss_call (InB_of rfl) rfl rfl co) ?_
    refine goA ?_
    exact rfl
  have hb0 : (sgn d == 0) = false := by
    unfold sgn
    by_cases h1 : d < 0
    · rw [if_pos h1]; rfl
    · rw [if_neg h1, if_pos (show 0 < d by omega)]; rfl
  have hbs : decide (sgn d < 0) = decide (d < 0) := by
    unfold sgn
    by_cases h1 : d < 0
    · rw [if_pos h1]; simp [h1]
    · rw [if_neg h1, if_pos (show 0 < d by omega)]; simp [h1]
  have cg := refgcd_p ha hb hk
  have hlt := isI_lt hb
  have hgl := gsg_lt (n := n) h0 hlt
  have hgn := gsg_ne (n := n) h0
  have hGl : ((Int.gcd n d : Nat) : Int).natAbs < pw k := by
    have h1 : Int.gcd n d ≤ d.natAbs := Nat.gcd_le_right _ (by omega)
    rw [Int.natAbs_natCast]
    omega
  have cn := refneg_p (isI_encI hGl) (by omega)
  have cof := refof_p 1 (by decide) (by decide)
  have csm := refsame_p (ri (gsg n d)) (ri 1) (by
    have : (dgs (gsg n d).natAbs).length ≤ k := dgs_len hgl
    show (dgs (gsg n d).natAbs).length ≤ _
    omega)
  rw [ri_iff] at csm
  have cn1 := rnorm_p ha (by omega)
  have cn2 := rnorm_p hb (by omega)
  have cd1 := refdivided_p ha (isI_encI hgl) hgn hk
  have cd2 := refdivided_p hb (isI_encI hgl) hgn hk
  obtain ⟨q1, q2⟩ := gsg_parts (n := n) h0
  have e : encQ (Rat.divInt n d) = .agg (ci (n / gsg n d) ++ ci (d / gsg n d)) := by unfold encQ; rw [q1, q2]
  rw [e]
  have hgd : gsg n d = if d < 0 then -((Int.gcd n d : Nat) : Int) else ((Int.gcd n d : Nat) : Int) := rfl
  have csm' : PW Tryz.prog 94 [encI (gsg n d), encI 1] (.p (.bool (decide (gsg n d = 1)))) := csm
  clear csm
  generalize gsg n d = G at *
  generalize ((Int.gcd n d : Nat) : Int) = g0 at *
  obtain ⟨cs', rfl, g, ds, rfl, -⟩ := ha
  obtain ⟨cs', rfl, g', ds', rfl, -⟩ := hb
  unfold encI at cg cn cof csm' cn1 cn2 cd1 cd2
  unfold ci at cg cn cof csm' cd1 cd2
  refine pc_body1 false Tryz.func89 rfl rfl rfl (Nat.le_of_ble_eq_true rfl) (CellT.agg agg_rat) ?_
  refine r1A ?_
  refine T.seqI (fun s1 => s1 = mkS [(2, .ptr 2 0), (3, .ptr 3 0), (4, .ptr 4 0)] [(2, .var [.v (.p (.bool g)), .v (.sl (ds.map u32))]), (3, .var [.v (.p (.bool g')), .v (.sl (ds'.map u32))]), (4, varQ)] 33 false) ?_ ?_
  · refine goA ?_
    refine evG ggA (ss_call (InB_of rfl) rfl rfl cs) ?_
    refine goA ?_
    exact midQ_intro (by exact entA) rfl
  rintro _ rfl
  refine T.seqI (fun s1 => s1 = mkS [(2, .ptr 2 0), (3, .ptr 3 0), (4, .ptr 4 0), (5, .ptr 5 0)] [(2, .var [.v (.p (.bool g)), .v (.sl (ds.map u32))]), (3, .var [.v (.p (.bool g')), .v (.sl (ds'.map u32))]), (4, varQ), (5, .var [.v (.p (.bool (decide (g0 < 0)))), .v (.sl ((dgs g0.natAbs).map u32))])] 33 false) ?_ ?_
  · refine goA ?_
    refine evG ggA (ss_call (InB_of rfl) rfl rfl cg) ?_
    refine goA ?_
    exact midQ_intro (by exact entA) rfl
  rintro _ rfl
  refine T.seqI (fun s1 => s1 = mkS [(2, .ptr 2 0), (3, .ptr 3 0), (4, .ptr 4 0), (5, .ptr 5 0)] [(2, .var [.v (.p (.bool g)), .v (.sl (ds.map u32))]), (3, .var [.v (.p (.bool g')), .v (.sl (ds'.map u32))]), (4, varQ), (5, .var [.v (.p (.bool (decide (G < 0)))), .v (.sl ((dgs G.natAbs).map u32))])] 33 false) ?_ ?_
  · by_cases h1 : d < 0
    · rw [decide_eq_true h1] at hbs
      rw [if_pos h1] at hgd
      subst hgd
      refine goA ?_
      refine evG ggA (ss_call (InB_of rfl) rfl rfl cs) ?_
      refine goA ?_
      refine evG ggA (ss_call (InB_of rfl) rfl rfl cn) ?_
      refine goA ?_
      exact midQ_intro (by exact entA) rfl
    · rw [decide_eq_false h1] at hbs
      rw [if_neg h1] at hgd
      subst hgd
      refine goA ?_
      refine evG ggA (ss_call (InB_of rfl) rfl rfl cs) ?_
      refine goA ?_
      exact midQ_intro (by exact entA) rfl
  rintro _ rfl
  by_cases h2 : G = 1
  · subst h2
    rw [decide_eq_true rfl] at csm'
    rw [Int.ediv_one, Int.ediv_one]
    refine goA ?_
    refine evG ggA (ss_call (InB_of rfl) rfl rfl cof) ?_
    refine evG ggA (ss_call (InB_of rfl) rfl rfl csm') ?_
    refine goA ?_
    refine evG ggA (ss_call (InB_of rfl) rfl rfl cn1) ?_
    refine goA ?_
    refine evG ggA (ss_call (InB_of rfl) rfl rfl cn2) ?_
    refine goA ?_
    exact rfl
  · rw [decide_eq_false h2] at csm'
    refine goA ?_
    refine evG ggA (ss_call (InB_of rfl) rfl rfl cof) ?_
    refine evG ggA (ss_call (InB_of rfl) rfl rfl csm') ?_
    refine goA ?_
    refine evG ggA (ss_call (InB_of rfl) rfl rfl cd1) ?_
    refine goA ?_
    refine evG ggA (ss_call (InB_of rfl) rfl rfl cd2) ?_
    refine goA ?_
    exact rfl
theorem refnormal_p {a : AV} {k : Nat} {q : Rat} (h : IsV a k q) (hk : k ≤ 274877906944) : PW Tryz.prog 88 [a] (encQ q) := by
  obtain ⟨cs, ds, p, d, rfl, h1, h2, rfl⟩ := h
  have c := over_p ⟨cs, rfl, h1⟩ ⟨ds, rfl, h2⟩ hk
  obtain ⟨g, l, rfl, -⟩ := h1
  obtain ⟨g', l', rfl, -⟩ := h2
  unfold encQ at c ⊢
  refine pc_body1 false Tryz.func88 rfl rfl rfl (Nat.le_of_ble_eq_true rfl) (CellT.agg agg_rat) ?_
  refine goA ?_
  refine evG ggA (ss_call (InB_of rfl) rfl rfl c) ?_
  refine goA ?_
  exact rfl
theorem lt_mul {x y : Int} {k l : Nat} (hx : x.natAbs < pw k) (hy : y.natAbs < pw l) : (x * y).natAbs < pw (k + l) := by
  rw [pw_nat] at hx hy ⊢
  rw [Int.natAbs_mul, Nat.pow_add]
  have := Nat.mul_lt_mul'' (show x.natAbs < 4294967296 ^ k by omega) (show y.natAbs < 4294967296 ^ l by omega)
  omega
theorem refmul2_p {a b : AV} {k l : Nat} {p q : Rat} (ha : IsV a k p) (hb : IsV b l q) (hk : k + l ≤ 274877906944) : PW Tryz.prog 55 [a, b] (encQ (p * q)) := by
  obtain ⟨cs, ds, n1, d1, rfl, h1, h2, rfl⟩ := ha
  obtain ⟨es, fs, n2, d2, rfl, h3, h4, rfl⟩ := hb
  have c1 := refmul_p ⟨cs, rfl, h1⟩ ⟨es, rfl, h3⟩ (by omega) (by omega)
  have c2 := refmul_p ⟨ds, rfl, h2⟩ ⟨fs, rfl, h4⟩ (by omega) (by omega)
  have c3 := over_p (isI_encI (lt_mul (isC_lt h1) (isC_lt h3))) (isI_encI (lt_mul (isC_lt h2) (isC_lt h4))) hk
  rw [Rat.divInt_mul_divInt]
  obtain ⟨g, x, rfl, -⟩ := h1
  obtain ⟨g', x', rfl, -⟩ := h2
  obtain ⟨j, y, rfl, -⟩ := h3
  obtain ⟨j', y', rfl, -⟩ := h4
  unfold encI at c1 c2 c3
  unfold encQ at c3 ⊢
  refine pc_body1 false Tryz.func55 rfl rfl rfl (Nat.le_of_ble_eq_true rfl) (CellT.agg agg_rat) ?_
  refine goA ?_
  refine evG ggA (ss_call (InB_of rfl) rfl rfl c1) ?_
  refine goA ?_
  refine evG ggA (ss_call (InB_of rfl) rfl rfl c2) ?_
  refine evG ggA (ss_call (InB_of rfl) rfl rfl c3) ?_
  refine goA ?_
  exact rfl
end Ab
