/- Package ref01: Add, Sub, Euclid, in abstract values. -/
import Derived.Test.YtmcfohngblbpbaaGreatRefI
namespace Ab
open Go Go.RowKit Go.Proofs Hp
set_option maxRecDepth 100000

theorem isI_lt {a : AV} {k : Nat} {z : Int} (h : IsI a k z) : z.natAbs < pw k := by
  obtain ⟨cs, rfl, h⟩ := h
  exact isC_lt h
theorem isI_len {a : AV} {k : Nat} {z : Int} (h : IsI a k z) : (dgs z.natAbs).length ≤ k := dgs_len (isI_lt h)
theorem isI_mono {a : AV} {k l : Nat} {z : Int} (h : IsI a k z) (hk : k ≤ l) : IsI a l z := by
  obtain ⟨cs, h1, h2⟩ := h
  exact ⟨cs, h1, isC_mono h2 hk⟩
theorem encI_nat (n : Nat) : encI (n : Int) = .agg [.p (.bool false), .sl ((dgs n).map u32)] := by
  unfold encI ci
  rw [Int.natAbs_natCast, show decide ((n : Int) < 0) = false by simp]
set_option maxHeartbeats 2000000 in
theorem refadd_p {a b : AV} {k : Nat} {p q : Int} (ha : IsI a k p) (hb : IsI b k q) (hk : k ≤ 8796093022208) : PW Tryz.prog 90 [a, b] (encI (p + q)) := by
  have c1 := rnorm_p ha (by omega)
  have c2 := rnorm_p hb (by omega)
  have lp := isI_len ha
  have lq := isI_len hb
  obtain ⟨cs, rfl, g, ds, rfl, -⟩ := ha
  obtain ⟨cs, rfl, g', ds', rfl, -⟩ := hb
  have dp := dgs_dig (n := p.natAbs)
  have dq := dgs_dig (n := q.natAbs)
  have vp := dgs_vl p.natAbs
  have vq := dgs_vl q.natAbs
  unfold encI ci at c1 c2
  by_cases h1 : (p < 0) = (q < 0)
  · have hb1 : (decide (p < 0) == decide (q < 0)) = true := by simp [h1]
    have c3 := plus_p dp dq (by omega) (by omega)
    have c4 := rsigned_p (g := decide (p < 0)) (plusL_dig dp dq) (Nat.le_refl _) (by rw [plusL_len]; omega)
    have e : zof (decide (p < 0)) (vl (plusL (dgs p.natAbs) (dgs q.natAbs))) = p + q := by
      rw [plusL_vl, vp, vq]
      by_cases h2 : p < 0
      · have : q < 0 := by rw [← h1]; exact h2
        simp [zof, h2]; omega
      · have : ¬ q < 0 := by rw [← h1]; exact h2
        simp [zof, h2]; omega
    rw [e] at c4
    unfold encI at c4 ⊢
    clear dp dq vp vq e lp lq
    refine pc_body1 true Tryz.func90 rfl rfl rfl (Nat.le_of_ble_eq_true rfl) (CellT.agg agg_int) ?_
    refine goA ?_
    refine evG ggA (ss_call (InB_of rfl) rfl rfl c1) ?_
    refine goA ?_
    refine evG ggA (ss_call (InB_of rfl) rfl rfl c2) ?_
    refine goA ?_
    refine evG ggA (ss_call (InB_of rfl) rfl rfl c3) ?_
    refine evG ggA (ss_call (InB_of rfl) rfl rfl c4) ?_
    refine goA ?_
    exact rfl
  · have hb1 : (decide (p < 0) == decide (q < 0)) = false := by
      rw [beq_eq_false_iff_ne]
      intro e
      rw [decide_eq_decide] at e
      exact h1 (propext e)
    have hor : (p < 0 ∧ ¬ q < 0) ∨ (¬ p < 0 ∧ q < 0) := by
      by_cases h2 : p < 0
      · by_cases h3 : q < 0
        · exact absurd (propext ⟨fun _ => h3, fun _ => h2⟩) h1
        · exact .inl ⟨h2, h3⟩
      · by_cases h3 : q < 0
        · exact .inr ⟨h2, h3⟩
        · exact absurd (propext ⟨fun h => absurd h h2, fun h => absurd h h3⟩) h1
    have cbe := below_p p.natAbs q.natAbs (by omega)
    by_cases h2 : p.natAbs < q.natAbs
    · rw [decide_eq_true h2] at cbe
      have c3 := minus_p dq dp (by omega)
      have c4 := rsigned_p (g := decide (q < 0)) (minusL_dig dq dp) (Nat.le_refl _) (by rw [minusL_len]; omega)
      have e : zof (decide (q < 0)) (vl (minusL (dgs q.natAbs) (dgs p.natAbs))) = p + q := by
        rw [minusL_vl dq dp (dgs_mono (by omega)) (by rw [vp, vq]; omega), vp, vq]
        rcases hor with ⟨h3, h4⟩ | ⟨h3, h4⟩
        · simp [zof, h4]; omega
        · simp [zof, h4]; omega
      rw [e] at c4
      unfold encI at c4 ⊢
      clear dp dq vp vq e lp lq h1 hor
      refine pc_body1 true Tryz.func90 rfl rfl rfl (Nat.le_of_ble_eq_true rfl) (CellT.agg agg_int) ?_
      refine goA ?_
      refine evG ggA (ss_call (InB_of rfl) rfl rfl c1) ?_
      refine goA ?_
      refine evG ggA (ss_call (InB_of rfl) rfl rfl c2) ?_
      refine goA ?_
      refine evG ggA (ss_call (InB_of rfl) rfl rfl cbe) ?_
      refine goA ?_
      refine evG ggA (ss_call (InB_of rfl) rfl rfl c3) ?_
      refine evG ggA (ss_call (InB_of rfl) rfl rfl c4) ?_
      refine goA ?_
      exact rfl
    · rw [decide_eq_false h2] at cbe
      have c3 := minus_p dp dq (by omega)
      have c4 := rsigned_p (g := decide (p < 0)) (minusL_dig dp dq) (Nat.le_refl _) (by rw [minusL_len]; omega)
      have e : zof (decide (p < 0)) (vl (minusL (dgs p.natAbs) (dgs q.natAbs))) = p + q := by
        rw [minusL_vl dp dq (dgs_mono (by omega)) (by rw [vp, vq]; omega), vp, vq]
        rcases hor with ⟨h3, h4⟩ | ⟨h3, h4⟩
        · simp [zof, h3]; omega
        · simp [zof, h3]; omega
      rw [e] at c4
      unfold encI at c4 ⊢
      clear dp dq vp vq e lp lq h1 hor
      refine pc_body1 true Tryz.func90 rfl rfl rfl (Nat.le_of_ble_eq_true rfl) (CellT.agg agg_int) ?_
      refine goA ?_
      refine evG ggA (ss_call (InB_of rfl) rfl rfl c1) ?_
      refine goA ?_
      refine evG ggA (ss_call (InB_of rfl) rfl rfl c2) ?_
      refine goA ?_
      refine evG ggA (ss_call (InB_of rfl) rfl rfl cbe) ?_
      refine goA ?_
      refine evG ggA (ss_call (InB_of rfl) rfl rfl c3) ?_
      refine evG ggA (ss_call (InB_of rfl) rfl rfl c4) ?_
      refine goA ?_
      exact rfl
theorem refsub_p {a b : AV} {k : Nat} {p q : Int} (ha : IsI a k p) (hb : IsI b k q) (hk : k ≤ 8796093022208) : PW Tryz.prog 136 [a, b] (encI (p - q)) := by
  have c1 := refneg_p hb (by omega)
  have hlt := isI_lt hb
  have c2 := refadd_p ha (isI_encI (z := -q) (k := k) (by rw [Int.natAbs_neg]; exact hlt)) hk
  rw [← Int.sub_eq_add_neg] at c2
  obtain ⟨cs, rfl, g, ds, rfl, -⟩ := ha
  obtain ⟨cs, rfl, g', ds', rfl, -⟩ := hb
  unfold encI at c1 c2 ⊢
  refine pc_body1 true Tryz.func136 rfl rfl rfl (Nat.le_of_ble_eq_true rfl) (CellT.agg agg_int) ?_
  refine goA ?_
  refine evG ggA (ss_call (InB_of rfl) rfl rfl c1) ?_
  refine goA ?_
  refine evG ggA (ss_call (InB_of rfl) rfl rfl c2) ?_
  refine goA ?_
  exact rfl
theorem zof_neg' (g : Bool) (x : Int) : zof (!g) x = -(zof g x) := zof_not g x
theorem euc_pos {a b : Int} (hb : 0 < b) : a / b = (if a < 0 ∧ a.natAbs % b.natAbs ≠ 0 then -((a.natAbs / b.natAbs : Nat) + 1 : Int) else zof (decide (a < 0)) ((a.natAbs / b.natAbs : Nat) : Int)) ∧ a % b = (if a < 0 ∧ a.natAbs % b.natAbs ≠ 0 then (b.natAbs : Int) - ((a.natAbs % b.natAbs : Nat) : Int) else ((a.natAbs % b.natAbs : Nat) : Int)) := by
  obtain ⟨m, rfl⟩ : ∃ m : Nat, b = m := ⟨b.toNat, by omega⟩
  rw [Int.natAbs_natCast]
  have hd := Nat.div_add_mod a.natAbs m
  have hm : a.natAbs % m < m := Nat.mod_lt _ (by omega)
  have hd' : (m : Int) * ((a.natAbs / m : Nat) : Int) + ((a.natAbs % m : Nat) : Int) = (a.natAbs : Int) := by
    rw [← Int.natCast_mul, ← Int.natCast_add, hd]
  generalize a.natAbs / m = Q at *
  generalize a.natAbs % m = R at *
  rw [Int.ediv_emod_unique hb]
  by_cases h1 : a < 0
  · by_cases h2 : R = 0
    · subst h2
      rw [if_neg (by simp), if_neg (by simp), decide_eq_true h1]
      show ((0 : Nat) : Int) + m * -(Q : Int) = a ∧ _
      rw [Int.mul_neg]
      omega
    · rw [if_pos ⟨h1, h2⟩, if_pos ⟨h1, h2⟩]
      rw [Int.mul_neg, Int.mul_add, Int.mul_one]
      omega
  · rw [if_neg (fun h => h1 h.1), if_neg (fun h => h1 h.1), decide_eq_false h1]
    show (R : Int) + m * (Q : Int) = a ∧ _
    omega
theorem euc1 {a b : Int} (hb : b ≠ 0) (h1 : a < 0) (h2 : a.natAbs % b.natAbs ≠ 0) : zof (!decide (b < 0)) (((a.natAbs / b.natAbs : Nat) : Int) + 1) = a / b ∧ (b.natAbs : Int) - ((a.natAbs % b.natAbs : Nat) : Int) = a % b := by
  by_cases h3 : b < 0
  · have e := euc_pos (a := a) (b := -b) (by omega)
    rw [Int.ediv_neg, Int.emod_neg, Int.natAbs_neg, if_pos ⟨h1, h2⟩, if_pos ⟨h1, h2⟩] at e
    rw [decide_eq_true h3]
    show ((a.natAbs / b.natAbs : Nat) : Int) + 1 = a / b ∧ _
    omega
  · have e := euc_pos (a := a) (b := b) (by omega)
    rw [if_pos ⟨h1, h2⟩, if_pos ⟨h1, h2⟩] at e
    rw [decide_eq_false h3]
    show -(((a.natAbs / b.natAbs : Nat) : Int) + 1) = a / b ∧ _
    omega
theorem euc2 {a b : Int} (hb : b ≠ 0) (h : ¬ (a < 0 ∧ a.natAbs % b.natAbs ≠ 0)) : zof (decide (a < 0) != decide (b < 0)) ((a.natAbs / b.natAbs : Nat) : Int) = a / b ∧ ((a.natAbs % b.natAbs : Nat) : Int) = a % b := by
  by_cases h3 : b < 0
  · have e := euc_pos (a := a) (b := -b) (by omega)
    rw [Int.ediv_neg, Int.emod_neg, Int.natAbs_neg, if_neg h, if_neg h] at e
    rw [decide_eq_true h3, show (decide (a < 0) != true) = !decide (a < 0) by cases decide (a < 0) <;> rfl, zof_not]
    omega
  · have e := euc_pos (a := a) (b := b) (by omega)
    rw [if_neg h, if_neg h] at e
    rw [decide_eq_false h3, show (decide (a < 0) != false) = decide (a < 0) by cases decide (a < 0) <;> rfl]
    exact ⟨e.1.symm, e.2.symm⟩
set_option maxHeartbeats 4000000 in
theorem euclid_p {a b : AV} {k : Nat} {p q : Int} (ha : IsI a k p) (hb : IsI b k q) (hq : q ≠ 0) (hk : k ≤ 274877906944) : PW Tryz.prog 129 [a, b] (.tup [encI (p / q), encI (p % q)]) := by
  have c1 := rnorm_p ha (by omega)
  have c2 := rnorm_p hb (by omega)
  have lp := isI_len ha
  have lq := isI_len hb
  have hbt := isI_lt hb
  obtain ⟨cs, rfl, g, ds, rfl, -⟩ := ha
  obtain ⟨cs, rfl, g', ds', rfl, -⟩ := hb
  have c3 := divided_p p.natAbs q.natAbs (by omega) (by omega) (by omega)
  obtain ⟨s1, s2, s3⟩ := divQ_spec (x := p.natAbs) (y := q.natAbs) (by omega)
  have hrm : p.natAbs % q.natAbs < q.natAbs := Nat.mod_lt _ (by omega)
  have lr : (dgs (p.natAbs % q.natAbs)).length ≤ k := Nat.le_trans (dgs_mono (by omega)) lq
  have c4 := rsigned_p (g := false) (dgs_dig (n := p.natAbs % q.natAbs)) lr (by omega)
  rw [dgs_vl, show zof false ((p.natAbs % q.natAbs : Nat) : Int) = ((p.natAbs % q.natAbs : Nat) : Int) from rfl, encI_nat] at c4
  have hne := dgs_ne (n := p.natAbs % q.natAbs)
  have hlm : ((((dgs (p.natAbs % q.natAbs)).map u32).length : Nat) : Int) = ((dgs (p.natAbs % q.natAbs)).length : Int) := by simp
  rw [← hlm] at hne
  by_cases h : p < 0 ∧ p.natAbs % q.natAbs ≠ 0
  · obtain ⟨e1, e2⟩ := euc1 hq h.1 h.2
    have hd1 : ∀ d, d ∈ [(1 : Int)] → isDig d := fun d h => by rw [List.mem_singleton] at h; subst h; exact ⟨by decide, by decide⟩
    have c5 := plus_p s1 hd1 (by omega) (Nat.le_of_ble_eq_true rfl)
    have c6 := rsigned_p (g := !decide (q < 0)) (plusL_dig s1 hd1) (Nat.le_refl _) (by rw [plusL_len]; simp; omega)
    rw [plusL_vl, s2, show vl [(1 : Int)] = 1 from rfl, e1] at c6
    have c7 := refabs_p (isI_encI (z := q) hbt) (by omega)
    have c8 := refsub_p (isI_encI (z := (q.natAbs : Int)) (k := k) (by rw [Int.natAbs_natCast]; exact hbt)) (isI_dgs (p.natAbs % q.natAbs) lr) (by omega)
    rw [e2] at c8
    have hb1 : decide (p < 0) = true := decide_eq_true h.1
    have hb2 : decide (((((dgs (p.natAbs % q.natAbs)).map u32).length : Nat) : Int) > 0) = true := by rw [hne]; simp; omega
    unfold encI at c1 c2 c6 c7 c8 ⊢
    unfold ci at c1 c2 c7
    rw [hb1] at c1
    clear s1 s2 s3 hrm lr hne hlm e1 e2 hd1 lp lq hbt
    refine pc_body2 true Tryz.func129 rfl rfl rfl (Nat.le_of_ble_eq_true rfl) (CellT.agg agg_int) (CellT.agg agg_int) ?_
    refine goA ?_
    refine evG ggA (ss_call (InB_of rfl) rfl rfl c1) ?_
    refine goA ?_
    refine evG ggA (ss_call (InB_of rfl) rfl rfl c2) ?_
    refine goA ?_
    refine evG ggA (ss_call (InB_of rfl) rfl rfl c3) ?_
    refine goA ?_
    refine evG ggA (ss_call (InB_of rfl) rfl rfl c4) ?_
    refine goA ?_
    refine evG ggA (ss_bslice (InB_of rfl) (make_tab rfl) rfl rfl rfl rfl (one_ok rfl rfl) (Nat.le_of_ble_eq_true rfl)) ?_
    refine evG ggA (ss_call (InB_of rfl) rfl rfl c5) ?_
    refine evG ggA (ss_call (InB_of rfl) rfl rfl c6) ?_
    refine goA ?_
    refine evG ggA (ss_call (InB_of rfl) rfl rfl c7) ?_
    refine goA ?_
    refine evG ggA (ss_call (InB_of rfl) rfl rfl c8) ?_
    refine goA ?_
    exact rfl
  · obtain ⟨e1, e2⟩ := euc2 hq h
    have c6 := rsigned_p (g := decide (p < 0) != decide (q < 0)) s1 (Nat.le_refl _) (by omega)
    rw [s2, e1] at c6
    have e3 : encI (p % q) = .agg [.p (.bool false), .sl ((dgs (p.natAbs % q.natAbs)).map u32)] := by rw [← e2, encI_nat]
    rw [e3]
    unfold encI at c1 c2 c6 ⊢
    unfold ci at c1 c2
    by_cases h1 : p < 0
    · have h2 : p.natAbs % q.natAbs = 0 := by
        by_cases h2 : p.natAbs % q.natAbs = 0
        · exact h2
        · exact absurd ⟨h1, h2⟩ h
      have hb1 : decide (p < 0) = true := decide_eq_true h1
      have hb2 : decide (((((dgs (p.natAbs % q.natAbs)).map u32).length : Nat) : Int) > 0) = false := by rw [hne, h2]; rfl
      rw [hb1] at c1 c6
      clear s1 s2 s3 hrm lr hne hlm e1 e2 lp lq hbt h2
      refine pc_body2 true Tryz.func129 rfl rfl rfl (Nat.le_of_ble_eq_true rfl) (CellT.agg agg_int) (CellT.agg agg_int) ?_
      refine goA ?_
      refine evG ggA (ss_call (InB_of rfl) rfl rfl c1) ?_
      refine goA ?_
      refine evG ggA (ss_call (InB_of rfl) rfl rfl c2) ?_
      refine goA ?_
      refine evG ggA (ss_call (InB_of rfl) rfl rfl c3) ?_
      refine goA ?_
      refine evG ggA (ss_call (InB_of rfl) rfl rfl c4) ?_
      refine goA ?_
      refine evG ggA (ss_call (InB_of rfl) rfl rfl c6) ?_
      refine goA ?_
      exact rfl
    · have hb1 : decide (p < 0) = false := decide_eq_false h1
      rw [hb1] at c1 c6
      clear s1 s2 s3 hrm lr hne hlm e1 e2 lp lq hbt
      refine pc_body2 true Tryz.func129 rfl rfl rfl (Nat.le_of_ble_eq_true rfl) (CellT.agg agg_int) (CellT.agg agg_int) ?_
      refine goA ?_
      refine evG ggA (ss_call (InB_of rfl) rfl rfl c1) ?_
      refine goA ?_
      refine evG ggA (ss_call (InB_of rfl) rfl rfl c2) ?_
      refine goA ?_
      refine evG ggA (ss_call (InB_of rfl) rfl rfl c3) ?_
      refine goA ?_
      refine evG ggA (ss_call (InB_of rfl) rfl rfl c4) ?_
      refine goA ?_
      refine evG ggA (ss_call (InB_of rfl) rfl rfl c6) ?_
      refine goA ?_
      exact rfl
end Ab
