/- Small contracts for the statement on eigenvectors. What Euler makes is an eigenvector, as plain arithmetic, for 31 coefficients. Eigenvalue and Multiplicative of what Euler makes, walked. The statement HeckeseriesEigen: its walk. -/
import Derived.Test.YtajhaoapcapgeaaGreatDoorAlgM
import Derived.Test.YtajhaoapcapgeaaGreatDoorHkP
import Derived.Test.YtajhaoapcapgeaaGreatDoorGood
set_option linter.all false
namespace Ab
open Go Go.RowKit Go.Proofs Hp
set_option maxRecDepth 100000

theorem ekron_one (d : Int) : Kr.kron d 1 = 1 := by
  have h : ∀ x, Kr.kBf [] d x = x := fun x => rfl
  have e : Kr.facB 40 2 (1 : Int).natAbs = [] := by decide +kernel
  unfold Kr.kron
  rw [if_neg (by decide), e, if_neg (by omega)]
  rfl
theorem echiV_one (N d : Int) : chiV N d 1 = 1 := by
  unfold chiV
  rw [ekron_one, if_pos]
  unfold gI
  simp
theorem efacQ_one (N k d : Int) : facQ N k d 1 = 1 := by
  unfold facQ
  rw [echiV_one]
  simp
theorem ecf_ge {s : Int} {l : List Rat} {n : Int} (h : s + l.length ≤ n) : cf s l n = 0 := by
  unfold cf
  rw [if_neg (by omega), List.getD_eq_getElem?_getD, List.getElem?_eq_none (by omega)]
  rfl
theorem erefsame2_p {p q : Rat} {k : Nat} (hp : Ht p k) (hk : k ≤ 274877906944) : PW Tryz.prog 38 [encQ p, encQ q] (.p (.bool (decide (p = q)))) := by
  have l1 : (ri p.num).2.length ≤ 4611686018427387904 := by
    have : (dgs p.num.natAbs).length ≤ k := dgs_len hp.1
    show (dgs p.num.natAbs).length ≤ _
    omega
  have l2 : (ri (p.den : Int)).2.length ≤ 4611686018427387904 := by
    have : (dgs ((p.den : Int)).natAbs).length ≤ k := dgs_len (by rw [Int.natAbs_natCast]; exact hp.2)
    show (dgs ((p.den : Int)).natAbs).length ≤ _
    omega
  have c1 := refsame_p (ri p.num) (ri q.num) l1
  have c2 := refsame_p (ri (p.den : Int)) (ri (q.den : Int)) l2
  rw [ri_iff] at c1 c2
  have c1' : PW Tryz.prog 99 [encI p.num, encI q.num] (.p (.bool (decide (p.num = q.num)))) := c1
  have c2' : PW Tryz.prog 99 [encI (p.den : Int), encI (q.den : Int)] (.p (.bool (decide ((p.den : Int) = (q.den : Int))))) := c2
  clear c1 c2
  unfold encI ci at c1' c2'
  unfold encQ ci
  by_cases h1 : p.num = q.num
  · rw [decide_eq_true h1] at c1'
    have e : decide (p = q) = decide ((p.den : Int) = (q.den : Int)) := by
      rw [decide_eq_decide]
      constructor
      · intro h; rw [h]
      · intro h; rw [← Rat.num_divInt_den p, ← Rat.num_divInt_den q, h1, h]
    rw [e]
    refine pc_body1 false Tryz.func38 rfl rfl rfl (Nat.le_of_ble_eq_true rfl) CellT.tmp ?_
    refine goA ?_
    refine evG ggA (ss_call (InB_of rfl) rfl rfl c1') ?_
    refine goA ?_
    refine evG ggA (ss_call (InB_of rfl) rfl rfl c2') ?_
    refine goA ?_
    exact rfl
  · rw [decide_eq_false h1] at c1'
    have e : decide (p = q) = false := decide_eq_false fun h => h1 (by rw [h])
    rw [e]
    refine pc_body1 false Tryz.func38 rfl rfl rfl (Nat.le_of_ble_eq_true rfl) CellT.tmp ?_
    refine goA ?_
    refine evG ggA (ss_call (InB_of rfl) rfl rfl c1') ?_
    refine goA ?_
    exact rfl
theorem ecoef_p {s n : Int} {es : List AV} {l : List Rat} {K : Nat} (h : IsL es K l) (hK : K ≤ 274877906944) (a0 : -100 ≤ s) (a1 : s ≤ 1000) (a2 : (es.length : Int) ≤ 1000 - s) (n0 : -100000 ≤ n) (n1 : n ≤ 100000) : PC Tryz.prog 39 [serA s es, .p (.int .i64 n)] (encQ (cf s l n)) := by
  have hle := h.get.1
  have cz := q_p 0 (by decide) (by decide)
  have e0 : ((0 : Int) : Rat) = 0 := rfl
  rw [e0] at cz
  by_cases h1 : n < s
  · have hb1 : decide (n < s) = true := by simp [h1]
    rw [cf_lt h1]
    unfold encQ at cz ⊢
    refine pc_body1 true Tryz.func39 rfl rfl rfl (Nat.le_of_ble_eq_true rfl) (CellT.agg agg_rat) ?_
    refine goA ?_
    refine evG ggA (ss_call (InB_of rfl) rfl rfl cz) ?_
    refine goA ?_
    exact rfl
  have hb1 : decide (n < s) = false := by simp; omega
  by_cases h2 : s + es.length ≤ n
  · have hb2 : decide (n ≥ s + (es.length : Int)) = true := by simp [h2]
    rw [ecf_ge (by omega)]
    unfold encQ at cz ⊢
    refine pc_body1 true Tryz.func39 rfl rfl rfl (Nat.le_of_ble_eq_true rfl) (CellT.agg agg_rat) ?_
    refine goA ?_
    refine evG ggA (ss_call (InB_of rfl) rfl rfl cz) ?_
    refine goA ?_
    exact rfl
  have hb2 : decide (n ≥ s + (es.length : Int)) = false := by simp; omega
  obtain ⟨g, xs, g', xs', q, e1, e2, e3⟩ := h.at (i := (n - s).toNat) (by omega)
  have hc : cf s l n = q := by
    unfold cf
    rw [if_neg h1, List.getD_eq_getElem?_getD, e2]
    rfl
  rw [hc]
  have cn : PC Tryz.prog 100 _ (encQ q) := (refnormal_p e3 hK).up
  unfold encQ at cn ⊢
  refine pc_body1 true Tryz.func39 rfl rfl rfl (Nat.le_of_ble_eq_true rfl) (CellT.agg agg_rat) ?_
  refine goA ?_
  refine evG ggA (ss_index_sl (InB_of rfl) (elem_tab rfl) rfl rfl (by omega) e1 rfl) ?_
  refine goA ?_
  refine evG ggA (ss_call (InB_of rfl) rfl rfl cn) ?_
  refine goA ?_
  exact rfl
end Ab
namespace Ab
open Go Go.RowKit Go.Proofs Hp
set_option maxRecDepth 100000

theorem eq_2 {N k d : Int} {ap : Nat → Rat} : eV N k d ap 2 = ap 2 := ((eV_cases (N := N) (k := k) (d := d) (ap := ap) (n := 2) (p := 2) (e := 1) (l := []) (by decide) (by decide +kernel) (by decide) (by decide)).trans (if_neg (by decide))).trans (if_pos (by decide))
theorem eq_3 {N k d : Int} {ap : Nat → Rat} : eV N k d ap 3 = ap 3 := ((eV_cases (N := N) (k := k) (d := d) (ap := ap) (n := 3) (p := 3) (e := 1) (l := []) (by decide) (by decide +kernel) (by decide) (by decide)).trans (if_neg (by decide))).trans (if_pos (by decide))
theorem eq_4 {N k d : Int} {ap : Nat → Rat} : eV N k d ap 4 = ap 2 * eV N k d ap 2 - facQ N k d (2 : Nat) * eV N k d ap 1 := ((eV_cases (N := N) (k := k) (d := d) (ap := ap) (n := 4) (p := 2) (e := 2) (l := []) (by decide) (by decide +kernel) (by decide) (by decide)).trans (if_neg (by decide))).trans (if_neg (by decide))
theorem eq_5 {N k d : Int} {ap : Nat → Rat} : eV N k d ap 5 = ap 5 := ((eV_cases (N := N) (k := k) (d := d) (ap := ap) (n := 5) (p := 5) (e := 1) (l := []) (by decide) (by decide +kernel) (by decide) (by decide)).trans (if_neg (by decide))).trans (if_pos (by decide))
theorem eq_6 {N k d : Int} {ap : Nat → Rat} : eV N k d ap 6 = eV N k d ap 2 * eV N k d ap 3 := (eV_cases (N := N) (k := k) (d := d) (ap := ap) (n := 6) (p := 2) (e := 1) (l := [(3, 1)]) (by decide) (by decide +kernel) (by decide) (by decide)).trans (if_pos (by decide))
theorem eq_7 {N k d : Int} {ap : Nat → Rat} : eV N k d ap 7 = ap 7 := ((eV_cases (N := N) (k := k) (d := d) (ap := ap) (n := 7) (p := 7) (e := 1) (l := []) (by decide) (by decide +kernel) (by decide) (by decide)).trans (if_neg (by decide))).trans (if_pos (by decide))
theorem eq_8 {N k d : Int} {ap : Nat → Rat} : eV N k d ap 8 = ap 2 * eV N k d ap 4 - facQ N k d (2 : Nat) * eV N k d ap 2 := ((eV_cases (N := N) (k := k) (d := d) (ap := ap) (n := 8) (p := 2) (e := 3) (l := []) (by decide) (by decide +kernel) (by decide) (by decide)).trans (if_neg (by decide))).trans (if_neg (by decide))
theorem eq_9 {N k d : Int} {ap : Nat → Rat} : eV N k d ap 9 = ap 3 * eV N k d ap 3 - facQ N k d (3 : Nat) * eV N k d ap 1 := ((eV_cases (N := N) (k := k) (d := d) (ap := ap) (n := 9) (p := 3) (e := 2) (l := []) (by decide) (by decide +kernel) (by decide) (by decide)).trans (if_neg (by decide))).trans (if_neg (by decide))
theorem eq_10 {N k d : Int} {ap : Nat → Rat} : eV N k d ap 10 = eV N k d ap 2 * eV N k d ap 5 := (eV_cases (N := N) (k := k) (d := d) (ap := ap) (n := 10) (p := 2) (e := 1) (l := [(5, 1)]) (by decide) (by decide +kernel) (by decide) (by decide)).trans (if_pos (by decide))
theorem eq_11 {N k d : Int} {ap : Nat → Rat} : eV N k d ap 11 = ap 11 := ((eV_cases (N := N) (k := k) (d := d) (ap := ap) (n := 11) (p := 11) (e := 1) (l := []) (by decide) (by decide +kernel) (by decide) (by decide)).trans (if_neg (by decide))).trans (if_pos (by decide))
theorem eq_12 {N k d : Int} {ap : Nat → Rat} : eV N k d ap 12 = eV N k d ap 4 * eV N k d ap 3 := (eV_cases (N := N) (k := k) (d := d) (ap := ap) (n := 12) (p := 2) (e := 2) (l := [(3, 1)]) (by decide) (by decide +kernel) (by decide) (by decide)).trans (if_pos (by decide))
theorem eq_13 {N k d : Int} {ap : Nat → Rat} : eV N k d ap 13 = ap 13 := ((eV_cases (N := N) (k := k) (d := d) (ap := ap) (n := 13) (p := 13) (e := 1) (l := []) (by decide) (by decide +kernel) (by decide) (by decide)).trans (if_neg (by decide))).trans (if_pos (by decide))
theorem eq_14 {N k d : Int} {ap : Nat → Rat} : eV N k d ap 14 = eV N k d ap 2 * eV N k d ap 7 := (eV_cases (N := N) (k := k) (d := d) (ap := ap) (n := 14) (p := 2) (e := 1) (l := [(7, 1)]) (by decide) (by decide +kernel) (by decide) (by decide)).trans (if_pos (by decide))
theorem eq_15 {N k d : Int} {ap : Nat → Rat} : eV N k d ap 15 = eV N k d ap 3 * eV N k d ap 5 := (eV_cases (N := N) (k := k) (d := d) (ap := ap) (n := 15) (p := 3) (e := 1) (l := [(5, 1)]) (by decide) (by decide +kernel) (by decide) (by decide)).trans (if_pos (by decide))
theorem eq_16 {N k d : Int} {ap : Nat → Rat} : eV N k d ap 16 = ap 2 * eV N k d ap 8 - facQ N k d (2 : Nat) * eV N k d ap 4 := ((eV_cases (N := N) (k := k) (d := d) (ap := ap) (n := 16) (p := 2) (e := 4) (l := []) (by decide) (by decide +kernel) (by decide) (by decide)).trans (if_neg (by decide))).trans (if_neg (by decide))
theorem eq_17 {N k d : Int} {ap : Nat → Rat} : eV N k d ap 17 = ap 17 := ((eV_cases (N := N) (k := k) (d := d) (ap := ap) (n := 17) (p := 17) (e := 1) (l := []) (by decide) (by decide +kernel) (by decide) (by decide)).trans (if_neg (by decide))).trans (if_pos (by decide))
theorem eq_18 {N k d : Int} {ap : Nat → Rat} : eV N k d ap 18 = eV N k d ap 2 * eV N k d ap 9 := (eV_cases (N := N) (k := k) (d := d) (ap := ap) (n := 18) (p := 2) (e := 1) (l := [(3, 2)]) (by decide) (by decide +kernel) (by decide) (by decide)).trans (if_pos (by decide))
theorem eq_19 {N k d : Int} {ap : Nat → Rat} : eV N k d ap 19 = ap 19 := ((eV_cases (N := N) (k := k) (d := d) (ap := ap) (n := 19) (p := 19) (e := 1) (l := []) (by decide) (by decide +kernel) (by decide) (by decide)).trans (if_neg (by decide))).trans (if_pos (by decide))
theorem eq_20 {N k d : Int} {ap : Nat → Rat} : eV N k d ap 20 = eV N k d ap 4 * eV N k d ap 5 := (eV_cases (N := N) (k := k) (d := d) (ap := ap) (n := 20) (p := 2) (e := 2) (l := [(5, 1)]) (by decide) (by decide +kernel) (by decide) (by decide)).trans (if_pos (by decide))
theorem eq_21 {N k d : Int} {ap : Nat → Rat} : eV N k d ap 21 = eV N k d ap 3 * eV N k d ap 7 := (eV_cases (N := N) (k := k) (d := d) (ap := ap) (n := 21) (p := 3) (e := 1) (l := [(7, 1)]) (by decide) (by decide +kernel) (by decide) (by decide)).trans (if_pos (by decide))
theorem eq_22 {N k d : Int} {ap : Nat → Rat} : eV N k d ap 22 = eV N k d ap 2 * eV N k d ap 11 := (eV_cases (N := N) (k := k) (d := d) (ap := ap) (n := 22) (p := 2) (e := 1) (l := [(11, 1)]) (by decide) (by decide +kernel) (by decide) (by decide)).trans (if_pos (by decide))
theorem eq_23 {N k d : Int} {ap : Nat → Rat} : eV N k d ap 23 = ap 23 := ((eV_cases (N := N) (k := k) (d := d) (ap := ap) (n := 23) (p := 23) (e := 1) (l := []) (by decide) (by decide +kernel) (by decide) (by decide)).trans (if_neg (by decide))).trans (if_pos (by decide))
theorem eq_24 {N k d : Int} {ap : Nat → Rat} : eV N k d ap 24 = eV N k d ap 8 * eV N k d ap 3 := (eV_cases (N := N) (k := k) (d := d) (ap := ap) (n := 24) (p := 2) (e := 3) (l := [(3, 1)]) (by decide) (by decide +kernel) (by decide) (by decide)).trans (if_pos (by decide))
theorem eq_25 {N k d : Int} {ap : Nat → Rat} : eV N k d ap 25 = ap 5 * eV N k d ap 5 - facQ N k d (5 : Nat) * eV N k d ap 1 := ((eV_cases (N := N) (k := k) (d := d) (ap := ap) (n := 25) (p := 5) (e := 2) (l := []) (by decide) (by decide +kernel) (by decide) (by decide)).trans (if_neg (by decide))).trans (if_neg (by decide))
theorem eq_26 {N k d : Int} {ap : Nat → Rat} : eV N k d ap 26 = eV N k d ap 2 * eV N k d ap 13 := (eV_cases (N := N) (k := k) (d := d) (ap := ap) (n := 26) (p := 2) (e := 1) (l := [(13, 1)]) (by decide) (by decide +kernel) (by decide) (by decide)).trans (if_pos (by decide))
theorem eq_27 {N k d : Int} {ap : Nat → Rat} : eV N k d ap 27 = ap 3 * eV N k d ap 9 - facQ N k d (3 : Nat) * eV N k d ap 3 := ((eV_cases (N := N) (k := k) (d := d) (ap := ap) (n := 27) (p := 3) (e := 3) (l := []) (by decide) (by decide +kernel) (by decide) (by decide)).trans (if_neg (by decide))).trans (if_neg (by decide))
theorem eq_28 {N k d : Int} {ap : Nat → Rat} : eV N k d ap 28 = eV N k d ap 4 * eV N k d ap 7 := (eV_cases (N := N) (k := k) (d := d) (ap := ap) (n := 28) (p := 2) (e := 2) (l := [(7, 1)]) (by decide) (by decide +kernel) (by decide) (by decide)).trans (if_pos (by decide))
theorem eq_29 {N k d : Int} {ap : Nat → Rat} : eV N k d ap 29 = ap 29 := ((eV_cases (N := N) (k := k) (d := d) (ap := ap) (n := 29) (p := 29) (e := 1) (l := []) (by decide) (by decide +kernel) (by decide) (by decide)).trans (if_neg (by decide))).trans (if_pos (by decide))
theorem eq_30 {N k d : Int} {ap : Nat → Rat} : eV N k d ap 30 = eV N k d ap 2 * eV N k d ap 15 := (eV_cases (N := N) (k := k) (d := d) (ap := ap) (n := 30) (p := 2) (e := 1) (l := [(3, 1), (5, 1)]) (by decide) (by decide +kernel) (by decide) (by decide)).trans (if_pos (by decide))
theorem eq_31 {N k d : Int} {ap : Nat → Rat} : eV N k d ap 31 = ap 31 := ((eV_cases (N := N) (k := k) (d := d) (ap := ap) (n := 31) (p := 31) (e := 1) (l := []) (by decide) (by decide +kernel) (by decide) (by decide)).trans (if_neg (by decide))).trans (if_pos (by decide))
theorem eq_1 {N k d : Int} {ap : Nat → Rat} : eV N k d ap 1 = 1 := rfl
theorem f4 {N k d : Int} : facQ N k d (4 : Nat) = facQ N k d (2 : Nat) * facQ N k d (2 : Nat) := facQ_mul (t := 2) (u := 2) (by decide) (by decide) (by decide)
theorem ei_1_1 {N k d : Int} {ap : Nat → Rat} : facQ N k d (1 : Nat) * eV N k d ap 1 + 0 = eV N k d ap 1 * eV N k d ap 1 := by
  have h1 : facQ N k d (1 : Nat) = 1 := efacQ_one N k d
  rw [h1]
  simp only [eq_1]
  grind
theorem ei_1_2 {N k d : Int} {ap : Nat → Rat} : facQ N k d (1 : Nat) * eV N k d ap 2 + 0 = eV N k d ap 1 * eV N k d ap 2 := by
  have h1 : facQ N k d (1 : Nat) = 1 := efacQ_one N k d
  rw [h1]
  simp only [eq_1, eq_2]
  grind
theorem ei_1_3 {N k d : Int} {ap : Nat → Rat} : facQ N k d (1 : Nat) * eV N k d ap 3 + 0 = eV N k d ap 1 * eV N k d ap 3 := by
  have h1 : facQ N k d (1 : Nat) = 1 := efacQ_one N k d
  rw [h1]
  simp only [eq_1, eq_3]
  grind
theorem ei_1_4 {N k d : Int} {ap : Nat → Rat} : facQ N k d (1 : Nat) * eV N k d ap 4 + 0 = eV N k d ap 1 * eV N k d ap 4 := by
  have h1 : facQ N k d (1 : Nat) = 1 := efacQ_one N k d
  rw [h1]
  simp only [eq_1, eq_2, eq_4]
  grind
theorem ei_1_5 {N k d : Int} {ap : Nat → Rat} : facQ N k d (1 : Nat) * eV N k d ap 5 + 0 = eV N k d ap 1 * eV N k d ap 5 := by
  have h1 : facQ N k d (1 : Nat) = 1 := efacQ_one N k d
  rw [h1]
  simp only [eq_1, eq_5]
  grind
theorem ei_1_6 {N k d : Int} {ap : Nat → Rat} : facQ N k d (1 : Nat) * eV N k d ap 6 + 0 = eV N k d ap 1 * eV N k d ap 6 := by
  have h1 : facQ N k d (1 : Nat) = 1 := efacQ_one N k d
  rw [h1]
  simp only [eq_1, eq_2, eq_3, eq_6]
  grind
theorem ei_1_7 {N k d : Int} {ap : Nat → Rat} : facQ N k d (1 : Nat) * eV N k d ap 7 + 0 = eV N k d ap 1 * eV N k d ap 7 := by
  have h1 : facQ N k d (1 : Nat) = 1 := efacQ_one N k d
  rw [h1]
  simp only [eq_1, eq_7]
  grind
theorem ei_1_8 {N k d : Int} {ap : Nat → Rat} : facQ N k d (1 : Nat) * eV N k d ap 8 + 0 = eV N k d ap 1 * eV N k d ap 8 := by
  have h1 : facQ N k d (1 : Nat) = 1 := efacQ_one N k d
  rw [h1]
  simp only [eq_1, eq_2, eq_4, eq_8]
  grind
theorem ei_1_9 {N k d : Int} {ap : Nat → Rat} : facQ N k d (1 : Nat) * eV N k d ap 9 + 0 = eV N k d ap 1 * eV N k d ap 9 := by
  have h1 : facQ N k d (1 : Nat) = 1 := efacQ_one N k d
  rw [h1]
  simp only [eq_1, eq_3, eq_9]
  grind
theorem ei_1_10 {N k d : Int} {ap : Nat → Rat} : facQ N k d (1 : Nat) * eV N k d ap 10 + 0 = eV N k d ap 1 * eV N k d ap 10 := by
  have h1 : facQ N k d (1 : Nat) = 1 := efacQ_one N k d
  rw [h1]
  simp only [eq_1, eq_2, eq_5, eq_10]
  grind
theorem ei_1_11 {N k d : Int} {ap : Nat → Rat} : facQ N k d (1 : Nat) * eV N k d ap 11 + 0 = eV N k d ap 1 * eV N k d ap 11 := by
  have h1 : facQ N k d (1 : Nat) = 1 := efacQ_one N k d
  rw [h1]
  simp only [eq_1, eq_11]
  grind
theorem ei_1_12 {N k d : Int} {ap : Nat → Rat} : facQ N k d (1 : Nat) * eV N k d ap 12 + 0 = eV N k d ap 1 * eV N k d ap 12 := by
  have h1 : facQ N k d (1 : Nat) = 1 := efacQ_one N k d
  rw [h1]
  simp only [eq_1, eq_2, eq_3, eq_4, eq_12]
  grind
theorem ei_1_13 {N k d : Int} {ap : Nat → Rat} : facQ N k d (1 : Nat) * eV N k d ap 13 + 0 = eV N k d ap 1 * eV N k d ap 13 := by
  have h1 : facQ N k d (1 : Nat) = 1 := efacQ_one N k d
  rw [h1]
  simp only [eq_1, eq_13]
  grind
theorem ei_1_14 {N k d : Int} {ap : Nat → Rat} : facQ N k d (1 : Nat) * eV N k d ap 14 + 0 = eV N k d ap 1 * eV N k d ap 14 := by
  have h1 : facQ N k d (1 : Nat) = 1 := efacQ_one N k d
  rw [h1]
  simp only [eq_1, eq_2, eq_7, eq_14]
  grind
theorem ei_1_15 {N k d : Int} {ap : Nat → Rat} : facQ N k d (1 : Nat) * eV N k d ap 15 + 0 = eV N k d ap 1 * eV N k d ap 15 := by
  have h1 : facQ N k d (1 : Nat) = 1 := efacQ_one N k d
  rw [h1]
  simp only [eq_1, eq_3, eq_5, eq_15]
  grind
theorem ei_1_16 {N k d : Int} {ap : Nat → Rat} : facQ N k d (1 : Nat) * eV N k d ap 16 + 0 = eV N k d ap 1 * eV N k d ap 16 := by
  have h1 : facQ N k d (1 : Nat) = 1 := efacQ_one N k d
  rw [h1]
  simp only [eq_1, eq_2, eq_4, eq_8, eq_16]
  grind
theorem ei_1_17 {N k d : Int} {ap : Nat → Rat} : facQ N k d (1 : Nat) * eV N k d ap 17 + 0 = eV N k d ap 1 * eV N k d ap 17 := by
  have h1 : facQ N k d (1 : Nat) = 1 := efacQ_one N k d
  rw [h1]
  simp only [eq_1, eq_17]
  grind
theorem ei_1_18 {N k d : Int} {ap : Nat → Rat} : facQ N k d (1 : Nat) * eV N k d ap 18 + 0 = eV N k d ap 1 * eV N k d ap 18 := by
  have h1 : facQ N k d (1 : Nat) = 1 := efacQ_one N k d
  rw [h1]
  simp only [eq_1, eq_2, eq_3, eq_9, eq_18]
  grind
theorem ei_1_19 {N k d : Int} {ap : Nat → Rat} : facQ N k d (1 : Nat) * eV N k d ap 19 + 0 = eV N k d ap 1 * eV N k d ap 19 := by
  have h1 : facQ N k d (1 : Nat) = 1 := efacQ_one N k d
  rw [h1]
  simp only [eq_1, eq_19]
  grind
theorem ei_1_20 {N k d : Int} {ap : Nat → Rat} : facQ N k d (1 : Nat) * eV N k d ap 20 + 0 = eV N k d ap 1 * eV N k d ap 20 := by
  have h1 : facQ N k d (1 : Nat) = 1 := efacQ_one N k d
  rw [h1]
  simp only [eq_1, eq_2, eq_4, eq_5, eq_20]
  grind
theorem ei_1_21 {N k d : Int} {ap : Nat → Rat} : facQ N k d (1 : Nat) * eV N k d ap 21 + 0 = eV N k d ap 1 * eV N k d ap 21 := by
  have h1 : facQ N k d (1 : Nat) = 1 := efacQ_one N k d
  rw [h1]
  simp only [eq_1, eq_3, eq_7, eq_21]
  grind
theorem ei_1_22 {N k d : Int} {ap : Nat → Rat} : facQ N k d (1 : Nat) * eV N k d ap 22 + 0 = eV N k d ap 1 * eV N k d ap 22 := by
  have h1 : facQ N k d (1 : Nat) = 1 := efacQ_one N k d
  rw [h1]
  simp only [eq_1, eq_2, eq_11, eq_22]
  grind
theorem ei_1_23 {N k d : Int} {ap : Nat → Rat} : facQ N k d (1 : Nat) * eV N k d ap 23 + 0 = eV N k d ap 1 * eV N k d ap 23 := by
  have h1 : facQ N k d (1 : Nat) = 1 := efacQ_one N k d
  rw [h1]
  simp only [eq_1, eq_23]
  grind
theorem ei_1_24 {N k d : Int} {ap : Nat → Rat} : facQ N k d (1 : Nat) * eV N k d ap 24 + 0 = eV N k d ap 1 * eV N k d ap 24 := by
  have h1 : facQ N k d (1 : Nat) = 1 := efacQ_one N k d
  rw [h1]
  simp only [eq_1, eq_2, eq_3, eq_4, eq_8, eq_24]
  grind
theorem ei_1_25 {N k d : Int} {ap : Nat → Rat} : facQ N k d (1 : Nat) * eV N k d ap 25 + 0 = eV N k d ap 1 * eV N k d ap 25 := by
  have h1 : facQ N k d (1 : Nat) = 1 := efacQ_one N k d
  rw [h1]
  simp only [eq_1, eq_5, eq_25]
  grind
theorem ei_1_26 {N k d : Int} {ap : Nat → Rat} : facQ N k d (1 : Nat) * eV N k d ap 26 + 0 = eV N k d ap 1 * eV N k d ap 26 := by
  have h1 : facQ N k d (1 : Nat) = 1 := efacQ_one N k d
  rw [h1]
  simp only [eq_1, eq_2, eq_13, eq_26]
  grind
theorem ei_1_27 {N k d : Int} {ap : Nat → Rat} : facQ N k d (1 : Nat) * eV N k d ap 27 + 0 = eV N k d ap 1 * eV N k d ap 27 := by
  have h1 : facQ N k d (1 : Nat) = 1 := efacQ_one N k d
  rw [h1]
  simp only [eq_1, eq_3, eq_9, eq_27]
  grind
theorem ei_1_28 {N k d : Int} {ap : Nat → Rat} : facQ N k d (1 : Nat) * eV N k d ap 28 + 0 = eV N k d ap 1 * eV N k d ap 28 := by
  have h1 : facQ N k d (1 : Nat) = 1 := efacQ_one N k d
  rw [h1]
  simp only [eq_1, eq_2, eq_4, eq_7, eq_28]
  grind
theorem ei_1_29 {N k d : Int} {ap : Nat → Rat} : facQ N k d (1 : Nat) * eV N k d ap 29 + 0 = eV N k d ap 1 * eV N k d ap 29 := by
  have h1 : facQ N k d (1 : Nat) = 1 := efacQ_one N k d
  rw [h1]
  simp only [eq_1, eq_29]
  grind
theorem ei_1_30 {N k d : Int} {ap : Nat → Rat} : facQ N k d (1 : Nat) * eV N k d ap 30 + 0 = eV N k d ap 1 * eV N k d ap 30 := by
  have h1 : facQ N k d (1 : Nat) = 1 := efacQ_one N k d
  rw [h1]
  simp only [eq_1, eq_2, eq_3, eq_5, eq_15, eq_30]
  grind
theorem ei_1_31 {N k d : Int} {ap : Nat → Rat} : facQ N k d (1 : Nat) * eV N k d ap 31 + 0 = eV N k d ap 1 * eV N k d ap 31 := by
  have h1 : facQ N k d (1 : Nat) = 1 := efacQ_one N k d
  rw [h1]
  simp only [eq_1, eq_31]
  grind
theorem ei_2_1 {N k d : Int} {ap : Nat → Rat} : facQ N k d (1 : Nat) * eV N k d ap 2 + 0 = eV N k d ap 2 * eV N k d ap 1 := by
  have h1 : facQ N k d (1 : Nat) = 1 := efacQ_one N k d
  rw [h1]
  simp only [eq_1, eq_2]
  grind
theorem ei_2_2 {N k d : Int} {ap : Nat → Rat} : facQ N k d (1 : Nat) * eV N k d ap 4 + (facQ N k d (2 : Nat) * eV N k d ap 1 + 0) = eV N k d ap 2 * eV N k d ap 2 := by
  have h1 : facQ N k d (1 : Nat) = 1 := efacQ_one N k d
  rw [h1]
  simp only [eq_1, eq_2, eq_4]
  grind
theorem ei_2_3 {N k d : Int} {ap : Nat → Rat} : facQ N k d (1 : Nat) * eV N k d ap 6 + 0 = eV N k d ap 2 * eV N k d ap 3 := by
  have h1 : facQ N k d (1 : Nat) = 1 := efacQ_one N k d
  rw [h1]
  simp only [eq_1, eq_2, eq_3, eq_6]
  grind
theorem ei_2_4 {N k d : Int} {ap : Nat → Rat} : facQ N k d (1 : Nat) * eV N k d ap 8 + (facQ N k d (2 : Nat) * eV N k d ap 2 + 0) = eV N k d ap 2 * eV N k d ap 4 := by
  have h1 : facQ N k d (1 : Nat) = 1 := efacQ_one N k d
  rw [h1]
  simp only [eq_1, eq_2, eq_4, eq_8]
  grind
theorem ei_2_5 {N k d : Int} {ap : Nat → Rat} : facQ N k d (1 : Nat) * eV N k d ap 10 + 0 = eV N k d ap 2 * eV N k d ap 5 := by
  have h1 : facQ N k d (1 : Nat) = 1 := efacQ_one N k d
  rw [h1]
  simp only [eq_1, eq_2, eq_5, eq_10]
  grind
theorem ei_2_6 {N k d : Int} {ap : Nat → Rat} : facQ N k d (1 : Nat) * eV N k d ap 12 + (facQ N k d (2 : Nat) * eV N k d ap 3 + 0) = eV N k d ap 2 * eV N k d ap 6 := by
  have h1 : facQ N k d (1 : Nat) = 1 := efacQ_one N k d
  rw [h1]
  simp only [eq_1, eq_2, eq_3, eq_4, eq_6, eq_12]
  grind
theorem ei_2_7 {N k d : Int} {ap : Nat → Rat} : facQ N k d (1 : Nat) * eV N k d ap 14 + 0 = eV N k d ap 2 * eV N k d ap 7 := by
  have h1 : facQ N k d (1 : Nat) = 1 := efacQ_one N k d
  rw [h1]
  simp only [eq_1, eq_2, eq_7, eq_14]
  grind
theorem ei_2_8 {N k d : Int} {ap : Nat → Rat} : facQ N k d (1 : Nat) * eV N k d ap 16 + (facQ N k d (2 : Nat) * eV N k d ap 4 + 0) = eV N k d ap 2 * eV N k d ap 8 := by
  have h1 : facQ N k d (1 : Nat) = 1 := efacQ_one N k d
  rw [h1]
  simp only [eq_1, eq_2, eq_4, eq_8, eq_16]
  grind
theorem ei_2_9 {N k d : Int} {ap : Nat → Rat} : facQ N k d (1 : Nat) * eV N k d ap 18 + 0 = eV N k d ap 2 * eV N k d ap 9 := by
  have h1 : facQ N k d (1 : Nat) = 1 := efacQ_one N k d
  rw [h1]
  simp only [eq_1, eq_2, eq_3, eq_9, eq_18]
  grind
theorem ei_2_10 {N k d : Int} {ap : Nat → Rat} : facQ N k d (1 : Nat) * eV N k d ap 20 + (facQ N k d (2 : Nat) * eV N k d ap 5 + 0) = eV N k d ap 2 * eV N k d ap 10 := by
  have h1 : facQ N k d (1 : Nat) = 1 := efacQ_one N k d
  rw [h1]
  simp only [eq_1, eq_2, eq_4, eq_5, eq_10, eq_20]
  grind
theorem ei_2_11 {N k d : Int} {ap : Nat → Rat} : facQ N k d (1 : Nat) * eV N k d ap 22 + 0 = eV N k d ap 2 * eV N k d ap 11 := by
  have h1 : facQ N k d (1 : Nat) = 1 := efacQ_one N k d
  rw [h1]
  simp only [eq_1, eq_2, eq_11, eq_22]
  grind
theorem ei_2_12 {N k d : Int} {ap : Nat → Rat} : facQ N k d (1 : Nat) * eV N k d ap 24 + (facQ N k d (2 : Nat) * eV N k d ap 6 + 0) = eV N k d ap 2 * eV N k d ap 12 := by
  have h1 : facQ N k d (1 : Nat) = 1 := efacQ_one N k d
  rw [h1]
  simp only [eq_1, eq_2, eq_3, eq_4, eq_6, eq_8, eq_12, eq_24]
  grind
theorem ei_2_13 {N k d : Int} {ap : Nat → Rat} : facQ N k d (1 : Nat) * eV N k d ap 26 + 0 = eV N k d ap 2 * eV N k d ap 13 := by
  have h1 : facQ N k d (1 : Nat) = 1 := efacQ_one N k d
  rw [h1]
  simp only [eq_1, eq_2, eq_13, eq_26]
  grind
theorem ei_2_14 {N k d : Int} {ap : Nat → Rat} : facQ N k d (1 : Nat) * eV N k d ap 28 + (facQ N k d (2 : Nat) * eV N k d ap 7 + 0) = eV N k d ap 2 * eV N k d ap 14 := by
  have h1 : facQ N k d (1 : Nat) = 1 := efacQ_one N k d
  rw [h1]
  simp only [eq_1, eq_2, eq_4, eq_7, eq_14, eq_28]
  grind
theorem ei_2_15 {N k d : Int} {ap : Nat → Rat} : facQ N k d (1 : Nat) * eV N k d ap 30 + 0 = eV N k d ap 2 * eV N k d ap 15 := by
  have h1 : facQ N k d (1 : Nat) = 1 := efacQ_one N k d
  rw [h1]
  simp only [eq_1, eq_2, eq_3, eq_5, eq_15, eq_30]
  grind
theorem ei_3_1 {N k d : Int} {ap : Nat → Rat} : facQ N k d (1 : Nat) * eV N k d ap 3 + 0 = eV N k d ap 3 * eV N k d ap 1 := by
  have h1 : facQ N k d (1 : Nat) = 1 := efacQ_one N k d
  rw [h1]
  simp only [eq_1, eq_3]
  grind
theorem ei_3_2 {N k d : Int} {ap : Nat → Rat} : facQ N k d (1 : Nat) * eV N k d ap 6 + 0 = eV N k d ap 3 * eV N k d ap 2 := by
  have h1 : facQ N k d (1 : Nat) = 1 := efacQ_one N k d
  rw [h1]
  simp only [eq_1, eq_2, eq_3, eq_6]
  grind
theorem ei_3_3 {N k d : Int} {ap : Nat → Rat} : facQ N k d (1 : Nat) * eV N k d ap 9 + (facQ N k d (3 : Nat) * eV N k d ap 1 + 0) = eV N k d ap 3 * eV N k d ap 3 := by
  have h1 : facQ N k d (1 : Nat) = 1 := efacQ_one N k d
  rw [h1]
  simp only [eq_1, eq_3, eq_9]
  grind
theorem ei_3_4 {N k d : Int} {ap : Nat → Rat} : facQ N k d (1 : Nat) * eV N k d ap 12 + 0 = eV N k d ap 3 * eV N k d ap 4 := by
  have h1 : facQ N k d (1 : Nat) = 1 := efacQ_one N k d
  rw [h1]
  simp only [eq_1, eq_2, eq_3, eq_4, eq_12]
  grind
theorem ei_3_5 {N k d : Int} {ap : Nat → Rat} : facQ N k d (1 : Nat) * eV N k d ap 15 + 0 = eV N k d ap 3 * eV N k d ap 5 := by
  have h1 : facQ N k d (1 : Nat) = 1 := efacQ_one N k d
  rw [h1]
  simp only [eq_1, eq_3, eq_5, eq_15]
  grind
theorem ei_3_6 {N k d : Int} {ap : Nat → Rat} : facQ N k d (1 : Nat) * eV N k d ap 18 + (facQ N k d (3 : Nat) * eV N k d ap 2 + 0) = eV N k d ap 3 * eV N k d ap 6 := by
  have h1 : facQ N k d (1 : Nat) = 1 := efacQ_one N k d
  rw [h1]
  simp only [eq_1, eq_2, eq_3, eq_6, eq_9, eq_18]
  grind
theorem ei_3_7 {N k d : Int} {ap : Nat → Rat} : facQ N k d (1 : Nat) * eV N k d ap 21 + 0 = eV N k d ap 3 * eV N k d ap 7 := by
  have h1 : facQ N k d (1 : Nat) = 1 := efacQ_one N k d
  rw [h1]
  simp only [eq_1, eq_3, eq_7, eq_21]
  grind
theorem ei_3_8 {N k d : Int} {ap : Nat → Rat} : facQ N k d (1 : Nat) * eV N k d ap 24 + 0 = eV N k d ap 3 * eV N k d ap 8 := by
  have h1 : facQ N k d (1 : Nat) = 1 := efacQ_one N k d
  rw [h1]
  simp only [eq_1, eq_2, eq_3, eq_4, eq_8, eq_24]
  grind
theorem ei_3_9 {N k d : Int} {ap : Nat → Rat} : facQ N k d (1 : Nat) * eV N k d ap 27 + (facQ N k d (3 : Nat) * eV N k d ap 3 + 0) = eV N k d ap 3 * eV N k d ap 9 := by
  have h1 : facQ N k d (1 : Nat) = 1 := efacQ_one N k d
  rw [h1]
  simp only [eq_1, eq_3, eq_9, eq_27]
  grind
theorem ei_3_10 {N k d : Int} {ap : Nat → Rat} : facQ N k d (1 : Nat) * eV N k d ap 30 + 0 = eV N k d ap 3 * eV N k d ap 10 := by
  have h1 : facQ N k d (1 : Nat) = 1 := efacQ_one N k d
  rw [h1]
  simp only [eq_1, eq_2, eq_3, eq_5, eq_10, eq_15, eq_30]
  grind
theorem ei_4_1 {N k d : Int} {ap : Nat → Rat} : facQ N k d (1 : Nat) * eV N k d ap 4 + 0 = eV N k d ap 4 * eV N k d ap 1 := by
  have h1 : facQ N k d (1 : Nat) = 1 := efacQ_one N k d
  rw [h1]
  simp only [eq_1, eq_2, eq_4]
  grind
theorem ei_4_2 {N k d : Int} {ap : Nat → Rat} : facQ N k d (1 : Nat) * eV N k d ap 8 + (facQ N k d (2 : Nat) * eV N k d ap 2 + 0) = eV N k d ap 4 * eV N k d ap 2 := by
  have h1 : facQ N k d (1 : Nat) = 1 := efacQ_one N k d
  rw [h1]
  simp only [eq_1, eq_2, eq_4, eq_8]
  grind
theorem ei_4_3 {N k d : Int} {ap : Nat → Rat} : facQ N k d (1 : Nat) * eV N k d ap 12 + 0 = eV N k d ap 4 * eV N k d ap 3 := by
  have h1 : facQ N k d (1 : Nat) = 1 := efacQ_one N k d
  rw [h1]
  simp only [eq_1, eq_2, eq_3, eq_4, eq_12]
  grind
theorem ei_4_4 {N k d : Int} {ap : Nat → Rat} : facQ N k d (1 : Nat) * eV N k d ap 16 + (facQ N k d (2 : Nat) * eV N k d ap 4 + (facQ N k d (4 : Nat) * eV N k d ap 1 + 0)) = eV N k d ap 4 * eV N k d ap 4 := by
  have h1 : facQ N k d (1 : Nat) = 1 := efacQ_one N k d
  rw [h1, f4]
  simp only [eq_1, eq_2, eq_4, eq_8, eq_16]
  grind
theorem ei_4_5 {N k d : Int} {ap : Nat → Rat} : facQ N k d (1 : Nat) * eV N k d ap 20 + 0 = eV N k d ap 4 * eV N k d ap 5 := by
  have h1 : facQ N k d (1 : Nat) = 1 := efacQ_one N k d
  rw [h1]
  simp only [eq_1, eq_2, eq_4, eq_5, eq_20]
  grind
theorem ei_4_6 {N k d : Int} {ap : Nat → Rat} : facQ N k d (1 : Nat) * eV N k d ap 24 + (facQ N k d (2 : Nat) * eV N k d ap 6 + 0) = eV N k d ap 4 * eV N k d ap 6 := by
  have h1 : facQ N k d (1 : Nat) = 1 := efacQ_one N k d
  rw [h1]
  simp only [eq_1, eq_2, eq_3, eq_4, eq_6, eq_8, eq_24]
  grind
theorem ei_4_7 {N k d : Int} {ap : Nat → Rat} : facQ N k d (1 : Nat) * eV N k d ap 28 + 0 = eV N k d ap 4 * eV N k d ap 7 := by
  have h1 : facQ N k d (1 : Nat) = 1 := efacQ_one N k d
  rw [h1]
  simp only [eq_1, eq_2, eq_4, eq_7, eq_28]
  grind
theorem ei_5_1 {N k d : Int} {ap : Nat → Rat} : facQ N k d (1 : Nat) * eV N k d ap 5 + 0 = eV N k d ap 5 * eV N k d ap 1 := by
  have h1 : facQ N k d (1 : Nat) = 1 := efacQ_one N k d
  rw [h1]
  simp only [eq_1, eq_5]
  grind
theorem ei_5_2 {N k d : Int} {ap : Nat → Rat} : facQ N k d (1 : Nat) * eV N k d ap 10 + 0 = eV N k d ap 5 * eV N k d ap 2 := by
  have h1 : facQ N k d (1 : Nat) = 1 := efacQ_one N k d
  rw [h1]
  simp only [eq_1, eq_2, eq_5, eq_10]
  grind
theorem ei_5_3 {N k d : Int} {ap : Nat → Rat} : facQ N k d (1 : Nat) * eV N k d ap 15 + 0 = eV N k d ap 5 * eV N k d ap 3 := by
  have h1 : facQ N k d (1 : Nat) = 1 := efacQ_one N k d
  rw [h1]
  simp only [eq_1, eq_3, eq_5, eq_15]
  grind
theorem ei_5_4 {N k d : Int} {ap : Nat → Rat} : facQ N k d (1 : Nat) * eV N k d ap 20 + 0 = eV N k d ap 5 * eV N k d ap 4 := by
  have h1 : facQ N k d (1 : Nat) = 1 := efacQ_one N k d
  rw [h1]
  simp only [eq_1, eq_2, eq_4, eq_5, eq_20]
  grind
theorem ei_5_5 {N k d : Int} {ap : Nat → Rat} : facQ N k d (1 : Nat) * eV N k d ap 25 + (facQ N k d (5 : Nat) * eV N k d ap 1 + 0) = eV N k d ap 5 * eV N k d ap 5 := by
  have h1 : facQ N k d (1 : Nat) = 1 := efacQ_one N k d
  rw [h1]
  simp only [eq_1, eq_5, eq_25]
  grind
theorem ei_5_6 {N k d : Int} {ap : Nat → Rat} : facQ N k d (1 : Nat) * eV N k d ap 30 + 0 = eV N k d ap 5 * eV N k d ap 6 := by
  have h1 : facQ N k d (1 : Nat) = 1 := efacQ_one N k d
  rw [h1]
  simp only [eq_1, eq_2, eq_3, eq_5, eq_6, eq_15, eq_30]
  grind
theorem ei_6_1 {N k d : Int} {ap : Nat → Rat} : facQ N k d (1 : Nat) * eV N k d ap 6 + 0 = eV N k d ap 6 * eV N k d ap 1 := by
  have h1 : facQ N k d (1 : Nat) = 1 := efacQ_one N k d
  rw [h1]
  simp only [eq_1, eq_2, eq_3, eq_6]
  grind
theorem ei_6_2 {N k d : Int} {ap : Nat → Rat} : facQ N k d (1 : Nat) * eV N k d ap 12 + (facQ N k d (2 : Nat) * eV N k d ap 3 + 0) = eV N k d ap 6 * eV N k d ap 2 := by
  have h1 : facQ N k d (1 : Nat) = 1 := efacQ_one N k d
  rw [h1]
  simp only [eq_1, eq_2, eq_3, eq_4, eq_6, eq_12]
  grind
theorem ei_6_3 {N k d : Int} {ap : Nat → Rat} : facQ N k d (1 : Nat) * eV N k d ap 18 + (facQ N k d (3 : Nat) * eV N k d ap 2 + 0) = eV N k d ap 6 * eV N k d ap 3 := by
  have h1 : facQ N k d (1 : Nat) = 1 := efacQ_one N k d
  rw [h1]
  simp only [eq_1, eq_2, eq_3, eq_6, eq_9, eq_18]
  grind
theorem ei_6_4 {N k d : Int} {ap : Nat → Rat} : facQ N k d (1 : Nat) * eV N k d ap 24 + (facQ N k d (2 : Nat) * eV N k d ap 6 + 0) = eV N k d ap 6 * eV N k d ap 4 := by
  have h1 : facQ N k d (1 : Nat) = 1 := efacQ_one N k d
  rw [h1]
  simp only [eq_1, eq_2, eq_3, eq_4, eq_6, eq_8, eq_24]
  grind
theorem ei_6_5 {N k d : Int} {ap : Nat → Rat} : facQ N k d (1 : Nat) * eV N k d ap 30 + 0 = eV N k d ap 6 * eV N k d ap 5 := by
  have h1 : facQ N k d (1 : Nat) = 1 := efacQ_one N k d
  rw [h1]
  simp only [eq_1, eq_2, eq_3, eq_5, eq_6, eq_15, eq_30]
  grind
theorem ei_7_1 {N k d : Int} {ap : Nat → Rat} : facQ N k d (1 : Nat) * eV N k d ap 7 + 0 = eV N k d ap 7 * eV N k d ap 1 := by
  have h1 : facQ N k d (1 : Nat) = 1 := efacQ_one N k d
  rw [h1]
  simp only [eq_1, eq_7]
  grind
theorem ei_7_2 {N k d : Int} {ap : Nat → Rat} : facQ N k d (1 : Nat) * eV N k d ap 14 + 0 = eV N k d ap 7 * eV N k d ap 2 := by
  have h1 : facQ N k d (1 : Nat) = 1 := efacQ_one N k d
  rw [h1]
  simp only [eq_1, eq_2, eq_7, eq_14]
  grind
theorem ei_7_3 {N k d : Int} {ap : Nat → Rat} : facQ N k d (1 : Nat) * eV N k d ap 21 + 0 = eV N k d ap 7 * eV N k d ap 3 := by
  have h1 : facQ N k d (1 : Nat) = 1 := efacQ_one N k d
  rw [h1]
  simp only [eq_1, eq_3, eq_7, eq_21]
  grind
theorem ei_7_4 {N k d : Int} {ap : Nat → Rat} : facQ N k d (1 : Nat) * eV N k d ap 28 + 0 = eV N k d ap 7 * eV N k d ap 4 := by
  have h1 : facQ N k d (1 : Nat) = 1 := efacQ_one N k d
  rw [h1]
  simp only [eq_1, eq_2, eq_4, eq_7, eq_28]
  grind
theorem ei_8_1 {N k d : Int} {ap : Nat → Rat} : facQ N k d (1 : Nat) * eV N k d ap 8 + 0 = eV N k d ap 8 * eV N k d ap 1 := by
  have h1 : facQ N k d (1 : Nat) = 1 := efacQ_one N k d
  rw [h1]
  simp only [eq_1, eq_2, eq_4, eq_8]
  grind
theorem ei_8_2 {N k d : Int} {ap : Nat → Rat} : facQ N k d (1 : Nat) * eV N k d ap 16 + (facQ N k d (2 : Nat) * eV N k d ap 4 + 0) = eV N k d ap 8 * eV N k d ap 2 := by
  have h1 : facQ N k d (1 : Nat) = 1 := efacQ_one N k d
  rw [h1]
  simp only [eq_1, eq_2, eq_4, eq_8, eq_16]
  grind
theorem ei_8_3 {N k d : Int} {ap : Nat → Rat} : facQ N k d (1 : Nat) * eV N k d ap 24 + 0 = eV N k d ap 8 * eV N k d ap 3 := by
  have h1 : facQ N k d (1 : Nat) = 1 := efacQ_one N k d
  rw [h1]
  simp only [eq_1, eq_2, eq_3, eq_4, eq_8, eq_24]
  grind
theorem ei_9_1 {N k d : Int} {ap : Nat → Rat} : facQ N k d (1 : Nat) * eV N k d ap 9 + 0 = eV N k d ap 9 * eV N k d ap 1 := by
  have h1 : facQ N k d (1 : Nat) = 1 := efacQ_one N k d
  rw [h1]
  simp only [eq_1, eq_3, eq_9]
  grind
theorem ei_9_2 {N k d : Int} {ap : Nat → Rat} : facQ N k d (1 : Nat) * eV N k d ap 18 + 0 = eV N k d ap 9 * eV N k d ap 2 := by
  have h1 : facQ N k d (1 : Nat) = 1 := efacQ_one N k d
  rw [h1]
  simp only [eq_1, eq_2, eq_3, eq_9, eq_18]
  grind
theorem ei_9_3 {N k d : Int} {ap : Nat → Rat} : facQ N k d (1 : Nat) * eV N k d ap 27 + (facQ N k d (3 : Nat) * eV N k d ap 3 + 0) = eV N k d ap 9 * eV N k d ap 3 := by
  have h1 : facQ N k d (1 : Nat) = 1 := efacQ_one N k d
  rw [h1]
  simp only [eq_1, eq_3, eq_9, eq_27]
  grind
theorem ei_10_1 {N k d : Int} {ap : Nat → Rat} : facQ N k d (1 : Nat) * eV N k d ap 10 + 0 = eV N k d ap 10 * eV N k d ap 1 := by
  have h1 : facQ N k d (1 : Nat) = 1 := efacQ_one N k d
  rw [h1]
  simp only [eq_1, eq_2, eq_5, eq_10]
  grind
theorem ei_10_2 {N k d : Int} {ap : Nat → Rat} : facQ N k d (1 : Nat) * eV N k d ap 20 + (facQ N k d (2 : Nat) * eV N k d ap 5 + 0) = eV N k d ap 10 * eV N k d ap 2 := by
  have h1 : facQ N k d (1 : Nat) = 1 := efacQ_one N k d
  rw [h1]
  simp only [eq_1, eq_2, eq_4, eq_5, eq_10, eq_20]
  grind
theorem ei_10_3 {N k d : Int} {ap : Nat → Rat} : facQ N k d (1 : Nat) * eV N k d ap 30 + 0 = eV N k d ap 10 * eV N k d ap 3 := by
  have h1 : facQ N k d (1 : Nat) = 1 := efacQ_one N k d
  rw [h1]
  simp only [eq_1, eq_2, eq_3, eq_5, eq_10, eq_15, eq_30]
  grind
theorem ei_11_1 {N k d : Int} {ap : Nat → Rat} : facQ N k d (1 : Nat) * eV N k d ap 11 + 0 = eV N k d ap 11 * eV N k d ap 1 := by
  have h1 : facQ N k d (1 : Nat) = 1 := efacQ_one N k d
  rw [h1]
  simp only [eq_1, eq_11]
  grind
theorem ei_11_2 {N k d : Int} {ap : Nat → Rat} : facQ N k d (1 : Nat) * eV N k d ap 22 + 0 = eV N k d ap 11 * eV N k d ap 2 := by
  have h1 : facQ N k d (1 : Nat) = 1 := efacQ_one N k d
  rw [h1]
  simp only [eq_1, eq_2, eq_11, eq_22]
  grind
theorem ei_12_1 {N k d : Int} {ap : Nat → Rat} : facQ N k d (1 : Nat) * eV N k d ap 12 + 0 = eV N k d ap 12 * eV N k d ap 1 := by
  have h1 : facQ N k d (1 : Nat) = 1 := efacQ_one N k d
  rw [h1]
  simp only [eq_1, eq_2, eq_3, eq_4, eq_12]
  grind
theorem ei_12_2 {N k d : Int} {ap : Nat → Rat} : facQ N k d (1 : Nat) * eV N k d ap 24 + (facQ N k d (2 : Nat) * eV N k d ap 6 + 0) = eV N k d ap 12 * eV N k d ap 2 := by
  have h1 : facQ N k d (1 : Nat) = 1 := efacQ_one N k d
  rw [h1]
  simp only [eq_1, eq_2, eq_3, eq_4, eq_6, eq_8, eq_12, eq_24]
  grind
theorem ei {N k d : Int} {ap : Nat → Rat} : ∀ n M : Nat, 1 ≤ n → n ≤ 12 → 1 ≤ M → n * M ≤ 31 → rs (fun t => facQ N k d t * eV N k d ap (M / t * (n / t))) (dn n M) = eV N k d ap n * eV N k d ap M := by
  intro n M h1 h2 h3 h4
  have hn : n = 1 ∨ n = 2 ∨ n = 3 ∨ n = 4 ∨ n = 5 ∨ n = 6 ∨ n = 7 ∨ n = 8 ∨ n = 9 ∨ n = 10 ∨ n = 11 ∨ n = 12 := by omega
  rcases hn with rfl | rfl | rfl | rfl | rfl | rfl | rfl | rfl | rfl | rfl | rfl | rfl
  · have hM : M = 1 ∨ M = 2 ∨ M = 3 ∨ M = 4 ∨ M = 5 ∨ M = 6 ∨ M = 7 ∨ M = 8 ∨ M = 9 ∨ M = 10 ∨ M = 11 ∨ M = 12 ∨ M = 13 ∨ M = 14 ∨ M = 15 ∨ M = 16 ∨ M = 17 ∨ M = 18 ∨ M = 19 ∨ M = 20 ∨ M = 21 ∨ M = 22 ∨ M = 23 ∨ M = 24 ∨ M = 25 ∨ M = 26 ∨ M = 27 ∨ M = 28 ∨ M = 29 ∨ M = 30 ∨ M = 31 := by omega
    rcases hM with rfl | rfl | rfl | rfl | rfl | rfl | rfl | rfl | rfl | rfl | rfl | rfl | rfl | rfl | rfl | rfl | rfl | rfl | rfl | rfl | rfl | rfl | rfl | rfl | rfl | rfl | rfl | rfl | rfl | rfl | rfl
    · rw [show dn 1 1 = [1] by decide +kernel]; exact ei_1_1
    · rw [show dn 1 2 = [1] by decide +kernel]; exact ei_1_2
    · rw [show dn 1 3 = [1] by decide +kernel]; exact ei_1_3
    · rw [show dn 1 4 = [1] by decide +kernel]; exact ei_1_4
    · rw [show dn 1 5 = [1] by decide +kernel]; exact ei_1_5
    · rw [show dn 1 6 = [1] by decide +kernel]; exact ei_1_6
    · rw [show dn 1 7 = [1] by decide +kernel]; exact ei_1_7
    · rw [show dn 1 8 = [1] by decide +kernel]; exact ei_1_8
    · rw [show dn 1 9 = [1] by decide +kernel]; exact ei_1_9
    · rw [show dn 1 10 = [1] by decide +kernel]; exact ei_1_10
    · rw [show dn 1 11 = [1] by decide +kernel]; exact ei_1_11
    · rw [show dn 1 12 = [1] by decide +kernel]; exact ei_1_12
    · rw [show dn 1 13 = [1] by decide +kernel]; exact ei_1_13
    · rw [show dn 1 14 = [1] by decide +kernel]; exact ei_1_14
    · rw [show dn 1 15 = [1] by decide +kernel]; exact ei_1_15
    · rw [show dn 1 16 = [1] by decide +kernel]; exact ei_1_16
    · rw [show dn 1 17 = [1] by decide +kernel]; exact ei_1_17
    · rw [show dn 1 18 = [1] by decide +kernel]; exact ei_1_18
    · rw [show dn 1 19 = [1] by decide +kernel]; exact ei_1_19
    · rw [show dn 1 20 = [1] by decide +kernel]; exact ei_1_20
    · rw [show dn 1 21 = [1] by decide +kernel]; exact ei_1_21
    · rw [show dn 1 22 = [1] by decide +kernel]; exact ei_1_22
    · rw [show dn 1 23 = [1] by decide +kernel]; exact ei_1_23
    · rw [show dn 1 24 = [1] by decide +kernel]; exact ei_1_24
    · rw [show dn 1 25 = [1] by decide +kernel]; exact ei_1_25
    · rw [show dn 1 26 = [1] by decide +kernel]; exact ei_1_26
    · rw [show dn 1 27 = [1] by decide +kernel]; exact ei_1_27
    · rw [show dn 1 28 = [1] by decide +kernel]; exact ei_1_28
    · rw [show dn 1 29 = [1] by decide +kernel]; exact ei_1_29
    · rw [show dn 1 30 = [1] by decide +kernel]; exact ei_1_30
    · rw [show dn 1 31 = [1] by decide +kernel]; exact ei_1_31
  · have hM : M = 1 ∨ M = 2 ∨ M = 3 ∨ M = 4 ∨ M = 5 ∨ M = 6 ∨ M = 7 ∨ M = 8 ∨ M = 9 ∨ M = 10 ∨ M = 11 ∨ M = 12 ∨ M = 13 ∨ M = 14 ∨ M = 15 := by omega
    rcases hM with rfl | rfl | rfl | rfl | rfl | rfl | rfl | rfl | rfl | rfl | rfl | rfl | rfl | rfl | rfl
    · rw [show dn 2 1 = [1] by decide +kernel]; exact ei_2_1
    · rw [show dn 2 2 = [1, 2] by decide +kernel]; exact ei_2_2
    · rw [show dn 2 3 = [1] by decide +kernel]; exact ei_2_3
    · rw [show dn 2 4 = [1, 2] by decide +kernel]; exact ei_2_4
    · rw [show dn 2 5 = [1] by decide +kernel]; exact ei_2_5
    · rw [show dn 2 6 = [1, 2] by decide +kernel]; exact ei_2_6
    · rw [show dn 2 7 = [1] by decide +kernel]; exact ei_2_7
    · rw [show dn 2 8 = [1, 2] by decide +kernel]; exact ei_2_8
    · rw [show dn 2 9 = [1] by decide +kernel]; exact ei_2_9
    · rw [show dn 2 10 = [1, 2] by decide +kernel]; exact ei_2_10
    · rw [show dn 2 11 = [1] by decide +kernel]; exact ei_2_11
    · rw [show dn 2 12 = [1, 2] by decide +kernel]; exact ei_2_12
    · rw [show dn 2 13 = [1] by decide +kernel]; exact ei_2_13
    · rw [show dn 2 14 = [1, 2] by decide +kernel]; exact ei_2_14
    · rw [show dn 2 15 = [1] by decide +kernel]; exact ei_2_15
  · have hM : M = 1 ∨ M = 2 ∨ M = 3 ∨ M = 4 ∨ M = 5 ∨ M = 6 ∨ M = 7 ∨ M = 8 ∨ M = 9 ∨ M = 10 := by omega
    rcases hM with rfl | rfl | rfl | rfl | rfl | rfl | rfl | rfl | rfl | rfl
    · rw [show dn 3 1 = [1] by decide +kernel]; exact ei_3_1
    · rw [show dn 3 2 = [1] by decide +kernel]; exact ei_3_2
    · rw [show dn 3 3 = [1, 3] by decide +kernel]; exact ei_3_3
    · rw [show dn 3 4 = [1] by decide +kernel]; exact ei_3_4
    · rw [show dn 3 5 = [1] by decide +kernel]; exact ei_3_5
    · rw [show dn 3 6 = [1, 3] by decide +kernel]; exact ei_3_6
    · rw [show dn 3 7 = [1] by decide +kernel]; exact ei_3_7
    · rw [show dn 3 8 = [1] by decide +kernel]; exact ei_3_8
    · rw [show dn 3 9 = [1, 3] by decide +kernel]; exact ei_3_9
    · rw [show dn 3 10 = [1] by decide +kernel]; exact ei_3_10
  · have hM : M = 1 ∨ M = 2 ∨ M = 3 ∨ M = 4 ∨ M = 5 ∨ M = 6 ∨ M = 7 := by omega
    rcases hM with rfl | rfl | rfl | rfl | rfl | rfl | rfl
    · rw [show dn 4 1 = [1] by decide +kernel]; exact ei_4_1
    · rw [show dn 4 2 = [1, 2] by decide +kernel]; exact ei_4_2
    · rw [show dn 4 3 = [1] by decide +kernel]; exact ei_4_3
    · rw [show dn 4 4 = [1, 2, 4] by decide +kernel]; exact ei_4_4
    · rw [show dn 4 5 = [1] by decide +kernel]; exact ei_4_5
    · rw [show dn 4 6 = [1, 2] by decide +kernel]; exact ei_4_6
    · rw [show dn 4 7 = [1] by decide +kernel]; exact ei_4_7
  · have hM : M = 1 ∨ M = 2 ∨ M = 3 ∨ M = 4 ∨ M = 5 ∨ M = 6 := by omega
    rcases hM with rfl | rfl | rfl | rfl | rfl | rfl
    · rw [show dn 5 1 = [1] by decide +kernel]; exact ei_5_1
    · rw [show dn 5 2 = [1] by decide +kernel]; exact ei_5_2
    · rw [show dn 5 3 = [1] by decide +kernel]; exact ei_5_3
    · rw [show dn 5 4 = [1] by decide +kernel]; exact ei_5_4
    · rw [show dn 5 5 = [1, 5] by decide +kernel]; exact ei_5_5
    · rw [show dn 5 6 = [1] by decide +kernel]; exact ei_5_6
  · have hM : M = 1 ∨ M = 2 ∨ M = 3 ∨ M = 4 ∨ M = 5 := by omega
    rcases hM with rfl | rfl | rfl | rfl | rfl
    · rw [show dn 6 1 = [1] by decide +kernel]; exact ei_6_1
    · rw [show dn 6 2 = [1, 2] by decide +kernel]; exact ei_6_2
    · rw [show dn 6 3 = [1, 3] by decide +kernel]; exact ei_6_3
    · rw [show dn 6 4 = [1, 2] by decide +kernel]; exact ei_6_4
    · rw [show dn 6 5 = [1] by decide +kernel]; exact ei_6_5
  · have hM : M = 1 ∨ M = 2 ∨ M = 3 ∨ M = 4 := by omega
    rcases hM with rfl | rfl | rfl | rfl
    · rw [show dn 7 1 = [1] by decide +kernel]; exact ei_7_1
    · rw [show dn 7 2 = [1] by decide +kernel]; exact ei_7_2
    · rw [show dn 7 3 = [1] by decide +kernel]; exact ei_7_3
    · rw [show dn 7 4 = [1] by decide +kernel]; exact ei_7_4
  · have hM : M = 1 ∨ M = 2 ∨ M = 3 := by omega
    rcases hM with rfl | rfl | rfl
    · rw [show dn 8 1 = [1] by decide +kernel]; exact ei_8_1
    · rw [show dn 8 2 = [1, 2] by decide +kernel]; exact ei_8_2
    · rw [show dn 8 3 = [1] by decide +kernel]; exact ei_8_3
  · have hM : M = 1 ∨ M = 2 ∨ M = 3 := by omega
    rcases hM with rfl | rfl | rfl
    · rw [show dn 9 1 = [1] by decide +kernel]; exact ei_9_1
    · rw [show dn 9 2 = [1] by decide +kernel]; exact ei_9_2
    · rw [show dn 9 3 = [1, 3] by decide +kernel]; exact ei_9_3
  · have hM : M = 1 ∨ M = 2 ∨ M = 3 := by omega
    rcases hM with rfl | rfl | rfl
    · rw [show dn 10 1 = [1] by decide +kernel]; exact ei_10_1
    · rw [show dn 10 2 = [1, 2] by decide +kernel]; exact ei_10_2
    · rw [show dn 10 3 = [1] by decide +kernel]; exact ei_10_3
  · have hM : M = 1 ∨ M = 2 := by omega
    rcases hM with rfl | rfl
    · rw [show dn 11 1 = [1] by decide +kernel]; exact ei_11_1
    · rw [show dn 11 2 = [1] by decide +kernel]; exact ei_11_2
  · have hM : M = 1 ∨ M = 2 := by omega
    rcases hM with rfl | rfl
    · rw [show dn 12 1 = [1] by decide +kernel]; exact ei_12_1
    · rw [show dn 12 2 = [1, 2] by decide +kernel]; exact ei_12_2
theorem ht_subE {q r : Rat} {k l : Nat} (hq : Ht q k) (hr : Ht r l) : Ht (q - r) (k + l + 1) := by
  rw [Rat.sub_eq_add_neg]
  exact ht_add hq (ht_neg hr)
theorem eV_ht {N k d : Int} {ap : Nat → Rat} (hk : 1 ≤ k ∧ k ≤ 60) (h : ∀ p, Ht (ap p) 4) : ∀ n, n < 32 → Ht (eV N k d ap n) 200 := by
  have hf : ∀ p : Nat, 1 ≤ p → p < 1000 → Ht (facQ N k d p) 21 := fun p h1 h2 => facQ_ht hk (by omega)
  have e0 : Ht (eV N k d ap 0) 1 := ht0 (by decide)
  have e1 : Ht (eV N k d ap 1) 1 := ht_int (c := 1) (by decide)
  have e2 : Ht (eV N k d ap 2) 4 := by rw [eq_2]; exact (h 2).mono (by decide)
  have e3 : Ht (eV N k d ap 3) 4 := by rw [eq_3]; exact (h 3).mono (by decide)
  have e4 : Ht (eV N k d ap 4) 31 := by rw [eq_4]; exact (ht_subE (ht_mul (h 2) e2 (by decide)) (ht_mul (hf 2 (by decide) (by decide)) e1 (by decide))).mono (by decide)
  have e5 : Ht (eV N k d ap 5) 4 := by rw [eq_5]; exact (h 5).mono (by decide)
  have e6 : Ht (eV N k d ap 6) 8 := by rw [eq_6]; exact (ht_mul e2 e3 (by decide)).mono (by decide)
  have e7 : Ht (eV N k d ap 7) 4 := by rw [eq_7]; exact (h 7).mono (by decide)
  have e8 : Ht (eV N k d ap 8) 61 := by rw [eq_8]; exact (ht_subE (ht_mul (h 2) e4 (by decide)) (ht_mul (hf 2 (by decide) (by decide)) e2 (by decide))).mono (by decide)
  have e9 : Ht (eV N k d ap 9) 31 := by rw [eq_9]; exact (ht_subE (ht_mul (h 3) e3 (by decide)) (ht_mul (hf 3 (by decide) (by decide)) e1 (by decide))).mono (by decide)
  have e10 : Ht (eV N k d ap 10) 8 := by rw [eq_10]; exact (ht_mul e2 e5 (by decide)).mono (by decide)
  have e11 : Ht (eV N k d ap 11) 4 := by rw [eq_11]; exact (h 11).mono (by decide)
  have e12 : Ht (eV N k d ap 12) 35 := by rw [eq_12]; exact (ht_mul e4 e3 (by decide)).mono (by decide)
  have e13 : Ht (eV N k d ap 13) 4 := by rw [eq_13]; exact (h 13).mono (by decide)
  have e14 : Ht (eV N k d ap 14) 8 := by rw [eq_14]; exact (ht_mul e2 e7 (by decide)).mono (by decide)
  have e15 : Ht (eV N k d ap 15) 8 := by rw [eq_15]; exact (ht_mul e3 e5 (by decide)).mono (by decide)
  have e16 : Ht (eV N k d ap 16) 118 := by rw [eq_16]; exact (ht_subE (ht_mul (h 2) e8 (by decide)) (ht_mul (hf 2 (by decide) (by decide)) e4 (by decide))).mono (by decide)
  have e17 : Ht (eV N k d ap 17) 4 := by rw [eq_17]; exact (h 17).mono (by decide)
  have e18 : Ht (eV N k d ap 18) 35 := by rw [eq_18]; exact (ht_mul e2 e9 (by decide)).mono (by decide)
  have e19 : Ht (eV N k d ap 19) 4 := by rw [eq_19]; exact (h 19).mono (by decide)
  have e20 : Ht (eV N k d ap 20) 35 := by rw [eq_20]; exact (ht_mul e4 e5 (by decide)).mono (by decide)
  have e21 : Ht (eV N k d ap 21) 8 := by rw [eq_21]; exact (ht_mul e3 e7 (by decide)).mono (by decide)
  have e22 : Ht (eV N k d ap 22) 8 := by rw [eq_22]; exact (ht_mul e2 e11 (by decide)).mono (by decide)
  have e23 : Ht (eV N k d ap 23) 4 := by rw [eq_23]; exact (h 23).mono (by decide)
  have e24 : Ht (eV N k d ap 24) 65 := by rw [eq_24]; exact (ht_mul e8 e3 (by decide)).mono (by decide)
  have e25 : Ht (eV N k d ap 25) 31 := by rw [eq_25]; exact (ht_subE (ht_mul (h 5) e5 (by decide)) (ht_mul (hf 5 (by decide) (by decide)) e1 (by decide))).mono (by decide)
  have e26 : Ht (eV N k d ap 26) 8 := by rw [eq_26]; exact (ht_mul e2 e13 (by decide)).mono (by decide)
  have e27 : Ht (eV N k d ap 27) 61 := by rw [eq_27]; exact (ht_subE (ht_mul (h 3) e9 (by decide)) (ht_mul (hf 3 (by decide) (by decide)) e3 (by decide))).mono (by decide)
  have e28 : Ht (eV N k d ap 28) 35 := by rw [eq_28]; exact (ht_mul e4 e7 (by decide)).mono (by decide)
  have e29 : Ht (eV N k d ap 29) 4 := by rw [eq_29]; exact (h 29).mono (by decide)
  have e30 : Ht (eV N k d ap 30) 12 := by rw [eq_30]; exact (ht_mul e2 e15 (by decide)).mono (by decide)
  have e31 : Ht (eV N k d ap 31) 4 := by rw [eq_31]; exact (h 31).mono (by decide)
  intro n hn
  have hc : n = 0 ∨ n = 1 ∨ n = 2 ∨ n = 3 ∨ n = 4 ∨ n = 5 ∨ n = 6 ∨ n = 7 ∨ n = 8 ∨ n = 9 ∨ n = 10 ∨ n = 11 ∨ n = 12 ∨ n = 13 ∨ n = 14 ∨ n = 15 ∨ n = 16 ∨ n = 17 ∨ n = 18 ∨ n = 19 ∨ n = 20 ∨ n = 21 ∨ n = 22 ∨ n = 23 ∨ n = 24 ∨ n = 25 ∨ n = 26 ∨ n = 27 ∨ n = 28 ∨ n = 29 ∨ n = 30 ∨ n = 31 := by omega
  rcases hc with rfl | rfl | rfl | rfl | rfl | rfl | rfl | rfl | rfl | rfl | rfl | rfl | rfl | rfl | rfl | rfl | rfl | rfl | rfl | rfl | rfl | rfl | rfl | rfl | rfl | rfl | rfl | rfl | rfl | rfl | rfl | rfl
  · exact e0.mono (by decide)
  · exact e1.mono (by decide)
  · exact e2.mono (by decide)
  · exact e3.mono (by decide)
  · exact e4.mono (by decide)
  · exact e5.mono (by decide)
  · exact e6.mono (by decide)
  · exact e7.mono (by decide)
  · exact e8.mono (by decide)
  · exact e9.mono (by decide)
  · exact e10.mono (by decide)
  · exact e11.mono (by decide)
  · exact e12.mono (by decide)
  · exact e13.mono (by decide)
  · exact e14.mono (by decide)
  · exact e15.mono (by decide)
  · exact e16.mono (by decide)
  · exact e17.mono (by decide)
  · exact e18.mono (by decide)
  · exact e19.mono (by decide)
  · exact e20.mono (by decide)
  · exact e21.mono (by decide)
  · exact e22.mono (by decide)
  · exact e23.mono (by decide)
  · exact e24.mono (by decide)
  · exact e25.mono (by decide)
  · exact e26.mono (by decide)
  · exact e27.mono (by decide)
  · exact e28.mono (by decide)
  · exact e29.mono (by decide)
  · exact e30.mono (by decide)
  · exact e31.mono (by decide)
/-- the numbers at the primes are all that counts -/
theorem eV_congr {N k d : Int} {ap bp : Nat → Rat} (h : ∀ p, p ∈ [2, 3, 5, 7, 11, 13, 17, 19, 23, 29, 31] → ap p = bp p) : ∀ n, n < 32 → eV N k d ap n = eV N k d bp n := by
  have e2 : eV N k d ap 2 = eV N k d bp 2 := by rw [eq_2, eq_2, h 2 (by decide)]
  have e3 : eV N k d ap 3 = eV N k d bp 3 := by rw [eq_3, eq_3, h 3 (by decide)]
  have e4 : eV N k d ap 4 = eV N k d bp 4 := by rw [eq_4, eq_4, h 2 (by decide), e2, eq_1, eq_1]
  have e5 : eV N k d ap 5 = eV N k d bp 5 := by rw [eq_5, eq_5, h 5 (by decide)]
  have e6 : eV N k d ap 6 = eV N k d bp 6 := by rw [eq_6, eq_6, e2, e3]
  have e7 : eV N k d ap 7 = eV N k d bp 7 := by rw [eq_7, eq_7, h 7 (by decide)]
  have e8 : eV N k d ap 8 = eV N k d bp 8 := by rw [eq_8, eq_8, h 2 (by decide), e4, e2]
  have e9 : eV N k d ap 9 = eV N k d bp 9 := by rw [eq_9, eq_9, h 3 (by decide), e3, eq_1, eq_1]
  have e10 : eV N k d ap 10 = eV N k d bp 10 := by rw [eq_10, eq_10, e2, e5]
  have e11 : eV N k d ap 11 = eV N k d bp 11 := by rw [eq_11, eq_11, h 11 (by decide)]
  have e12 : eV N k d ap 12 = eV N k d bp 12 := by rw [eq_12, eq_12, e4, e3]
  have e13 : eV N k d ap 13 = eV N k d bp 13 := by rw [eq_13, eq_13, h 13 (by decide)]
  have e14 : eV N k d ap 14 = eV N k d bp 14 := by rw [eq_14, eq_14, e2, e7]
  have e15 : eV N k d ap 15 = eV N k d bp 15 := by rw [eq_15, eq_15, e3, e5]
  have e16 : eV N k d ap 16 = eV N k d bp 16 := by rw [eq_16, eq_16, h 2 (by decide), e8, e4]
  have e17 : eV N k d ap 17 = eV N k d bp 17 := by rw [eq_17, eq_17, h 17 (by decide)]
  have e18 : eV N k d ap 18 = eV N k d bp 18 := by rw [eq_18, eq_18, e2, e9]
  have e19 : eV N k d ap 19 = eV N k d bp 19 := by rw [eq_19, eq_19, h 19 (by decide)]
  have e20 : eV N k d ap 20 = eV N k d bp 20 := by rw [eq_20, eq_20, e4, e5]
  have e21 : eV N k d ap 21 = eV N k d bp 21 := by rw [eq_21, eq_21, e3, e7]
  have e22 : eV N k d ap 22 = eV N k d bp 22 := by rw [eq_22, eq_22, e2, e11]
  have e23 : eV N k d ap 23 = eV N k d bp 23 := by rw [eq_23, eq_23, h 23 (by decide)]
  have e24 : eV N k d ap 24 = eV N k d bp 24 := by rw [eq_24, eq_24, e8, e3]
  have e25 : eV N k d ap 25 = eV N k d bp 25 := by rw [eq_25, eq_25, h 5 (by decide), e5, eq_1, eq_1]
  have e26 : eV N k d ap 26 = eV N k d bp 26 := by rw [eq_26, eq_26, e2, e13]
  have e27 : eV N k d ap 27 = eV N k d bp 27 := by rw [eq_27, eq_27, h 3 (by decide), e9, e3]
  have e28 : eV N k d ap 28 = eV N k d bp 28 := by rw [eq_28, eq_28, e4, e7]
  have e29 : eV N k d ap 29 = eV N k d bp 29 := by rw [eq_29, eq_29, h 29 (by decide)]
  have e30 : eV N k d ap 30 = eV N k d bp 30 := by rw [eq_30, eq_30, e2, e15]
  have e31 : eV N k d ap 31 = eV N k d bp 31 := by rw [eq_31, eq_31, h 31 (by decide)]
  intro n hn
  have hc : n = 0 ∨ n = 1 ∨ n = 2 ∨ n = 3 ∨ n = 4 ∨ n = 5 ∨ n = 6 ∨ n = 7 ∨ n = 8 ∨ n = 9 ∨ n = 10 ∨ n = 11 ∨ n = 12 ∨ n = 13 ∨ n = 14 ∨ n = 15 ∨ n = 16 ∨ n = 17 ∨ n = 18 ∨ n = 19 ∨ n = 20 ∨ n = 21 ∨ n = 22 ∨ n = 23 ∨ n = 24 ∨ n = 25 ∨ n = 26 ∨ n = 27 ∨ n = 28 ∨ n = 29 ∨ n = 30 ∨ n = 31 := by omega
  rcases hc with rfl | rfl | rfl | rfl | rfl | rfl | rfl | rfl | rfl | rfl | rfl | rfl | rfl | rfl | rfl | rfl | rfl | rfl | rfl | rfl | rfl | rfl | rfl | rfl | rfl | rfl | rfl | rfl | rfl | rfl | rfl | rfl
  · rfl
  · rfl
  · exact e2
  · exact e3
  · exact e4
  · exact e5
  · exact e6
  · exact e7
  · exact e8
  · exact e9
  · exact e10
  · exact e11
  · exact e12
  · exact e13
  · exact e14
  · exact e15
  · exact e16
  · exact e17
  · exact e18
  · exact e19
  · exact e20
  · exact e21
  · exact e22
  · exact e23
  · exact e24
  · exact e25
  · exact e26
  · exact e27
  · exact e28
  · exact e29
  · exact e30
  · exact e31
end Ab
namespace Ab
open Go Go.RowKit Go.Proofs Hp
set_option maxRecDepth 100000

/-- trial division -/
def pd : Nat → Nat → Nat → Bool
  | 0, _, _ => true
  | f + 1, d, n => if d * d ≤ n then (if n % d = 0 then false else pd f (d + 1) n) else true
def prB (n : Nat) : Bool := if n < 2 then false else pd n 2 n
set_option maxHeartbeats 2000000 in
theorem prime_p {n : Nat} (hn : n ≤ 1000) : PC Tryz.prog 135 [iV n] (bV (prB n)) := by
  by_cases h2 : n < 2
  · have k1 : decide ((n : Int) < 2) = true := decide_eq_true (by omega)
    have e : prB n = false := by unfold prB; rw [if_pos h2]
    rw [e]
    refine pc_body1 true Tryz.func135 rfl rfl rfl (Nat.le_of_ble_eq_true rfl) CellT.tmp ?_
    refine goA ?_
    exact rfl
  · have k1 : decide ((n : Int) < 2) = false := decide_eq_false (by omega)
    have e : prB n = pd n 2 n := by unfold prB; rw [if_neg h2]
    rw [e]
    clear e
    refine pc_body1 true Tryz.func135 rfl rfl rfl (Nat.le_of_ble_eq_true rfl) CellT.tmp ?_
    refine r1A ?_
    refine T.seqI (fun s1 => s1 = mkS [(0, .v (iV n)), (2, .v (bV false))] [] 17 true) ?_ ?_
    · refine goA ?_
      exact midQ_intro (by exact entA) rfl
    rintro _ rfl
    refine T.seqI (fun s1 => pd n 2 n = true ∧ s1 = mkS [(0, .v (iV n)), (2, .v (bV false))] [] 17 true) ?_ ?_
    · refine r1A ?_
      refine T.block ?_
      refine T.loop (fun x s1 => ∃ d f : Nat, 2 ≤ d ∧ x = f ∧ f + d = n + 2 ∧ pd f d n = pd n 2 n ∧ s1 = mkS [(0, .v (iV n)), (2, .v (bV false)), (3, .v (iV d))] [] 17 true) n
        (s' := mkS [(0, .v (iV n)), (2, .v (bV false)), (3, .v (iV ((2 : Nat) : Int)))] [] 17 true) (by exact entA) ⟨2, n, by decide, rfl, by omega, rfl, rfl⟩ ?_
      rintro x _ ⟨d, f, d2, rfl, hfd, hpd, rfl⟩
      by_cases c : d * d ≤ n
      · have hdn : d ≤ n := Nat.le_trans (Nat.le_mul_of_pos_left d (by omega)) c
        have em : (d : Int) * (d : Int) = ((d * d : Nat) : Int) := (Int.natCast_mul d d).symm
        have c' : (d : Int) * (d : Int) ≤ (n : Int) := by rw [em]; omega
        have c0 : 0 ≤ (d : Int) * (d : Int) := by rw [em]; omega
        have kc : decide ((d : Int) * (d : Int) ≤ (n : Int)) = true := decide_eq_true c'
        have er : (n : Int).tmod (d : Int) = ((n % d : Nat) : Int) := rfl
        obtain ⟨g, rfl⟩ : ∃ g, x = g + 1 := ⟨x - 1, by omega⟩
        rw [pd, if_pos c] at hpd
        by_cases cd : n % d = 0
        · have kd : (((n % d : Nat) : Int) == 0) = true := by rw [cd]; rfl
          rw [if_pos cd] at hpd
          rw [← hpd]
          refine goA ?_
          refine evG ggA (ss_div (op := .rem) (InB_of rfl) rfl rfl (by omega) rfl) ?_
          rw [er]
          refine goA ?_
          exact rfl
        · have kd : (((n % d : Nat) : Int) == 0) = false := by rw [beq_eq_false_iff_ne]; omega
          rw [if_neg cd] at hpd
          refine goA ?_
          refine evG ggA (ss_div (op := .rem) (InB_of rfl) rfl rfl (by omega) rfl) ?_
          rw [er]
          refine goA ?_
          exact loopQ_intro (k := g) (s' := mkS [(0, .v (iV n)), (2, .v (bV false)), (3, .v (iV ((d + 1 : Nat) : Int)))] [] 17 true) (by omega) (by exact entA) ⟨d + 1, g, by omega, rfl, by omega, hpd, rfl⟩
      · have em : (d : Int) * (d : Int) = ((d * d : Nat) : Int) := (Int.natCast_mul d d).symm
        have hdl : d * d ≤ 1002 * 1002 := Nat.mul_le_mul (by omega) (by omega)
        have c' : ¬ (d : Int) * (d : Int) ≤ (n : Int) := by rw [em]; omega
        have c1 : (d : Int) * (d : Int) ≤ 1004004 := by rw [em]; omega
        have kc : decide ((d : Int) * (d : Int) ≤ (n : Int)) = false := decide_eq_false c'
        have hT : pd n 2 n = true := by
          rw [← hpd]
          cases x with
          | zero => rfl
          | succ g => rw [pd, if_neg c]
        refine goA ?_
        exact midQ_intro (by exact entA) ⟨hT, rfl⟩
    rintro _ ⟨e, rfl⟩
    rw [e]
    refine goA ?_
    exact rfl
theorem isPrime_p {n : Nat} (hn : n ≤ 1000) : PC Tryz.prog 98 [iV n] (.tup [bV (prB n), iV 0]) := by
  have c := prime_p hn
  have k1 : decide ((n : Int) > 2147483647) = false := decide_eq_false (by omega)
  generalize prB n = b at *
  refine pc_body2 true Tryz.func98 rfl rfl rfl (Nat.le_of_ble_eq_true rfl) CellT.tmp CellT.tmp ?_
  refine goA ?_
  refine evG ggA (ss_call (InB_of rfl) rfl rfl c) ?_
  refine goA ?_
  exact rfl
theorem order_p {s : Int} {es : List AV} {l : List Rat} {K : Nat} (h : IsL es K l) (hK : K ≤ 100000000) (hv : ValidP s es.length = true) (hl : lead l < l.length) : PC Tryz.prog 96 [serA s es] (.tup [iV (s + lead l), iV 0]) := by
  obtain ⟨a0, a1, a2⟩ := valid_iff.1 hv
  have hva := valid_p (s := s) (es := es) (by omega) (by omega) (by omega)
  rw [hv] at hva
  have ht := tidy_p h (by omega) a0 a1 a2
  have hlen : ((l.drop (lead l)).map encQ).length = l.length - lead l := by rw [List.length_map, List.length_drop]
  generalize (l.drop (lead l)).map encQ = D at *
  have k1 : ((D.length : Int) == 0) = false := by rw [beq_eq_false_iff_ne]; omega
  refine pc_body2 true Tryz.func96 rfl rfl rfl (Nat.le_of_ble_eq_true rfl) CellT.tmp CellT.tmp ?_
  refine goA ?_
  refine evG ggA (ss_call (InB_of rfl) rfl rfl hva) ?_
  refine goA ?_
  refine evG ggA (ss_call (InB_of rfl) rfl rfl ht) ?_
  refine goA ?_
  exact rfl
/-- Euler's coefficients from the first on -/
def eS (E : Nat → Rat) (Q : Nat) : List Rat := tk (fun i => E (i + 1)) Q
theorem eS_len {E : Nat → Rat} {Q : Nat} : (eS E Q).length = Q := tk_len _ _
theorem eS_cf {E : Nat → Rat} (h0 : E 0 = 0) {Q : Nat} {M : Int} (h : M < 1 + (Q : Int)) : cf 1 (eS E Q) M = if M < 0 then 0 else E M.toNat := by
  by_cases c : M < 1
  · rw [cf_lt c]
    by_cases c2 : M < 0
    · rw [if_pos c2]
    · rw [if_neg c2, show M.toNat = 0 by omega, h0]
  · unfold eS
    rw [cf_tk (by omega) (by omega), if_neg (by omega)]
    show E ((M - 1).toNat + 1) = _
    congr 1
    omega
theorem eS_lead {E : Nat → Rat} (h1 : E 1 = 1) {Q : Nat} (hQ : 1 ≤ Q) : lead (eS E Q) = 0 := by
  obtain ⟨q, rfl⟩ : ∃ q, Q = q + 1 := ⟨Q - 1, by omega⟩
  have : eS E (q + 1) = E 1 :: (tk (fun i => E (i + 2)) q) := by
    unfold eS tk
    rw [List.range_succ_eq_map, List.map_cons, List.map_map]
    rfl
  rw [this, h1, lead, if_neg (by decide)]
theorem eS_take {E : Nat → Rat} {Q R : Nat} (h : R ≤ Q) : (eS E Q).take R = eS E R := by
  unfold eS tk
  rw [← List.map_take, List.take_range, Nat.min_eq_left h]
theorem eS_cut {E : Nat → Rat} (h1 : E 1 = 1) {p : Int} (h2 : 2 ≤ p) (h3 : p ≤ 32) : cutR 1 (eS E 31) p = some (1, eS E (p - 1).toNat) := by
  unfold cutR cutS tdy
  rw [eS_len, if_pos (by rw [Bool.and_eq_true]; exact ⟨by decide, decide_eq_true (by omega)⟩)]
  by_cases c : (1 : Int) + ((31 : Nat) : Int) ≤ p
  · rw [if_pos c, eS_lead h1 (by decide), List.drop_zero, show (p - 1).toNat = 31 by omega]
    rfl
  · rw [if_neg c, if_neg (by omega), eS_take (by omega), eS_lead h1 (by omega), List.drop_zero]
    rfl
theorem eS_ht {E : Nat → Rat} {H Q : Nat} (h : ∀ n, n < 32 → Ht (E n) H) (hQ : Q ≤ 31) : ∀ q, q ∈ eS E Q → Ht q H := fun q hq => by
  obtain ⟨i, hi, rfl⟩ := tk_mem hq
  exact h (i + 1) (by omega)
set_option maxHeartbeats 4000000 in
theorem eigenvalue_p {N k d : Int} {E : Nat → Rat} {H n : Nat} (hs : SpecOK N k d) (h0 : E 0 = 0) (h1 : E 1 = 1) (hh : ∀ n, n < 32 → Ht (E n) H) (hH : 1 ≤ H ∧ H ≤ 1000) (hn : 1 ≤ n ∧ n ≤ 12)
    (hT : ∀ M : Nat, 1 ≤ M → n * M ≤ 31 → rs (fun t => facQ N k d t * E (M / t * (n / t))) (dn n M) = E n * E M) :
    PC Tryz.prog 36 [serA 1 ((eS E 31).map encQ), specA N k d, iV n] (.tup [encQ (E n), iV 0]) := by
  have hv31 : ValidP 1 (eS E 31).length = true := by rw [eS_len]; decide
  have hE31 := eS_ht hh (Q := 31) (by decide)
  obtain ⟨u, c, e, e1, e2, e3, e4, e5, e6, e7⟩ := hk_out (N := N) (k := k) (d := d) (A := 1) (n := n) (L := eS E 31) (K := H) ⟨hs.k0, hs.k1⟩ (by decide) (by rw [eS_len]; decide) (by rw [eS_len]; decide) ⟨by omega, by omega⟩ (by omega) hH.1 hE31
  obtain ⟨p1, p2, p3⟩ := up_bd (p := 1 + (eS E 31).length) (n := n) (by omega) (by omega)
  rw [eS_len] at p1 p2 p3 e2 e3 e5
  have hp3 : 3 ≤ hkTo (1 + ((31 : Nat) : Int)) n := by
    unfold hkTo
    have h2 := Int.mul_ediv_add_emod (0 - (1 + ((31 : Nat) : Int))) n
    have h3 := Int.emod_nonneg (0 - (1 + ((31 : Nat) : Int))) (show (n : Int) ≠ 0 by omega)
    generalize (0 - (1 + ((31 : Nat) : Int))) / (n : Int) = q at *
    refine Int.not_lt.1 fun hlt => ?_
    have : (n : Int) * (-2) ≤ n * q := Int.mul_le_mul_of_nonneg_left (by omega) (by omega)
    omega
  have hcf : ∀ M, M < u + c.length → cf u c M = E n * (if M < 0 then 0 else E M.toNat) := fun M hM => by
    rw [e5 M (by omega)]
    by_cases c0 : M < 0
    · rw [if_pos c0, Rat.mul_zero, hkC_lo (by omega) (by unfold hkFrom; rw [if_pos (by decide)]; exact c0)]
    · rw [if_neg c0, hkC_rs hn.1 (by omega)]
      obtain ⟨m, rfl⟩ : ∃ m : Nat, M = m := ⟨M.toNat, by omega⟩
      rw [Int.toNat_natCast]
      have hmn : m * n ≤ 31 := by
        have : (m : Int) * n ≤ (hkTo (1 + ((31 : Nat) : Int)) n - 1) * n := Int.mul_le_mul_of_nonneg_right (by omega) (by omega)
        have h2 : (m : Int) * n = ((m * n : Nat) : Int) := (Int.natCast_mul m n).symm
        omega
      have hdl : dl n m = dn n m := by
        unfold dl dn
        refine List.filter_congr fun t _ => ?_
        congr 1
        rw [Bool.eq_iff_iff, beq_iff_eq, beq_iff_eq]
        omega
      rw [hdl]
      have hg : rs (fun t => facQ N k d t * cf 1 (eS E 31) ((m : Int) / t * ((n / t : Nat) : Int))) (dn n m) = rs (fun t => facQ N k d t * E (m / t * (n / t))) (dn n m) := rs_congr fun t ht => by
        obtain ⟨⟨t0, -⟩, t1, t2⟩ := mem_dn.1 ht
        have hle : m / t * (n / t) ≤ m * n := Nat.mul_le_mul (Nat.div_le_self _ _) (Nat.div_le_self _ _)
        have hi : (m : Int) / t * ((n / t : Nat) : Int) = ((m / t * (n / t) : Nat) : Int) := by rw [Int.natCast_mul, ← Int.natCast_ediv m t]
        rw [hi, eS_cf h0 (by omega), if_neg (by omega), Int.toNat_natCast]
      rw [hg]
      rcases Nat.eq_zero_or_pos m with z | z
      · subst z
        rw [h0, Rat.mul_zero]
        have : ∀ l : List Nat, rs (fun t => facQ N k d t * E (0 / t * (n / t))) l = 0 := fun l => by
          induction l with
          | nil => rfl
          | cons x l ih =>
            show facQ N k d x * E (0 / x * (n / x)) + rs _ l = 0
            rw [ih, Nat.zero_div, Nat.zero_mul, h0, Rat.mul_zero, Rat.add_zero]
        exact this _
      · exact hT m z (by rw [Nat.mul_comm]; exact hmn)
  have e6 : ∀ q, q ∈ c → Ht q 20000 := fun q hq => (e6 q hq).mono (by
    have : (n : Int).toNat * (22 + H) ≤ 12 * (22 + H) := Nat.mul_le_mul_right _ (by omega)
    omega)
  have m1 := hecke_p (s := 1) (es := (eS E 31).map encQ) (l := eS E 31) (n := (n : Int)) (K := H) hs (isL_enc hE31) (by simp) ⟨hH.1, by omega⟩ (by rw [List.length_map]; exact hv31) (by rw [List.length_map, eS_len]; decide) (by omega) (by omega)
  rw [eS_lead h1 (by decide), List.drop_zero, show (1 : Int) + ((0 : Nat) : Int) = 1 by omega, e] at m1
  have m1 : PC Tryz.prog 22 [serA 1 ((eS E 31).map encQ), specA N k d, iV n] (.tup [serA u (c.map encQ), iV 0]) := m1
  obtain ⟨P, hP⟩ : ∃ P, P = u + (c.length : Int) := ⟨_, rfl⟩
  have hcv : ValidP u c.length = true := valid_iff.2 ⟨e1, by omega, by omega⟩
  have hcl : (c.map encQ).length = c.length := List.length_map ..
  have m2 := sprec_p (s := u) (es := c.map encQ) ⟨by omega, by omega, by omega⟩
  rw [hcl, hcv, if_pos rfl, if_pos rfl, ← hP] at m2
  have m3 := cutx_p (s := 1) (p := P) (es := (eS E 31).map encQ) (l := eS E 31) (K := H) (fun _ => isL_enc hE31) (by simp) ⟨by decide, by decide, by rw [List.length_map, eS_len]; decide⟩ ⟨hH.1, by omega⟩ (by omega) (by omega)
  rw [eS_cut h1 (by omega) (by omega)] at m3
  obtain ⟨Q, hQ⟩ : ∃ Q, Q = (P - 1).toNat := ⟨_, rfl⟩
  rw [← hQ] at m3
  have m3 : PC Tryz.prog 95 [serA 1 ((eS E 31).map encQ), iV P] (.tup [serA 1 ((eS E Q).map encQ), iV 0]) := m3
  have hEQ := eS_ht hh (Q := Q) (by omega)
  have hQv : ValidP 1 (eS E Q).length = true := by rw [eS_len]; exact valid_iff.2 ⟨by decide, by decide, by omega⟩
  have hql : ((eS E Q).map encQ).length = Q := by rw [List.length_map, eS_len]
  have m4 := order_p (s := 1) (es := (eS E Q).map encQ) (l := eS E Q) (K := H) (isL_enc hEQ) (by omega) (by rw [List.length_map]; exact hQv) (by rw [eS_lead h1 (by omega), eS_len]; omega)
  rw [eS_lead h1 (by omega), show (1 : Int) + ((0 : Nat) : Int) = 1 by omega] at m4
  have m5 := seriesAt_p (s := 1) (n := 1) (es := (eS E Q).map encQ) (l := eS E Q) (K := H) (isL_enc hEQ) ⟨hH.1, by omega⟩ (by rw [List.length_map]; exact hQv) (by decide) (by rw [hql]; omega)
  rw [eS_cf h0 (by omega), if_neg (by decide), show (1 : Int).toNat = 1 from rfl, h1] at m5
  have m6 := seriesAt_p (s := u) (n := 1) (es := c.map encQ) (l := c) (K := 20000) (isL_enc e6) (by decide) (by rw [hcl]; exact hcv) (by decide) (by rw [hcl]; omega)
  rw [hcf 1 (by omega), if_neg (by decide), show (1 : Int).toNat = 1 from rfl, h1, Rat.mul_one] at m6
  have hEn := hh n (by omega)
  have m7 := rquo_p (isV_encQ hEn) (by omega) (isV_encQ (show Ht (1 : Rat) 1 from ht_int (c := 1) (by decide))) (by decide) (by decide)
  rw [show E n / 1 = E n by rw [Rat.div_def, show (1 : Rat)⁻¹ = 1 by decide +kernel, Rat.mul_one]] at m7
  have m8 := scale_p (c := E n) (s := 1) (es := (eS E Q).map encQ) (l := eS E Q) (K := H) (isV_encQ hEn) (fun _ => isL_enc hEQ) (by simp) ⟨by decide, by decide, by rw [hql]; omega⟩ hH.1 hH.1 (by omega)
  obtain ⟨X, D, g, g1, g2, g3, g4, g5, g6, g7⟩ := scl_out (c := E n) (s := 1) (l := eS E Q) (k := H) (K := H) hQv hEn hH.1 hH.1 hEQ
  rw [g] at m8
  have m8 : PC Tryz.prog 25 [encQ (E n), serA 1 ((eS E Q).map encQ)] (.tup [serA X (D.map encQ), iV 0]) := m8
  rw [eS_len] at g2 g3 g5
  have hDv : ValidP X D.length = true := valid_iff.2 ⟨g1, by omega, by omega⟩
  obtain ⟨pp, hd⟩ := dif_no hDv hcv (fun M a b => by
    rw [g5 M (by omega)]
    show E n * cf 1 (eS E Q) M = _
    rw [eS_cf h0 (by omega), hcf M b])
  have m9 := differ_p (s := X) (t := u) (es := D.map encQ) (fs := c.map encQ) (l := D) (m := c) (K := 20000) ⟨fun _ _ => ⟨isL_enc fun q hq => (g6 q hq).mono (by omega), isL_enc e6⟩, by simp, by simp, ⟨by omega, by omega, by rw [List.length_map]; omega⟩, ⟨by omega, by omega, by rw [List.length_map]; omega⟩⟩ (by decide)
  rw [hd] at m9
  have m9 : PC Tryz.prog 31 [serA X (D.map encQ), serA u (c.map encQ)] (.tup [iV pp, bV false, iV 0]) := m9
  clear hd g g1 g2 g3 g4 g5 g6 g7 hDv hQv hEQ hcv hcl e e1 e2 e3 e4 e5 e6 e7 hcf hT hh hv31 hE31 p1 p2 p3 hp3 hP hQ hql hEn h0 h1
  generalize (eS E 31).map encQ = E31 at *
  generalize (eS E Q).map encQ = EQ at *
  generalize c.map encQ = C at *
  generalize D.map encQ = DD at *
  generalize E n = En at *
  have qe : ((0 : Int) != 0) = false := rfl
  unfold specA at *
  refine pc_body2 true Tryz.func36 rfl rfl rfl (Nat.le_of_ble_eq_true rfl) (CellT.agg (l := ci En.num ++ ci En.den) agg_rat) CellT.tmp ?_
  refine goA ?_
  refine evG ggA (ss_call (InB_of rfl) rfl rfl m1) ?_
  refine goA ?_
  refine evG ggA (ss_call (InB_of rfl) rfl rfl m2) ?_
  refine goA ?_
  refine evG ggA (ss_call (InB_of rfl) rfl rfl m3) ?_
  refine goA ?_
  refine evG ggA (ss_call (InB_of rfl) rfl rfl m4) ?_
  refine goA ?_
  refine evG ggA (ss_call (InB_of rfl) rfl rfl m5) ?_
  refine goA ?_
  refine evG ggA (ss_call (InB_of rfl) rfl rfl m6) ?_
  refine goA ?_
  refine evG ggA (ss_call (InB_of rfl) rfl rfl m7) ?_
  refine goA ?_
  refine evG ggA (ss_call (InB_of rfl) rfl rfl m8) ?_
  refine goA ?_
  refine evG ggA (ss_call (InB_of rfl) rfl rfl m9) ?_
  refine goA ?_
  exact rfl
/-- the numbers at the primes, as a map -/
def mpB (E : Nat → Rat) : Nat → List (Int × AV)
  | 0 => []
  | n + 1 => if prB n then mput (mpB E n) ((n : Nat) : Int) (encQ (E n)) else mpB E n
def mpQ (E : Nat → Rat) : Nat → List (Int × Rat)
  | 0 => []
  | n + 1 => if prB n then putQ (mpQ E n) ((n : Nat) : Int) (E n) else mpQ E n
theorem mpB_rel {E : Nat → Rat} {H : Nat} (h : ∀ n, n < 32 → Ht (E n) H) : ∀ n, n ≤ 32 → RelM H (mpB E n) (mpQ E n)
  | 0, _ => trivial
  | n + 1, hn => by
    unfold mpB mpQ
    cases prB n with
    | true => exact relM_put (isV_encQ (h n (by omega))) (mpB_rel h n (by omega))
    | false => exact mpB_rel h n (by omega)
def apM (E : Nat → Rat) (p : Nat) : Rat := (lookQ (mpQ E 32) (p : Int)).getD 0
theorem apM_eq (E : Nat → Rat) : ∀ p, p ∈ [2, 3, 5, 7, 11, 13, 17, 19, 23, 29, 31] → apM E p = E p := by
  intro p hp
  simp only [List.mem_cons, List.not_mem_nil, or_false] at hp
  rcases hp with rfl | rfl | rfl | rfl | rfl | rfl | rfl | rfl | rfl | rfl | rfl
  all_goals kernel_rfl
set_option maxHeartbeats 8000000 in
theorem multiplicative_p {N k d : Int} {E : Nat → Rat} {H : Nat} (hs : SpecOK N k d) (h0 : E 0 = 0) (hh : ∀ n, n < 32 → Ht (E n) H) (hH : 1 ≤ H ∧ H ≤ 1000) (hE : ∀ n, n < 32 → eV N k d (apM E) n = E n) :
    PC Tryz.prog 37 [serA 1 ((eS E 31).map encQ), specA N k d] (.tup [iV 32, bV true, iV 0]) := by
  have hv31 : ValidP 1 ((eS E 31).map encQ).length = true := by rw [List.length_map, eS_len]; decide
  have hE31 := eS_ht hh (Q := 31) (by decide)
  have hlen : ((eS E 31).map encQ).length = 31 := by rw [List.length_map, eS_len]
  have cch := hcheck_p hs
  have cpr := sprec_p (s := 1) (es := (eS E 31).map encQ) ⟨by decide, by decide, by rw [hlen]; decide⟩
  rw [hv31, if_pos rfl, if_pos rfl, hlen, show (1 : Int) + ((31 : Nat) : Int) = 32 by omega] at cpr
  have cat : ∀ n : Nat, n < 32 → PC Tryz.prog 79 [serA 1 ((eS E 31).map encQ), iV n] (.tup [encQ (E n), iV 0]) := fun n hn => by
    have := seriesAt_p (s := 1) (n := (n : Int)) (es := (eS E 31).map encQ) (l := eS E 31) (K := H) (isL_enc hE31) ⟨hH.1, by omega⟩ hv31 (by omega) (by rw [hlen]; omega)
    rwa [eS_cf h0 (by omega), if_neg (by omega), Int.toNat_natCast] at this
  have ceu := euler_p (N := N) (k := k) (d := d) (l := mpB E 32) (ap := apM E) (K := H) (H := H) (P := 32) (by unfold Bn; have := hs.n0; have := hs.n1; omega) ⟨hs.k0, hs.k1⟩ (by unfold Bn; have := hs.d0; have := hs.d1; omega) (fun p => relM_look (mpB_rel hh 32 (by decide))) ⟨hH.1, by omega⟩ (fun i hi => by rw [hE i hi]; exact hh i hi) (by omega) (by decide)
  have hge : ∀ n : Nat, 1 ≤ n → n < 32 → (eA (eV N k d (apM E)) 32 32)[((n : Nat) : Int).toNat]? = some (encQ (E n)) := fun n h1 h2 => by
    rw [Int.toNat_natCast, eA_get h1 h2 h2, hE n h2]
  generalize eA (eV N k d (apM E)) 32 32 = W at *
  have ccm : ∀ n : Nat, n < 32 → PC Tryz.prog 92 [encQ (E n), encQ (E n)] (iV 0) := fun n hn => by
    obtain ⟨sg, -, -, s3, c⟩ := rcmp_p (isV_encQ (hh n hn)) (by omega) (isV_encQ (hh n hn)) (by omega)
    rwa [s3.2 rfl] at c
  have hmt : Tryz.prog.underlying 110 = some (.map 3 49) := by kernel_rfl
  have hcs : ∀ n : Nat, ∃ g xs g' xs', encQ (E n) = .agg [.p (.bool g), .sl xs, .p (.bool g'), .sl xs'] := fun n => ⟨_, _, _, _, rfl⟩
  have qe : ((0 : Int) != 0) = false := rfl
  have h2eq : mpB E 2 = [] := by kernel_rfl
  have hstep : ∀ n : Nat, mpB E (n + 1) = if prB n then mput (mpB E n) ((n : Nat) : Int) (encQ (E n)) else mpB E n := fun n => rfl
  generalize (eS E 31).map encQ = E31 at *
  generalize mpB E = MB at *
  clear hE hh h0 hE31 hv31
  have cp := fun n : Nat => isPrime_p (n := n)
  unfold specA at *
  refine pc_body3 true Tryz.func37 rfl rfl rfl (Nat.le_of_ble_eq_true rfl) CellT.tmp CellT.tmp CellT.tmp ?_
  refine goA ?_
  refine evG ggA (ss_call (InB_of rfl) rfl rfl cch) ?_
  refine goA ?_
  refine evG ggA (ss_call (InB_of rfl) rfl rfl cpr) ?_
  refine goA ?_
  refine evG ggA (ss_makemap 31 (InB_of rfl) rfl) ?_
  refine runA ?_
  refine ev_nil ?_
  (repeat (first | with_reducible refine seqQ_n ?_ | with_reducible refine seqQ_e ?_ | with_reducible refine seqQ_r ?_ | with_reducible refine blockQ_n ?_ | with_reducible refine blockQ_r ?_ | with_reducible refine blockQ_e rfl ?_ | with_reducible refine blockQ_o rfl ?_ | with_reducible refine loopQ_e ?_ | with_reducible refine loopQ_r ?_ | with_reducible refine midQ_e ?_ | with_reducible refine midQ_r ?_ | with_reducible refine roundQ_n ?_ | with_reducible refine roundQ_e ?_ | with_reducible refine roundQ_r ?_))
  refine T.seqI (fun s1 => s1 = mkS [(2, .ptr 2 0), (3, .ptr 3 0), (4, .v (iV 0)), (5, .v (bV false)), (6, .v (iV 0)), (8, .v (iV 32)), (10, .mp 31)] [(2, .var [.v (iV 1), .v (.sl E31)]), (3, .var [.v (iV N), .v (iV k), .v (iV d)]), (31, .mp (mkE (MB 32)))] 76 true) ?_ ?_
  · refine r1A ?_
    refine T.block ?_
    refine T.loop (fun x s1 => ∃ n : Nat, x = 32 - n ∧ 2 ≤ n ∧ n ≤ 32 ∧ s1 = mkS [(2, .ptr 2 0), (3, .ptr 3 0), (4, .v (iV 0)), (5, .v (bV false)), (6, .v (iV 0)), (8, .v (iV 32)), (10, .mp 31), (11, .v (iV n))] [(2, .var [.v (iV 1), .v (.sl E31)]), (3, .var [.v (iV N), .v (iV k), .v (iV d)]), (31, .mp (mkE (MB n)))] 76 true) 30
      (s' := mkS [(2, .ptr 2 0), (3, .ptr 3 0), (4, .v (iV 0)), (5, .v (bV false)), (6, .v (iV 0)), (8, .v (iV 32)), (10, .mp 31), (11, .v (iV ((2 : Nat) : Int)))] [(2, .var [.v (iV 1), .v (.sl E31)]), (3, .var [.v (iV N), .v (iV k), .v (iV d)]), (31, .mp (mkE []))] 76 true) (by exact entA) ⟨2, rfl, by decide, by decide, by rw [h2eq]⟩ ?_
    rintro x _ ⟨n, rfl, n2, n32, rfl⟩
    by_cases hlt : n < 32
    · have kb : decide ((n : Int) < 32) = true := decide_eq_true (by omega)
      have cpn := cp n (by omega)
      have catn := cat n (by omega)
      have hst := hstep n
      obtain ⟨g, xs, g', xs', hcn⟩ := hcs n
      rw [hcn] at hst catn
      cases hp : prB n with
      | true =>
        rw [hp] at cpn hst
        rw [if_pos rfl] at hst
        refine goA ?_
        refine evG ggA (ss_call (InB_of rfl) rfl rfl cpn) ?_
        refine goA ?_
        refine evG ggA (ss_call (InB_of rfl) rfl rfl catn) ?_
        refine goA ?_
        refine evG ggA (ss_mapset (n := (n : Int)) (l := MB n) rfl hmt und_int rfl rfl rfl rfl) ?_
        refine goA ?_
        exact loopQ_intro (k := 32 - (n + 1)) (s' := mkS [(2, .ptr 2 0), (3, .ptr 3 0), (4, .v (iV 0)), (5, .v (bV false)), (6, .v (iV 0)), (8, .v (iV 32)), (10, .mp 31), (11, .v (iV ((n + 1 : Nat) : Int)))] [(2, .var [.v (iV 1), .v (.sl E31)]), (3, .var [.v (iV N), .v (iV k), .v (iV d)]), (31, .mp (mkE (mput (MB n) (n : Int) (.agg [.p (.bool g), .sl xs, .p (.bool g'), .sl xs']))))] 76 true) (by omega) (by exact entA) ⟨n + 1, rfl, by omega, by omega, by rw [hst]⟩
      | false =>
        rw [hp] at cpn hst
        rw [if_neg (by decide)] at hst
        refine goA ?_
        refine evG ggA (ss_call (InB_of rfl) rfl rfl cpn) ?_
        refine goA ?_
        exact loopQ_intro (k := 32 - (n + 1)) (s' := mkS [(2, .ptr 2 0), (3, .ptr 3 0), (4, .v (iV 0)), (5, .v (bV false)), (6, .v (iV 0)), (8, .v (iV 32)), (10, .mp 31), (11, .v (iV ((n + 1 : Nat) : Int)))] [(2, .var [.v (iV 1), .v (.sl E31)]), (3, .var [.v (iV N), .v (iV k), .v (iV d)]), (31, .mp (mkE (MB n)))] 76 true) (by omega) (by exact entA) ⟨n + 1, rfl, by omega, by omega, by rw [hst]⟩
    · obtain rfl : n = 32 := by omega
      have kb : decide (((32 : Nat) : Int) < 32) = false := rfl
      refine goA ?_
      exact midQ_intro (by exact entA) rfl
  rintro _ rfl
  generalize MB 32 = m1 at *
  refine goA ?_
  refine evM (ms_call [(0, 31)] ceu rfl rfl rfl rfl rfl rfl ⟨rfl, trivial⟩ ⟨.inl rfl, trivial⟩ ?_)
  refine runA ?_
  refine ev_nil ?_
  (repeat (first | with_reducible refine seqQ_n ?_ | with_reducible refine seqQ_e ?_ | with_reducible refine seqQ_r ?_ | with_reducible refine blockQ_n ?_ | with_reducible refine blockQ_r ?_ | with_reducible refine blockQ_e rfl ?_ | with_reducible refine blockQ_o rfl ?_ | with_reducible refine loopQ_e ?_ | with_reducible refine loopQ_r ?_ | with_reducible refine midQ_e ?_ | with_reducible refine midQ_r ?_ | with_reducible refine roundQ_n ?_ | with_reducible refine roundQ_e ?_ | with_reducible refine roundQ_r ?_))
  refine T.seqI (fun s1 => s1 = mkS [(4, .v (iV 0)), (5, .v (bV false)), (6, .v (iV 0)), (8, .v (iV 32))] [] 76 true) ?_ ?_
  · refine r1A ?_
    refine T.block ?_
    refine T.loop (fun x s1 => ∃ n : Nat, x = 32 - n ∧ 1 ≤ n ∧ n ≤ 32 ∧ s1 = mkS [(2, .ptr 2 0), (3, .ptr 3 0), (4, .v (iV 0)), (5, .v (bV false)), (6, .v (iV 0)), (8, .v (iV 32)), (14, .v (.sl W)), (15, .v (iV n))] [(2, .var [.v (iV 1), .v (.sl E31)]), (3, .var [.v (iV N), .v (iV k), .v (iV d)])] 76 true) 31
      (s' := mkS [(2, .ptr 2 0), (3, .ptr 3 0), (4, .v (iV 0)), (5, .v (bV false)), (6, .v (iV 0)), (8, .v (iV 32)), (14, .v (.sl W)), (15, .v (iV ((1 : Nat) : Int)))] [(2, .var [.v (iV 1), .v (.sl E31)]), (3, .var [.v (iV N), .v (iV k), .v (iV d)])] 76 true) (by exact entA) ⟨1, rfl, by decide, by decide, rfl⟩ ?_
    rintro x _ ⟨n, rfl, n1, n32, rfl⟩
    by_cases hlt : n < 32
    · have kb : decide ((n : Int) < 32) = true := decide_eq_true (by omega)
      have catn := cat n (by omega)
      have hgn := hge n n1 hlt
      have ccn := ccm n hlt
      obtain ⟨g, xs, g', xs', hcn⟩ := hcs n
      rw [hcn] at hgn catn ccn
      refine goA ?_
      refine evG ggA (ss_call (InB_of rfl) rfl rfl catn) ?_
      refine goA ?_
      refine evG ggA (ss_index_sl (InB_of rfl) (elem_tab rfl) rfl rfl (by omega) hgn rfl) ?_
      refine goA ?_
      refine evG ggA (ss_call (InB_of rfl) rfl rfl ccn) ?_
      refine goA ?_
      exact loopQ_intro (k := 32 - (n + 1)) (s' := mkS [(2, .ptr 2 0), (3, .ptr 3 0), (4, .v (iV 0)), (5, .v (bV false)), (6, .v (iV 0)), (8, .v (iV 32)), (14, .v (.sl W)), (15, .v (iV ((n + 1 : Nat) : Int)))] [(2, .var [.v (iV 1), .v (.sl E31)]), (3, .var [.v (iV N), .v (iV k), .v (iV d)])] 76 true) (by omega) (by exact entA) ⟨n + 1, rfl, by omega, by omega, rfl⟩
    · obtain rfl : n = 32 := by omega
      have kb : decide (((32 : Nat) : Int) < 32) = false := rfl
      refine goA ?_
      exact midQ_intro (by exact entA) rfl
  rintro _ rfl
  refine goA ?_
  exact rfl
end Ab
namespace Ab
open Go Go.RowKit Go.Proofs Hp
set_option maxRecDepth 100000

theorem prl11 : (primesP (32 - 1)).length = 11 := by decide +kernel
set_option maxHeartbeats 8000000 in
theorem eigen_p (C : List RQ) (N k d n : Int) (hd : ∀ r, r ∈ C → DigR r) (hmx : C.length ≤ 9223372036854775807) : PC Tryz.prog 5 [specA N k d, .sl (C.map rawA), iV n] (bV true) := by
  have aw := hawake_p
  have crc := rhcheck_p N k d
  have clo := hlong_p 20 (C.map rawA) (fun e he => by obtain ⟨r, -, rfl⟩ := List.mem_map.1 he; exact c4_raw r) (by decide) (by rw [List.length_map]; exact hmx)
  have k2 : longB 20 (C.map rawA) = false → IsL (C.map rawA) 4 (C.map ratO) ∧ C.length ≤ 20 := isL_long hd
  have le1 : (C.map rawA).length = C.length := by simp
  rw [← le1] at k2 hmx
  generalize C.map ratO = la at *
  generalize C.map rawA = es at *
  clear hd le1
  have rcok := rcC_ok (N := N) (k := k) (d := d)
  generalize rcC N k d = rc at *
  unfold specA at crc ⊢
  cases q1 : (rc != 0) with
  | true =>
    clear k2 rcok
    refine pc_body1 true Tryz.func5 rfl rfl rfl (Nat.le_of_ble_eq_true rfl) CellT.tmp ?_
    refine goA ?_
    refine evG ggA (ss_call (InB_of rfl) rfl rfl crc) ?_
    refine goA ?_
    refine evG ggA (ss_call (InB_of rfl) rfl rfl aw) ?_
    refine goA ?_
    exact rfl
  | false =>
  cases q2 : decide (k > 12) with
  | true =>
    clear k2 rcok
    refine pc_body1 true Tryz.func5 rfl rfl rfl (Nat.le_of_ble_eq_true rfl) CellT.tmp ?_
    refine goA ?_
    refine evG ggA (ss_call (InB_of rfl) rfl rfl crc) ?_
    refine goA ?_
    refine evG ggA (ss_call (InB_of rfl) rfl rfl aw) ?_
    refine goA ?_
    exact rfl
  | false =>
  cases q3 : longB 20 es with
  | true =>
    rw [q3] at clo
    clear k2 rcok
    refine pc_body1 true Tryz.func5 rfl rfl rfl (Nat.le_of_ble_eq_true rfl) CellT.tmp ?_
    refine goA ?_
    refine evG ggA (ss_call (InB_of rfl) rfl rfl crc) ?_
    refine goA ?_
    refine evG ggA (ss_call (InB_of rfl) rfl rfl clo) ?_
    refine goA ?_
    refine evG ggA (ss_call (InB_of rfl) rfl rfl aw) ?_
    refine goA ?_
    exact rfl
  | false =>
  rw [q3] at clo
  cases q4 : decide ((es.length : Int) < 11) with
  | true =>
    clear k2 rcok
    refine pc_body1 true Tryz.func5 rfl rfl rfl (Nat.le_of_ble_eq_true rfl) CellT.tmp ?_
    refine goA ?_
    refine evG ggA (ss_call (InB_of rfl) rfl rfl crc) ?_
    refine goA ?_
    refine evG ggA (ss_call (InB_of rfl) rfl rfl clo) ?_
    refine goA ?_
    refine evG ggA (ss_call (InB_of rfl) rfl rfl aw) ?_
    refine goA ?_
    exact rfl
  | false =>
  cases q5 : decide (n < 1) with
  | true =>
    clear k2 rcok
    refine pc_body1 true Tryz.func5 rfl rfl rfl (Nat.le_of_ble_eq_true rfl) CellT.tmp ?_
    refine goA ?_
    refine evG ggA (ss_call (InB_of rfl) rfl rfl crc) ?_
    refine goA ?_
    refine evG ggA (ss_call (InB_of rfl) rfl rfl clo) ?_
    refine goA ?_
    refine evG ggA (ss_call (InB_of rfl) rfl rfl aw) ?_
    refine goA ?_
    exact rfl
  | false =>
  cases q6 : decide (n > 12) with
  | true =>
    clear k2 rcok
    refine pc_body1 true Tryz.func5 rfl rfl rfl (Nat.le_of_ble_eq_true rfl) CellT.tmp ?_
    refine goA ?_
    refine evG ggA (ss_call (InB_of rfl) rfl rfl crc) ?_
    refine goA ?_
    refine evG ggA (ss_call (InB_of rfl) rfl rfl clo) ?_
    refine goA ?_
    refine evG ggA (ss_call (InB_of rfl) rfl rfl aw) ?_
    refine goA ?_
    exact rfl
  | false =>
  have hrc : rc = 0 := by simpa using q1
  have hs := rcok hrc
  obtain ⟨hes, hle⟩ := k2 q3
  have hlen : 11 ≤ es.length := by have := of_decide_eq_false q4; omega
  have hn1 := of_decide_eq_false q5
  have hn2 := of_decide_eq_false q6
  obtain ⟨n, rfl⟩ : ∃ m : Nat, n = m := ⟨n.toNat, by omega⟩
  have hap : ∀ p, Ht (apF 32 la p) 4 := fun p => isV_ht (relM_look (mapB_rel hes _)) (by decide)
  have hh := eV_ht (N := N) (k := k) (d := d) ⟨hs.k0, hs.k1⟩ hap
  have m1 := eulerS_p (N := N) (k := k) (d := d) (es := es) (la := la) (K := 4) (H := 200) (P := 32) hs hes (by decide) hh (by decide) (by decide) (by decide) (by rw [prl11]; exact hlen) (by omega)
  obtain ⟨ap, hapE⟩ : ∃ ap, ap = apF 32 la := ⟨_, rfl⟩
  rw [← hapE] at m1 hh
  have h0 : eV N k d ap 0 = 0 := rfl
  have h1 : eV N k d ap 1 = 1 := rfl
  have hT := fun M h1 h2 => ei (N := N) (k := k) (d := d) (ap := ap) n M (by omega) (by omega) h1 h2
  have hE : ∀ n, n < 32 → eV N k d (apM (eV N k d ap)) n = eV N k d ap n := eV_congr fun p hp => by
    rw [apM_eq _ p hp]
    simp only [List.mem_cons, List.not_mem_nil, or_false] at hp
    rcases hp with rfl | rfl | rfl | rfl | rfl | rfl | rfl | rfl | rfl | rfl | rfl
    · exact eq_2
    · exact eq_3
    · exact eq_5
    · exact eq_7
    · exact eq_11
    · exact eq_13
    · exact eq_17
    · exact eq_19
    · exact eq_23
    · exact eq_29
    · exact eq_31
  generalize eV N k d ap = E at *
  have htk : norR 0 (tk E 32) = some (1, eS E 31) := by
    have ht : tk E 32 = E 0 :: eS E 31 := by
      unfold eS tk
      rw [show (32 : Nat) = 31 + 1 from rfl, List.range_succ_eq_map, List.map_cons, List.map_map]
      rfl
    unfold norR tdy
    rw [if_pos (by rw [tk_len]; decide), ht, lead, if_pos h0, eS_lead h1 (by decide)]
    rfl
  rw [htk] at m1
  have m1 : PC Tryz.prog 34 [specA N k d, .sl es, iV 32] (.tup [serA 1 ((eS E 31).map encQ), iV 0]) := m1
  have hlen31 : ((eS E 31).map encQ).length = 31 := by rw [List.length_map, eS_len]
  have m2 := rprec_p (s := 1) (es := (eS E 31).map encQ) (by decide) (by decide) (by rw [hlen31]; decide)
  rw [hlen31, show (1 : Int) + ((31 : Nat) : Int) = 32 by omega] at m2
  have m3 := eigenvalue_p (n := n) hs h0 h1 hh (by decide) (by omega) hT
  have m4 := multiplicative_p hs h0 hh (by decide) hE
  have m5 := ecoef_p (s := 1) (n := (n : Int)) (isL_enc (eS_ht hh (Q := 31) (by decide))) (by decide) (by decide) (by decide) (by rw [hlen31]; decide) (by omega) (by omega)
  rw [eS_cf h0 (by omega), if_neg (by omega), Int.toNat_natCast] at m5
  have m6 : PC Tryz.prog 38 [encQ (E n), encQ (E n)] (bV true) := by
    have : PC Tryz.prog 38 [encQ (E n), encQ (E n)] (.p (.bool (decide (E n = E n)))) := (erefsame2_p (hh n (by omega)) (by decide)).up
    rwa [decide_eq_true rfl] at this
  clear hE hT hh hap hapE htk hlen31 h0 h1 hes k2 rcok hs
  generalize (eS E 31).map encQ = E31 at *
  generalize E n = En at *
  subst hrc
  have qe : ((0 : Int) != 0) = false := rfl
  have qf : ((32 : Int) != 32) = false := rfl
  have qg : ((32 : Int) == 32) = true := rfl
  unfold specA at *
  refine pc_body1 true Tryz.func5 rfl rfl rfl (Nat.le_of_ble_eq_true rfl) CellT.tmp ?_
  refine goA ?_
  refine evG ggA (ss_call (InB_of rfl) rfl rfl crc) ?_
  refine goA ?_
  refine evG ggA (ss_call (InB_of rfl) rfl rfl clo) ?_
  refine goA ?_
  refine evG ggA (ss_call (InB_of rfl) rfl rfl m1) ?_
  refine goA ?_
  refine evG ggA (ss_call (InB_of rfl) rfl rfl m2) ?_
  refine goA ?_
  refine evG ggA (ss_call (InB_of rfl) rfl rfl m3) ?_
  refine goA ?_
  refine evG ggA (ss_call (InB_of rfl) rfl rfl m4) ?_
  refine goA ?_
  refine evG ggA (ss_call (InB_of rfl) rfl rfl m5) ?_
  refine goA ?_
  refine evG ggA (ss_call (InB_of rfl) rfl rfl m6) ?_
  refine goA ?_
  refine evG ggA (ss_call (InB_of rfl) rfl rfl aw) ?_
  refine goA ?_
  exact rfl
end Ab
