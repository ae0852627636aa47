/- The document's Hurwitz class numbers, and the statement QuadformHurwitz: walked. -/
import Derived.Test.YtajlkcnlfiikeaaGreatQwV
import Derived.Test.YtajlkcnlfiikeaaGreatRfD
set_option linter.all false
namespace Ab
open Go Go.RowKit Go.Proofs Hp Qf
set_option maxRecDepth 100000

theorem lt_add {x y : Int} {k : Nat} (hx : x.natAbs < pw k) (hy : y.natAbs < pw k) : (x + y).natAbs < pw (k + 1) := by
  have h1 := pw_pos k
  have h2 : pw (k + 1) = pw k * 4294967296 := rfl
  omega
theorem rat_add_eq (p q : Rat) : p + q = Rat.divInt (p.num * q.den + q.num * p.den) (p.den * q.den) := by
  conv => lhs; rw [← Rat.num_divInt_den p, ← Rat.num_divInt_den q]
  rw [Rat.divInt_add_divInt _ _ (by have := p.den_nz; omega) (by have := q.den_nz; omega)]
set_option maxHeartbeats 2000000 in
theorem refadd2_p {a b : AV} {k l : Nat} {p q : Rat} (ha : IsV a k p) (hb : IsV b l q) (h1 : 1 ≤ k) (h2 : 1 ≤ l) (hk : k + l + 1 ≤ 274877906944) : PW Tryz.prog 20 [a, b] (encQ (p + q)) := by
  have hp := isV_ht ha h1
  have hq := isV_ht hb h2
  have n1 := refnormal_p ha (by omega)
  have n2 := refnormal_p hb (by omega)
  have dp : ((p.den : Nat) : Int).natAbs < pw k := by rw [Int.natAbs_natCast]; exact hp.2
  have dq : ((q.den : Nat) : Int).natAbs < pw l := by rw [Int.natAbs_natCast]; exact hq.2
  have i1 := isI_encI hp.1
  have i2 := isI_encI dp
  have i3 := isI_encI hq.1
  have i4 := isI_encI dq
  have c1 := refmul_p i1 i4 (by omega) (by omega)
  have c2 := refmul_p i3 i2 (by omega) (by omega)
  have b1 := lt_mul hp.1 dq
  have b2 := lt_mul hq.1 dp
  rw [Nat.add_comm l k] at b2
  have c3 := refadd_p (isI_encI b1) (isI_encI b2) (by omega)
  have c4 := refmul_p i2 i4 (by omega) (by omega)
  have c5 := over2_p (isI_encI (lt_add b1 b2)) (isI_mono (isI_encI (lt_mul dp dq)) (Nat.le_succ _)) (by omega)
  rw [rat_add_eq]
  obtain ⟨g, x, g', x', rfl⟩ := isV_cells ha
  obtain ⟨j, y, j', y', rfl⟩ := isV_cells hb
  clear ha hb hp hq i1 i2 i3 i4 b1 b2 dp dq
  unfold encI at c1 c2 c3 c4 c5
  unfold encQ at n1 n2 c5 ⊢
  refine pc_body1 false Tryz.func20 rfl rfl rfl (Nat.le_of_ble_eq_true rfl) (CellT.agg agg_rat) ?_
  refine goA ?_
  refine evG ggA (ss_call (InB_of rfl) rfl rfl n1) ?_
  refine goA ?_
  refine evG ggA (ss_call (InB_of rfl) rfl rfl n2) ?_
  refine goA ?_
  refine evG ggA (ss_call (InB_of rfl) rfl rfl c1) ?_
  refine goA ?_
  refine evG ggA (ss_call (InB_of rfl) rfl rfl c2) ?_
  refine evG ggA (ss_call (InB_of rfl) rfl rfl c3) ?_
  refine goA ?_
  refine evG ggA (ss_call (InB_of rfl) rfl rfl c4) ?_
  refine evG ggA (ss_call (InB_of rfl) rfl rfl c5) ?_
  refine goA ?_
  exact rfl
theorem posC_iff {d : Int} (h0 : -4000 ≤ d) (h1 : d < 0) : posC d = 0 ↔ d % 4 < 2 := by
  unfold posC
  rw [if_neg (by omega), tmod_pos (show 0 ≤ 0 - d by omega)]
  split <;> omega
theorem neg_part {n m : Int} (h0 : 0 < n) (hm : 0 < m) (h : n.tmod m = 0) (h4 : n ≤ 4000) : -4000 ≤ (0 - n).tdiv m ∧ (0 - n).tdiv m < 0 := by
  have e : (0 - n).tdiv m = -(n.tdiv m) := by rw [Int.zero_sub, Int.neg_tdiv]
  have h1 := Int.tmod_add_mul_tdiv n m
  have h2 : 0 ≤ n.tdiv m := Int.tdiv_nonneg (by omega) (by omega)
  have h3 := tdiv_bd (y := m) (N := 4000) (x := n) (by unfold Bd; omega)
  unfold Bd at h3
  rw [e]
  refine ⟨by omega, ?_⟩
  refine Classical.byContradiction fun hn => ?_
  have : n.tdiv m = 0 := by omega
  rw [this] at h1
  omega
set_option maxHeartbeats 4000000 in
theorem rhurwitz_p (n : Int) : PC Tryz.prog 6 [iV n] (hwO n) := by
  unfold hwO
  by_cases l1 : n < 0
  case pos =>
    have k : decide (n < 0) = true := by simpa using l1
    rw [if_pos (.inl l1)]
    refine pc_body2 true Tryz.func6 rfl rfl rfl (Nat.le_of_ble_eq_true rfl) (CellT.agg agg_rat) CellT.tmp ?_
    refine goA ?_
    exact rfl
  have k1 : decide (n < 0) = false := by simpa using l1
  by_cases l2 : 4000 < n
  case pos =>
    have k : decide (n > 4000) = true := by simpa using l2
    rw [if_pos (.inr l2)]
    refine pc_body2 true Tryz.func6 rfl rfl rfl (Nat.le_of_ble_eq_true rfl) (CellT.agg agg_rat) CellT.tmp ?_
    refine goA ?_
    exact rfl
  have k2 : decide (n > 4000) = false := by simpa using l2
  rw [if_neg (by omega)]
  by_cases l3 : n = 0
  case pos =>
    have k : (n == 0) = true := by simpa using l3
    have c1 := frac_g (n := -1) (d := 12) (by unfold Bd; decide) (by decide) (by unfold Bd; decide)
    unfold hw
    rw [if_pos l3]
    refine pc_body2 true Tryz.func6 rfl rfl rfl (Nat.le_of_ble_eq_true rfl) (CellT.agg agg_rat) CellT.tmp ?_
    refine goA ?_
    refine evG ggA (ss_call (InB_of rfl) rfl rfl c1) ?_
    refine goA ?_
    exact rfl
  have k3 : (n == 0) = false := by simpa using l3
  have hw0 : hw n = hwS n 63 := by unfold hw; rw [if_neg l3]
  rw [hw0]
  have c0 := q_p 0 (by decide) (by decide)
  have e0 : encQ (((0 : Int)) : Rat) = .agg (ci (hwS n 0).num ++ ci (hwS n 0).den) := rfl
  rw [e0] at c0
  have hn : Bd 4000 n := by unfold Bd; omega
  refine pc_body2 true Tryz.func6 rfl rfl rfl (Nat.le_of_ble_eq_true rfl) (CellT.agg agg_rat) CellT.tmp ?_
  refine goA ?_
  refine evG ggA (ss_call (InB_of rfl) rfl rfl c0) ?_
  refine goA ?_
  refine T.loop (fun k s1 => ∃ j : Nat, j ≤ 63 ∧ k = 64 - j ∧ s1 = mkS [(0, .v (iV n)), (2, .ptr 2 0), (4, .ptr 4 0), (5, .v (iV ((j : Int) + 1)))] [(2, varQ0), (4, .var ((ci (hwS n j).num ++ ci (hwS n j).den).map .v))] 50 true) 64
    (s' := mkS [(0, .v (iV n)), (2, .ptr 2 0), (4, .ptr 4 0), (5, .v (iV 1))] [(2, varQ0), (4, .var ((ci (hwS n 0).num ++ ci (hwS n 0).den).map .v))] 50 true) (by exact entA) ⟨0, by decide, rfl, rfl⟩ ?_
  rintro _ _ ⟨j, hj, rfl, rfl⟩
  have q1 := bmul (show Bd 64 ((j : Int) + 1) by unfold Bd; omega) (show Bd 64 ((j : Int) + 1) by unfold Bd; omega)
  unfold Bd at q1 hn
  have hsp := Int.mul_pos (show (0 : Int) < (j : Int) + 1 by omega) (show (0 : Int) < (j : Int) + 1 by omega)
  by_cases c1 : ((j : Int) + 1) * ((j : Int) + 1) ≤ n
  case neg =>
    have b1 : decide (((j : Int) + 1) * ((j : Int) + 1) ≤ n) = false := by simpa using c1
    have e := hwS_stop (n := n) (by omega) (j := j) (by omega) (63 - j)
    rw [show j + (63 - j) = 63 by omega] at e
    rw [e]
    clear e hw0 e0 c0
    generalize hwS n j = q at *
    refine goA ?_
    exact rfl
  have b1 : decide (((j : Int) + 1) * ((j : Int) + 1) ≤ n) = true := by simpa using c1
  have hj62 : j ≤ 62 := by
    refine Classical.byContradiction fun hk => ?_
    obtain rfl : j = 63 := by omega
    omega
  have es : hwS n (j + 1) = hwS n j + hwT n ((j : Int) + 1) := rfl
  have ej : ((j + 1 : Nat) : Int) + 1 = (j : Int) + 1 + 1 := by omega
  have hh1 := hwS_ht n j
  have hh2 := wcl_ht ((0 - n).tdiv (((j : Int) + 1) * ((j : Int) + 1)))
  have cad : PC Tryz.prog 20 _ _ := (refadd2_p (isV_encQ hh1) (isV_encQ hh2) (by omega) (by omega) (by omega)).up
  have hbt := tdiv_bd (y := ((j : Int) + 1) * ((j : Int) + 1)) (N := 4000) (x := 0 - n) (by unfold Bd; omega)
  unfold hwT at es
  unfold Bd at hbt
  have fin : ∀ (q : Rat), hwS n (j + 1) = q → ∀ s2 : AS, s2 = mkS [(0, .v (iV n)), (2, .ptr 2 0), (4, .ptr 4 0), (5, .v (iV ((j : Int) + 1 + 1)))] [(2, varQ0), (4, .var ((ci q.num ++ ci q.den).map .v))] 50 true →
      ∃ j' : Nat, j' ≤ 63 ∧ 64 - (j + 1) = 64 - j' ∧ s2 = mkS [(0, .v (iV n)), (2, .ptr 2 0), (4, .ptr 4 0), (5, .v (iV ((j' : Int) + 1)))] [(2, varQ0), (4, .var ((ci (hwS n j').num ++ ci (hwS n j').den).map .v))] 50 true :=
    fun q e s2 e2 => ⟨j + 1, by omega, rfl, by rw [e2, e, ej]⟩
  generalize hwS n (j + 1) = Q at *
  clear hw0 e0 c0 ej hh1 hh2
  generalize hwS n j = q at *
  by_cases c2 : n.tmod (((j : Int) + 1) * ((j : Int) + 1)) = 0
  case neg =>
    have b2 : (n.tmod (((j : Int) + 1) * ((j : Int) + 1)) == 0) = false := by simpa using c2
    rw [if_neg (fun h => c2 h.1), Rat.add_zero] at es
    refine goA ?_
    refine evG ggA (ss_div (op := .rem) (InB_of rfl) rfl rfl (by omega) rfl) ?_
    refine goA ?_
    exact loopQ_intro (k := 64 - (j + 1)) (s' := mkS [(0, .v (iV n)), (2, .ptr 2 0), (4, .ptr 4 0), (5, .v (iV ((j : Int) + 1 + 1)))] [(2, varQ0), (4, .var ((ci q.num ++ ci q.den).map .v))] 50 true) (by omega) (by exact entA) (fin q es _ rfl)
  have b2 : (n.tmod (((j : Int) + 1) * ((j : Int) + 1)) == 0) = true := by simpa using c2
  obtain ⟨n1, n2⟩ := neg_part (n := n) (by omega) hsp c2 (by omega)
  have cm := mod_p (x := (0 - n).tdiv (((j : Int) + 1) * ((j : Int) + 1))) (m := 4) (by unfold Bd; omega) (by decide) (by decide)
  have hpi := posC_iff n1 n2
  by_cases c3 : posC ((0 - n).tdiv (((j : Int) + 1) * ((j : Int) + 1))) = 0
  · rw [if_pos ⟨c2, c3⟩] at es
    have cw := rweighted_p c3
    have b3 : decide ((0 - n).tdiv (((j : Int) + 1) * ((j : Int) + 1)) % 4 < 2) = true := by rw [decide_eq_true_iff]; exact hpi.1 c3
    generalize wcl ((0 - n).tdiv (((j : Int) + 1) * ((j : Int) + 1))) = r at *
    have e1 : encQ r = .agg (ci r.num ++ ci r.den) := rfl
    have e2 : encQ q = .agg (ci q.num ++ ci q.den) := rfl
    have e3 : encQ (q + r) = .agg (ci (q + r).num ++ ci (q + r).den) := rfl
    rw [e1] at cw cad
    rw [e2, e3] at cad
    refine goA ?_
    refine evG ggA (ss_div (op := .rem) (InB_of rfl) rfl rfl (by omega) rfl) ?_
    refine goA ?_
    refine evG ggA (ss_div (InB_of rfl) rfl rfl (by omega) (w64 (by omega) (by omega))) ?_
    refine goA ?_
    refine evG ggA (ss_call (InB_of rfl) rfl rfl cm) ?_
    refine goA ?_
    refine evG ggA (ss_div (InB_of rfl) rfl rfl (by omega) (w64 (by omega) (by omega))) ?_
    refine goA ?_
    refine evG ggA (ss_call (InB_of rfl) rfl rfl cw) ?_
    refine goA ?_
    refine evG ggA (ss_call (InB_of rfl) rfl rfl cad) ?_
    refine goA ?_
    exact loopQ_intro (k := 64 - (j + 1)) (s' := mkS [(0, .v (iV n)), (2, .ptr 2 0), (4, .ptr 4 0), (5, .v (iV ((j : Int) + 1 + 1)))] [(2, varQ0), (4, .var ((ci (q + r).num ++ ci (q + r).den).map .v))] 50 true) (by omega) (by exact entA) (fin (q + r) es _ rfl)
  · rw [if_neg (fun h => c3 h.2), Rat.add_zero] at es
    have b3 : decide ((0 - n).tdiv (((j : Int) + 1) * ((j : Int) + 1)) % 4 < 2) = false := by rw [decide_eq_false_iff_not]; exact fun h => c3 (hpi.2 h)
    refine goA ?_
    refine evG ggA (ss_div (op := .rem) (InB_of rfl) rfl rfl (by omega) rfl) ?_
    refine goA ?_
    refine evG ggA (ss_div (InB_of rfl) rfl rfl (by omega) (w64 (by omega) (by omega))) ?_
    refine goA ?_
    refine evG ggA (ss_call (InB_of rfl) rfl rfl cm) ?_
    refine goA ?_
    exact loopQ_intro (k := 64 - (j + 1)) (s' := mkS [(0, .v (iV n)), (2, .ptr 2 0), (4, .ptr 4 0), (5, .v (iV ((j : Int) + 1 + 1)))] [(2, varQ0), (4, .var ((ci q.num ++ ci q.den).map .v))] 50 true) (by omega) (by exact entA) (fin q es _ rfl)
theorem hw_ht (n : Int) : Ht (hw n) 316 := by
  unfold hw
  split
  · exact (divInt_ht (p := -1) (d := 12) (k := 1) (by decide) (by decide) (by decide)).mono (by decide)
  · exact hwS_ht n 63
theorem hurwitzG (n : Int) : PC Tryz.prog 5 [iV n] (hwO n) := by
  by_cases h : n < 0 ∨ 4000 < n
  · unfold hwO
    rw [if_pos h]
    by_cases l1 : n < 0
    · have k : decide (n < 0) = true := by simpa using l1
      refine pc_body2 true Tryz.func5 rfl rfl rfl (Nat.le_of_ble_eq_true rfl) (CellT.agg agg_rat) CellT.tmp ?_
      refine goA ?_
      exact rfl
    · have k1 : decide (n < 0) = false := by simpa using l1
      have k : decide (n > 4000) = true := by simp; omega
      refine pc_body2 true Tryz.func5 rfl rfl rfl (Nat.le_of_ble_eq_true rfl) (CellT.agg agg_rat) CellT.tmp ?_
      refine goA ?_
      exact rfl
  · exact hurwitz_p (by unfold Bd; omega)
theorem hurwitzL_p (n : Int) : PC Tryz.prog 3 [iV n] (bV true) := by
  have ca := awake_p
  have c1 := hurwitzG n
  have c2 := rhurwitz_p n
  unfold hwO at c1 c2
  by_cases h : n < 0 ∨ 4000 < n
  · rw [if_pos h] at c1 c2
    have cz := sameRat_p ((false, []), (false, [])) ((false, []), (false, [])) (by decide) (by decide)
    rw [decide_eq_true rfl] at cz
    refine pc_body1 true Tryz.func3 rfl rfl rfl (Nat.le_of_ble_eq_true rfl) CellT.tmp ?_
    refine goA ?_
    refine evG ggA (ss_call (InB_of rfl) rfl rfl ca) ?_
    refine goA ?_
    refine evG ggA (ss_call (InB_of rfl) rfl rfl c1) ?_
    refine goA ?_
    refine evG ggA (ss_call (InB_of rfl) rfl rfl c2) ?_
    refine goA ?_
    refine evG ggA (ss_call (InB_of rfl) rfl rfl cz) ?_
    refine goA ?_
    exact rfl
  · rw [if_neg h] at c1 c2
    have hh := hw_ht n
    have d5 := sameRat_p (rq (hw n)) (rq (hw n)) (Nat.le_trans (dgs_len (z := (hw n).num.natAbs) (k := 316) hh.1) (by decide)) (Nat.le_trans (dgs_len (z := ((hw n).den : Int).natAbs) (k := 316) (by rw [Int.natAbs_natCast]; exact hh.2)) (by decide))
    rw [decide_eq_true rfl, ← encQ_raw] at d5
    generalize hw n = w at *
    have e0 : encQ w = .agg (ci w.num ++ ci w.den) := rfl
    rw [e0] at c1 c2 d5
    refine pc_body1 true Tryz.func3 rfl rfl rfl (Nat.le_of_ble_eq_true rfl) CellT.tmp ?_
    refine goA ?_
    refine evG ggA (ss_call (InB_of rfl) rfl rfl ca) ?_
    refine goA ?_
    refine evG ggA (ss_call (InB_of rfl) rfl rfl c1) ?_
    refine goA ?_
    refine evG ggA (ss_call (InB_of rfl) rfl rfl c2) ?_
    refine goA ?_
    refine evG ggA (ss_call (InB_of rfl) rfl rfl d5) ?_
    refine goA ?_
    exact rfl
end Ab
