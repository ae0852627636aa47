/- The statement LeveloneTau: walked. -/
import Derived.Test.YtdbkmjahbgcjbaaGreatDoorLtM
set_option linter.all false
namespace Ab
open Go Go.RowKit Go.Proofs Hp
set_option maxRecDepth 100000
theorem quad1_p : PC Tryz.prog 108 [iV 1] (bV true) := by
 obtain ⟨a, b, e, c, h⟩ := fund_p (d := 1) (by decide)
 have hf : frefB 1 = true := by decide +kernel
 obtain ⟨rfl, rfl, rfl⟩ := h.2 hf
 refine pc_body1 true Tryz.func108 rfl rfl rfl (Nat.le_of_ble_eq_true rfl) CellT.tmp ?_
 refine goA ?_
 refine evG ggA (ss_call (InB_of rfl) rfl rfl c) ?_
 refine goA ?_
 exact rfl
theorem csum_p {k n : Nat} (hk : k ≤ 13) (h1 : 1 ≤ n) (hn : n ≤ 60) : PC Tryz.prog 31 [iV k, iV 1, iV 1, iV n] (.tup [encI ((sgm k n n : Nat) : Int), iV 0]) := by
 have c1 := quad1_p
 have c2 := esum_p hk h1 hn
 have b1 : decide ((k : Int) < 0) = false := decide_eq_false (by omega)
 have b2 : decide ((k : Int) > 40) = false := decide_eq_false (by omega)
 have b3 : decide ((n : Int) < 1) = false := decide_eq_false (by omega)
 have b4 : decide ((n : Int) > 1000) = false := decide_eq_false (by omega)
 unfold encI at *
 generalize ((sgm k n n : Nat) : Int) = z at *
 refine pc_body2 true Tryz.func31 rfl rfl rfl (Nat.le_of_ble_eq_true rfl) (CellT.agg (l := ci z) agg_int) CellT.tmp ?_
 refine goA ?_
 refine evG ggA (ss_call (InB_of rfl) rfl rfl c1) ?_
 refine goA ?_
 refine evG ggA (ss_call (InB_of rfl) rfl rfl c1) ?_
 refine goA ?_
 refine evG ggA (ss_call (InB_of rfl) rfl rfl c2) ?_
 refine goA ?_
 exact rfl
theorem tauN_p {i : Nat} (h1 : 1 ≤ i) (h2 : i ≤ 144) : PC Tryz.prog 21 [iV i] (.tup [encI (tV i), iV 0]) := by
 have c := tau_p (n := i) (by omega)
 have hB : tauB (i : Int) = false := by
  unfold tauB
  rw [decide_eq_false (show ¬ (i : Int) < 1 by omega), decide_eq_false (show ¬ (i : Int) ≥ 1000 by omega)]
  rfl
 unfold tauT at c
 rw [hB, tV_eq h1 h2] at c
 exact c
theorem tV_lt {i : Nat} (h1 : 1 ≤ i) (h2 : i ≤ 144) : (tV i).natAbs < pw 2 := by
 rw [← tV_eq h1 h2]
 exact tau_lt _
theorem same_refl (z : Int) {k : Nat} (h : z.natAbs < pw k) (hk : k ≤ 1000) : PC Tryz.prog 32 [encI z, encI z] (bV true) := by
 have c := refsame_p (decide (z < 0), dgs z.natAbs) (decide (z < 0), dgs z.natAbs) (by
  have := dgs_len h
  show (dgs z.natAbs).length ≤ _
  omega)
 rw [decide_eq_true rfl] at c
 exact c.up
set_option maxHeartbeats 8000000 in
theorem tauIn_p {m n : Nat} (m0 : 1 ≤ m) (m1 : m ≤ 12) (n0 : 1 ≤ n) (n1 : n ≤ 12) : PC Tryz.prog 4 [iV m, iV n] (bV true) := by
 have aw := l39awake_p
 have g1 : decide ((m : Int) < 1) = false := decide_eq_false (by omega)
 have g2 : decide ((m : Int) > 12) = false := decide_eq_false (by omega)
 have g3 : decide ((n : Int) < 1) = false := decide_eq_false (by omega)
 have g4 : decide ((n : Int) > 12) = false := decide_eq_false (by omega)
 obtain ⟨q0, q1⟩ := mn_le m (by omega) n (by omega) m0 n0
 have emn : (m : Int) * (n : Int) = ((m * n : Nat) : Int) := rfl
 have cmn := tauN_p q0 q1
 have cm := tauN_p (i := m) m0 (by omega)
 have cn := tauN_p (i := n) n0 (by omega)
 have cs := csum_p (k := 11) (n := m) (by decide) m0 (by omega)
 have cz0 := z_p 0 (by decide) (by decide)
 have cz := z_p 691 (by decide) (by decide)
 have hid := hs_id m (by omega) n (by omega) m0 n0
 have hrm := hs_rem m (by omega) m0
 have im := isI_encI (tV_lt m0 (show m ≤ 144 by omega))
 have inn := isI_encI (tV_lt n0 (show n ≤ 144 by omega))
 have hsl : ((sgm 11 m m : Nat) : Int).natAbs < pw 3 := sgm_lt (by decide) (by omega) (Nat.le_refl _)
 have hml : (tV m).natAbs < pw 3 := by
  have h1 := tV_lt m0 (show m ≤ 144 by omega)
  have h2 : pw 2 ≤ pw 3 := by decide
  omega
 have cmul : PC Tryz.prog 28 _ _ := (refmul_p im inn (by decide) (by decide)).up
 rw [hid] at cmul
 have csm := same_refl (hs m n m) (hs_lt m (by omega) n (by omega) m (by omega)) (by decide)
 have csub : PC Tryz.prog 34 _ _ := (refsub_p (isI_encI hml) (isI_encI hsl) (by decide)).up
 have hdl : (tV m - ((sgm 11 m m : Nat) : Int)).natAbs < pw 4 := by
  have : pw 3 + pw 3 ≤ pw 4 := by decide
  omega
 have ceu : PC Tryz.prog 33 _ _ := (euclid_p (isI_encI hdl) (isI_encI (z := 691) (k := 4) (by decide)) (by decide) (by decide)).up
 rw [hrm] at ceu
 have csg : PC Tryz.prog 35 _ _ := (refsign_p (isI_encI (z := 0) (k := 1) (by decide)) (by decide)).up
 rw [show sgn 0 = 0 from rfl] at csg
 have csn : m = 1 → PC Tryz.prog 32 [encI (tV (m * n)), encI (tV n)] (bV true) := fun e => by
  rw [e, Nat.one_mul]
  exact same_refl (tV n) (tV_lt n0 (by omega)) (by decide)
 have q2 : -9223372036854775808 ≤ (m : Int) * (n : Int) ∧ (m : Int) * (n : Int) ≤ 9223372036854775807 := by rw [emn]; omega
 rw [← emn] at cmn
 generalize hD : (tV m - ((sgm 11 m m : Nat) : Int)) = D at *
 generalize hE : D / 691 = E at *
 generalize hS : ((sgm 11 m m : Nat) : Int) = S at *
 clear hD hE hS hdl hsl hml hrm hid
 unfold encI at *
 refine pc_body1 true Tryz.func4 rfl rfl rfl (Nat.le_of_ble_eq_true rfl) CellT.tmp ?_
 refine goA ?_
 refine evG ggA (ss_call (InB_of rfl) rfl rfl cmn) ?_
 refine goA ?_
 refine evG ggA (ss_call (InB_of rfl) rfl rfl cz0) ?_
 refine runA ?_
 refine ev_nil ?_
 (repeat (first | with_reducible refine seqQ_n ?_ | with_reducible refine seqQ_e ?_ | with_reducible refine seqQ_r ?_ | with_reducible refine blockQ_n ?_ | with_reducible refine blockQ_r ?_ | with_reducible refine blockQ_e rfl ?_ | with_reducible refine blockQ_o rfl ?_ | with_reducible refine loopQ_e ?_ | with_reducible refine loopQ_r ?_ | with_reducible refine midQ_e ?_ | with_reducible refine midQ_r ?_ | with_reducible refine roundQ_n ?_ | with_reducible refine roundQ_e ?_ | with_reducible refine roundQ_r ?_))
 refine T.seqI (fun s1 => s1 = mkS [(0, .v (iV m)), (1, .v (iV n)), (5, .ptr 5 0), (6, .v (iV 0)), (7, .ptr 7 0)] [(5, ivar (tV (m * n))), (7, ivar (hs m n m))] 133 true) ?_ ?_
 ·refine r1A ?_
  refine T.block ?_
  refine T.loop (fun N s1 => ∃ j : Nat, N = m - j ∧ j ≤ m ∧ s1 = mkS [(0, .v (iV m)), (1, .v (iV n)), (5, .ptr 5 0), (6, .v (iV 0)), (7, .ptr 7 0), (8, .v (iV ((j : Int) + 1)))] [(5, ivar (tV (m * n))), (7, ivar (hs m n j))] 133 true) m
   (s' := mkS [(0, .v (iV m)), (1, .v (iV n)), (5, .ptr 5 0), (6, .v (iV 0)), (7, .ptr 7 0), (8, .v (iV 1))] [(5, ivar (tV (m * n))), (7, ivar (hs m n 0))] 133 true) (by exact entA) ⟨0, rfl, Nat.zero_le _, rfl⟩ ?_
  rintro _ _ ⟨j, rfl, hj, rfl⟩
  by_cases hlt : j < m
  ·have hb : decide ((j : Int) + 1 ≤ (m : Int)) = true := decide_eq_true (by omega)
   have em : (m : Int).tmod ((j : Int) + 1) = ((m % (j + 1) : Nat) : Int) := rfl
   have en : (n : Int).tmod ((j : Int) + 1) = ((n % (j + 1) : Nat) : Int) := rfl
   by_cases hd : m % (j + 1) = 0
   ·have hb2 : (((m % (j + 1) : Nat) : Int) != 0) = false := by rw [hd]; rfl
    by_cases hd2 : n % (j + 1) = 0
    ·have hb3 : (((n % (j + 1) : Nat) : Int) != 0) = false := by rw [hd2]; rfl
     obtain ⟨r1, r2, r3, -⟩ := hs_q m (by omega) n (by omega) j (by omega) ⟨m0, n0, hd, hd2⟩
     have e1 : hs m n (j + 1) = hs m n j + ((j + 1 : Nat) : Int) ^ 11 * tV (m * n / (j + 1) / (j + 1)) := by rw [hs, if_pos ⟨hd, hd2⟩]
     have ht := hs_tlt m (by omega) n (by omega) j (by omega)
     have hl := hs_lt m (by omega) n (by omega) j (by omega)
     have d1 : ((m : Int) * (n : Int)).tdiv ((j : Int) + 1) = ((m * n / (j + 1) : Nat) : Int) := rfl
     have d2 : ((m * n / (j + 1) : Nat) : Int).tdiv ((j : Int) + 1) = ((m * n / (j + 1) / (j + 1) : Nat) : Int) := rfl
     have k1 := tauN_p r1 r2
     have k2 := z_p ((j : Int) + 1) (by omega) (by omega)
     have k3 := rraised_p (x := (j : Int) + 1) (n := 11) (by omega) (by decide)
     have k4 : PC Tryz.prog 28 _ _ := (refmul_p (isI_encI (pow_le15 (x := (j : Int) + 1) (e := 11) (by omega) (by decide))) (isI_encI (tV_lt r1 r2)) (by decide) (by decide)).up
     have k5 : PC Tryz.prog 30 _ _ := (refadd_p (isI_encI hl) (isI_encI ht) (by decide)).up
     rw [← e1] at k5
     rw [show ((j + 1 : Nat) : Int) = (j : Int) + 1 by omega] at k5
     have w1 : IntKind.i64.wrap (((m : Int) * (n : Int)).tdiv ((j : Int) + 1)) = ((m * n / (j + 1) : Nat) : Int) := by rw [d1]; exact w64 (Int.le_trans (by decide) (Int.natCast_nonneg _)) (Int.le_trans (Int.ofNat_le.2 r3) (by decide))
     have w2 : IntKind.i64.wrap (((m * n / (j + 1) : Nat) : Int).tdiv ((j : Int) + 1)) = ((m * n / (j + 1) / (j + 1) : Nat) : Int) := by rw [d2]; exact w64 (Int.le_trans (by decide) (Int.natCast_nonneg _)) (Int.le_trans (Int.ofNat_le.2 r2) (by decide))
     unfold encI at k1 k2 k3 k4 k5
     generalize hQ : tV (m * n / (j + 1) / (j + 1)) = Q at *
     generalize hX : ((j : Int) + 1) ^ 11 = X at *
     refine goA ?_
     refine evG ggA (ss_div (op := .rem) (InB_of rfl) rfl rfl (by omega) rfl) ?_
     rw [em]
     refine goA ?_
     refine evG ggA (ss_div (op := .rem) (InB_of rfl) rfl rfl (by omega) rfl) ?_
     rw [en]
     refine goA ?_
     refine evG ggA (ss_div (InB_of rfl) rfl rfl (by omega) w1) ?_
     refine goA ?_
     refine evG ggA (ss_div (InB_of rfl) rfl rfl (by omega) w2) ?_
     refine goA ?_
     refine evG ggA (ss_call (InB_of rfl) rfl rfl k1) ?_
     refine goA ?_
     refine evG ggA (ss_call (InB_of rfl) rfl rfl k2) ?_
     refine goA ?_
     refine evG ggA (ss_call (InB_of rfl) rfl rfl k3) ?_
     refine goA ?_
     refine evG ggA (ss_call (InB_of rfl) rfl rfl k4) ?_
     refine goA ?_
     refine evG ggA (ss_call (InB_of rfl) rfl rfl k5) ?_
     refine goA ?_
     exact loopQ_intro (k := m - (j + 1)) (s' := mkS [(0, .v (iV m)), (1, .v (iV n)), (5, .ptr 5 0), (6, .v (iV 0)), (7, .ptr 7 0), (8, .v (iV ((j : Int) + 1 + 1)))] [(5, ivar (tV (m * n))), (7, ivar (hs m n (j + 1)))] 133 true) (by omega) (by exact entA) ⟨j + 1, rfl, by omega, rfl⟩
    ·have hb3 : (((n % (j + 1) : Nat) : Int) != 0) = true := by
      rw [bne_iff_ne]
      omega
     have e1 : hs m n (j + 1) = hs m n j := by rw [hs, if_neg fun e => hd2 e.2]
     refine goA ?_
     refine evG ggA (ss_div (op := .rem) (InB_of rfl) rfl rfl (by omega) rfl) ?_
     rw [em]
     refine goA ?_
     refine evG ggA (ss_div (op := .rem) (InB_of rfl) rfl rfl (by omega) rfl) ?_
     rw [en]
     refine goA ?_
     exact loopQ_intro (k := m - (j + 1)) (s' := mkS [(0, .v (iV m)), (1, .v (iV n)), (5, .ptr 5 0), (6, .v (iV 0)), (7, .ptr 7 0), (8, .v (iV ((j : Int) + 1 + 1)))] [(5, ivar (tV (m * n))), (7, ivar (hs m n j))] 133 true) (by omega) (by exact entA) ⟨j + 1, rfl, by omega, by rw [e1]; rfl⟩
   ·have hb2 : (((m % (j + 1) : Nat) : Int) != 0) = true := by
     rw [bne_iff_ne]
     omega
    have e1 : hs m n (j + 1) = hs m n j := by rw [hs, if_neg fun e => hd e.1]
    refine goA ?_
    refine evG ggA (ss_div (op := .rem) (InB_of rfl) rfl rfl (by omega) rfl) ?_
    rw [em]
    refine goA ?_
    exact loopQ_intro (k := m - (j + 1)) (s' := mkS [(0, .v (iV m)), (1, .v (iV n)), (5, .ptr 5 0), (6, .v (iV 0)), (7, .ptr 7 0), (8, .v (iV ((j : Int) + 1 + 1)))] [(5, ivar (tV (m * n))), (7, ivar (hs m n j))] 133 true) (by omega) (by exact entA) ⟨j + 1, rfl, by omega, by rw [e1]; rfl⟩
  ·obtain rfl : j = m := by omega
   have hb : decide ((j : Int) + 1 ≤ (j : Int)) = false := decide_eq_false (by omega)
   refine goA ?_
   exact midQ_intro (s' := mkS [(0, .v (iV j)), (1, .v (iV n)), (5, .ptr 5 0), (6, .v (iV 0)), (7, .ptr 7 0)] [(5, ivar (tV (j * n))), (7, ivar (hs j n j))] 133 true) (by exact entA) rfl
 rintro _ rfl
 by_cases e1 : m = 1
 ·have b1 : ((m : Int) == 1) = true := by rw [e1]; rfl
  have c9 := csn e1
  refine goA ?_
  refine evG ggA (ss_call (InB_of rfl) rfl rfl cm) ?_
  refine goA ?_
  refine evG ggA (ss_call (InB_of rfl) rfl rfl cn) ?_
  refine goA ?_
  refine evG ggA (ss_call (InB_of rfl) rfl rfl cs) ?_
  refine goA ?_
  refine evG ggA (ss_call (InB_of rfl) rfl rfl cmul) ?_
  refine goA ?_
  refine evG ggA (ss_call (InB_of rfl) rfl rfl csm) ?_
  refine goA ?_
  refine evG ggA (ss_call (InB_of rfl) rfl rfl c9) ?_
  refine goA ?_
  refine evG ggA (ss_call (InB_of rfl) rfl rfl csub) ?_
  refine goA ?_
  refine evG ggA (ss_call (InB_of rfl) rfl rfl cz) ?_
  refine goA ?_
  refine evG ggA (ss_call (InB_of rfl) rfl rfl ceu) ?_
  refine goA ?_
  refine evG ggA (ss_call (InB_of rfl) rfl rfl csg) ?_
  refine goA ?_
  refine evG ggA (ss_call (InB_of rfl) rfl rfl aw) ?_
  refine goA ?_
  exact rfl
 ·have b1 : ((m : Int) == 1) = false := by
   rw [beq_eq_false_iff_ne]
   omega
  refine goA ?_
  refine evG ggA (ss_call (InB_of rfl) rfl rfl cm) ?_
  refine goA ?_
  refine evG ggA (ss_call (InB_of rfl) rfl rfl cn) ?_
  refine goA ?_
  refine evG ggA (ss_call (InB_of rfl) rfl rfl cs) ?_
  refine goA ?_
  refine evG ggA (ss_call (InB_of rfl) rfl rfl cmul) ?_
  refine goA ?_
  refine evG ggA (ss_call (InB_of rfl) rfl rfl csm) ?_
  refine goA ?_
  refine evG ggA (ss_call (InB_of rfl) rfl rfl csub) ?_
  refine goA ?_
  refine evG ggA (ss_call (InB_of rfl) rfl rfl cz) ?_
  refine goA ?_
  refine evG ggA (ss_call (InB_of rfl) rfl rfl ceu) ?_
  refine goA ?_
  refine evG ggA (ss_call (InB_of rfl) rfl rfl csg) ?_
  refine goA ?_
  refine evG ggA (ss_call (InB_of rfl) rfl rfl aw) ?_
  refine goA ?_
  exact rfl
theorem leveloneTau_p (m : Int) (m0 : -9223372036854775808 ≤ m) (m1 : m ≤ 9223372036854775807) (n : Int) (n0 : -9223372036854775808 ≤ n) (n1 : n ≤ 9223372036854775807) :
    PC Tryz.prog 4 [iV m, iV n] (bV true) := by
  have aw := l39awake_p
  cases h1 : decide (m < 1) with
  | true =>
    refine pc_body1 true Tryz.func4 rfl rfl rfl (Nat.le_of_ble_eq_true rfl) CellT.tmp ?_
    refine goA ?_
    refine evG ggA (ss_call (InB_of rfl) rfl rfl aw) ?_
    refine goA ?_
    exact rfl
  | false =>
  cases h2 : decide (m > 12) with
  | true =>
    refine pc_body1 true Tryz.func4 rfl rfl rfl (Nat.le_of_ble_eq_true rfl) CellT.tmp ?_
    refine goA ?_
    refine evG ggA (ss_call (InB_of rfl) rfl rfl aw) ?_
    refine goA ?_
    exact rfl
  | false =>
  cases h3 : decide (n < 1) with
  | true =>
    refine pc_body1 true Tryz.func4 rfl rfl rfl (Nat.le_of_ble_eq_true rfl) CellT.tmp ?_
    refine goA ?_
    refine evG ggA (ss_call (InB_of rfl) rfl rfl aw) ?_
    refine goA ?_
    exact rfl
  | false =>
  cases h4 : decide (n > 12) with
  | true =>
    refine pc_body1 true Tryz.func4 rfl rfl rfl (Nat.le_of_ble_eq_true rfl) CellT.tmp ?_
    refine goA ?_
    refine evG ggA (ss_call (InB_of rfl) rfl rfl aw) ?_
    refine goA ?_
    exact rfl
  | false =>
  have := of_decide_eq_false h1
  have := of_decide_eq_false h2
  have := of_decide_eq_false h3
  have := of_decide_eq_false h4
  obtain ⟨a, rfl⟩ : ∃ a : Nat, m = a := ⟨m.toNat, by omega⟩
  obtain ⟨b, rfl⟩ : ∃ b : Nat, n = b := ⟨n.toNat, by omega⟩
  exact tauIn_p (by omega) (by omega) (by omega) (by omega)
end Ab
