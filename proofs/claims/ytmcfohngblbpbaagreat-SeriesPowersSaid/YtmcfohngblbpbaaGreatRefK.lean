/- Package ref01: Gcd, in abstract values. -/
import Derived.Test.YtmcfohngblbpbaaGreatRefJ
namespace Ab
open Go Go.RowKit Go.Proofs Hp
set_option maxRecDepth 100000

abbrev varI : Blk := .var [.v (.p (.bool false)), .v (.p nilV)]
abbrev varN (n : Nat) : Blk := .var [.v (.p (.bool false)), .v (.sl ((dgs n).map u32))]
theorem dgs_gt (n : Nat) : decide (((((dgs n).map u32).length : Nat) : Int) > 0) = decide (0 < n) := by rw [List.length_map]; exact dgs_ne
set_option maxHeartbeats 4000000 in
theorem refgcd_p {a b : AV} {k : Nat} {p q : Int} (ha : IsI a k p) (hb : IsI b k q) (hk : k ≤ 274877906944) : PW Tryz.prog 108 [a, b] (encI ((Int.gcd p q : Nat) : Int)) := by
  have c1 := refabs_p ha (by omega)
  have c2 := refabs_p hb (by omega)
  have lp := isI_len ha
  have lq := isI_len hb
  obtain ⟨cs, rfl, g, ds, rfl, -⟩ := ha
  obtain ⟨cs, rfl, g', ds', rfl, -⟩ := hb
  rw [encI_nat] at c1 c2 ⊢
  have hG : Int.gcd p q = Nat.gcd p.natAbs q.natAbs := rfl
  rw [hG]
  clear hG
  generalize p.natAbs = X at *
  generalize q.natAbs = Y at *
  obtain ⟨G, hG⟩ : ∃ G, G = Nat.gcd X Y := ⟨_, rfl⟩
  rw [← hG]
  by_cases hs : (dgs X).length ≤ 2 ∧ (dgs Y).length ≤ 2
  · have hb1 : decide ((((dgs X).map u32).length : Int) ≤ 2) = true := by simp; omega
    have hb2 : decide ((((dgs Y).map u32).length : Int) ≤ 2) = true := by simp; omega
    have wx := word_lt hs.1
    have wy := word_lt hs.2
    have c3 := word_d X hs.1
    have c4 := word_d Y hs.2
    have hGb : G < 18446744073709551616 := by
      by_cases h0 : X = 0
      · subst h0; rw [hG, Nat.gcd_zero_left]; exact wy
      · have := Nat.le_of_dvd (by omega) (Nat.gcd_dvd_left X Y); omega
    have c5 := split_p G hGb
    have c6 := rsigned_p (g := false) (dgs_dig (n := G)) (Nat.le_refl _) (show (dgs G).length ≤ 17592186044416 from by
      have : (dgs G).length ≤ 2 := dgs_len (by rw [show pw 2 = 18446744073709551616 from by decide]; omega)
      omega)
    rw [dgs_vl, show zof false ((G : Nat) : Int) = (G : Int) from rfl, encI_nat] at c6
    refine pc_body1 false Tryz.func108 rfl rfl rfl (Nat.le_of_ble_eq_true rfl) (CellT.agg agg_int) ?_
    refine goA ?_
    refine evG ggA (ss_call (InB_of rfl) rfl rfl c1) ?_
    refine goA ?_
    refine evG ggA (ss_call (InB_of rfl) rfl rfl c2) ?_
    refine goA ?_
    refine evG ggA (ss_call (InB_of rfl) rfl rfl c3) ?_
    refine goA ?_
    refine evG ggA (ss_call (InB_of rfl) rfl rfl c4) ?_
    refine runA ?_
    refine ev_nil ?_
    refine seqQ_n ?_
    refine T.seqI (fun s1 => s1 = mkS [(4, .ptr 4 0), (7, .v (.p (.int .u64 G)))] [(4, varI)] 53 false) ?_ ?_
    · refine T.block ?_
      refine T.loop (fun z s1 => ∃ m n : Nat, z = n ∧ Nat.gcd m n = G ∧ m < 18446744073709551616 ∧ n < 18446744073709551616 ∧ s1 = mkS [(4, .ptr 4 0), (7, .v (.p (.int .u64 m))), (8, .v (.p (.int .u64 n)))] [(4, varI)] 53 false) Y
        (s' := mkS [(4, .ptr 4 0), (7, .v (.p (.int .u64 X))), (8, .v (.p (.int .u64 Y)))] [(4, varI)] 53 false) (by exact entA) ⟨X, Y, rfl, hG.symm, wx, wy, rfl⟩ ?_
      clear c1 c2 c3 c4 c5 c6
      rintro n _ ⟨m, _, rfl, hg, hm, hn, rfl⟩
      by_cases h0 : n = 0
      · subst h0
        have hb : decide (((0 : Nat) : Int) > 0) = false := by decide
        rw [Nat.gcd_zero_right] at hg
        subst hg
        refine goA ?_
        exact midQ_intro (s' := mkS [(4, .ptr 4 0), (7, .v (.p (.int .u64 m)))] [(4, varI)] 53 false) (by exact entA) rfl
      · have hb : decide ((n : Int) > 0) = true := by simp; omega
        have hdr := tmod_nat m n
        have hlt : m % n < n := Nat.mod_lt _ (by omega)
        refine goA ?_
        refine evG ggA (ss_div (InB_of rfl) rfl rfl (by omega) hdr) ?_
        refine goA ?_
        exact loopQ_intro (k := m % n) (s' := mkS [(4, .ptr 4 0), (7, .v (.p (.int .u64 n))), (8, .v (.p (.int .u64 ((m % n : Nat) : Int))))] [(4, varI)] 53 false) hlt (by exact entA) ⟨n, m % n, rfl, by rw [Nat.gcd_comm n (m % n), ← Nat.gcd_rec, Nat.gcd_comm n m]; exact hg, hn, by omega, rfl⟩
    rintro _ rfl
    refine goA ?_
    refine evG ggA (ss_call (InB_of rfl) rfl rfl c5) ?_
    refine evG ggA (ss_call (InB_of rfl) rfl rfl c6) ?_
    refine goA ?_
    exact rfl
  refine pc_body1 false Tryz.func108 rfl rfl rfl (Nat.le_of_ble_eq_true rfl) (CellT.agg agg_int) ?_
  refine r1A ?_
  refine T.seq ?_
  refine regA ?_
  refine runA ?_
  refine evG ggA (ss_call (InB_of rfl) rfl rfl c1) ?_
  refine runA ?_
  refine evG ggA (ss_call (InB_of rfl) rfl rfl c2) ?_
  refine runA ?_
  refine ev_nil ?_
  refine seqQ_n ?_
  refine T.seqI (fun s1 => s1 = mkS [(4, .ptr 4 0), (5, .ptr 5 0), (6, .ptr 6 0)] [(4, varI), (5, varN X), (6, varN Y)] 53 false) ?_ ?_
  · by_cases h1 : (dgs X).length ≤ 2
    · have hb1 : decide ((((dgs X).map u32).length : Int) ≤ 2) = true := by simp; omega
      have hb2 : decide ((((dgs Y).map u32).length : Int) ≤ 2) = false := by simp; omega
      refine goA ?_
      exact midQ_intro (by exact entA) rfl
    · have hb1 : decide ((((dgs X).map u32).length : Int) ≤ 2) = false := by simp; omega
      refine goA ?_
      exact midQ_intro (by exact entA) rfl
  rintro _ rfl
  clear c1 c2
  refine T.seqI (fun s1 => s1 = mkS [(4, .ptr 4 0), (5, .ptr 5 0)] [(4, varI), (5, varN G)] 53 false) ?_ ?_
  · refine T.block ?_
    refine T.loop (fun z s1 => ∃ m n : Nat, z = n ∧ Nat.gcd m n = G ∧ (dgs m).length ≤ k ∧ (dgs n).length ≤ k ∧ s1 = mkS [(4, .ptr 4 0), (5, .ptr 5 0), (6, .ptr 6 0)] [(4, varI), (5, varN m), (6, varN n)] 53 false) Y
      (s' := mkS [(4, .ptr 4 0), (5, .ptr 5 0), (6, .ptr 6 0)] [(4, varI), (5, varN X), (6, varN Y)] 53 false) (by exact entA) ⟨X, Y, rfl, hG.symm, lp, lq, rfl⟩ ?_
    rintro n _ ⟨m, _, rfl, hg, hm, hn, rfl⟩
    have hgt := dgs_gt n
    by_cases h0 : n = 0
    · subst h0
      have hb : decide (((((dgs 0).map u32).length : Nat) : Int) > 0) = false := by rw [hgt]; rfl
      rw [Nat.gcd_zero_right] at hg
      subst hg
      refine goA ?_
      exact midQ_intro (s' := mkS [(4, .ptr 4 0), (5, .ptr 5 0)] [(4, varI), (5, varN m)] 53 false) (by exact entA) rfl
    · have hb : decide (((((dgs n).map u32).length : Nat) : Int) > 0) = true := by rw [hgt]; simp; omega
      have hlt : m % n < n := Nat.mod_lt _ (by omega)
      have ce := euclid_p (isI_dgs m hm) (isI_dgs n hn) (by omega) hk
      rw [show (m : Int) % (n : Int) = ((m % n : Nat) : Int) from rfl, show (m : Int) / (n : Int) = ((m / n : Nat) : Int) from rfl, encI_nat, encI_nat] at ce
      refine goA ?_
      refine evG ggA (ss_call (InB_of rfl) rfl rfl ce) ?_
      refine goA ?_
      exact loopQ_intro (k := m % n) (s' := mkS [(4, .ptr 4 0), (5, .ptr 5 0), (6, .ptr 6 0)] [(4, varI), (5, varN n), (6, varN (m % n))] 53 false) hlt (by exact entA) ⟨n, m % n, rfl, by rw [Nat.gcd_comm n (m % n), ← Nat.gcd_rec, Nat.gcd_comm n m]; exact hg, hn, Nat.le_trans (dgs_mono (by omega)) hn, rfl⟩
  rintro _ rfl
  refine goA ?_
  exact rfl
end Ab
