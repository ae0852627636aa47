/- Eisenstein series of the document, walked. Eisenstein series of the document, walked: Bernoulli polynomials at 1, sums over divisors, the series. -/
import Derived.Test.YtmohfcpjgcgogaaGreatDoorLc
set_option linter.all false
namespace Ab
open Go Go.RowKit Go.Proofs Hp
set_option maxRecDepth 100000
theorem tdiv_bn {x y N : Int} (h : Bn N x) : Bn N (x.tdiv y) := by
 unfold Bn at *
 have h1 : (x.tdiv y).natAbs ≤ x.natAbs := by rw [Int.natAbs_tdiv]; exact Nat.div_le_self _ _
 generalize x.tdiv y = q at *
 omega
set_option maxHeartbeats 1000000 in
theorem lfrac_p {n d : Int} (hn : Bn 1000000000000 n) (hd0 : 0 < d) (hd : Bn 1000000000000 d) : PC Tryz.prog 21 [iV n, iV d] (encQ (Rat.divInt n d)) := by
 have hg : gsg n d = gI n d := by unfold gsg; rw [if_neg (by omega)]; rfl
 obtain ⟨p1, p2⟩ := gsg_parts (n := n) (d := d) (by omega)
 rw [hg] at p1 p2
 have hgp : 0 < gI n d := by
  have := Int.gcd_pos_of_ne_zero_right n (show d ≠ 0 by omega)
  unfold gI
  unfold Int.gcd at this
  omega
 have d1 : gI n d ∣ n := Int.gcd_dvd_left ..
 have d2 : gI n d ∣ d := Int.gcd_dvd_right ..
 have t1 : n.tdiv (gI n d) = n / gI n d := Int.tdiv_eq_ediv_of_dvd d1
 have t2 : d.tdiv (gI n d) = d / gI n d := Int.tdiv_eq_ediv_of_dvd d2
 have q1 := tdiv_bn (y := gI n d) hn
 have q2 := tdiv_bn (y := gI n d) hd
 have z1 := z_p (n.tdiv (gI n d)) (by unfold Bn at q1; omega) (by unfold Bn at q1; omega)
 have z2 := z_p (d.tdiv (gI n d)) (by unfold Bn at q2; omega) (by unfold Bn at q2; omega)
 have hq : encQ (Rat.divInt n d) = .agg (ci (n.tdiv (gI n d)) ++ ci (d.tdiv (gI n d))) := by unfold encQ; rw [p1, p2, t1, t2]
 rw [hq]
 unfold encI at z1 z2
 have hb : decide (d < 0) = false := decide_eq_false (by omega)
 have eg : gI (max n (0 - n)) d = gI n d := by unfold gI; rw [show (max n (0 - n)).natAbs = n.natAbs by omega]
 clear p1 p2 t1 t2 d1 d2 hg hq
 unfold Bn at hn hd q1 q2
 refine Zam true Tryz.func21 rfl rfl rfl (Nat.le_of_ble_eq_true rfl) (Zao.agg Zdh) ?_
 refine r1A ?_
 refine T.seqI (fun s1 => s1 = mkS [(0, .v (iV n)), (1, .v (iV d)), (4, .ptr 4 0)] [(4, qvar0)] 33 true) ?_ ?_
 ·refine goA ?_
  exact Zag (by exact entA) rfl
 rintro _ rfl
 refine T.seqI (fun s1 => s1 = mkS [(0, .v (iV n)), (1, .v (iV d)), (4, .ptr 4 0), (5, .v (iV (max n (0 - n)))), (6, .v (iV d))] [(4, qvar0)] 33 true) ?_ ?_
 ·refine goA ?_
  exact Zag (by exact entA) rfl
 rintro _ rfl
 refine T.seqI (fun s1 => s1 = mkS [(0, .v (iV n)), (1, .v (iV d)), (4, .ptr 4 0), (5, .v (iV (gI n d)))] [(4, qvar0)] 33 true) ?_ ?_
 ·refine T.block ?_
  refine T.loop (fun k s1 => ∃ a b : Int, 0 ≤ a ∧ 0 ≤ b ∧ a ≤ 1000000000000 ∧ b ≤ 1000000000000 ∧ gI a b = gI n d ∧ b.natAbs ≤ k ∧ s1 = mkS [(0, .v (iV n)), (1, .v (iV d)), (4, .ptr 4 0), (5, .v (iV a)), (6, .v (iV b))] [(4, qvar0)] 33 true) d.natAbs
   (s' := mkS [(0, .v (iV n)), (1, .v (iV d)), (4, .ptr 4 0), (5, .v (iV (max n (0 - n)))), (6, .v (iV d))] [(4, qvar0)] 33 true) (by exact entA) ⟨_, d, by omega, by omega, by omega, by omega, eg, Nat.le_refl _, rfl⟩ ?_
  rintro k _ ⟨a, b, a0, b0, a1, b1, e, hk, rfl⟩
  by_cases h0 : b = 0
  ·subst h0
   have hb2 : decide ((0 : Int) > 0) = false := rfl
   rw [← e, gI_zero, show max a (0 - a) = a by omega]
   refine goA ?_
   exact Zag (by exact entA) rfl
  ·have hb2 : decide (b > 0) = true := decide_eq_true (by omega)
   have hl := tmod_lt (a := a) h0
   have hm0 : 0 ≤ a.tmod b := Int.tmod_nonneg _ a0
   refine goA ?_
   refine evG ggA (Zcc (op := .rem) (Zaa rfl) rfl rfl (by omega) rfl) ?_
   refine goA ?_
   exact Zae (k := (a.tmod b).natAbs) (s' := mkS [(0, .v (iV n)), (1, .v (iV d)), (4, .ptr 4 0), (5, .v (iV b)), (6, .v (iV (a.tmod b)))] [(4, qvar0)] 33 true) (by omega) (by exact entA) ⟨b, _, b0, hm0, b1, by omega, by rw [gI_step, e], Nat.le_refl _, rfl⟩
 rintro _ rfl
 generalize gI n d = g at *
 refine goA ?_
 refine evG ggA (Zcc (Zaa rfl) rfl rfl (by omega) (w64 (by omega) (by omega))) ?_
 refine goA ?_
 refine evG ggA (Zab (Zaa rfl) rfl rfl z1) ?_
 refine goA ?_
 refine evG ggA (Zcc (Zaa rfl) rfl rfl (by omega) (w64 (by omega) (by omega))) ?_
 refine goA ?_
 refine evG ggA (Zab (Zaa rfl) rfl rfl z2) ?_
 refine goA ?_
 exact rfl
def fr (a b : Int) : Rat := Rat.divInt a b
end Ab
namespace Ab
open Go Go.RowKit Go.Proofs Hp
set_option maxRecDepth 100000
end Ab
