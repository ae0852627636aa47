/- Eisenstein series of the document, walked. -/
import Derived.Test.YtalcdpjpapojeaaGreatDoorLc
set_option linter.all false
namespace Ab
open Go Go.RowKit Go.Proofs Hp
set_option maxRecDepth 100000
theorem tdiv_bn {x y N : Int} (h : Bn N x) : Bn N (x.tdiv y) := by
 unfold Bn at *
 have h1 : (x.tdiv y).natAbs ≤ x.natAbs := by rw [Int.natAbs_tdiv]; exact Nat.div_le_self _ _
 generalize x.tdiv y = q at *
 omega
set_option maxHeartbeats 1000000 in
theorem lfrac_p {n d : Int} (hn : Bn 1000000000000 n) (hd0 : 0 < d) (hd : Bn 1000000000000 d) : PC Tryz.prog 165 [iV n, iV d] (encQ (Rat.divInt n d)) := by
 have hg : gsg n d = gI n d := by unfold gsg; rw [if_neg oM]; rfl
 obtain ⟨p1, p2⟩ := gsg_parts (n := n) (d := d) oM
 rw [hg] at p1 p2
 have hgp : 0 < gI n d := by
  have := Int.gcd_pos_of_ne_zero_right n (show d ≠ 0 by omega)
  unfold gI
  unfold Int.gcd at this
  omega
 have d1 : gI n d ∣ n := Int.gcd_dvd_left ..
 have d2 : gI n d ∣ d := Int.gcd_dvd_right ..
 have t1 : n.tdiv (gI n d) = n / gI n d := Int.tdiv_eq_ediv_of_dvd d1
 have t2 : d.tdiv (gI n d) = d / gI n d := Int.tdiv_eq_ediv_of_dvd d2
 have q1 := tdiv_bn (y := gI n d) hn
 have q2 := tdiv_bn (y := gI n d) hd
 have z1 := z_p (n.tdiv (gI n d)) (by unfold Bn at q1; omega) (by unfold Bn at q1; omega)
 have z2 := z_p (d.tdiv (gI n d)) (by unfold Bn at q2; omega) (by unfold Bn at q2; omega)
 have hq : encQ (Rat.divInt n d) = .agg (ci (n.tdiv (gI n d)) ++ ci (d.tdiv (gI n d))) := by unfold encQ; rw [p1, p2, t1, t2]
 rw [hq]
 unfold encI at z1 z2
 have hb : decide (d < 0) = false := decide_eq_false oM
 have eg : gI (max n (0 - n)) d = gI n d := by unfold gI; rw [show (max n (0 - n)).natAbs = n.natAbs by omega]
 clear p1 p2 t1 t2 d1 d2 hg hq
 unfold Bn at hn hd q1 q2
 refine pb1 Tryz.func165 (Zac.agg Zbg) ?_
 refine r1A ?_
 refine T.seqE (mkS [(0, .v (iV n)), (1, .v (iV d)), (4, .ptr 4 0)] [(4, Zdy)] 33 true) ?_ ?_
 ·refine goA ?_
  exact midE
 refine T.seqE (mkS [(0, .v (iV n)), (1, .v (iV d)), (4, .ptr 4 0), (5, .v (iV (max n (0 - n)))), (6, .v (iV d))] [(4, Zdy)] 33 true) ?_ ?_
 ·refine goA ?_
  exact midE
 refine T.seqE (mkS [(0, .v (iV n)), (1, .v (iV d)), (4, .ptr 4 0), (5, .v (iV (gI n d)))] [(4, Zdy)] 33 true) ?_ ?_
 ·refine T.block ?_
  refine T.loop (fun k s1 => ∃ a b : Int, 0 ≤ a ∧ 0 ≤ b ∧ a ≤ 1000000000000 ∧ b ≤ 1000000000000 ∧ gI a b = gI n d ∧ b.natAbs ≤ k ∧ s1 = mkS [(0, .v (iV n)), (1, .v (iV d)), (4, .ptr 4 0), (5, .v (iV a)), (6, .v (iV b))] [(4, Zdy)] 33 true) d.natAbs
   (s' := mkS [(0, .v (iV n)), (1, .v (iV d)), (4, .ptr 4 0), (5, .v (iV (max n (0 - n)))), (6, .v (iV d))] [(4, Zdy)] 33 true) entA ⟨_, d, oM, oM, oM, oM, eg, Nat.le_refl _, rfl⟩ ?_
  rintro k _ ⟨a, b, a0, b0, a1, b1, e, hk, rfl⟩
  by_cases h0 : b = 0
  ·subst h0
   have hb2 : decide ((0 : Int) > 0) = false := rfl
   rw [← e, gI_zero, show max a (0 - a) = a by omega]
   refine goA ?_
   exact midE
  ·have hb2 : decide (b > 0) = true := decide_eq_true oM
   have hl := tmod_lt (a := a) h0
   have hm0 : 0 ≤ a.tmod b := Int.tmod_nonneg _ a0
   refine goA ?_
   refine remA ?_
   refine goA ?_
   exact Zab (k := (a.tmod b).natAbs) (s' := mkS [(0, .v (iV n)), (1, .v (iV d)), (4, .ptr 4 0), (5, .v (iV b)), (6, .v (iV (a.tmod b)))] [(4, Zdy)] 33 true) oM entA ⟨b, _, b0, hm0, b1, oM, by rw [gI_step, e], Nat.le_refl _, rfl⟩
 generalize gI n d = g at *
 refine goA ?_
 refine evG ggA (Zbx (Zaa rfl) rfl rfl oM (w64 oM oM)) ?_
 refine goA ?_
 refine clG z1 ?_
 refine evG ggA (Zbx (Zaa rfl) rfl rfl oM (w64 oM oM)) ?_
 refine goA ?_
 refine clG z2 ?_
 exact rfl
def fr (a b : Int) : Rat := Rat.divInt a b
theorem fr_hb : ((List.range 40).all fun a => (List.range 40).all fun b => htB 1 (fr ((a : Int) - 4) ((b : Int) + 1))) = true := by decide +kernel
theorem fr_ht {a b : Int} (ha : -4 ≤ a) (ha2 : a < 36) (hb : 1 ≤ b) (hb2 : b ≤ 40) : Ht (fr a b) 1 := by
 have h := List.all_eq_true.1 (List.all_eq_true.1 fr_hb (a + 4).toNat (List.mem_range.2 oM)) (b - 1).toNat (List.mem_range.2 oM)
 rw [show (((a + 4).toNat : Nat) : Int) - 4 = a by omega, show (((b - 1).toNat : Nat) : Int) + 1 = b by omega] at h
 exact Zf2 h
theorem q01 : PC Tryz.prog 35 [iV 0] (encQ 0) ∧ PC Tryz.prog 35 [iV 1] (encQ 1) := by
 have c0 := q_p 0 dC dC
 have c1 := q_p 1 dC dC
 rw [show ((1 : Int) : Rat) = 1 from rfl] at c1
 rw [show ((0 : Int) : Rat) = 0 from rfl] at c0
 exact ⟨c0, c1⟩
set_option maxHeartbeats 8000000 in
theorem rnum_p {n : Nat} (hn : n < 15) : PC Tryz.prog 162 [iV n] (.sl ((dbL n).map encQ)) := by
 obtain ⟨c0, c1⟩ := q01
 refine pb1 Tryz.func162 Zac.tmp ?_
 refine goA ?_
 refine clA c1 ?_
 refine evG ggA (Zb8 31 (Zaa rfl) rfl (Zaf rfl) rfl rfl rfl rfl (Zee rfl) (Nat.le_of_ble_eq_true rfl) dC (fun _ a ha => by rw [List.mem_singleton] at ha; subst ha; exact Ze3 1)) ?_
 refine runA ?_
 refine Zao ?_
 refine osA ?_
 refine T.seqE (mkS [(3, .own 31 (n + 1))] [(31, .lst 4 39 ((dbL n).map encQ))] 48 true) ?_ ?_
 ·refine r1A ?_
  refine T.block ?_
  refine T.loop (fun N s1 => ∃ j : Nat, N = n - j ∧ j ≤ n ∧ s1 = mkS [(0, .v (iV n)), (3, .own 31 (j + 1)), (4, .v (iV ((j : Int) + 1)))] [(31, .lst 4 39 ((dbL j).map encQ))] 48 true) n
   (s' := mkS [(0, .v (iV n)), (3, .own 31 1), (4, .v (iV 1))] [(31, .lst 4 39 ([(1 : Rat)].map encQ))] 48 true) entA ⟨0, rfl, Nat.zero_le _, rfl⟩ ?_
  rintro _ _ ⟨j, rfl, hj, rfl⟩
  by_cases hlt : j < n
  ·have hb : decide ((j : Int) + 1 ≤ (n : Int)) = true := decide_eq_true oM
   have n0 : ((dbL j).map encQ).length = j + 1 := by rw [List.length_map, dbL_len]
   have hlb := dbL_len j
   have hB := (dh_get (m := j) (k := 0) oM oM).2.2.2
   have hS : ∀ k, k ≤ j + 1 → Ht (dbs (j + 2) (dbL j) k) 2 := fun k _ => (dh_get oM oM).1
   have hC : ∀ k, k ≤ j + 1 → Ht (dbc (j + 2) k) 2 := fun k _ => by
    by_cases h : j + 2 < 15
    ·exact (dh_get h oM).2.1
    ·have h15 : j + 2 = 15 := oM
     rw [h15]
     have : ((List.range 17).all fun k => htB 2 (dbc 15 k)) = true := by decide +kernel
     exact Zf2 (List.all_eq_true.1 this k (List.mem_range.2 oM))
   have hstep : dbL (j + 1) = dbL j ++ [dbs (j + 2) (dbL j) (j + 1) * fr (-1) ((j : Int) + 1 + 1)] := rfl
   refine T.seqE (mkS [(0, .v (iV n)), (3, .own 31 (j + 1)), (4, .v (iV ((j : Int) + 1)))] [(31, .lst 4 39 ((dbL j).map encQ))] 48 true) ?_ ?_
   ·refine goA ?_
    exact midE
   refine T.seq ?_
   refine T.block ?_
   generalize hX : dbL j = X at *
   refine goA ?_
   refine clA c0 ?_
   refine clA c1 ?_
   refine runA ?_
   refine Zao ?_
   refine osA ?_
   refine T.seqE (mkS [(0, .v (iV n)), (3, .own 31 (j + 1)), (4, .v (iV ((j : Int) + 1))), (5, .ptr 5 0)] [(5, qvar (dbs (j + 2) X (j + 1))), (31, .lst 4 39 (X.map encQ))] 48 true) ?_ ?_
   ·refine r1A ?_
    refine T.block ?_
    refine T.loop (fun N s1 => ∃ k : Nat, N = j + 1 - k ∧ k ≤ j + 1 ∧ s1 = mkS [(0, .v (iV n)), (3, .own 31 (j + 1)), (4, .v (iV ((j : Int) + 1))), (5, .ptr 5 0), (6, .ptr 6 0), (7, .v (iV k))] [(5, qvar (dbs (j + 2) X k)), (6, qvar (dbc (j + 2) k)), (31, .lst 4 39 (X.map encQ))] 48 true) (j + 1)
     (s' := mkS [(0, .v (iV n)), (3, .own 31 (j + 1)), (4, .v (iV ((j : Int) + 1))), (5, .ptr 5 0), (6, .ptr 6 0), (7, .v (iV (0 : Nat)))] [(5, qvar (dbs (j + 2) X 0)), (6, qvar (dbc (j + 2) 0)), (31, .lst 4 39 (X.map encQ))] 48 true) entA ⟨0, rfl, Nat.zero_le _, rfl⟩ ?_
    rintro _ _ ⟨k, rfl, hk, rfl⟩
    by_cases hk1 : k < j + 1
    ·have hb2 : decide ((k : Int) < ((j : Int) + 1)) = true := decide_eq_true oM
     obtain ⟨q, hq⟩ : ∃ q, X[k]? = some q := ⟨_, List.getElem?_eq_getElem oM⟩
     have gq : X.getD k 0 = q := by rw [List.getD_eq_getElem?_getD, hq]; rfl
     have tq := hB q (List.mem_of_getElem? hq)
     have n1 : (X.map encQ)[((k : Nat) : Int).toNat]? = some (encQ q) := Zec hq
     have tc := hC k oM
     have c3 : PC Tryz.prog 78 _ _ := (Zb7 (Zad tc) (Zad tq) dC).up
     have c4 : PC Tryz.prog 116 _ _ := (Zdx (Zad (hS k oM)) (Zad (Zbq tc tq dC)) dC dC dC).up
     have hs2 : dbs (j + 2) X (k + 1) = dbs (j + 2) X k + dbc (j + 2) k * q := by show _ + dbc (j + 2) k * X.getD k 0 = _; rw [gq]
     rw [← hs2] at c4
     have c5 := lfrac_p (n := (j : Int) + 1 + 1 - k) (d := (k : Int) + 1) (by unfold Bn; omega) oM (by unfold Bn; omega)
     have tf : Ht (Rat.divInt ((j : Int) + 1 + 1 - k) ((k : Int) + 1)) 1 := fr_ht (a := (j : Int) + 1 + 1 - k) (b := (k : Int) + 1) oM oM oM oM
     have c6 : PC Tryz.prog 78 _ _ := (Zb7 (Zad tc) (Zad tf) dC).up
     have hc2 : dbc (j + 2) (k + 1) = dbc (j + 2) k * Rat.divInt ((j : Int) + 1 + 1 - k) ((k : Int) + 1) := by
      show _ * Rat.divInt (((j + 2 : Nat) : Int) - k) _ = _
      rw [show ((j + 2 : Nat) : Int) - k = (j : Int) + 1 + 1 - k by omega]
     rw [← hc2] at c6
     refine goA ?_
     refine evG ggA (Zah (Zaa rfl) (Zag rfl) rfl rfl n0 rfl oM oM) ?_
     refine evG ggA (Zan (Zaa rfl) (Zbc rfl) rfl rfl n0 n1) ?_
     refine clA c3 ?_
     refine clG c4 ?_
     refine clA c5 ?_
     refine clG c6 ?_
     exact Zab (k := j + 1 - (k + 1)) (s' := mkS [(0, .v (iV n)), (3, .own 31 (j + 1)), (4, .v (iV ((j : Int) + 1))), (5, .ptr 5 0), (6, .ptr 6 0), (7, .v (iV ((k : Int) + 1)))] [(5, qvar (dbs (j + 2) X (k + 1))), (6, qvar (dbc (j + 2) (k + 1))), (31, .lst 4 39 (X.map encQ))] 48 true) oM entA ⟨k + 1, rfl, oM, rfl⟩
    ·obtain rfl : k = j + 1 := oM
     have hb2 : decide (((j + 1 : Nat) : Int) < ((j : Int) + 1)) = false := decide_eq_false oM
     refine goA ?_
     exact Zae (s' := mkS [(0, .v (iV n)), (3, .own 31 (j + 1)), (4, .v (iV ((j : Int) + 1))), (5, .ptr 5 0)] [(5, qvar (dbs (j + 2) X (j + 1))), (31, .lst 4 39 (X.map encQ))] 48 true) entA rfl
   have c5 := lfrac_p (n := -1) (d := (j : Int) + 1 + 1) (by unfold Bn; omega) oM (by unfold Bn; omega)
   have t5 : Ht (fr (-1) ((j : Int) + 1 + 1)) 1 := fr_ht oM oM oM oM
   have c6 : PC Tryz.prog 78 _ _ := (Zb7 (Zad (hS (j + 1) oM)) (Zad t5) dC).up
   unfold fr at c6 hstep
   generalize hx : dbs (j + 2) X (j + 1) * Rat.divInt (-1) ((j : Int) + 1 + 1) = x at *
   refine goA ?_
   refine clA c5 ?_
   refine clA c6 ?_
   refine appA ?_
   refine goA ?_
   exact Zab (k := n - (j + 1)) (s' := mkS [(0, .v (iV n)), (3, .own 31 (j + 1 + 1)), (4, .v (iV ((j : Int) + 1 + 1)))] [(31, .lst 4 39 ((X ++ [x]).map encQ))] 48 true) oM entA ⟨j + 1, rfl, oM, by rw [hstep]; rfl⟩
  ·obtain rfl : j = n := oM
   have hb : decide ((j : Int) + 1 ≤ (j : Int)) = false := decide_eq_false oM
   refine goA ?_
   exact Zae (s' := mkS [(3, .own 31 (j + 1))] [(31, .lst 4 39 ((dbL j).map encQ))] 48 true) entA rfl
 have hl : ((dbL n).map encQ).length = n + 1 := by rw [List.length_map, dbL_len]
 refine T.weak (s' := mkS [(3, .v (.sl ((dbL n).map encQ)))] [] 48 true) entA ?_
 refine goA ?_
 exact rfl
set_option maxHeartbeats 8000000 in
theorem rpoly_p {n : Nat} (hn : n < 15) : PC Tryz.prog 164 [iV n, .sl ((dbL n).map encQ), encQ 1] (encQ (bqD n)) := by
 obtain ⟨c0, c1⟩ := q01
 have hlb := dbL_len n
 have hB := (dh_get (m := n) (k := 0) oM oM).2.2.2
 have hP : ∀ k, k ≤ n + 1 → Ht (dpl n (dbL n) 1 k) 2 := fun k _ => (dh_get oM oM).2.2.1
 have hC : ∀ k, k ≤ n + 1 → Ht (dbc n k) 2 := fun k _ => (dh_get oM oM).2.1
 have hend : dpl n (dbL n) 1 (n + 1) = bqD n := rfl
 have h10 : dpl n (dbL n) 1 0 = 0 := rfl
 have h11 : dbc n 0 = 1 := rfl
 have hst : ∀ k, dpl n (dbL n) 1 (k + 1) = dpl n (dbL n) 1 k * 1 + dbc n k * (dbL n).getD k 0 := fun _ => rfl
 have hst2 : ∀ k, dbc n (k + 1) = dbc n k * Rat.divInt ((n : Int) - k) ((k : Int) + 1) := fun _ => rfl
 have hone := ht1
 generalize h1q : (1 : Rat) = one at *
 generalize dpl n (dbL n) one = P at *
 generalize dbc n = C at *
 generalize bqD n = B at *
 generalize dbL n = X at *
 refine pb1 Tryz.func164 (Zac.agg Zbg) ?_
 refine goA ?_
 refine clA c0 ?_
 refine clA c1 ?_
 refine runA ?_
 refine Zao ?_
 refine osA ?_
 refine T.seqE (mkS [(6, .ptr 6 0), (7, .ptr 7 0)] [(6, Zdy), (7, qvar (P (n + 1)))] 36 true) ?_ ?_
 ·refine r1A ?_
  refine T.block ?_
  refine T.loop (fun N s1 => ∃ k : Nat, N = n + 1 - k ∧ k ≤ n + 1 ∧ s1 = mkS [(0, .v (iV n)), (1, .v (.sl (X.map encQ))), (5, .ptr 5 0), (6, .ptr 6 0), (7, .ptr 7 0), (8, .ptr 8 0), (9, .v (iV k))] [(5, qvar one), (6, Zdy), (7, qvar (P k)), (8, qvar (C k))] 36 true) (n + 1)
   (s' := mkS [(0, .v (iV n)), (1, .v (.sl (X.map encQ))), (5, .ptr 5 0), (6, .ptr 6 0), (7, .ptr 7 0), (8, .ptr 8 0), (9, .v (iV (0 : Nat)))] [(5, qvar one), (6, Zdy), (7, qvar 0), (8, qvar one)] 36 true) entA ⟨0, rfl, Nat.zero_le _, by rw [h10, h11]⟩ ?_
  rintro _ _ ⟨k, rfl, hk, rfl⟩
  by_cases hk1 : k < n + 1
  ·have hb2 : decide ((k : Int) ≤ (n : Int)) = true := decide_eq_true oM
   obtain ⟨q, hq⟩ : ∃ q, X[k]? = some q := ⟨_, List.getElem?_eq_getElem oM⟩
   have gq : X.getD k 0 = q := by rw [List.getD_eq_getElem?_getD, hq]; rfl
   have tq := hB q (List.mem_of_getElem? hq)
   have n1 : (X.map encQ)[((k : Nat) : Int).toNat]? = some (encQ q) := Zec hq
   have tc := hC k oM
   have tp := hP k oM
   have c2 : PC Tryz.prog 78 _ _ := (Zb7 (Zad tp) (Zad hone) dC).up
   have c3 : PC Tryz.prog 78 _ _ := (Zb7 (Zad tc) (Zad tq) dC).up
   have c4 : PC Tryz.prog 116 _ _ := (Zdx (Zad (Zbq tp hone dC)) (Zad (Zbq tc tq dC)) dC dC dC).up
   have hs2 := hst k
   rw [gq] at hs2
   rw [← hs2] at c4
   have c5 := lfrac_p (n := (n : Int) - k) (d := (k : Int) + 1) (by unfold Bn; omega) oM (by unfold Bn; omega)
   have tf : Ht (Rat.divInt ((n : Int) - k) ((k : Int) + 1)) 1 := fr_ht (a := (n : Int) - k) (b := (k : Int) + 1) oM oM oM oM
   have c6 : PC Tryz.prog 78 _ _ := (Zb7 (Zad tc) (Zad tf) dC).up
   rw [← hst2 k] at c6
   refine goA ?_
   refine clG c2 ?_
   refine ixG n1 ?_
   refine clA c3 ?_
   refine clG c4 ?_
   refine clA c5 ?_
   refine clG c6 ?_
   exact Zab (k := n + 1 - (k + 1)) (s' := mkS [(0, .v (iV n)), (1, .v (.sl (X.map encQ))), (5, .ptr 5 0), (6, .ptr 6 0), (7, .ptr 7 0), (8, .ptr 8 0), (9, .v (iV ((k : Int) + 1)))] [(5, qvar one), (6, Zdy), (7, qvar (P (k + 1))), (8, qvar (C (k + 1)))] 36 true) oM entA ⟨k + 1, rfl, oM, rfl⟩
  ·obtain rfl : k = n + 1 := oM
   have hb2 : decide (((n + 1 : Nat) : Int) ≤ (n : Int)) = false := decide_eq_false oM
   refine goA ?_
   exact Zae (s' := mkS [(6, .ptr 6 0), (7, .ptr 7 0)] [(6, Zdy), (7, qvar (P (n + 1)))] 36 true) entA rfl
 rw [hend]
 refine goA ?_
 exact rfl
theorem bqD_ht {k : Nat} (hk : k < 15) : Ht (bqD k) 2 := (dh_get hk (k := k + 1) oM).2.2.1
set_option maxHeartbeats 4000000 in
theorem rgen_p {k : Nat} (hk : k < 15) (h1 : 1 ≤ k) : PC Tryz.prog 139 [iV k, iV 1] (encQ (bqD k)) := by
 obtain ⟨c0, c1⟩ := q01
 have c2 := rnum_p hk
 have c3 := rkr1_p (n := 1) dC dC
 have c4 := lfrac_p (n := 1) (d := 1) (by unfold Bn; omega) oM (by unfold Bn; omega)
 rw [show Rat.divInt 1 1 = 1 by decide +kernel] at c4
 have c5 := rpoly_p hk
 have tb := bqD_ht hk
 have c6 : PC Tryz.prog 78 _ _ := (Zb7 (Zad ht1) (Zad tb) dC).up
 rw [Rat.one_mul] at c6
 have c7 : PC Tryz.prog 116 _ _ := (Zdx (Zad (ht0 (k := 1) dC)) (Zad tb) dC dC dC).up
 rw [Rat.zero_add] at c7
 have c8 := z_p 1 dC dC
 have c9 := rraised_p (x := 1) (n := k - 1) dC oM
 rw [show ((k - 1 : Nat) : Int) = (k : Int) - 1 by omega, Int.one_pow] at c9
 have ca := rwhole_p (z := 1) (k := 1) dC dC
 rw [show ((1 : Int) : Rat) = 1 from rfl] at ca
 have cb : PC Tryz.prog 78 _ _ := (Zb7 (Zad tb) (Zad ht1) dC).up
 rw [Rat.mul_one] at cb
 generalize dbL k = X at *
 generalize bqD k = B at *
 generalize h1q : (1 : Rat) = one at *
 generalize h0q : (0 : Rat) = zero at *
 have hmx : max (1 : Int) (0 - 1) = 1 := rfl
 refine pb1 Tryz.func139 (Zac.agg Zbg) ?_
 refine goA ?_
 refine clG c2 ?_
 refine clA c0 ?_
 refine runA ?_
 refine Zao ?_
 refine osA ?_
 refine T.seqE (mkS [(0, .v (iV k)), (4, .ptr 4 0), (5, .v (iV 1)), (7, .ptr 7 0)] [(4, Zdy), (7, qvar B)] 46 true) ?_ ?_
 ·refine r1A ?_
  refine T.block ?_
  refine T.loop (fun N s1 => (N = 1 ∧ s1 = mkS [(0, .v (iV k)), (1, .v (iV 1)), (4, .ptr 4 0), (5, .v (iV 1)), (6, .v (.sl (X.map encQ))), (7, .ptr 7 0), (8, .v (iV 1))] [(4, Zdy), (7, qvar zero)] 46 true) ∨ (N = 0 ∧ s1 = mkS [(0, .v (iV k)), (4, .ptr 4 0), (5, .v (iV 1)), (7, .ptr 7 0), (8, .v (iV 2))] [(4, Zdy), (7, qvar B)] 46 true)) 1
   (s' := mkS [(0, .v (iV k)), (1, .v (iV 1)), (4, .ptr 4 0), (5, .v (iV 1)), (6, .v (.sl (X.map encQ))), (7, .ptr 7 0), (8, .v (iV 1))] [(4, Zdy), (7, qvar zero)] 46 true) entA (.inl ⟨rfl, rfl⟩) ?_
  rintro _ _ (⟨rfl, rfl⟩ | ⟨rfl, rfl⟩)
  ·refine goA ?_
   refine clG c3 ?_
   refine clG c1 ?_
   refine clA c4 ?_
   refine clA c5 ?_
   refine clA c6 ?_
   refine clG c7 ?_
   exact Zab (k := 0) (s' := mkS [(0, .v (iV k)), (4, .ptr 4 0), (5, .v (iV 1)), (7, .ptr 7 0), (8, .v (iV 2))] [(4, Zdy), (7, qvar B)] 46 true) oM entA (.inr ⟨rfl, rfl⟩)
  ·refine goA ?_
   exact Zae (s' := mkS [(0, .v (iV k)), (4, .ptr 4 0), (5, .v (iV 1)), (7, .ptr 7 0)] [(4, Zdy), (7, qvar B)] 46 true) entA rfl
 refine goA ?_
 refine clG c8 ?_
 refine clA c9 ?_
 refine clA ca ?_
 refine clG cb ?_
 exact rfl
set_option maxHeartbeats 4000000 in
theorem rsum_p {k n : Nat} (hk : k ≤ 13) (h1 : 1 ≤ n) (hn : n ≤ 60) : PC Tryz.prog 184 [iV k, iV 1, iV 1, iV n] (encI ((sgm k n n : Nat) : Int)) := by
 have c0 := z_p 0 dC dC
 refine pb1 Tryz.func184 (Zac.agg (l := ci ((sgm k n n : Nat) : Int)) Zbj) ?_
 refine goA ?_
 refine clA c0 ?_
 refine runA ?_
 refine Zao ?_
 refine osA ?_
 refine T.seqE (mkS [(8, .ptr 8 0), (9, .ptr 9 0)] [(8, ivar0), (9, ivar ((sgm k n n : Nat) : Int))] 39 true) ?_ ?_
 ·refine r1A ?_
  refine T.block ?_
  refine T.loop (fun N s1 => ∃ j : Nat, N = n - j ∧ j ≤ n ∧ s1 = mkS [(0, .v (iV k)), (1, .v (iV 1)), (2, .v (iV 1)), (3, .v (iV n)), (8, .ptr 8 0), (9, .ptr 9 0), (10, .v (iV ((j : Int) + 1)))] [(8, ivar0), (9, ivar ((sgm k n j : Nat) : Int))] 39 true) n
   (s' := mkS [(0, .v (iV k)), (1, .v (iV 1)), (2, .v (iV 1)), (3, .v (iV n)), (8, .ptr 8 0), (9, .ptr 9 0), (10, .v (iV 1))] [(8, ivar0), (9, ivar ((sgm k n 0 : Nat) : Int))] 39 true) entA ⟨0, rfl, Nat.zero_le _, rfl⟩ ?_
  rintro _ _ ⟨j, rfl, hj, rfl⟩
  by_cases hlt : j < n
  ·have hb : decide ((j : Int) + 1 ≤ (n : Int)) = true := decide_eq_true oM
   have em : (n : Int).tmod ((j : Int) + 1) = ((n % (j + 1) : Nat) : Int) := rfl
   by_cases hd : n % (j + 1) = 0
   ·have hb2 : (((n % (j + 1) : Nat) : Int) == 0) = true := by rw [hd]; rfl
    have eq : (n : Int).tdiv ((j : Int) + 1) = ((n / (j + 1) : Nat) : Int) := rfl
    have hq1 : 1 ≤ n / (j + 1) := by
     have := Nat.div_pos (show j + 1 ≤ n by omega) oM
     omega
    have hq2 : n / (j + 1) ≤ n := Nat.div_le_self _ _
    have c1 := rkr1_p (n := n / (j + 1)) oM hq1
    have c2 := rkr1_p (n := j + 1) oM oM
    have c3 := z_p 1 dC dC
    have c4 := z_p ((j : Int) + 1) oM oM
    have c5 := rraised_p (x := (j : Int) + 1) (n := k) oM oM
    have hp := pow_le15 (x := (j : Int) + 1) oM (e := k) oM
    have c6 : PC Tryz.prog 115 _ _ := (Zdo (Zar (z := 1) (k := 1) dC) (Zar hp) dC dC).up
    rw [Int.one_mul] at c6
    have hs1 : ((sgm k n j : Nat) : Int).natAbs < pw 3 := sgm_lt hk hn oM
    have e1 : ((sgm k n (j + 1) : Nat) : Int) = ((sgm k n j : Nat) : Int) + ((j : Int) + 1) ^ k := by
     rw [sgm, if_pos hd, Int.natCast_add, Int.natCast_pow]
     rfl
    have c7 : PC Tryz.prog 146 _ _ := (refadd_p (Zar hs1) (Zar hp) dC).up
    rw [← e1] at c7
    rw [show ((j + 1 : Nat) : Int) = (j : Int) + 1 by omega] at c2
    have hq3 : -9223372036854775808 ≤ ((n / (j + 1) : Nat) : Int) ∧ ((n / (j + 1) : Nat) : Int) ≤ 9223372036854775807 := oM
    generalize n / (j + 1) = Q at *
    refine goA ?_
    refine remA ?_
    rw [em]
    refine goA ?_
    refine evG ggA (Zbx (Zaa rfl) rfl rfl oM (show IntKind.i64.wrap ((n : Int).tdiv ((j : Int) + 1)) = ((Q : Nat) : Int) by rw [eq]; exact w64 hq3.1 hq3.2)) ?_
    refine goA ?_
    refine clG c1 ?_
    refine clG c2 ?_
    refine clG c3 ?_
    refine clG c4 ?_
    refine clA c5 ?_
    refine clA c6 ?_
    refine clG c7 ?_
    exact Zab (k := n - (j + 1)) (s' := mkS [(0, .v (iV k)), (1, .v (iV 1)), (2, .v (iV 1)), (3, .v (iV n)), (8, .ptr 8 0), (9, .ptr 9 0), (10, .v (iV ((j : Int) + 1 + 1)))] [(8, ivar0), (9, ivar ((sgm k n (j + 1) : Nat) : Int))] 39 true) oM entA ⟨j + 1, rfl, oM, rfl⟩
   ·have hb2 : (((n % (j + 1) : Nat) : Int) == 0) = false := by
     rw [beq_eq_false_iff_ne]
     omega
    have e1 : sgm k n (j + 1) = sgm k n j := by rw [sgm, if_neg hd]
    refine goA ?_
    refine remA ?_
    rw [em]
    refine goA ?_
    exact Zab (k := n - (j + 1)) (s' := mkS [(0, .v (iV k)), (1, .v (iV 1)), (2, .v (iV 1)), (3, .v (iV n)), (8, .ptr 8 0), (9, .ptr 9 0), (10, .v (iV ((j : Int) + 1 + 1)))] [(8, ivar0), (9, ivar ((sgm k n j : Nat) : Int))] 39 true) oM entA ⟨j + 1, rfl, oM, by rw [e1]; rfl⟩
  ·obtain rfl : j = n := oM
   have hb : decide ((j : Int) + 1 ≤ (j : Int)) = false := decide_eq_false oM
   refine goA ?_
   exact Zae (s' := mkS [(8, .ptr 8 0), (9, .ptr 9 0)] [(8, ivar0), (9, ivar ((sgm k j j : Nat) : Int))] 39 true) entA rfl
 refine goA ?_
 exact rfl
theorem cl0_eq {k : Nat} (h : wOK k = true) : Rat.divInt (-1) (2 * (k : Int)) * bqD k = clV k 0 := by
 unfold wOK at h
 have hm : k ∈ [2, 4, 6, 8, 10, 14] := by simpa using h
 have : ∀ k : Nat, k ∈ [2, 4, 6, 8, 10, 14] → Rat.divInt (-1) (2 * (k : Int)) * bqD k = clV k 0 := by decide +kernel
 exact this k hm
set_option maxHeartbeats 4000000 in
theorem rplain_p {k p : Nat} (hk : wOK k = true) (hp : p ≤ 40) : PC Tryz.prog 161 [iV k, iV 1, iV 1, iV p] (serA 0 ((clL k p).map encQ)) := by
 obtain ⟨k1, k2, k3⟩ := wOK_lt hk
 have c1 := rgen_p k1 oM
 have c2 := lfrac_p (n := -1) (d := 2 * (k : Int)) (by unfold Bn; omega) oM (by unfold Bn; omega)
 have tf : Ht (Rat.divInt (-1) (2 * (k : Int))) 1 := fr_ht (a := -1) (b := 2 * (k : Int)) oM oM oM oM
 have c3 : PC Tryz.prog 78 _ _ := (Zb7 (Zad tf) (Zad (bqD_ht k1)) dC).up
 rw [cl0_eq hk] at c3
 have cr := Zey (s := 0) (es := (clL k p).map encQ) (l := clL k p) (K := 4) (Zbb (cl_ht hk hp)) dC dC dC (by simp [clL]; omega)
 rw [show nrm 0 (clL k p) = some (0, clL k p) from nrm_tk (clV_ne hk) dC oM] at cr
 have cr : PC Tryz.prog 141 [iV 0, .sl ((clL k p).map encQ)] (.tup [serA 0 ((clL k p).map encQ), iV 0]) := cr
 refine pb1 Tryz.func161 (Zac.agg Zaj) ?_
 refine r1A ?_
 refine r1A ?_
 refine T.seqE (mkS [(8, .ptr 8 0), (9, .v (.sl ((clL k p).map encQ)))] [(8, var0)] 52 true) ?_ ?_
 ·refine r1A ?_
  refine T.block ?_
  refine T.loop (fun N s1 => ∃ j : Nat, N = p - j ∧ j ≤ p ∧ s1 = mkS [(0, .v (iV k)), (1, .v (iV 1)), (2, .v (iV 1)), (3, .v (iV p)), (8, .ptr 8 0), (9, .own 100 j), (10, .v (iV j))] [(8, var0), (100, .lst 4 39 ((clL k j).map encQ))] 52 true) p
   (s' := mkS [(0, .v (iV k)), (1, .v (iV 1)), (2, .v (iV 1)), (3, .v (iV p)), (8, .ptr 8 0), (9, .own 100 0), (10, .v (iV (0 : Nat)))] [(8, var0), (100, .lst 4 39 [])] 52 true) entA ⟨0, rfl, Nat.zero_le _, rfl⟩ ?_
  rintro _ _ ⟨j, rfl, hj, rfl⟩
  have hlen : (clL k j).length = j := tk_len _ _
  have hstep : clL k (j + 1) = clL k j ++ [clV k j] := Zdu _ _
  by_cases hlt : j < p
  ·have hb : decide ((j : Int) < (p : Int)) = true := decide_eq_true oM
   by_cases hj0 : j = 0
   ·subst hj0
    have hb2 : decide (((0 : Nat) : Int) > 0) = false := rfl
    have hb3 : ((1 : Int) == 1) = true := rfl
    refine goA ?_
    refine clG c2 ?_
    refine clA c1 ?_
    refine clA c3 ?_
    refine appA ?_
    refine goA ?_
    exact Zab (k := p - (0 + 1)) (s' := mkS [(0, .v (iV k)), (1, .v (iV 1)), (2, .v (iV 1)), (3, .v (iV p)), (8, .ptr 8 0), (9, .own 100 (0 + 1)), (10, .v (iV (((0 : Nat) : Int) + 1)))] [(8, var0), (100, .lst 4 39 ((clL k 0 ++ [clV k 0]).map encQ))] 52 true) oM entA ⟨0 + 1, rfl, oM, by rw [hstep]; rfl⟩
   ·have hb2 : decide ((j : Int) > 0) = true := decide_eq_true oM
    have c4 := rsum_p (k := k - 1) (n := j) oM oM oM
    rw [show ((k - 1 : Nat) : Int) = (k : Int) - 1 by omega] at c4
    have c5 := rwhole_p (sgm_lt (k := k - 1) (n := j) (j := j) oM oM (Nat.le_refl _)) dC
    have e5 : (((sgm (k - 1) j j : Nat) : Int) : Rat) = clV k j := by unfold clV; rw [if_neg hj0]
    rw [e5] at c5
    refine goA ?_
    refine clA c4 ?_
    refine clA c5 ?_
    refine appA ?_
    refine goA ?_
    exact Zab (k := p - (j + 1)) (s' := mkS [(0, .v (iV k)), (1, .v (iV 1)), (2, .v (iV 1)), (3, .v (iV p)), (8, .ptr 8 0), (9, .own 100 (j + 1)), (10, .v (iV ((j : Int) + 1)))] [(8, var0), (100, .lst 4 39 ((clL k j ++ [clV k j]).map encQ))] 52 true) oM entA ⟨j + 1, rfl, oM, by rw [hstep]; rfl⟩
  ·obtain rfl : j = p := oM
   have hb : decide ((j : Int) < (j : Int)) = false := decide_eq_false oM
   have hl2 : ((clL k j).map encQ).length = j := by rw [List.length_map, hlen]
   refine goA ?_
   exact Zae (s' := mkS [(8, .ptr 8 0), (9, .v (.sl ((clL k j).map encQ)))] [(8, var0)] 52 true) entA rfl
 refine goA ?_
 refine clG cr ?_
 exact rfl
theorem rclassical_p {k p : Nat} (hk : wOK k = true) (hp : p ≤ 40) : PC Tryz.prog 138 [iV k, iV p] (.tup [serA 0 ((clL k p).map encQ), iV 0]) := by
 obtain ⟨k1, k2, k3⟩ := wOK_lt hk
 have c1 := rplain_p hk hp
 have b1 : decide ((k : Int) < 2) = false := decide_eq_false oM
 have b2 : decide ((k : Int) > 40) = false := decide_eq_false oM
 have em : (k : Int).tmod 2 = ((k % 2 : Nat) : Int) := rfl
 have b3 : (((k % 2 : Nat) : Int) == 1) = false := by rw [k3]; rfl
 have b4 : decide ((p : Int) < 0) = false := decide_eq_false oM
 have b5 : decide ((p : Int) > 1000) = false := decide_eq_false oM
 refine pb2 Tryz.func138 (Zac.agg Zaj) Zac.tmp ?_
 refine goA ?_
 refine remA ?_
 rw [em]
 refine goA ?_
 refine clG c1 ?_
 exact rfl
theorem rnorm34_p {k p : Nat} (hk : wOK k = true) (hp : p ≤ 40) : PC Tryz.prog 106 [iV k, iV p] (.tup [serA 0 ((eiL k p).map encQ), iV 0]) := by
 obtain ⟨k1, k2, k3⟩ := wOK_lt hk
 have c1 := rclassical_p hk hp
 have b1 : ((0 : Int) != 0) = false := rfl
 have c2 := q_p (-2 * (k : Int)) oM oM
 have c3 := rgen_p k1 oM
 have hbq : bqD k = bqP k := bq_eq k k1 k2
 have hb0 := bq_ne k k1 k3
 rw [hbq] at c3
 have c4 : PC Tryz.prog 77 _ _ := (refquo2_p (Zad (Zcq (c := -2 * (k : Int)) oM)) (Zad (bq_ht k1)) dC dC dC hb0).up
 have tc : Ht (((-2 * (k : Int) : Int) : Rat) / bqP k) 3 := ht_dv (k := 1) (l := 2) (q := ((-2 * (k : Int) : Int) : Rat)) (r := bqP k) (Zcq (c := -2 * (k : Int)) oM) (bq_ht k1) dC dC
 have hne := clV_ne hk
 have hcne : ((-2 * (k : Int) : Int) : Rat) / bqP k ≠ 0 := by rw [← cl_inv hk]; exact inv_ne hne
 have c5 := rscale_p (c := ((-2 * (k : Int) : Int) : Rat) / bqP k) (s := 0) (es := (clL k p).map encQ) (l := clL k p) (k := 3) (K := 4) (Zad tc) (fun _ => Zbb (cl_ht hk hp)) (by simp) ⟨dC, dC, by simp [clL]; omega⟩ dC dC dC
 have e4 : sclR (((-2 * (k : Int) : Int) : Rat) / bqP k) 0 (clL k p) = some (0, eiL k p) := by
  have h := sclR_tk (s := 0) (f := clV k) (n := p) hcne hne dC oM
  unfold clL
  rw [h]
  rfl
 rw [e4] at c5
 have c5 : PC Tryz.prog 140 [encQ (((-2 * (k : Int) : Int) : Rat) / bqP k), serA 0 ((clL k p).map encQ)] (.tup [serA 0 ((eiL k p).map encQ), iV 0]) := c5
 generalize ((-2 * (k : Int) : Int) : Rat) / bqP k = x at *
 generalize clL k p = L at *
 refine pb2 Tryz.func106 (Zac.agg Zaj) Zac.tmp ?_
 refine goA ?_
 refine clG c1 ?_
 refine clG c2 ?_
 refine clA c3 ?_
 refine clG c4 ?_
 refine clG c5 ?_
 exact rfl
end Ab
