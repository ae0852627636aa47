/- Bernoulli numbers and polynomials of the program, walked. -/
import Derived.Test.YtalcdpjpapojeaaGreatDoorLa
import Derived.Test.YtalcdpjpapojeaaGreatDoorSHK
set_option linter.all false
namespace Ab
open Go Go.RowKit Go.Proofs Hp
set_option maxRecDepth 100000
theorem iadd_p {a b : AV} {p q : Int} {k l : Nat} (ha : IsI a k p) (hk : k ≤ 8796093022208) (hb : IsI b l q) (hl : l ≤ 8796093022208) : PC Tryz.prog 127 [a, b] (encI (p + q)) := by
 refine ⟨Zdg Tryz.func127 rfl rfl, fun w M hM vs hvs => ?_⟩
 obtain ⟨v, u, rfl, hv, hu⟩ := reps2 hvs
 refine (iadd_c (Zei ha hv) (Zei hb hu) hk hl).mono ?_
 rintro e w' ⟨v, rfl, hb, hr⟩
 exact ⟨v, rfl, hb, Zgp hr (Zbz hM hb)⟩
theorem iexact_p {a b : AV} {p q : Int} {k l : Nat} (ha : IsI a k p) (hk : k ≤ 8796093022208) (hb : IsI b l q) (hl : l ≤ 8796093022208) (h0 : q ≠ 0) (hd : p % q = 0) : PC Tryz.prog 131 [a, b] (.tup [encI (p / q), .p (.int .i64 0)]) := by
 refine ⟨Zdg Tryz.func131 rfl rfl, fun w M hM vs hvs => ?_⟩
 obtain ⟨v, u, rfl, hv, hu⟩ := reps2 hvs
 refine (exact_c (Zei ha hv) (Zei hb hu) hk hl h0 hd).mono ?_
 rintro e w' ⟨v, rfl, hb, uq, rfl, hr⟩
 refine ⟨_, rfl, hb, .tup _ _ rfl (fun i c v hi hv => ?_)⟩
 have hq := Zgp hr (Zbz hM hb)
 rcases i with _ | _ | i
 ·simp at hi hv; subst hi hv; exact hq
 ·simp at hi hv; subst hi hv; exact .p _ rfl
 ·simp at hi
theorem encI_nu (z : Int) : (encI z).cells.all AV.nu = true := rfl
def bnI (n m : Nat) : List Int := (List.range m).map (bnm n)
theorem bnI_succ (n m : Nat) : bnI n (m + 1) = bnI n m ++ [bnm n m] := by simp [bnI, List.range_succ]
theorem bnI_len (n m : Nat) : (bnI n m).length = m := by simp [bnI]
theorem bnI_at {n m k : Nat} (h : k < m) : ((bnI n m).map encI)[k]? = some (encI (bnm n k)) := by
 rw [List.getElem?_map]
 unfold bnI
 rw [List.getElem?_map, List.getElem?_range h]
 rfl
set_option maxHeartbeats 4000000 in
theorem brow_p {n : Nat} (hn : n < 16) : PC Tryz.prog 217 [iV n] (.sl ((bnI n (n + 1)).map encI)) := by
 have c1 := iof_p 1 dC dC
 have e1 : pw 1 = 4294967296 := dC
 have e2 : pw 1 ≤ pw 2 := dC
 refine pb1 Tryz.func217 Zac.tmp ?_
 refine goA ?_
 refine clA c1 ?_
 refine evG ggA (Zb8 31 (Zaa rfl) rfl (Zaf rfl) rfl rfl rfl rfl (Zee rfl) (Nat.le_of_ble_eq_true rfl) dC (fun _ a ha => by rw [List.mem_singleton] at ha; subst ha; exact List.all_eq_true.1 (encI_nu 1))) ?_
 refine runA ?_
 refine Zao ?_
 refine osA ?_
 refine T.seqE (mkS [(3, .own 31 (n + 1))] [(31, .lst 2 37 ((bnI n (n + 1)).map encI))] 36 true) ?_ ?_
 ·refine r1A ?_
  refine T.block ?_
  refine T.loop (fun N s1 => ∃ j : Nat, N = n - j ∧ j ≤ n ∧ s1 = mkS [(0, .v (iV n)), (3, .own 31 (j + 1)), (4, .v (iV ((j : Int) + 1)))] [(31, .lst 2 37 ((bnI n (j + 1)).map encI))] 36 true) n
   (s' := mkS [(0, .v (iV n)), (3, .own 31 1), (4, .v (iV 1))] [(31, .lst 2 37 [encI 1])] 36 true) entA ⟨0, rfl, Nat.zero_le _, rfl⟩ ?_
  rintro _ _ ⟨j, rfl, hj, rfl⟩
  by_cases hlt : j < n
  ·have hb : decide ((j : Int) + 1 ≤ (n : Int)) = true := decide_eq_true oM
   obtain ⟨hd, hs⟩ := bn_get hn (k := j) oM
   have n1 : ((bnI n (j + 1)).map encI)[((j : Int) + 1 - 1).toNat]? = some (encI (bnm n j)) := by rw [show ((j : Int) + 1 - 1).toNat = j by omega]; exact bnI_at oM
   have n0 : ((bnI n (j + 1)).map encI).length = j + 1 := by rw [List.length_map, bnI_len]
   have c2 := iof_p ((n : Int) + 1 - ((j : Int) + 1)) oM oM
   have c3 := imul_p (Zar hs) dC (Zar (z := (n : Int) + 1 - ((j : Int) + 1)) (k := 1) (by rw [e1]; omega)) dC
   have c4 := iof_p ((j : Int) + 1) oM oM
   have hm : (bnm n j * ((n : Int) + 1 - ((j : Int) + 1))).natAbs < pw 2 := by
    rw [Int.natAbs_mul]
    have h1 : (bnm n j).natAbs * ((n : Int) + 1 - ((j : Int) + 1)).natAbs ≤ (bnm n j).natAbs * 16 := Nat.mul_le_mul_left _ oM
    have e3 : pw 2 = 18446744073709551616 := dC
    rw [e3]
    omega
   have c5 := iexact_p (Zar hm) dC (Zar (z := (j : Int) + 1) (k := 1) (by rw [e1]; omega)) dC oM (by rw [show (n : Int) + 1 - ((j : Int) + 1) = (n : Int) - j by omega]; exact hd)
   have eb : bnm n j * ((n : Int) + 1 - ((j : Int) + 1)) / ((j : Int) + 1) = bnm n (j + 1) := by rw [show (n : Int) + 1 - ((j : Int) + 1) = (n : Int) - j by omega]; rfl
   rw [eb] at c5
   have hsn : (bnI n (j + 1)).map encI ++ [encI (bnm n (j + 1))] = (bnI n (j + 1 + 1)).map encI := by rw [bnI_succ n (j + 1), List.map_append]; rfl
   refine goA ?_
   refine evG ggA (Zah (Zaa rfl) (Zag rfl) rfl rfl n0 rfl oM oM) ?_
   refine evG ggA (Zan (Zaa rfl) (Zbc rfl) rfl rfl n0 n1) ?_
   refine goA ?_
   refine clA c2 ?_
   refine clG c3 ?_
   refine clA c4 ?_
   refine clG c5 ?_
   refine evG ggA (Zaw (Zaa rfl) (Zaf rfl) rfl rfl rfl rfl (Zee rfl) (Nat.le_of_ble_eq_true rfl)) ?_
   refine evG ggA (Zct (a := encI (bnm n (j + 1))) (Zaa rfl) (Zaf rfl) rfl rfl n0 rfl rfl dC rfl oM (Nat.le_of_ble_eq_true rfl) rfl) ?_
   rw [hsn]
   refine goA ?_
   exact Zab (k := n - (j + 1)) (s' := mkS [(0, .v (iV n)), (3, .own 31 (j + 1 + 1)), (4, .v (iV ((j : Int) + 1 + 1)))] [(31, .lst 2 37 ((bnI n (j + 1 + 1)).map encI))] 36 true) oM entA ⟨j + 1, rfl, oM, rfl⟩
  ·obtain rfl : j = n := oM
   have hb : decide ((j : Int) + 1 ≤ (j : Int)) = false := decide_eq_false oM
   refine goA ?_
   exact Zae (s' := mkS [(3, .own 31 (j + 1))] [(31, .lst 2 37 ((bnI j (j + 1)).map encI))] 36 true) entA rfl
 have hl : ((bnI n (n + 1)).map encI).length = n + 1 := by rw [List.length_map, bnI_len]
 refine T.weak (s' := mkS [(3, .v (.sl ((bnI n (n + 1)).map encI)))] [] 36 true) entA ?_
 refine goA ?_
 exact rfl
theorem ht_bnR {n k : Nat} (hn : n < 16) (hk : k < 17) : Ht (bnR n k) 1 := by
 have := (bn_get hn hk).2
 have e1 : pw 1 = 4294967296 := dC
 rw [e1] at this
 exact Zcq oM
set_option maxHeartbeats 8000000 in
theorem bnum_p {n : Nat} (hn : n < 15) : PC Tryz.prog 216 [iV n] (.sl ((bnL n).map encQ)) := by
 have c1 := Zdh 1 dC dC
 rw [show ((1 : Int) : Rat) = 1 from rfl] at c1
 have c0 := Zdh 0 dC dC
 rw [show ((0 : Int) : Rat) = 0 from rfl] at c0
 refine pb1 Tryz.func216 Zac.tmp ?_
 refine goA ?_
 refine clA c1 ?_
 refine evG ggA (Zb8 31 (Zaa rfl) rfl (Zaf rfl) rfl rfl rfl rfl (Zee rfl) (Nat.le_of_ble_eq_true rfl) dC (fun _ a ha => by rw [List.mem_singleton] at ha; subst ha; exact Ze3 1)) ?_
 refine runA ?_
 refine Zao ?_
 refine osA ?_
 refine T.seqE (mkS [(3, .own 31 (n + 1))] [(31, .lst 4 39 ((bnL n).map encQ))] 53 true) ?_ ?_
 ·refine r1A ?_
  refine T.block ?_
  refine T.loop (fun N s1 => ∃ j : Nat, N = n - j ∧ j ≤ n ∧ s1 = mkS [(0, .v (iV n)), (3, .own 31 (j + 1)), (4, .v (iV ((j : Int) + 1)))] [(31, .lst 4 39 ((bnL j).map encQ))] 53 true) n
   (s' := mkS [(0, .v (iV n)), (3, .own 31 1), (4, .v (iV 1))] [(31, .lst 4 39 ([(1 : Rat)].map encQ))] 53 true) entA ⟨0, rfl, Nat.zero_le _, rfl⟩ ?_
  rintro _ _ ⟨j, rfl, hj, rfl⟩
  by_cases hlt : j < n
  ·have hb : decide ((j : Int) + 1 ≤ (n : Int)) = true := decide_eq_true oM
   have cr := brow_p (n := j + 1 + 1) oM
   rw [show ((j + 1 + 1 : Nat) : Int) = (j : Int) + 1 + 1 by omega] at cr
   have n0 : ((bnL j).map encQ).length = j + 1 := by rw [List.length_map, bnL_len]
   have hlb := bnL_len j
   have hB := (bh_get (m := j) (k := 0) oM oM).2.2.2
   have hS : ∀ k, k ≤ j + 1 → Ht (bsm (j + 2) (bnL j) k) 2 := fun k _ => (bh_get oM oM).1
   have hstep : bnL (j + 1) = bnL j ++ [bsm (j + 2) (bnL j) (j + 1) / ((-((j : Int) + 1) - 1 : Int) : Rat)] := rfl
   refine goA ?_
   refine clG c0 ?_
   refine clA cr ?_
   refine runA ?_
   refine Zao ?_
   refine osA ?_
   refine T.seqE (mkS [(0, .v (iV n)), (3, .own 31 (j + 1)), (4, .v (iV ((j : Int) + 1))), (5, .ptr 5 0)] [(5, qvar (bsm (j + 2) (bnL j) (j + 1))), (31, .lst 4 39 ((bnL j).map encQ))] 53 true) ?_ ?_
   ·refine r1A ?_
    generalize hX : bnL j = X at *
    refine T.block ?_
    refine T.loop (fun N s1 => ∃ k : Nat, N = j + 1 - k ∧ k ≤ j + 1 ∧ s1 = mkS [(0, .v (iV n)), (3, .own 31 (j + 1)), (4, .v (iV ((j : Int) + 1))), (5, .ptr 5 0), (6, .v (.sl ((bnI (j + 1 + 1) (j + 1 + 1 + 1)).map encI))), (22, .own 31 (j + 1)), (23, .v (iV ((j + 1 : Nat) : Int))), (24, .v (iV k))] [(5, qvar (bsm (j + 2) X k)), (31, .lst 4 39 (X.map encQ))] 53 true) (j + 1)
     (s' := mkS [(0, .v (iV n)), (3, .own 31 (j + 1)), (4, .v (iV ((j : Int) + 1))), (5, .ptr 5 0), (6, .v (.sl ((bnI (j + 1 + 1) (j + 1 + 1 + 1)).map encI))), (22, .own 31 (j + 1)), (23, .v (iV ((j + 1 : Nat) : Int))), (24, .v (iV (0 : Nat)))] [(5, qvar (bsm (j + 2) X 0)), (31, .lst 4 39 (X.map encQ))] 53 true) entA ⟨0, rfl, Nat.zero_le _, rfl⟩ ?_
    rintro _ _ ⟨k, rfl, hk, rfl⟩
    by_cases hk1 : k < j + 1
    ·have hb2 : decide ((k : Int) < ((j + 1 : Nat) : Int)) = true := decide_eq_true oM
     obtain ⟨q, hq⟩ : ∃ q, X[k]? = some q := ⟨_, List.getElem?_eq_getElem oM⟩
     have gq : X.getD k 0 = q := by rw [List.getD_eq_getElem?_getD, hq]; rfl
     have tq := hB q (List.mem_of_getElem? hq)
     have n1 : (X.map encQ)[((k : Nat) : Int).toNat]? = some (encQ q) := Zec hq
     have n2 : ((bnI (j + 1 + 1) (j + 1 + 1 + 1)).map encI)[((k : Nat) : Int).toNat]? = some (encI (bnm (j + 1 + 1) k)) := bnI_at oM
     have hbn := (bn_get (n := j + 1 + 1) (k := k) oM oM).2
     have c2 := whole_p hbn dC
     have tb : Ht (bnR (j + 1 + 1) k) 1 := ht_bnR oM oM
     have c3 : PC Tryz.prog 92 [encQ ((bnm (j + 1 + 1) k : Int) : Rat), encQ q] _ := Zdw (Zad tb) dC (Zad tq) dC
     have c4 := radd_p (Zad (hS k oM)) dC (Zad (Zbq tb tq dC)) dC
     have hs2 : bsm (j + 2) X (k + 1) = bsm (j + 2) X k + bnR (j + 1 + 1) k * q := by show _ + bnR (j + 2) k * X.getD k 0 = _; rw [gq]
     rw [← hs2] at c4
     refine goA ?_
     refine evG ggA (Zah (Zaa rfl) (Zag rfl) rfl rfl n0 rfl oM oM) ?_
     refine evG ggA (Zan (Zaa rfl) (Zbc rfl) rfl rfl n0 n1) ?_
     refine goA ?_
     refine ixG n2 ?_
     refine clG c2 ?_
     refine clA c3 ?_
     refine clG c4 ?_
     exact Zab (k := j + 1 - (k + 1)) (s' := mkS [(0, .v (iV n)), (3, .own 31 (j + 1)), (4, .v (iV ((j : Int) + 1))), (5, .ptr 5 0), (6, .v (.sl ((bnI (j + 1 + 1) (j + 1 + 1 + 1)).map encI))), (22, .own 31 (j + 1)), (23, .v (iV ((j + 1 : Nat) : Int))), (24, .v (iV ((k : Int) + 1)))] [(5, qvar (bsm (j + 2) X (k + 1))), (31, .lst 4 39 (X.map encQ))] 53 true) oM entA ⟨k + 1, rfl, oM, rfl⟩
    ·obtain rfl : k = j + 1 := oM
     have hb2 : decide (((j + 1 : Nat) : Int) < ((j + 1 : Nat) : Int)) = false := decide_eq_false oM
     refine goA ?_
     exact Zae (s' := mkS [(0, .v (iV n)), (3, .own 31 (j + 1)), (4, .v (iV ((j : Int) + 1))), (5, .ptr 5 0)] [(5, qvar (bsm (j + 2) X (j + 1))), (31, .lst 4 39 (X.map encQ))] 53 true) entA rfl
   generalize hX : bnL j = X at *
   have c5 := Zdh (-((j : Int) + 1) - 1) oM oM
   have t5 : Ht ((-((j : Int) + 1) - 1 : Int) : Rat) 1 := Zcq oM
   have hne : ((-((j : Int) + 1) - 1 : Int) : Rat) ≠ 0 := fun e => by
    have : -((j : Int) + 1) - 1 = 0 := by exact_mod_cast e
    omega
   have c6 := rquo_p (Zad (hS (j + 1) oM)) dC (Zad t5) dC hne
   generalize hx : bsm (j + 2) X (j + 1) / ((-((j : Int) + 1) - 1 : Int) : Rat) = x at *
   refine goA ?_
   refine clA c5 ?_
   refine clG c6 ?_
   refine appA ?_
   refine goA ?_
   exact Zab (k := n - (j + 1)) (s' := mkS [(0, .v (iV n)), (3, .own 31 (j + 1 + 1)), (4, .v (iV ((j : Int) + 1 + 1)))] [(31, .lst 4 39 ((X ++ [x]).map encQ))] 53 true) oM entA ⟨j + 1, rfl, oM, by rw [hstep]; rfl⟩
  ·obtain rfl : j = n := oM
   have hb : decide ((j : Int) + 1 ≤ (j : Int)) = false := decide_eq_false oM
   refine goA ?_
   exact Zae (s' := mkS [(3, .own 31 (j + 1))] [(31, .lst 4 39 ((bnL j).map encQ))] 53 true) entA rfl
 have hl : ((bnL n).map encQ).length = n + 1 := by rw [List.length_map, bnL_len]
 refine T.weak (s' := mkS [(3, .v (.sl ((bnL n).map encQ)))] [] 53 true) entA ?_
 refine goA ?_
 exact rfl
abbrev ivar (z : Int) : Blk := .var [.v (.p (.bool (decide (z < 0)))), .v (.sl ((dgs z.natAbs).map u32))]
abbrev ivar0 : Blk := .var [.v (.p (.bool false)), .v (.p nilV)]
theorem eterm_p {d e : Nat} (h0 : d ≠ 0) (hd : d ≤ 1000) (he : e ≤ 59) : PC Tryz.prog 172 [iV d, iV e] (encI ((d ^ e : Nat) : Int)) := by
 have c1 := iof_p d oM oM
 have c2 := ipow_p h0 hd he
 refine pb1 Tryz.func172 (Zac.agg (l := ci ((d ^ e : Nat) : Int)) Zbj) ?_
 refine goA ?_
 refine clG c1 ?_
 refine clG c2 ?_
 exact rfl
theorem sgm_lt2 {k n j : Nat} (hk : k ≤ 13) (hn : n ≤ 60 ∨ (k = 1 ∧ n ≤ 1000)) (hj : j ≤ n) : (((sgm k n j : Nat) : Int)).natAbs < pw 3 := by
 rcases hn with hn | ⟨rfl, hn⟩
 ·exact sgm_lt hk hn hj
 ·have h1 := sgm_le 1 n j hj
  rw [Nat.pow_one] at h1
  have h4 : j * n ≤ 1000 * 1000 := Nat.mul_le_mul oM hn
  have e3 : pw 3 = 79228162514264337593543950336 := dC
  rw [e3]
  omega
theorem ei_htG {k n : Nat} (h : wOK k = true) (hn : n < 40 ∨ (k = 2 ∧ n < 1000)) : Ht (eiV k n) 4 ∧ Ht (clV k n) 4 := by
 rcases hn with hn | ⟨rfl, hn⟩
 ·exact ei_ht h hn
 rcases Nat.eq_zero_or_pos n with rfl | h0
 ·exact ei_ht h dC
 have hc : Ht (clV 2 n) 1 := by
  unfold clV
  rw [if_neg oM]
  refine Zcq ?_
  have := sgm_le 1 n n (Nat.le_refl _)
  rw [Nat.pow_one] at this
  have h4 : n * n ≤ 1000 * 1000 := Nat.mul_le_mul oM oM
  show ((sgm 1 n n : Nat) : Int).natAbs < _
  omega
 refine ⟨?_, hc.mono dC⟩
 unfold eiV
 exact (Zbq (k := 3) (l := 1) (Zf2 (by decide +kernel)) hc dC).mono dC
set_option maxHeartbeats 4000000 in
theorem esum_p {k n : Nat} (hk : k ≤ 13) (h1 : 1 ≤ n) (hn : n ≤ 60 ∨ (k = 1 ∧ n ≤ 1000)) : PC Tryz.prog 149 [iV k, iV 1, iV 1, iV n] (encI ((sgm k n n : Nat) : Int)) := by
 have c0 := iof_p 0 dC dC
 refine pb1 Tryz.func149 (Zac.agg (l := ci ((sgm k n n : Nat) : Int)) Zbj) ?_
 refine goA ?_
 refine clA c0 ?_
 refine runA ?_
 refine Zao ?_
 refine osA ?_
 refine T.seqE (mkS [(8, .ptr 8 0), (9, .ptr 9 0)] [(8, ivar0), (9, ivar ((sgm k n n : Nat) : Int))] 45 true) ?_ ?_
 ·refine r1A ?_
  refine T.block ?_
  refine T.loop (fun N s1 => ∃ j : Nat, N = n - j ∧ j ≤ n ∧ s1 = mkS [(0, .v (iV k)), (1, .v (iV 1)), (2, .v (iV 1)), (3, .v (iV n)), (8, .ptr 8 0), (9, .ptr 9 0), (10, .v (iV ((j : Int) + 1)))] [(8, ivar0), (9, ivar ((sgm k n j : Nat) : Int))] 45 true) n
   (s' := mkS [(0, .v (iV k)), (1, .v (iV 1)), (2, .v (iV 1)), (3, .v (iV n)), (8, .ptr 8 0), (9, .ptr 9 0), (10, .v (iV 1))] [(8, ivar0), (9, ivar ((sgm k n 0 : Nat) : Int))] 45 true) entA ⟨0, rfl, Nat.zero_le _, rfl⟩ ?_
  rintro _ _ ⟨j, rfl, hj, rfl⟩
  by_cases hlt : j < n
  ·have hb : decide ((j : Int) + 1 ≤ (n : Int)) = true := decide_eq_true oM
   have em : (n : Int).tmod ((j : Int) + 1) = ((n % (j + 1) : Nat) : Int) := rfl
   by_cases hd : n % (j + 1) = 0
   ·have hb2 : (((n % (j + 1) : Nat) : Int) != 0) = false := by rw [hd]; rfl
    have eq : (n : Int).tdiv ((j : Int) + 1) = ((n / (j + 1) : Nat) : Int) := rfl
    have hq1 : 1 ≤ n / (j + 1) := by
     have := Nat.div_pos (show j + 1 ≤ n by omega) oM
     omega
    have hq2 : n / (j + 1) ≤ n := Nat.div_le_self _ _
    have c1 := kr1_p (n := n / (j + 1)) oM hq1
    have c2 := kr1_p (n := j + 1) oM oM
    have c3 := eterm_p (d := j + 1) (e := k) oM oM oM
    have hs1 : ((sgm k n j : Nat) : Int).natAbs < pw 3 := sgm_lt2 hk hn oM
    have e1 : sgm k n (j + 1) = sgm k n j + (j + 1) ^ k := by rw [sgm, if_pos hd]
    have hs2 : (((j + 1) ^ k : Nat) : Int).natAbs < pw 3 := by
     have := sgm_lt2 hk hn (show j + 1 ≤ n by omega)
     rw [e1] at this
     omega
    have c4 := iadd_p (Zar hs1) dC (Zar hs2) dC
    rw [← Int.natCast_add, ← e1] at c4
    rw [show ((j + 1 : Nat) : Int) = (j : Int) + 1 by omega] at c2 c3
    have hq3 : -9223372036854775808 ≤ ((n / (j + 1) : Nat) : Int) ∧ ((n / (j + 1) : Nat) : Int) ≤ 9223372036854775807 := oM
    generalize n / (j + 1) = Q at *
    refine goA ?_
    refine remA ?_
    rw [em]
    refine goA ?_
    refine evG ggA (Zbx (Zaa rfl) rfl rfl oM (show IntKind.i64.wrap ((n : Int).tdiv ((j : Int) + 1)) = ((Q : Nat) : Int) by rw [eq]; exact w64 hq3.1 hq3.2)) ?_
    refine goA ?_
    refine clG c1 ?_
    refine clG c2 ?_
    refine clA c3 ?_
    refine clG c4 ?_
    exact Zab (k := n - (j + 1)) (s' := mkS [(0, .v (iV k)), (1, .v (iV 1)), (2, .v (iV 1)), (3, .v (iV n)), (8, .ptr 8 0), (9, .ptr 9 0), (10, .v (iV ((j : Int) + 1 + 1)))] [(8, ivar0), (9, ivar ((sgm k n (j + 1) : Nat) : Int))] 45 true) oM entA ⟨j + 1, rfl, oM, rfl⟩
   ·have hb2 : (((n % (j + 1) : Nat) : Int) != 0) = true := by
     rw [bne_iff_ne]
     omega
    have e1 : sgm k n (j + 1) = sgm k n j := by rw [sgm, if_neg hd]
    refine goA ?_
    refine remA ?_
    rw [em]
    refine goA ?_
    exact Zab (k := n - (j + 1)) (s' := mkS [(0, .v (iV k)), (1, .v (iV 1)), (2, .v (iV 1)), (3, .v (iV n)), (8, .ptr 8 0), (9, .ptr 9 0), (10, .v (iV ((j : Int) + 1 + 1)))] [(8, ivar0), (9, ivar ((sgm k n j : Nat) : Int))] 45 true) oM entA ⟨j + 1, rfl, oM, by rw [e1]; rfl⟩
  ·obtain rfl : j = n := oM
   have hb : decide ((j : Int) + 1 ≤ (j : Int)) = false := decide_eq_false oM
   refine goA ?_
   exact Zae (s' := mkS [(8, .ptr 8 0), (9, .ptr 9 0)] [(8, ivar0), (9, ivar ((sgm k j j : Nat) : Int))] 45 true) entA rfl
 refine goA ?_
 exact rfl
def BqOK : Prop := ∀ k : Nat, k < 15 → 2 ≤ k → PC Tryz.prog 150 [iV k, iV 1] (.tup [encQ (bqP k), iV 0])
set_option maxHeartbeats 4000000 in
theorem eclass_p (hB : BqOK) {k p : Nat} (hk : wOK k = true) (hp : p ≤ 40 ∨ (k = 2 ∧ p ≤ 1000)) : PC Tryz.prog 122 [iV k, iV 1, iV 1, iV p] (.sl ((clL k p).map encQ)) := by
 obtain ⟨k1, k2, k3⟩ := wOK_lt hk
 have c0 := Zdh 0 dC dC
 rw [show ((0 : Int) : Rat) = 0 from rfl] at c0
 have c1 := hB k k1 k2
 have c2 := Zdh (-2 * (k : Int)) oM oM
 have hne : ((-2 * (k : Int) : Int) : Rat) ≠ 0 := fun e => by
  have : (-2 * (k : Int)) = 0 := by exact_mod_cast e
  omega
 have c3 := rquo_p (Zad (bq_ht k1)) dC (Zad (Zcq (c := -2 * (k : Int)) oM)) dC hne
 have hx0 : bqP k / ((-2 * (k : Int) : Int) : Rat) = clV k 0 := rfl
 rw [hx0] at c3
 refine pb1 Tryz.func122 Zac.tmp ?_
 refine r1A ?_
 refine r1A ?_
 refine T.seqE (mkS [(9, .v (.sl ((clL k p).map encQ)))] [] 53 true) ?_ ?_
 ·refine r1A ?_
  refine T.block ?_
  refine T.loop (fun N s1 => ∃ j : Nat, N = p - j ∧ j ≤ p ∧ s1 = mkS [(0, .v (iV k)), (1, .v (iV 1)), (2, .v (iV 1)), (9, .own 100 j), (14, .v (iV p)), (15, .v (iV j))] [(100, .lst 4 39 ((clL k j).map encQ))] 53 true) p
   (s' := mkS [(0, .v (iV k)), (1, .v (iV 1)), (2, .v (iV 1)), (9, .own 100 0), (14, .v (iV p)), (15, .v (iV (0 : Nat)))] [(100, .lst 4 39 [])] 53 true) entA ⟨0, rfl, Nat.zero_le _, rfl⟩ ?_
  rintro _ _ ⟨j, rfl, hj, rfl⟩
  have hlen : (clL k j).length = j := tk_len _ _
  have hstep : clL k (j + 1) = clL k j ++ [clV k j] := Zdu _ _
  by_cases hlt : j < p
  ·have hb : decide ((j : Int) < (p : Int)) = true := decide_eq_true oM
   by_cases hj0 : j = 0
   ·subst hj0
    have hb2 : decide (((0 : Nat) : Int) > 0) = false := rfl
    have hb3 : ((1 : Int) == 1) = true := rfl
    refine goA ?_
    refine clG c0 ?_
    refine clG c1 ?_
    refine clA c2 ?_
    refine clG c3 ?_
    refine appA ?_
    refine goA ?_
    exact Zab (k := p - (0 + 1)) (s' := mkS [(0, .v (iV k)), (1, .v (iV 1)), (2, .v (iV 1)), (9, .own 100 (0 + 1)), (14, .v (iV p)), (15, .v (iV (((0 : Nat) : Int) + 1)))] [(100, .lst 4 39 ((clL k 0 ++ [clV k 0]).map encQ))] 53 true) oM entA ⟨0 + 1, rfl, oM, by rw [hstep]; rfl⟩
   ·have hb2 : decide ((j : Int) > 0) = true := decide_eq_true oM
    have c4 := esum_p (k := k - 1) (n := j) oM oM oM
    rw [show ((k - 1 : Nat) : Int) = (k : Int) - 1 by omega] at c4
    have c5 := whole_p (sgm_lt2 (k := k - 1) (n := j) (j := j) oM oM (Nat.le_refl _)) dC
    have e5 : (((sgm (k - 1) j j : Nat) : Int) : Rat) = clV k j := by unfold clV; rw [if_neg hj0]
    rw [e5] at c5
    refine goA ?_
    refine clA c4 ?_
    refine clA c5 ?_
    refine appA ?_
    refine goA ?_
    exact Zab (k := p - (j + 1)) (s' := mkS [(0, .v (iV k)), (1, .v (iV 1)), (2, .v (iV 1)), (9, .own 100 (j + 1)), (14, .v (iV p)), (15, .v (iV ((j : Int) + 1)))] [(100, .lst 4 39 ((clL k j ++ [clV k j]).map encQ))] 53 true) oM entA ⟨j + 1, rfl, oM, by rw [hstep]; rfl⟩
  ·obtain rfl : j = p := oM
   have hb : decide ((j : Int) < (j : Int)) = false := decide_eq_false oM
   have hl2 : ((clL k j).map encQ).length = j := by rw [List.length_map, hlen]
   refine goA ?_
   exact Zae (s' := mkS [(9, .v (.sl ((clL k j).map encQ)))] [] 53 true) entA rfl
 refine goA ?_
 exact rfl
theorem norR_tk {f : Nat → Rat} {n : Nat} (hf : f 0 ≠ 0) (h1 : n ≤ 1000) : norR 0 (tk f n) = some (0, tk f n) := by
 unfold norR tdy
 rw [Zcs dC oM, if_pos rfl, Zeh hf, List.drop_zero]
 rfl
theorem cl_ht {k p : Nat} (hk : wOK k = true) (hp : p ≤ 40) : ∀ q, q ∈ clL k p → Ht q 4 := Ze1 fun i hi => (ei_ht hk oM).2
theorem eiL_ht {k p : Nat} (hk : wOK k = true) (hp : p ≤ 40) : ∀ q, q ∈ eiL k p → Ht q 4 := Ze1 fun i hi => (ei_ht hk oM).1
theorem cl_htG {k p : Nat} (hk : wOK k = true) (hp : p ≤ 40 ∨ (k = 2 ∧ p ≤ 1000)) : ∀ q, q ∈ clL k p → Ht q 4 := Ze1 fun i hi => (ei_htG hk oM).2
theorem eclassical_p (hB : BqOK) {k p : Nat} (hk : wOK k = true) (hp : p ≤ 40 ∨ (k = 2 ∧ p ≤ 1000)) : PC Tryz.prog 84 [iV k, iV p] (.tup [serA 0 ((clL k p).map encQ), iV 0]) := by
 obtain ⟨k1, k2, k3⟩ := wOK_lt hk
 have c1 := eclass_p hB hk hp
 have c2 := normal_p (s := 0) (es := (clL k p).map encQ) (l := clL k p) (K := 4) (fun _ => Zbb (cl_htG hk hp)) (by simp) ⟨dC, dC, by simp [clL]; omega⟩ dC
 rw [show norR 0 (clL k p) = some (0, clL k p) from norR_tk (clV_ne hk) oM] at c2
 have c2 : PC Tryz.prog 63 [serA 0 ((clL k p).map encQ)] (.tup [serA 0 ((clL k p).map encQ), iV 0]) := c2
 have b1 : decide ((k : Int) < 2) = false := decide_eq_false oM
 have b2 : decide ((k : Int) > 40) = false := decide_eq_false oM
 have em : (k : Int).tmod 2 = ((k % 2 : Nat) : Int) := rfl
 have b3 : (((k % 2 : Nat) : Int) != 0) = false := by rw [k3]; rfl
 have b4 : decide ((p : Int) ≥ 0) = true := decide_eq_true oM
 have b5 : decide ((p : Int) ≤ 1000) = true := decide_eq_true oM
 have c0 : PC Tryz.prog 121 [iV p] (bV (decide ((p : Int) ≤ 1000))) := by
  refine pb1 Tryz.func121 Zac.tmp ?_
  refine goA ?_
  exact rfl
 rw [b5] at c0
 refine pb2 Tryz.func84 (Zac.agg Zaj) Zac.tmp ?_
 refine goA ?_
 refine remA ?_
 rw [em]
 refine goA ?_
 refine clG c0 ?_
 refine clG c1 ?_
 refine clG c2 ?_
 exact rfl
theorem cl_inv {k : Nat} (h : wOK k = true) : 1 / clV k 0 = ((-2 * (k : Int) : Int) : Rat) / bqP k := by
 unfold wOK at h
 have hm : k ∈ [2, 4, 6, 8, 10, 14] := by simpa using h
 have : ∀ k, k ∈ [2, 4, 6, 8, 10, 14] → 1 / clV k 0 = ((-2 * (k : Int) : Int) : Rat) / bqP k := by decide +kernel
 exact this k hm
theorem enormG_p (hB : BqOK) {k p : Nat} (hk : wOK k = true) (hp : p ≤ 40 ∨ (k = 2 ∧ p ≤ 1000)) : PC Tryz.prog 49 [iV k, iV p] (.tup [serA 0 ((eiL k p).map encQ), iV 0]) := by
 obtain ⟨k1, k2, k3⟩ := wOK_lt hk
 have c1 := eclassical_p hB hk hp
 by_cases hp0 : p = 0
 ·subst hp0
  have b2 : (((0 : Nat) : Int) == 0) = true := rfl
  have b1 : ((0 : Int) != 0) = false := rfl
  have e0 : clL k 0 = eiL k 0 := rfl
  rw [e0] at c1
  refine pb2 Tryz.func49 (Zac.agg Zaj) Zac.tmp ?_
  refine goA ?_
  refine clG c1 ?_
  exact rfl
 ·have b2 : ((p : Int) == 0) = false := by rw [beq_eq_false_iff_ne]; omega
  have b1 : ((0 : Int) != 0) = false := rfl
  have c2 := Zdh 1 dC dC
  rw [show ((1 : Int) : Rat) = 1 from rfl] at c2
  have hne := clV_ne hk
  have n1 : ((clL k p).map encQ)[(0 : Int).toNat]? = some (encQ (clV k 0)) := Zec (by unfold clL tk; rw [List.getElem?_map, List.getElem?_range (by show 0 < p; omega)]; rfl)
  have t0 := (ei_ht hk (n := 0) dC).2
  have c3 := rquo_p (Zad (Zcq (c := 1) dC)) dC (Zad t0) dC hne
  rw [show ((1 : Int) : Rat) = 1 from rfl] at c3
  have tc : Ht (1 / clV k 0) 4 := by rw [Rat.div_def, Rat.one_mul]; exact ht_inv t0 dC
  have c4 := scale_p (c := 1 / clV k 0) (s := 0) (es := (clL k p).map encQ) (l := clL k p) (k := 4) (K := 4) (Zad tc) (fun _ => Zbb (cl_htG hk hp)) (by simp) ⟨dC, dC, by simp [clL]; omega⟩ dC dC dC
  have e4 : sclR (1 / clV k 0) 0 (clL k p) = some (0, eiL k p) := by
   have h := sclR_tk (s := 0) (f := clV k) (n := p) (inv_ne hne) hne dC oM
   unfold clL
   rw [h]
   congr 2
   exact Zc6 fun i hi => by
    unfold eiV
    rw [cl_inv hk]
  rw [e4] at c4
  have c4 : PC Tryz.prog 69 [encQ (1 / clV k 0), serA 0 ((clL k p).map encQ)] (.tup [serA 0 ((eiL k p).map encQ), iV 0]) := c4
  generalize clL k p = L at *
  generalize 1 / clV k 0 = x at *
  generalize clV k 0 = y at *
  refine pb2 Tryz.func49 (Zac.agg Zaj) Zac.tmp ?_
  refine goA ?_
  refine clG c1 ?_
  refine clG c2 ?_
  refine evG ggA (Zbh (Zaa rfl) (Zag rfl) rfl rfl dC n1 rfl) ?_
  refine goA ?_
  refine clG c3 ?_
  refine clG c4 ?_
  exact rfl
theorem enorm_p (hB : BqOK) {k p : Nat} (hk : wOK k = true) (hp : p ≤ 40) : PC Tryz.prog 49 [iV k, iV p] (.tup [serA 0 ((eiL k p).map encQ), iV 0]) := enormG_p hB hk (.inl hp)
theorem lover_p {a b : AV} {p q : Int} {k l : Nat} (ha : IsI a k p) (hk : k ≤ 8796093022208) (hb : IsI b l q) (hl : l ≤ 8796093022208) : PC Tryz.prog 94 [a, b] (encQ (Rat.divInt p q)) := by
 refine ⟨Zdg Tryz.func94 rfl rfl, fun w M hM vs hvs => ?_⟩
 obtain ⟨v, u, rfl, hv, hu⟩ := reps2 hvs
 refine (over_c (Zei ha hv) (Zei hb hu) hk hl).mono ?_
 rintro e w' ⟨v, rfl, hb, hr⟩
 exact ⟨v, rfl, hb, Zdn hr (Zbz hM hb)⟩
theorem sgn_ne0 {q : Int} (h : q ≠ 0) : (sgn q == 0) = false := by
 have : sgn q ≠ 0 := by unfold sgn; split <;> (try split) <;> omega
 simpa using this
theorem lmake_p {p q : Int} (hp : p.natAbs < pw 4) (hq : q.natAbs < pw 4) (h0 : q ≠ 0) : PC Tryz.prog 198 [encI p, encI q] (.tup [encQ (Rat.divInt p q), iV 0]) := by
 have ip := Zar hp
 have iq := Zar hq
 have c1 := isign_p iq dC
 have c2 := lover_p ip dC iq dC
 have k := sgn_ne0 h0
 have hs : encI q = .agg (ci q) := rfl
 have hs2 : encI p = .agg (ci p) := rfl
 rw [hs] at *
 rw [hs2] at *
 generalize sgn q = s at *
 refine pb2 Tryz.func198 (Zac.agg Zbg) Zac.tmp ?_
 refine goA ?_
 refine clG c1 ?_
 refine clG c2 ?_
 exact rfl
abbrev Zdy : Blk := .var [.v (.p (.bool false)), .v (.p nilV), .v (.p (.bool false)), .v (.p nilV)]
theorem ci_1 : ci 1 = [.p (.bool false), .sl [u32 ((1 : Nat) : Int)]] := ci_one (d := 1) dC dC
theorem q_1 : encQ 1 = .agg [.p (.bool false), .sl [u32 ((1 : Nat) : Int)], .p (.bool false), .sl [u32 ((1 : Nat) : Int)]] := by
 unfold encQ
 rw [show (1 : Rat).num = 1 from rfl, show (((1 : Rat).den : Nat) : Int) = 1 from rfl, ci_1]
 rfl
theorem ht1 : Ht (1 : Rat) 1 := Zcq (c := 1) dC
theorem rbits1_p : PC Tryz.prog 219 [encQ 1] (iV 1) := by
 have c1 := Zfi (Zad ht1) dC
 have c2 := bits1_p (d := 1) dC dC
 rw [show Lib.bitLen 1 = 1 by decide] at c2
 rw [q_1] at c1 ⊢
 refine pb1 Tryz.func219 Zac.tmp ?_
 refine goA ?_
 refine clG c1 ?_
 refine clG c2 ?_
 refine clG c2 ?_
 exact rfl
theorem rpow1_p {n : Nat} (hn : n ≤ 50) : PC Tryz.prog 197 [encQ 1, iV n] (.tup [encQ 1, iV 0]) := by
 have c1 := Zfi (Zad ht1) dC
 have c2 := rbits1_p
 have h1 : decide ((n : Int) < 0) = false := decide_eq_false oM
 have cw := whole_p (z := 1) (k := 1) dC dC
 rw [show ((1 : Int) : Rat) = 1 from rfl] at cw
 have ei : encI 1 = .agg [.p (.bool false), .sl [u32 ((1 : Nat) : Int)]] := by unfold encI; rw [ci_1]
 have cp := fun e he => ipow_p (d := 1) (e := e) dC dC he
 simp only [Nat.one_pow] at cp
 rw [show ((1 : Nat) : Int) = 1 from rfl] at cp
 rw [ei] at cw cp
 have eq1 := q_1
 rw [eq1] at c1 c2 cw ⊢
 have em : (n : Int).tmod 2 = ((n % 2 : Nat) : Int) := rfl
 have hm : ((n % 2 : Nat) : Int) ≤ 1 := oM
 by_cases h0 : n = 0
 ·subst h0
  have h2 : (((0 : Nat) : Int) != 0) = false := rfl
  have c3 := cp 0 dC
  refine pb2 Tryz.func197 (Zac.agg Zbg) Zac.tmp ?_
  refine goA ?_
  refine clG c1 ?_
  refine clG c2 ?_
  refine clG c3 ?_
  refine clG cw ?_
  exact rfl
 ·have h2 : ((n : Int) != 0) = true := by rw [bne_iff_ne]; omega
  have c3 := cp (2 + n % 2) oM
  rw [show ((2 + n % 2 : Nat) : Int) = 2 + ((n % 2 : Nat) : Int) by omega] at c3
  generalize ((n % 2 : Nat) : Int) = r at *
  have hr : 0 ≤ r := by
   rw [← em]
   exact Int.tmod_nonneg _ oM
  refine pb2 Tryz.func197 (Zac.agg Zbg) Zac.tmp ?_
  refine goA ?_
  refine clG c1 ?_
  refine clG c2 ?_
  refine remA ?_
  rw [em]
  refine goA ?_
  refine clG c3 ?_
  refine clG cw ?_
  exact rfl
def Zdr (f : Nat → AV) (i k : Nat) : AV := if k < i then f k else rz
theorem fill_0 (f : Nat → AV) (n : Nat) : List.replicate n rz = (List.range n).map (Zdr f 0) := rep_range' n rz fun k _ => by unfold Zdr; rw [if_neg oM]
theorem fill_set (f : Nat → AV) (n i : Nat) : ((List.range n).map (Zdr f i)).set i (f i) = (List.range n).map (Zdr f (i + 1)) :=
 range_set' n i (f i) (by unfold Zdr; rw [if_pos oM]) fun k _ hne => by
  unfold Zdr
  by_cases h : k < i
  ·rw [if_pos h, if_pos oM]
  ·rw [if_neg h, if_neg oM]
theorem fill_end (f : Nat → AV) (n : Nat) : (List.range n).map (Zdr f n) = (List.range n).map f := Zfl n fun k hk => by unfold Zdr; rw [if_pos hk]
theorem tk_enc (f : Nat → Rat) (n : Nat) : (tk f n).map encQ = (List.range n).map fun k => encQ (f k) := by unfold tk; rw [List.map_map]; rfl
theorem enc_tk {f : Nat → Rat} {n k : Nat} (h : k < n) : ((tk f n).map encQ)[k]? = some (encQ (f k)) := by
 rw [tk_enc, List.getElem?_map, List.getElem?_range h]
 rfl
theorem dgs_ne0 {z : Nat} (h : z ≠ 0) : ((((dgs z).map u32).length : Int) == 0) = false := by
 rw [beq_eq_false_iff_ne]
 intro e
 have h2 : dgs z = [] := by
  rw [List.length_map] at e
  exact List.length_eq_zero_iff.1 oM
 have h3 := Zcc z
 rw [h2] at h3
 have : vl [] = 0 := rfl
 omega
theorem ptrim_p {f : Nat → Rat} {n : Nat} (hf : f n ≠ 0) (hn : n ≤ 1000) : PC Tryz.prog 227 [.sl ((tk f (n + 1)).map encQ)] (.sl ((tk f (n + 1)).map encQ)) := by
 have hl : ((tk f (n + 1)).map encQ).length = n + 1 := by simp
 have n1 : ((tk f (n + 1)).map encQ)[(((((tk f (n + 1)).map encQ).length : Nat) : Int) - 1).toNat]? = some (encQ (f n)) := by
  rw [hl, show (((n + 1 : Nat) : Int) - 1).toNat = n by omega]
  exact enc_tk oM
 have hb : decide (((((tk f (n + 1)).map encQ).length : Nat) : Int) > 0) = true := decide_eq_true oM
 have hb2 := dgs_ne0 (z := (f n).num.natAbs) (by
  have : (f n).num ≠ 0 := fun e => hf (Rat.num_eq_zero.1 e)
  omega)
 generalize (tk f (n + 1)).map encQ = es at *
 refine pb1 Tryz.func227 Zac.tmp ?_
 refine r1A ?_
 refine T.seqE (mkS [(0, .v (.sl es))] [] 24 true) ?_ ?_
 ·refine T.block ?_
  refine T.loop (fun N s1 => s1 = mkS [(0, .v (.sl es))] [] 24 true) 1 (s' := mkS [(0, .v (.sl es))] [] 24 true) entA rfl ?_
  rintro _ _ rfl
  refine goA ?_
  refine ixG n1 ?_
  exact Zae (s' := mkS [(0, .v (.sl es))] [] 24 true) entA rfl
 refine goA ?_
 exact rfl
set_option maxHeartbeats 2000000 in
theorem pnormal_p {f : Nat → Rat} {n K : Nat} (hf : f n ≠ 0) (hn : n ≤ 1000) (hK : K ≤ 1000) (hh : ∀ i, i ≤ n → Ht (f i) K) : PC Tryz.prog 218 [.sl ((tk f (n + 1)).map encQ)] (.sl ((tk f (n + 1)).map encQ)) := by
 have ct := ptrim_p hf hn
 have hl : ((tk f (n + 1)).map encQ).length = n + 1 := by simp
 have hat : ∀ i, i < n + 1 → ((tk f (n + 1)).map encQ)[((i : Nat) : Int).toNat]? = some (encQ (f i)) := fun i hi => enc_tk hi
 have hend : (List.range (n + 1)).map (Zdr (fun k => encQ (f k)) (n + 1)) = (tk f (n + 1)).map encQ := by rw [fill_end, tk_enc]
 have h0 := fill_0 (fun k => encQ (f k)) (n + 1)
 generalize (tk f (n + 1)).map encQ = es at *
 refine pb1 Tryz.func218 Zac.tmp ?_
 refine goA ?_
 refine evG ggA (Zdv 30 (e0 := rz) (Zaa rfl) (Zaf rfl) rfl rfl rfl oM oM oM oM rfl rfl rfl) ?_
 rw [hl, show (((n + 1 : Nat) : Int)).toNat = n + 1 by omega, h0]
 refine runA ?_
 refine Zao ?_
 refine osA ?_
 refine T.seqE (mkS [(3, .own 30 (n + 1))] [(30, .lst 4 39 ((List.range (n + 1)).map (Zdr (fun k => encQ (f k)) (n + 1))))] 24 true) ?_ ?_
 ·refine r1A ?_
  refine T.block ?_
  refine T.loop (fun N s1 => ∃ j : Nat, N = n + 1 - j ∧ j ≤ n + 1 ∧ s1 = mkS [(3, .own 30 (n + 1)), (9, .v (.sl es)), (10, .v (iV ((n + 1 : Nat) : Int))), (11, .v (iV j))] [(30, .lst 4 39 ((List.range (n + 1)).map (Zdr (fun k => encQ (f k)) j)))] 24 true) (n + 1)
   (s' := mkS [(3, .own 30 (n + 1)), (9, .v (.sl es)), (10, .v (iV ((n + 1 : Nat) : Int))), (11, .v (iV (0 : Nat)))] [(30, .lst 4 39 ((List.range (n + 1)).map (Zdr (fun k => encQ (f k)) 0)))] 24 true) (by rw [← hl]; exact entA) ⟨0, rfl, Nat.zero_le _, rfl⟩ ?_
  rintro _ _ ⟨j, rfl, hj, rfl⟩
  have hgl : ((List.range (n + 1)).map (Zdr (fun k => encQ (f k)) j)).length = n + 1 := by simp
  by_cases hlt : j < n + 1
  ·have hb : decide ((j : Int) < ((n + 1 : Nat) : Int)) = true := decide_eq_true oM
   have n1 := hat j hlt
   have c1 := Zfi (Zad (hh j oM)) oM
   have hs := fill_set (fun k => encQ (f k)) (n + 1) j
   generalize hG : (List.range (n + 1)).map (Zdr (fun k => encQ (f k)) j) = G at *
   refine goA ?_
   refine ixG n1 ?_
   refine clA c1 ?_
   refine evG ggA (Zah (Zaa rfl) (Zag rfl) rfl rfl hgl rfl oM oM) ?_
   refine evG ggA (Zbd rfl (Zbp rfl) rfl rfl hgl oM rfl rfl (fun l e => by cases e) (List.all_eq_true.2 (Ze3 _))) ?_
   rw [show ((j : Int)).toNat = j by omega, hs]
   refine goA ?_
   exact Zab (k := n + 1 - (j + 1)) (s' := mkS [(3, .own 30 (n + 1)), (9, .v (.sl es)), (10, .v (iV ((n + 1 : Nat) : Int))), (11, .v (iV ((j : Int) + 1)))] [(30, .lst 4 39 ((List.range (n + 1)).map (Zdr (fun k => encQ (f k)) (j + 1))))] 24 true) oM entA ⟨j + 1, rfl, oM, rfl⟩
  ·obtain rfl : j = n + 1 := oM
   have hb : decide (((n + 1 : Nat) : Int) < ((n + 1 : Nat) : Int)) = false := decide_eq_false oM
   refine goA ?_
   exact Zae (s' := mkS [(3, .own 30 (n + 1))] [(30, .lst 4 39 ((List.range (n + 1)).map (Zdr (fun k => encQ (f k)) (n + 1))))] 24 true) entA rfl
 rw [hend]
 refine T.weak (s' := mkS [(3, .v (.sl es))] [] 24 true) entA ?_
 refine goA ?_
 refine clG ct ?_
 exact rfl
set_option maxHeartbeats 2000000 in
theorem bpoly_p {n : Nat} (hn : n < 15) : PC Tryz.prog 196 [iV n] (.sl ((plL n).map encQ)) := by
 have c1 := bnum_p hn
 have c2 := brow_p (n := n) oM
 have hB := bnL_len n
 have tB := (bh_get (m := n) (k := 0) hn dC).2.2.2
 have c3 : PC Tryz.prog 218 [.sl ((plL n).map encQ)] (.sl ((plL n).map encQ)) := pnormal_p (f := plB n) (n := n) (K := 2) (pl_top n hn) oM dC fun i hi => (bh_get hn oM).2.1
 refine pb1 Tryz.func196 Zac.tmp ?_
 refine goA ?_
 refine clG c1 ?_
 refine clA c2 ?_
 refine runA ?_
 refine Zao ?_
 refine osA ?_
 refine r1A ?_
 refine T.seqE (mkS [(5, .v (.sl ((plL n).map encQ)))] [] 33 true) ?_ ?_
 ·refine r1A ?_
  refine T.block ?_
  refine T.loop (fun N s1 => ∃ j : Nat, N = n + 1 - j ∧ j ≤ n + 1 ∧ s1 = mkS [(0, .v (iV n)), (3, .v (.sl ((bnL n).map encQ))), (4, .v (.sl ((bnI n (n + 1)).map encI))), (5, .own 100 j), (6, .v (iV j))] [(100, .lst 4 39 ((tk (plB n) j).map encQ))] 33 true) (n + 1)
   (s' := mkS [(0, .v (iV n)), (3, .v (.sl ((bnL n).map encQ))), (4, .v (.sl ((bnI n (n + 1)).map encI))), (5, .own 100 0), (6, .v (iV (0 : Nat)))] [(100, .lst 4 39 [])] 33 true) entA ⟨0, rfl, Nat.zero_le _, rfl⟩ ?_
  rintro _ _ ⟨j, rfl, hj, rfl⟩
  have hlen : (tk (plB n) j).length = j := tk_len _ _
  by_cases hlt : j < n + 1
  ·have hb : decide ((j : Int) ≤ (n : Int)) = true := decide_eq_true oM
   obtain ⟨q, hq⟩ : ∃ q, (bnL n)[n - j]? = some q := ⟨_, List.getElem?_eq_getElem oM⟩
   have gq : (bnL n).getD (n - j) 0 = q := by rw [List.getD_eq_getElem?_getD, hq]; rfl
   have tq := tB q (List.mem_of_getElem? hq)
   have n1 : ((bnL n).map encQ)[((n : Int) - (j : Int)).toNat]? = some (encQ q) := by rw [show ((n : Int) - (j : Int)).toNat = n - j by omega]; exact Zec hq
   have n2 : ((bnI n (n + 1)).map encI)[((j : Nat) : Int).toNat]? = some (encI (bnm n j)) := bnI_at oM
   have hbn := (bn_get (n := n) (k := j) oM oM).2
   have c4 := whole_p hbn dC
   have tb : Ht (bnR n j) 1 := ht_bnR oM oM
   have c5 : PC Tryz.prog 92 [encQ ((bnm n j : Int) : Rat), encQ q] (encQ (bnR n j * q)) := Zdw (Zad tb) dC (Zad tq) dC
   have es : bnR n j * q = plB n j := by unfold plB; rw [gq]
   rw [es] at c5
   refine goA ?_
   refine ixG n2 ?_
   refine clG c4 ?_
   refine ixG n1 ?_
   refine clA c5 ?_
   refine appA ?_
   rw [← Zdu]
   refine goA ?_
   exact Zab (k := n + 1 - (j + 1)) (s' := mkS [(0, .v (iV n)), (3, .v (.sl ((bnL n).map encQ))), (4, .v (.sl ((bnI n (n + 1)).map encI))), (5, .own 100 (j + 1)), (6, .v (iV ((j : Int) + 1)))] [(100, .lst 4 39 ((tk (plB n) (j + 1)).map encQ))] 33 true) oM entA ⟨j + 1, rfl, oM, rfl⟩
  ·obtain rfl : j = n + 1 := oM
   have hb : decide (((n + 1 : Nat) : Int) ≤ (n : Int)) = false := decide_eq_false oM
   have hl2 : ((tk (plB n) (n + 1)).map encQ).length = n + 1 := by rw [List.length_map, hlen]
   refine goA ?_
   exact Zae (s' := mkS [(5, .v (.sl ((plL n).map encQ)))] [] 33 true) entA rfl
 refine goA ?_
 refine clG c3 ?_
 exact rfl
theorem pc_bodyMA {dm : Bool} {P : Program} {f : FuncId} {fn : Func} {c : Code} {args : List TV} {L L' : List (Nat × Blk)} {nd : Bool} {l : List AV} {ad T' : Nat} {t : TypeId} (hf : P.funcs[f]? = some fn) (hname : (fn.name == "runtime.NumGoroutine") = false) (hb : fn.body = some c) (hres : fn.results = #[.cell ad t]) (hn : args.length ≤ fn.ntmps) (hag : AggT P t l.length)
  (hT : T dm P c { t := fun i => args[i]?, m := Za5 L, nt := fn.ntmps, nd := nd, k := L.map (·.1) } (fun x s => (x = .normal ∨ x = .ret) ∧ resV s (.cell ad t) = some (.agg l) ∧ T' < s.nt ∧ Ent (s.put (some T') (.v (.agg l))) (mkP [(T', .v (.agg l))] L' fn.ntmps nd (L.map (·.1))))) : PCM dm P f args L nd (.v (.agg l)) L' := by
 refine ⟨⟨fn, hf, hname, by rw [hb]; rfl⟩, fun w M0 hM hm0 vs hr => ?_⟩
 refine calls_of_wp hf hb (Code.wp_mono (fun x a' w' hx => ?_) (hT w M0 hM _ w ⟨_, pcm_start hn hr⟩))
 obtain ⟨s', ⟨hxx, hrv, hT0, he⟩, ρ1, hrel⟩ := hx
 obtain ⟨v, h3, h4⟩ := Zez (P := P) hrel hrv (fun ad t e => by cases e; exact ⟨l, rfl, hag⟩)
 obtain ⟨ρ', h2⟩ := he w M0 _ w' hM.weak ⟨ρ1, hrel.put (dst := some T') (x := .v (.agg l)) (v := v) hT0 h4⟩
 obtain ⟨v', k3, k4⟩ := h2.tmps T' (.v (.agg l)) (by simp [mkP, Za5])
 have hv : v' = v := by
  have hsz : T' < a'.tmps.size := by rw [hrel.nt]; exact hT0
  have k5 : (a'.put (some T') v).tmps[T']? = some v := by simp [Act.put, hsz]
  rw [k5] at k3
  injection k3 with k3
  exact k3.symm
 subst hv
 have hd : a'.defers = [] := hrel.defers.trans hr.defers.symm
 have h5 : RelR w M0 ρ' { t := fun i => bif Nat.beq i 0 then some (.v (.agg l)) else none, m := Za5 L', nt := 1, nd := nd, k := L.map (·.1) } { tmps := #[v'], defers := [] } w' := pcm_end hr.defers h2 k4 rfl rfl
 have key : a'.defers = [] ∧ ∃ v, (results fn a'.tmps).run P w' = .ok v w' ∧ ∃ v' ρ', Ending.returned v = .returned v' ∧ RelR w M0 ρ' { t := fun i => bif Nat.beq i 0 then some (.v (.agg l)) else none, m := Za5 L', nt := 1, nd := nd, k := L.map (·.1) } { tmps := #[v'], defers := [] } w' := by
  refine ⟨hd, v', ?_, v', ρ', rfl, h5⟩
  simp only [results, hres]
  simp at h3 ⊢
  rw [h3]
 rcases hxx with rfl | rfl
 ·exact key
 ·exact key
theorem parts1_p : PC Tryz.prog 225 [iV 1] (.sl []) := by
 have c1 := factor1_p
 refine pb1 Tryz.func225 Zac.tmp ?_
 refine goA ?_
 refine clA c1 ?_
 refine runA ?_
 refine Zao ?_
 refine osA ?_
 refine T.seqE (mkS [(3, .v (.p nilV))] [] 74 true) ?_ ?_
 ·refine r1A ?_
  refine T.block ?_
  refine T.loop (fun N s1 => s1 = mkS [(3, .v (.p nilV)), (16, .v (iV (0 : Nat))), (17, .v (iV 0))] [] 74 true) 1 (s' := mkS [(3, .v (.p nilV)), (16, .v (iV (0 : Nat))), (17, .v (iV 0))] [] 74 true) entA rfl ?_
  rintro _ _ rfl
  refine goA ?_
  exact Zae (s' := mkS [(3, .v (.p nilV))] [] 74 true) entA rfl
 refine goA ?_
 exact rfl
theorem within1_p : PC Tryz.prog 224 [iV 1] (bV true) := by
 refine pb1 Tryz.func224 Zac.tmp ?_
 refine goA ?_
 exact rfl
theorem gener1_p : PC Tryz.prog 215 [iV 1] (.tup [.sl [], .sl [], iV 0]) := by
 have c1 := within1_p
 have c2 := parts1_p
 refine pc_body3 true Tryz.func215 rfl rfl rfl (Nat.le_of_ble_eq_true rfl) Zac.tmp Zac.tmp Zac.tmp ?_
 refine goA ?_
 refine clG c1 ?_
 refine clA c2 ?_
 refine runA ?_
 refine Zao ?_
 refine osA ?_
 refine T.cutI (fun s1 => s1 = mkS [(5, .v (.p nilV)), (6, .v (.p nilV))] [] 49 true) ?_ ?_
 ·refine T.block ?_
  refine T.loop (fun N s1 => s1 = mkS [(5, .v (.p nilV)), (6, .v (.p nilV)), (16, .v (iV (0 : Nat))), (17, .v (iV 0))] [] 49 true) 1 (s' := mkS [(5, .v (.p nilV)), (6, .v (.p nilV)), (16, .v (iV (0 : Nat))), (17, .v (iV 0))] [] 49 true) entA rfl ?_
  rintro _ _ rfl
  refine goA ?_
  exact Zae (s' := mkS [(5, .v (.p nilV)), (6, .v (.p nilV))] [] 49 true) entA rfl
 rintro _ rfl
 refine goA ?_
 exact rfl
theorem dfrom_p : PCM true Tryz.prog 194 [.v (iV 1), .fn 195 [(0, 0)]] [(0, .var [.v (iV 1)])] true (.v (.agg [iV 1, .sl []])) [(0, .var [.v (iV 1)])] := by
 have c1 := gener1_p
 refine pc_bodyMA (T' := 46) Tryz.func194 rfl rfl rfl (Nat.le_of_ble_eq_true rfl) Ze8 ?_
 refine goA ?_
 refine clA c1 ?_
 refine runA ?_
 refine Zao ?_
 refine osA ?_
 refine T.seqE (mkP [(4, .ptr 4 0), (5, .ptr 5 0)] [(0, .var [.v (iV 1)]), (4, .var [.v (iV 0), .v (.p nilV)]), (5, .var [.v (iV 1), .v (.sl [])])] 47 true [0]) ?_ ?_
 ·refine r1A ?_
  refine T.block ?_
  refine T.loop (fun N s1 => s1 = mkP [(4, .ptr 4 0), (5, .ptr 5 0), (21, .v (iV (0 : Nat))), (22, .v (iV 0))] [(0, .var [.v (iV 1)]), (4, .var [.v (iV 0), .v (.p nilV)]), (5, .var [.v (iV 1), .v (.sl [])])] 47 true [0]) 1 (s' := mkP [(4, .ptr 4 0), (5, .ptr 5 0), (21, .v (iV (0 : Nat))), (22, .v (iV 0))] [(0, .var [.v (iV 1)]), (4, .var [.v (iV 0), .v (.p nilV)]), (5, .var [.v (iV 1), .v (.sl [])])] 47 true [0]) (by exact entqA) rfl ?_
  rintro _ _ rfl
  refine goA ?_
  exact Zae (s' := mkP [(4, .ptr 4 0), (5, .ptr 5 0)] [(0, .var [.v (iV 1)]), (4, .var [.v (iV 0), .v (.p nilV)]), (5, .var [.v (iV 1), .v (.sl [])])] 47 true [0]) (by exact entqA) rfl
 refine goA ?_
 exact ⟨.inr rfl, rfl, dC, by exact entqA⟩
theorem dquad1_p : PC Tryz.prog 174 [iV 1] (.tup [.agg [iV 1, .sl []], iV 0]) := by
 have cf := fund1_p
 have cd := dfrom_p
 refine pb2 Tryz.func174 (Zac.agg Ze8) Zac.tmp ?_
 refine goA ?_
 refine clG cf ?_
 refine evG ggA (ss_makefn (cs := [(1, 0)]) (Zaa rfl) rfl) ?_
 refine evM (ms_call [(0, 1)] cd rfl rfl rfl rfl rfl rfl ⟨rfl, trivial⟩ ⟨.inl rfl, trivial⟩ ?_)
 refine goA ?_
 exact rfl
def EvOK : Prop := ∀ k : Nat, k < 15 → PC Tryz.prog 199 [.sl ((plL k).map encQ), encQ 1] (encQ (bqP k))
theorem summ_p (hE : EvOK) {k : Nat} (hk : k < 15) (h1 : 1 ≤ k) : PC Tryz.prog 175 [iV k, iV 1] (.sl [encQ (bqP k)]) := by
 have c1 := bpoly_p hk
 have c2 := Zdh 1 dC dC
 rw [show ((1 : Int) : Rat) = 1 from rfl] at c2
 have c3 := rpow1_p (n := k - 1) oM
 rw [show ((k - 1 : Nat) : Int) = (k : Int) - 1 by omega] at c3
 have c4 := iof_p 1 dC dC
 have c5 := lmake_p (p := 1) (q := 1) (by decide +kernel) (by decide +kernel) dC
 rw [show Rat.divInt 1 1 = 1 by decide +kernel] at c5
 have c6 := hE k hk
 have c7 := Zdw (Zad ht1) dC (Zad (bq_ht hk)) dC
 rw [Rat.one_mul] at c7
 generalize plL k = L at *
 generalize hB : bqP k = B at *
 generalize h1q : (1 : Rat) = one at *
 refine pb1 Tryz.func175 Zac.tmp ?_
 refine goA ?_
 refine clG c1 ?_
 refine clG c2 ?_
 refine clA c3 ?_
 refine runA ?_
 refine Zao ?_
 refine osA ?_
 refine r1A ?_
 refine T.seqE (mkS [(8, .v (.sl [encQ B]))] [] 44 true) ?_ ?_
 ·refine r1A ?_
  refine T.block ?_
  refine T.loop (fun N s1 => (N = 1 ∧ s1 = mkS [(1, .v (iV 1)), (5, .v (.sl (L.map encQ))), (6, .ptr 6 0), (8, .own 100 0), (9, .v (iV 1))] [(6, qvar one), (100, .lst 4 39 [])] 44 true) ∨ (N = 0 ∧ s1 = mkS [(1, .v (iV 1)), (5, .v (.sl (L.map encQ))), (6, .ptr 6 0), (8, .own 100 1), (9, .v (iV 2))] [(6, qvar one), (100, .lst 4 39 [encQ B])] 44 true)) 1
   (s' := mkS [(1, .v (iV 1)), (5, .v (.sl (L.map encQ))), (6, .ptr 6 0), (8, .own 100 0), (9, .v (iV 1))] [(6, qvar one), (100, .lst 4 39 [])] 44 true) entA (.inl ⟨rfl, rfl⟩) ?_
  rintro _ _ (⟨rfl, rfl⟩ | ⟨rfl, rfl⟩)
  ·have hlen : ([] : List Rat).length = 0 := rfl
   refine goA ?_
   refine clG c4 ?_
   refine clA c4 ?_
   refine clG c5 ?_
   refine clA c6 ?_
   refine clA c7 ?_
   refine evG ggA (Zaw (Zaa rfl) (Zaf rfl) rfl rfl rfl rfl (Zee rfl) (Nat.le_of_ble_eq_true rfl)) ?_
   refine evG ggA (Zct (a := encQ B) (Zaa rfl) (Zaf rfl) rfl rfl rfl rfl rfl dC rfl oM (Nat.le_of_ble_eq_true rfl) rfl) ?_
   refine goA ?_
   exact Zab (k := 0) (s' := mkS [(1, .v (iV 1)), (5, .v (.sl (L.map encQ))), (6, .ptr 6 0), (8, .own 100 1), (9, .v (iV 2))] [(6, qvar one), (100, .lst 4 39 [encQ B])] 44 true) oM entA (.inr ⟨rfl, rfl⟩)
  ·refine goA ?_
   exact Zae (s' := mkS [(8, .v (.sl [encQ B]))] [] 44 true) entA rfl
 refine goA ?_
 exact rfl
theorem bq_of_ev (hE : EvOK) : BqOK := fun k hk h2 => by
 have c1 := dquad1_p
 have c2 := Zdh 0 dC dC
 rw [show ((0 : Int) : Rat) = 0 from rfl] at c2
 have c3 := summ_p hE hk oM
 have c4 := kr1_p (n := 1) dC dC
 have c5 := Zdh 1 dC dC
 have c6 := Zdw (Zad ht1) dC (Zad (bq_ht hk)) dC
 rw [Rat.one_mul] at c6
 have c7 := radd_p (Zad (ht0 (k := 1) dC)) dC (Zad (bq_ht hk)) dC
 rw [Rat.zero_add] at c7
 have b1 : decide ((k : Int) < 1) = false := decide_eq_false oM
 have b2 : decide ((k : Int) > 40) = false := decide_eq_false oM
 have e1 : ((1 : Int) : Rat) = 1 := rfl
 rw [e1] at c5
 generalize hB : bqP k = B at *
 generalize h1q : (1 : Rat) = one at *
 generalize h0q : (0 : Rat) = zero at *
 refine pb2 Tryz.func150 (Zac.agg Zbg) Zac.tmp ?_
 refine goA ?_
 refine clG c1 ?_
 refine clG c2 ?_
 refine clA c3 ?_
 refine runA ?_
 refine Zao ?_
 refine osA ?_
 refine T.cutI (fun s1 => s1 = mkS [(4, .ptr 4 0), (8, .ptr 8 0)] [(4, Zdy), (8, qvar B)] 51 true) ?_ ?_
 ·refine T.block ?_
  refine T.loop (fun N s1 => (N = 1 ∧ s1 = mkS [(1, .v (iV 1)), (4, .ptr 4 0), (8, .ptr 8 0), (33, .v (.sl [encQ B])), (34, .v (iV 1)), (35, .v (iV 0))] [(4, Zdy), (8, qvar zero)] 51 true) ∨ (N = 0 ∧ s1 = mkS [(1, .v (iV 1)), (4, .ptr 4 0), (8, .ptr 8 0), (33, .v (.sl [encQ B])), (34, .v (iV 1)), (35, .v (iV 1))] [(4, Zdy), (8, qvar B)] 51 true)) 1
   (s' := mkS [(1, .v (iV 1)), (4, .ptr 4 0), (8, .ptr 8 0), (33, .v (.sl [encQ B])), (34, .v (iV 1)), (35, .v (iV 0))] [(4, Zdy), (8, qvar zero)] 51 true) entA (.inl ⟨rfl, rfl⟩) ?_
  rintro _ _ (⟨rfl, rfl⟩ | ⟨rfl, rfl⟩)
  ·have n1 : [encQ B][(0 : Int).toNat]? = some (encQ B) := rfl
   refine goA ?_
   refine evG ggA (Zbh (Zaa rfl) (Zag rfl) rfl rfl dC n1 rfl) ?_
   refine goA ?_
   refine clA c4 ?_
   refine clG c5 ?_
   refine clA c6 ?_
   refine clG c7 ?_
   exact Zab (k := 0) (s' := mkS [(1, .v (iV 1)), (4, .ptr 4 0), (8, .ptr 8 0), (33, .v (.sl [encQ B])), (34, .v (iV 1)), (35, .v (iV 1))] [(4, Zdy), (8, qvar B)] 51 true) oM entA (.inr ⟨rfl, rfl⟩)
  ·refine goA ?_
   exact Zae (s' := mkS [(4, .ptr 4 0), (8, .ptr 8 0)] [(4, Zdy), (8, qvar B)] 51 true) entA rfl
 rintro _ rfl
 refine goA ?_
 exact rfl
end Ab
