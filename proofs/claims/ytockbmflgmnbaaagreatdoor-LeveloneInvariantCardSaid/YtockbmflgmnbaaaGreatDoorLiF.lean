/- The powers of j, degrees, Faber's polynomials, expansions and polynomials in j, of the document: walked. Condition: the contracts of what is called. -/
import Derived.Test.YtockbmflgmnbaaaGreatDoorLiD
set_option linter.all false
namespace Ab
open Go Go.RowKit Go.Proofs Hp
set_option maxRecDepth 100000
theorem rdegreeL_p {es : List AV} {l : List Rat} {K : Nat} (h : IsL es K l) (hK : K ≤ 1000000000) (hl : l.length ≤ 1000) : PC Tryz.prog 35 [.sl es] (iV ((pdg l : Int) - 1)) := by
 have hlen := h.get.1
 have r1 := rev_len l
 obtain ⟨N, hN⟩ : ∃ N : Int, N = ((es.length : Nat) : Int) - 1 := ⟨_, rfl⟩
 refine pb1 Tryz.func35 Zab.tmp ?_
 refine goA ?_
 rw [← hN]
 refine T.loop (fun M s1 => ∃ k : Nat, M = lead l.reverse - k ∧ k ≤ lead l.reverse ∧ s1 = mkS [(0, .v (.sl es)), (3, .v (iV (N - k)))] [] 20 true) (lead l.reverse)
  (s' := mkS [(0, .v (.sl es)), (3, .v (iV (N - (0 : Nat))))] [] 20 true) (by rw [show N - (0 : Nat) = N by omega]; exact entA) ⟨0, rfl, Nat.zero_le _, rfl⟩ ?_
 rintro _ _ ⟨k, rfl, hk, rfl⟩
 by_cases hin : k < l.length
 ·have b1 : decide (N - (k : Int) ≥ 0) = true := decide_eq_true (by omega)
  have hi : (N - (k : Int)).toNat = l.length - 1 - k := by omega
  obtain ⟨q, hq⟩ : ∃ q, l[l.length - 1 - k]? = some q := by
   cases e : l[l.length - 1 - k]? with
   | none => rw [List.getElem?_eq_none_iff] at e; omega
   | some q => exact ⟨q, rfl⟩
  obtain ⟨a, ha, hv⟩ := h.get.2 _ q hq
  obtain ⟨sg, s0, cs0⟩ := rsign2_p hv (by omega)
  have cs : PC Tryz.prog _ [a] _ := cs0.up
  rw [← hi] at ha
  obtain ⟨g, xs, g', xs', e⟩ := Za4 hv
  rw [e] at cs ha
  by_cases hlt : k < lead l.reverse
  ·have b2 : (sg == 0) = true := by
    rw [beq_iff_eq]
    refine s0.2 ?_
    rw [pdg_zero hlt] at hq
    injection hq with hq
    exact hq.symm
   have hnx : N - (k : Int) - 1 = N - ((k + 1 : Nat) : Int) := by omega
   refine goA ?_
   refine ixG ha ?_
   refine clG cs ?_
   rw [hnx]
   exact Zac (k := lead l.reverse - (k + 1)) (s' := mkS [(0, .v (.sl es)), (3, .v (iV (N - ((k + 1 : Nat) : Int))))] [] 20 true) (by omega) entA ⟨k + 1, rfl, by omega, rfl⟩
  ·obtain rfl : k = lead l.reverse := by omega
   have b2 : (sg == 0) = false := by
    rw [beq_eq_false_iff_ne]
    exact fun e => pdg_ne hin hq (s0.1 e)
   have er : N - (lead l.reverse : Int) = (pdg l : Int) - 1 := by unfold pdg; omega
   refine goA ?_
   refine ixG ha ?_
   refine clG cs ?_
   rw [er]
   exact rfl
 ·obtain rfl : k = lead l.reverse := by omega
  have b1 : decide (N - (lead l.reverse : Int) ≥ 0) = false := decide_eq_false (by omega)
  have er : N - (lead l.reverse : Int) = (pdg l : Int) - 1 := by unfold pdg; omega
  refine goA ?_
  rw [er]
  exact rfl
def pwA (E : Nat → List AV) (k : Nat) : List AV := (List.range (k + 1)).map fun (i : Nat) => serA (-(i : Int)) (E i)
theorem pwA_len (E : Nat → List AV) (k : Nat) : (pwA E k).length = k + 1 := by simp [pwA]
theorem pwA_at (E : Nat → List AV) {k i : Nat} (h : i ≤ k) : (pwA E k)[i]? = some (.agg [.p (.int .i64 (-(i : Int))), .sl (E i)]) := by
 unfold pwA
 rw [List.getElem?_map, List.getElem?_range (by omega)]
 rfl
theorem pwA_s (E : Nat → List AV) (k : Nat) : pwA E k ++ [serA (-((k + 1 : Nat) : Int)) (E (k + 1))] = pwA E (k + 1) := by
 unfold pwA
 rw [List.range_succ (n := k + 1), List.map_append]
 rfl
set_option maxHeartbeats 8000000 in
theorem powers_core {n : Nat} {p : Int} (hn : n ≤ 20) (hp : 1 ≤ p ∧ p ≤ 900) {g g' : Bool} {xs xs' J : List AV} {E : Nat → List AV}
  (hJ : PC Tryz.prog 54 [iV (p + n)] (.tup [serA (-1) J, iV 0]))
  (hQ : PC Tryz.prog 26 [iV 1] (.agg [.p (.bool g), .sl xs, .p (.bool g'), .sl xs']))
  (hMon : PC Tryz.prog 25 [.agg [.p (.bool g), .sl xs, .p (.bool g'), .sl xs'], iV 0, iV (p + n)] (.tup [serA 0 (E 0), iV 0]))
  (hMul : ∀ k, k < n → PC Tryz.prog 55 [.agg [.p (.int .i64 (-(k : Int))), .sl (E k)], serA (-1) J] (.tup [serA (-((k + 1 : Nat) : Int)) (E (k + 1)), iV 0])) :
  PC Tryz.prog 23 [iV n, iV p] (.sl (pwA E n)) := by
 refine pb1 Tryz.func23 Zab.tmp ?_
 refine goA ?_
 refine clG hJ ?_
 refine clG hQ ?_
 refine clG hMon ?_
 refine evG ggA (Zbm 60 (Zaa rfl) rfl (Zak rfl) rfl rfl rfl rfl (Zc2 rfl rfl) (Nat.le_of_ble_eq_true rfl) (by decide) (fun _ a ha c hc => by
  rw [List.mem_singleton] at ha
  subst ha
  exact List.all_eq_true.1 (show (serA 0 (E 0)).cells.all AV.nu = true from rfl) c hc)) ?_
 refine runA ?_
 refine Zao ?_
 refine osA ?_
 refine T.seqE (mkS [(9, .own 60 (n + 1))] [(60, .lst 2 25 (pwA E n))] 50 true) ?_ ?_
 ·refine r1A ?_
  refine T.block ?_
  refine T.loop (fun N s1 => ∃ k : Nat, N = n - k ∧ k ≤ n ∧ s1 = mkS [(0, .v (iV n)), (5, .ptr 5 0), (9, .own 60 (k + 1)), (10, .v (iV ((k : Int) + 1)))] [(5, .var [.v (iV (-1)), .v (.sl J)]), (60, .lst 2 25 (pwA E k))] 50 true) n
   (s' := mkS [(0, .v (iV n)), (5, .ptr 5 0), (9, .own 60 (0 + 1)), (10, .v (iV (((0 : Nat) : Int) + 1)))] [(5, .var [.v (iV (-1)), .v (.sl J)]), (60, .lst 2 25 (pwA E 0))] 50 true) entA ⟨0, rfl, Nat.zero_le _, rfl⟩ ?_
  rintro _ _ ⟨k, rfl, hk, rfl⟩
  by_cases hlt : k < n
  ·have b1 : decide ((k : Int) + 1 ≤ n) = true := decide_eq_true (by omega)
   have c1 := hMul k hlt
   have hl := pwA_len E k
   have hg := pwA_at E (k := k) (Nat.le_refl k)
   have hs := pwA_s E k
   have ht : ((k : Int) + 1 - 1).toNat = k := by omega
   refine goA ?_
   refine evG ggA (Zap (Zaa rfl) (Zat rfl) rfl rfl hl rfl (by omega) (by omega)) ?_
   rw [ht]
   refine evG ggA (Zbd (Zaa rfl) (Zb4 rfl) rfl rfl hl hg) ?_
   refine goA ?_
   refine clG c1 ?_
   refine evG ggA (Zbj (Zaa rfl) (Zak rfl) rfl rfl rfl rfl (Zc2 rfl rfl) (Nat.le_of_ble_eq_true rfl)) ?_
   refine evG ggA (Zgr (a := serA (-((k + 1 : Nat) : Int)) (E (k + 1))) (Zaa rfl) (Zak rfl) rfl rfl hl rfl rfl (by decide) rfl (by omega) (Nat.le_of_ble_eq_true rfl) rfl) ?_
   rw [hs]
   refine goA ?_
   exact Zac (k := n - (k + 1)) (s' := mkS [(0, .v (iV n)), (5, .ptr 5 0), (9, .own 60 (k + 1 + 1)), (10, .v (iV (((k + 1 : Nat) : Int) + 1)))] [(5, .var [.v (iV (-1)), .v (.sl J)]), (60, .lst 2 25 (pwA E (k + 1)))] 50 true) (by omega) (by rw [show ((k + 1 : Nat) : Int) = (k : Int) + 1 by omega]; exact entA) ⟨k + 1, rfl, by omega, rfl⟩
  ·obtain rfl : k = n := by omega
   have b1 : decide ((k : Int) + 1 ≤ k) = false := decide_eq_false (by omega)
   refine goA ?_
   exact midE
 have hl := pwA_len E n
 refine T.weak (s' := mkS [(9, .v (.sl (pwA E n)))] [] 50 true) entA ?_
 refine goA ?_
 exact rfl
def oZ (c : Nat → Rat) (m k : Nat) : List AV := (List.range (m + 1)).map fun i => if m < i + k then encQ (c (m - i)) else encQ 0
theorem Zgz (c : Nat → Rat) (m k : Nat) : (oZ c m k).length = m + 1 := by simp [oZ]
theorem oZ_0 (c : Nat → Rat) (m : Nat) : (tk (fun _ => (0 : Rat)) (m + 1)).map encQ = oZ c m 0 := by
 unfold tk oZ
 rw [List.map_map]
 refine List.map_congr_left fun i hi => ?_
 have := List.mem_range.1 hi
 rw [if_neg (by omega)]
 rfl
theorem oZ_at (c : Nat → Rat) (m k i : Nat) : (oZ c m k)[i]? = if i < m + 1 then some (if m < i + k then encQ (c (m - i)) else encQ 0) else none := by
 unfold oZ
 rw [List.getElem?_map]
 by_cases h : i < m + 1
 ·rw [List.getElem?_range h, if_pos h]
  rfl
 ·rw [if_neg h, List.getElem?_eq_none (by simp; omega)]
  rfl
theorem oZ_set (c : Nat → Rat) {m k : Nat} (h : k ≤ m) : (oZ c m k).set (m - k) (encQ (c k)) = oZ c m (k + 1) := by
 apply List.ext_getElem?
 intro i
 rw [List.getElem?_set, oZ_at, oZ_at, Zgz]
 by_cases e : m - k = i
 ·subst e
  rw [if_pos rfl, if_pos (by omega), if_pos (by omega), if_pos (by omega), show m - (m - k) = k by omega]
 ·rw [if_neg e]
  by_cases e2 : m < i + k
  ·rw [if_pos e2, if_pos (show m < i + (k + 1) by omega)]
  ·rw [if_neg e2, if_neg (show ¬ m < i + (k + 1) by omega)]
theorem oZ_get (c : Nat → Rat) {m k : Nat} (h : k ≤ m) : (oZ c m (k + 1))[m - k]? = some (encQ (c k)) := by
 rw [oZ_at, if_pos (by omega), if_pos (by omega), show m - (m - k) = k by omega]
theorem oZ_end (c : Nat → Rat) (m : Nat) : oZ c m (m + 1) = ((List.range (m + 1)).map fun i => c (m - i)).map encQ := by
 unfold oZ
 rw [List.map_map]
 refine List.map_congr_left fun i hi => ?_
 rw [if_pos (by omega)]
 rfl
set_option maxHeartbeats 8000000 in
theorem faber39_core {m : Nat} (hm : m ≤ 20) {PL xs xs' : List AV} {g g' : Bool} {c : Nat → Rat} {aS pS qS : Nat → Int} {aL pL qL : Nat → List AV}
  (hPw : PC Tryz.prog 23 [iV m, iV 1] (.sl PL))
  (hQ : PC Tryz.prog 26 [iV 1] (.agg [.p (.bool g), .sl xs, .p (.bool g'), .sl xs']))
  (hMon : PC Tryz.prog 25 [.agg [.p (.bool g), .sl xs, .p (.bool g'), .sl xs'], iV (0 - (m : Int)), iV 1] (.tup [serA (aS 0) (aL 0), iV 0]))
  (hPL : ∀ k, k ≤ m → PL[m - k]? = some (.agg [.p (.int .i64 (pS k)), .sl (pL k)]))
  (hAg : ∀ k, ∃ g xs g' xs', encQ (c k) = .agg [.p (.bool g), .sl xs, .p (.bool g'), .sl xs'])
  (hZ : PCO Tryz.prog 24 [iV ((m : Int) + 1)] 4 49 (oZ c m 0))
  (hCoef : ∀ k, k ≤ m → PC Tryz.prog 27 [serA (aS k) (aL k), iV (0 - ((m : Int) - k))] (encQ (c k)))
  (hScl : ∀ k, k ≤ m → PC Tryz.prog 28 [encQ (c k), .agg [.p (.int .i64 (pS k)), .sl (pL k)]] (.tup [serA (qS k) (qL k), iV 0]))
  (hSub : ∀ k, k ≤ m → PC Tryz.prog 29 [serA (aS k) (aL k), serA (qS k) (qL k)] (.tup [serA (aS (k + 1)) (aL (k + 1)), iV 0])) :
  PC Tryz.prog 10 [iV m] (.tup [.sl (oZ c m (m + 1)), iV 0]) := by
 have a1 : decide ((m : Int) < 0) = false := decide_eq_false (by omega)
 have a2 : decide ((m : Int) > 20) = false := decide_eq_false (by omega)
 have hz0 := Zgz c m 0
 refine pb2 Tryz.func10 Zab.tmp Zab.tmp ?_
 refine r1A ?_
 refine T.seqE (mkS [(0, .v (iV m))] [] 60 true) ?_ ?_
 ·refine goA ?_
  exact midE
 refine T.seqE (mkS [(0, .v (iV m)), (4, .v (.sl PL))] [] 60 true) ?_ ?_
 ·refine goA ?_
  refine clG hPw ?_
  exact midE
 refine T.seqE (mkS [(0, .v (iV m)), (4, .v (.sl PL)), (5, .own 60 (m + 1))] [(60, .lst 4 49 (oZ c m 0))] 60 true) ?_ ?_
 ·refine T.regionO 2 ?_
  show EvL _ _ _ (_ :: _) _ _
  refine runA ?_
  refine Zao ?_
  refine ocall 60 hZ rfl rfl rfl rfl ?_
  refine runA ?_
  refine Zao ?_
  exact Zae (s' := mkS [(0, .v (iV m)), (4, .v (.sl PL)), (5, .own 60 (oZ c m 0).length)] [(60, .lst 4 49 (oZ c m 0))] 60 true) entA (by rw [hz0])
 refine T.seqE (mkS [(0, .v (iV m)), (4, .v (.sl PL)), (5, .own 60 (m + 1)), (6, .ptr 6 0)] [(6, .var [.v (iV (aS 0)), .v (.sl (aL 0))]), (60, .lst 4 49 (oZ c m 0))] 60 true) ?_ ?_
 ·refine goA ?_
  refine clG hQ ?_
  refine clG hMon ?_
  exact midE
 refine T.seqE (mkS [(5, .own 60 (m + 1)), (6, .ptr 6 0)] [(6, .var [.v (iV (aS (m + 1))), .v (.sl (aL (m + 1)))]), (60, .lst 4 49 (oZ c m (m + 1)))] 60 true) ?_ ?_
 ·refine r1A ?_
  refine T.block ?_
  refine T.loop (fun N s1 => ∃ k : Nat, N = m + 1 - k ∧ k ≤ m + 1 ∧ s1 = mkS [(4, .v (.sl PL)), (5, .own 60 (m + 1)), (6, .ptr 6 0), (8, .v (iV ((m : Int) - k)))] [(6, .var [.v (iV (aS k)), .v (.sl (aL k))]), (60, .lst 4 49 (oZ c m k))] 60 true) (m + 1)
   (s' := mkS [(4, .v (.sl PL)), (5, .own 60 (m + 1)), (6, .ptr 6 0), (8, .v (iV ((m : Int) - (0 : Nat))))] [(6, .var [.v (iV (aS 0)), .v (.sl (aL 0))]), (60, .lst 4 49 (oZ c m 0))] 60 true) (by rw [show (m : Int) - (0 : Nat) = m by omega]; exact entA) ⟨0, rfl, Nat.zero_le _, rfl⟩ ?_
  rintro _ _ ⟨k, rfl, hk, rfl⟩
  by_cases hlt : k ≤ m
  ·have b1 : decide ((m : Int) - k ≥ 0) = true := decide_eq_true (by omega)
   have c1 := hCoef k hlt
   have c2 := hScl k hlt
   have c3 := hSub k hlt
   have hl := Zgz c m k
   have hl' := Zgz c m (k + 1)
   have hs := oZ_set c hlt
   have hg := oZ_get c hlt
   have ht : ((m : Int) - k).toNat = m - k := by omega
   have hx := hPL k hlt
   have hnx : (m : Int) - k - 1 = (m : Int) - ((k + 1 : Nat) : Int) := by omega
   obtain ⟨g, xs, g', xs', e⟩ := hAg k
   rw [e] at c1 c2 hs hg
   rw [← ht] at hx
   refine goA ?_
   refine clG c1 ?_
   refine evG ggA (Zap (Zaa rfl) (Zat rfl) rfl rfl hl rfl (by omega) (by omega)) ?_
   rw [ht]
   refine evG ggA (Zba (x := .agg [.p (.bool g), .sl xs, .p (.bool g'), .sl xs']) rfl (Zbu rfl) rfl rfl hl (by omega) rfl rfl (fun l e => by cases e) rfl) ?_
   rw [hs]
   refine goA ?_
   refine evG ggA (Zap (Zaa rfl) (Zat rfl) rfl rfl hl' rfl (by omega) (by omega)) ?_
   rw [ht]
   refine evG ggA (Zbd (Zaa rfl) (Zb4 rfl) rfl rfl hl' hg) ?_
   refine goA ?_
   refine ixG hx ?_
   refine clG c2 ?_
   refine clG c3 ?_
   rw [hnx]
   exact Zac (k := m + 1 - (k + 1)) (s' := mkS [(4, .v (.sl PL)), (5, .own 60 (m + 1)), (6, .ptr 6 0), (8, .v (iV ((m : Int) - ((k + 1 : Nat) : Int))))] [(6, .var [.v (iV (aS (k + 1))), .v (.sl (aL (k + 1)))]), (60, .lst 4 49 (oZ c m (k + 1)))] 60 true) (by omega) entA ⟨k + 1, rfl, by omega, rfl⟩
  ·obtain rfl : k = m + 1 := by omega
   have b1 : decide ((m : Int) - ((m + 1 : Nat) : Int) ≥ 0) = false := decide_eq_false (by omega)
   refine goA ?_
   exact midE
 have hx0 := Zgz c m (m + 1)
 refine T.weak (s' := mkS [(5, .v (.sl (oZ c m (m + 1))))] [] 60 true) entA ?_
 refine goA ?_
 exact rfl
theorem faber39_no {m : Int} (h : ¬ (0 ≤ m ∧ m ≤ 20)) : PC Tryz.prog 10 [iV m] (.tup [.sl [], iV 2]) := by
 by_cases h1 : m < 0
 ·have b1 : decide (m < 0) = true := decide_eq_true h1
  refine pb2 Tryz.func10 Zab.tmp Zab.tmp ?_
  refine goA ?_
  exact rfl
 ·have b1 : decide (m < 0) = false := decide_eq_false h1
  have b2 : decide (m > 20) = true := decide_eq_true (by omega)
  refine pb2 Tryz.func10 Zab.tmp Zab.tmp ?_
  refine goA ?_
  exact rfl
end Ab
