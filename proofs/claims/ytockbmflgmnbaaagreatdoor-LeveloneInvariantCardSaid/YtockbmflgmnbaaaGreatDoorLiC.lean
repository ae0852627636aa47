/- The degree of a polynomial and the peeling of a series by powers of j, of the program: walked. Condition: the contracts of what is called. -/
import Derived.Test.YtockbmflgmnbaaaGreatDoorZJ
import Derived.Test.YtockbmflgmnbaaaGreatDoorSHK
import Derived.Test.YtockbmflgmnbaaaGreatDoorLiB
set_option linter.all false
namespace Ab
open Go Go.RowKit Go.Proofs Hp
set_option maxRecDepth 100000
theorem degreeL_p {es : List AV} {l : List Rat} {K : Nat} (h : IsL es K l) (hK : K ≤ 1000000000) (hl : l.length ≤ 1000) : PC Tryz.prog 30 [.sl es] (iV ((pdg l : Int) - 1)) := by
 have hlen := h.get.1
 have r1 := rev_len l
 obtain ⟨N, hN⟩ : ∃ N : Int, N = ((es.length : Nat) : Int) - 1 := ⟨_, rfl⟩
 refine pb1 Tryz.func30 Zab.tmp ?_
 refine goA ?_
 rw [← hN]
 refine T.loop (fun M s1 => ∃ k : Nat, M = lead l.reverse - k ∧ k ≤ lead l.reverse ∧ s1 = mkS [(0, .v (.sl es)), (3, .v (iV (N - k)))] [] 20 true) (lead l.reverse)
  (s' := mkS [(0, .v (.sl es)), (3, .v (iV (N - (0 : Nat))))] [] 20 true) (by rw [show N - (0 : Nat) = N by omega]; exact entA) ⟨0, rfl, Nat.zero_le _, rfl⟩ ?_
 rintro _ _ ⟨k, rfl, hk, rfl⟩
 by_cases hin : k < l.length
 ·have b1 : decide (N - (k : Int) ≥ 0) = true := decide_eq_true (by omega)
  have hi : (N - (k : Int)).toNat = l.length - 1 - k := by omega
  obtain ⟨q, hq⟩ : ∃ q, l[l.length - 1 - k]? = some q := by
   cases e : l[l.length - 1 - k]? with
   | none => rw [List.getElem?_eq_none_iff] at e; omega
   | some q => exact ⟨q, rfl⟩
  obtain ⟨a, ha, hv⟩ := h.get.2 _ q hq
  obtain ⟨sg, -, -, s0, cs⟩ := rsign_p hv (by omega)
  rw [← hi] at ha
  obtain ⟨g, xs, g', xs', e⟩ := Za4 hv
  rw [e] at cs ha
  by_cases hlt : k < lead l.reverse
  ·have b2 : (sg == 0) = true := by
    rw [beq_iff_eq]
    refine s0.2 ?_
    rw [pdg_zero hlt] at hq
    injection hq with hq
    exact hq.symm
   have hnx : N - (k : Int) - 1 = N - ((k + 1 : Nat) : Int) := by omega
   refine goA ?_
   refine ixG ha ?_
   refine clG cs ?_
   rw [hnx]
   exact Zac (k := lead l.reverse - (k + 1)) (s' := mkS [(0, .v (.sl es)), (3, .v (iV (N - ((k + 1 : Nat) : Int))))] [] 20 true) (by omega) entA ⟨k + 1, rfl, by omega, rfl⟩
  ·obtain rfl : k = lead l.reverse := by omega
   have b2 : (sg == 0) = false := by
    rw [beq_eq_false_iff_ne]
    exact fun e => pdg_ne hin hq (s0.1 e)
   have er : N - (lead l.reverse : Int) = (pdg l : Int) - 1 := by unfold pdg; omega
   refine goA ?_
   refine ixG ha ?_
   refine clG cs ?_
   rw [er]
   exact rfl
 ·obtain rfl : k = lead l.reverse := by omega
  have b1 : decide (N - (lead l.reverse : Int) ≥ 0) = false := decide_eq_false (by omega)
  have er : N - (lead l.reverse : Int) = (pdg l : Int) - 1 := by unfold pdg; omega
  refine goA ?_
  rw [er]
  exact rfl
abbrev Zgc : Blk := .var [.v (iV 0), .v (.p nilV)]
def oA (c : Nat → Rat) (m k : Nat) : List AV := (List.range (m + 1)).map fun i => if m < i + k then encQ (c (m - i)) else rz
theorem oA_len (c : Nat → Rat) (m k : Nat) : (oA c m k).length = m + 1 := by simp [oA]
theorem oA_0 (c : Nat → Rat) (m : Nat) : List.replicate (m + 1) rz = oA c m 0 := by
 refine (List.eq_replicate_iff.2 ⟨oA_len c m 0, fun b hb => ?_⟩).symm
 obtain ⟨i, hi, rfl⟩ := List.mem_map.1 hb
 have := List.mem_range.1 hi
 rw [if_neg (by omega)]
theorem oA_at (c : Nat → Rat) (m k i : Nat) : (oA c m k)[i]? = if i < m + 1 then some (if m < i + k then encQ (c (m - i)) else rz) else none := by
 unfold oA
 rw [List.getElem?_map]
 by_cases h : i < m + 1
 ·rw [List.getElem?_range h, if_pos h]
  rfl
 ·rw [if_neg h, List.getElem?_eq_none (by simp; omega)]
  rfl
theorem oA_set (c : Nat → Rat) {m k : Nat} (h : k ≤ m) : (oA c m k).set (m - k) (encQ (c k)) = oA c m (k + 1) := by
 apply List.ext_getElem?
 intro i
 rw [List.getElem?_set, oA_at, oA_at, oA_len]
 by_cases e : m - k = i
 ·subst e
  rw [if_pos rfl, if_pos (by omega), if_pos (by omega), if_pos (by omega), show m - (m - k) = k by omega]
 ·rw [if_neg e]
  by_cases e2 : m < i + k
  ·rw [if_pos e2, if_pos (show m < i + (k + 1) by omega)]
  ·rw [if_neg e2, if_neg (show ¬ m < i + (k + 1) by omega)]
theorem oA_end (c : Nat → Rat) (m : Nat) : oA c m (m + 1) = ((List.range (m + 1)).map fun i => c (m - i)).map encQ := by
 unfold oA
 rw [List.map_map]
 refine List.map_congr_left fun i hi => ?_
 rw [if_pos (by omega)]
 rfl
set_option maxHeartbeats 8000000 in
theorem peel_core {m : Nat} (hm : m ≤ 100) {aS pS : Nat → Int} {aL pL qL mo : Nat → List AV} {c : Nat → Rat} {sj : Int} {J : List AV} {K : Nat} (hK : 1 ≤ K ∧ K ≤ 1000000000)
  (hc : ∀ k, k ≤ m → Ht (c k) K)
  (hAt : ∀ k, k ≤ m → PC Tryz.prog 50 [serA (aS k) (aL k), iV (0 - ((m : Int) - k))] (.tup [encQ (c k), iV 0]))
  (hz : ∀ k, k ≤ m → c k = 0 → aS (k + 1) = aS k ∧ aL (k + 1) = aL k)
  (hMon : ∀ k, k ≤ m → c k ≠ 0 → PC Tryz.prog 20 [encQ (c k), iV 0, iV 1000] (.tup [serA 0 (mo k), iV 0]))
  (hPow : ∀ k, k < m → c k ≠ 0 → PC Tryz.prog 46 [serA sj J, iV ((m : Int) - k)] (.tup [serA (pS k) (pL k), iV 0]))
  (hScl : ∀ k, k < m → c k ≠ 0 → PC Tryz.prog 52 [encQ (c k), serA (pS k) (pL k)] (.tup [serA (pS k) (qL k), iV 0]))
  (hSub : ∀ k, k < m → c k ≠ 0 → PC Tryz.prog 53 [serA (aS k) (aL k), serA (pS k) (qL k)] (.tup [serA (aS (k + 1)) (aL (k + 1)), iV 0]))
  (hSub0 : c m ≠ 0 → PC Tryz.prog 53 [serA (aS m) (aL m), serA 0 (mo m)] (.tup [serA (aS (m + 1)) (aL (m + 1)), iV 0])) :
  PC Tryz.prog 22 [serA (aS 0) (aL 0), serA sj J, iV m] (.tup [.sl (oA c m (m + 1)), serA (aS (m + 1)) (aL (m + 1))]) := by
 refine pb2 Tryz.func22 Zab.tmp (Zab.agg Zaf) ?_
 refine goA ?_
 refine evG ggA (Zdo 30 (e0 := rz) (Zaa rfl) (Zak rfl) rfl rfl rfl (by omega) (by omega) (by omega) (by omega) rfl rfl rfl) ?_
 rw [show ((m : Int) + 1).toNat = m + 1 by omega, oA_0 c m]
 refine runA ?_
 refine Zao ?_
 refine osA ?_
 refine T.seqE (mkS [(3, .ptr 3 0), (7, .ptr 7 0), (8, .own 30 (m + 1))] [(3, .var [.v (iV (aS (m + 1))), .v (.sl (aL (m + 1)))]), (7, Zgc), (30, .lst 4 49 (oA c m (m + 1)))] 63 true) ?_ ?_
 ·refine r1A ?_
  refine T.block ?_
  refine T.loop (fun N s1 => ∃ k : Nat, N = m + 1 - k ∧ k ≤ m + 1 ∧ s1 = mkS [(3, .ptr 3 0), (4, .ptr 4 0), (7, .ptr 7 0), (8, .own 30 (m + 1)), (9, .v (iV ((m : Int) - k)))] [(3, .var [.v (iV (aS k)), .v (.sl (aL k))]), (4, .var [.v (iV sj), .v (.sl J)]), (7, Zgc), (30, .lst 4 49 (oA c m k))] 63 true) (m + 1)
   (s' := mkS [(3, .ptr 3 0), (4, .ptr 4 0), (7, .ptr 7 0), (8, .own 30 (m + 1)), (9, .v (iV ((m : Int) - (0 : Nat))))] [(3, .var [.v (iV (aS 0)), .v (.sl (aL 0))]), (4, .var [.v (iV sj), .v (.sl J)]), (7, Zgc), (30, .lst 4 49 (oA c m 0))] 63 true) (by rw [show (m : Int) - (0 : Nat) = m by omega]; exact entA) ⟨0, rfl, Nat.zero_le _, rfl⟩ ?_
  rintro _ _ ⟨k, rfl, hk, rfl⟩
  by_cases hlt : k ≤ m
  ·have b1 : decide ((m : Int) - k ≥ 0) = true := decide_eq_true (by omega)
   have c1 := hAt k hlt
   have hck := hc k hlt
   obtain ⟨sg, -, -, s0, c2⟩ := rsign_p (Zad hck) (by omega)
   have hl := oA_len c m k
   have hs := oA_set c hlt
   have ht : ((m : Int) - k).toNat = m - k := by omega
   have c3 := hMon k hlt
   have c4 := hPow k
   have c5 := hScl k
   have c6 := hSub k
   have c7 := hSub0
   have hnx : (m : Int) - k - 1 = (m : Int) - ((k + 1 : Nat) : Int) := by omega
   obtain ⟨g, xs, g', xs', e⟩ := Za4 (Zad hck)
   by_cases h0 : c k = 0
   ·obtain ⟨z1, z2⟩ := hz k hlt h0
    have b2 : (sg == 0) = true := by rw [beq_iff_eq]; exact s0.2 h0
    rw [e] at c1 c2 hs
    refine goA ?_
    refine clG c1 ?_
    refine evG ggA (Zap (Zaa rfl) (Zat rfl) rfl rfl hl rfl (by omega) (by omega)) ?_
    rw [ht]
    refine evG ggA (Zba (x := .agg [.p (.bool g), .sl xs, .p (.bool g'), .sl xs']) rfl (Zbu rfl) rfl rfl hl (by omega) rfl rfl (fun l e => by cases e) rfl) ?_
    rw [hs]
    refine goA ?_
    refine clG c2 ?_
    rw [hnx, ← z1, ← z2]
    exact Zac (k := m + 1 - (k + 1)) (s' := mkS [(3, .ptr 3 0), (4, .ptr 4 0), (7, .ptr 7 0), (8, .own 30 (m + 1)), (9, .v (iV ((m : Int) - ((k + 1 : Nat) : Int))))] [(3, .var [.v (iV (aS (k + 1))), .v (.sl (aL (k + 1)))]), (4, .var [.v (iV sj), .v (.sl J)]), (7, Zgc), (30, .lst 4 49 (oA c m (k + 1)))] 63 true) (by omega) entA ⟨k + 1, rfl, by omega, rfl⟩
   ·have b2 : (sg == 0) = false := by
     rw [beq_eq_false_iff_ne]
     exact fun e => h0 (s0.1 e)
    have c3 := c3 h0
    by_cases hkm : k < m
    ·have b3 : decide ((m : Int) - k > 0) = true := decide_eq_true (by omega)
     have c4 := c4 hkm h0
     have c5 := c5 hkm h0
     have c6 := c6 hkm h0
     rw [e] at c1 c2 c3 c5 hs
     refine goA ?_
     refine clG c1 ?_
     refine evG ggA (Zap (Zaa rfl) (Zat rfl) rfl rfl hl rfl (by omega) (by omega)) ?_
     rw [ht]
     refine evG ggA (Zba (x := .agg [.p (.bool g), .sl xs, .p (.bool g'), .sl xs']) rfl (Zbu rfl) rfl rfl hl (by omega) rfl rfl (fun l e => by cases e) rfl) ?_
     rw [hs]
     refine goA ?_
     refine clG c2 ?_
     refine clG c3 ?_
     refine clG c4 ?_
     refine clG c5 ?_
     refine clG c6 ?_
     rw [hnx]
     exact Zac (k := m + 1 - (k + 1)) (s' := mkS [(3, .ptr 3 0), (4, .ptr 4 0), (7, .ptr 7 0), (8, .own 30 (m + 1)), (9, .v (iV ((m : Int) - ((k + 1 : Nat) : Int))))] [(3, .var [.v (iV (aS (k + 1))), .v (.sl (aL (k + 1)))]), (4, .var [.v (iV sj), .v (.sl J)]), (7, Zgc), (30, .lst 4 49 (oA c m (k + 1)))] 63 true) (by omega) entA ⟨k + 1, rfl, by omega, rfl⟩
    ·obtain rfl : k = m := by omega
     have b3 : decide ((k : Int) - k > 0) = false := decide_eq_false (by omega)
     have c7 := c7 h0
     rw [e] at c1 c2 c3 hs
     refine goA ?_
     refine clG c1 ?_
     refine evG ggA (Zap (Zaa rfl) (Zat rfl) rfl rfl hl rfl (by omega) (by omega)) ?_
     rw [ht]
     refine evG ggA (Zba (x := .agg [.p (.bool g), .sl xs, .p (.bool g'), .sl xs']) rfl (Zbu rfl) rfl rfl hl (by omega) rfl rfl (fun l e => by cases e) rfl) ?_
     rw [hs]
     refine goA ?_
     refine clG c2 ?_
     refine clG c3 ?_
     refine clG c7 ?_
     rw [hnx]
     exact Zac (k := k + 1 - (k + 1)) (s' := mkS [(3, .ptr 3 0), (4, .ptr 4 0), (7, .ptr 7 0), (8, .own 30 (k + 1)), (9, .v (iV ((k : Int) - ((k + 1 : Nat) : Int))))] [(3, .var [.v (iV (aS (k + 1))), .v (.sl (aL (k + 1)))]), (4, .var [.v (iV sj), .v (.sl J)]), (7, Zgc), (30, .lst 4 49 (oA c k (k + 1)))] 63 true) (by omega) entA ⟨k + 1, rfl, by omega, rfl⟩
  ·obtain rfl : k = m + 1 := by omega
   have b1 : decide ((m : Int) - ((m + 1 : Nat) : Int) ≥ 0) = false := decide_eq_false (by omega)
   refine goA ?_
   exact midE
 have hx0 := oA_len c m (m + 1)
 refine T.weak (s' := mkS [(3, .ptr 3 0), (7, .ptr 7 0), (8, .v (.sl (oA c m (m + 1))))] [(3, .var [.v (iV (aS (m + 1))), .v (.sl (aL (m + 1)))]), (7, Zgc)] 63 true) entA ?_
 refine goA ?_
 exact rfl
end Ab
