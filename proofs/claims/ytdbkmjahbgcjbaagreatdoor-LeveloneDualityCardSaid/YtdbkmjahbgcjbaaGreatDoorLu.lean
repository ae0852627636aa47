/- The statement LeveloneDuality: walked; no condition beyond the range of its arguments. -/
import Derived.Test.YtdbkmjahbgcjbaaGreatDoorZJ
import Derived.Test.YtdbkmjahbgcjbaaGreatDoorHjA
import Derived.Test.YtdbkmjahbgcjbaaGreatDoorLx
set_option linter.all false
namespace Ab
open Go Go.RowKit Go.Proofs Hp
set_option maxRecDepth 100000
abbrev QP (f : FuncId) (a : List AV) (r : AV) : Prop := PC Tryz.prog f a r
abbrev rg (g : Bool) (x : List AV) (h : Bool) (y : List AV) : AV := .agg [.p (.bool g), .sl x, .p (.bool h), .sl y]
theorem degree_p {l : List Rat} {n K : Nat} (hl : l.length = n + 1) (hn : n ≤ 1000) (hK : 1 ≤ K ∧ K ≤ 1000) (h : ∀ q, q ∈ l → Ht q K) (h0 : l.getD n 0 ≠ 0) : QP 115 [.sl (l.map encQ)] (iV n) := by
 have hq : Ht (l.getD n 0) K := getD_ht hK.1 h n
 have hx : (l.map encQ)[((n : Int)).toNat]? = some (encQ (l.getD n 0)) := by
  rw [show ((n : Int)).toNat = n by omega, List.getElem?_map, List.getD_eq_getElem?_getD]
  cases e : l[n]? with
  | none => rw [List.getElem?_eq_none_iff] at e; omega
  | some q => rfl
 obtain ⟨sg, -, -, s0, cs⟩ := rsign_p (isV_encQ hq) (by omega)
 have hs : (sg == 0) = false := by
  rw [beq_eq_false_iff_ne]
  exact fun e => h0 (s0.1 e)
 have hlen : (((l.map encQ).length : Nat) : Int) = (n : Int) + 1 := by rw [List.length_map, hl]; omega
 generalize l.map encQ = es at *
 obtain ⟨g, xs, g', xs', e⟩ := isV_cells (isV_encQ hq)
 rw [e] at cs hx
 clear e
 obtain ⟨N, hN⟩ : ∃ N : Int, N = ((es.length : Nat) : Int) - 1 := ⟨_, rfl⟩
 have e2 : (n : Int) = N := by omega
 rw [e2] at hx ⊢
 have b1 : decide (N ≥ 0) = true := decide_eq_true (by omega)
 refine pc_body1 true Tryz.func115 rfl rfl rfl (Nat.le_of_ble_eq_true rfl) CellT.tmp ?_
 refine goA ?_
 rw [← hN]
 refine T.loop (fun k s1 => k = 0 ∧ s1 = mkS [(0, .v (.sl es)), (3, .v (iV N))] [] 20 true) 0
  (s' := mkS [(0, .v (.sl es)), (3, .v (iV N))] [] 20 true) (by exact entA) ⟨rfl, rfl⟩ ?_
 rintro _ _ ⟨rfl, rfl⟩
 refine goA ?_
 refine evG ggA (ss_index_sl (InB_of rfl) (elem_tab rfl) rfl rfl (by omega) hx rfl) ?_
 refine goA ?_
 refine evG ggA (ss_call (InB_of rfl) rfl rfl cs) ?_
 refine goA ?_
 exact rfl
abbrev pvar0 : Blk := .var [.v (iV 0), .v (.p nilV)]
def oA (c : Nat → Rat) (m k : Nat) : List AV := (List.range (m + 1)).map fun i => if m < i + k then encQ (c (m - i)) else rz
theorem oA_len (c : Nat → Rat) (m k : Nat) : (oA c m k).length = m + 1 := by simp [oA]
theorem oA_0 (c : Nat → Rat) (m : Nat) : List.replicate (m + 1) rz = oA c m 0 := by
 refine (List.eq_replicate_iff.2 ⟨oA_len c m 0, fun b hb => ?_⟩).symm
 obtain ⟨i, hi, rfl⟩ := List.mem_map.1 hb
 have := List.mem_range.1 hi
 rw [if_neg (by omega)]
theorem oA_at (c : Nat → Rat) (m k i : Nat) : (oA c m k)[i]? = if i < m + 1 then some (if m < i + k then encQ (c (m - i)) else rz) else none := by
 unfold oA
 rw [List.getElem?_map]
 by_cases h : i < m + 1
 ·rw [List.getElem?_range h, if_pos h]
  rfl
 ·rw [if_neg h, List.getElem?_eq_none (by simp; omega)]
  rfl
theorem oA_set (c : Nat → Rat) {m k : Nat} (h : k ≤ m) : (oA c m k).set (m - k) (encQ (c k)) = oA c m (k + 1) := by
 apply List.ext_getElem?
 intro i
 rw [List.getElem?_set, oA_at, oA_at, oA_len]
 by_cases e : m - k = i
 ·subst e
  rw [if_pos rfl, if_pos (by omega), if_pos (by omega), if_pos (by omega), show m - (m - k) = k by omega]
 ·rw [if_neg e]
  by_cases e2 : m < i + k
  ·rw [if_pos e2, if_pos (show m < i + (k + 1) by omega)]
  ·rw [if_neg e2, if_neg (show ¬ m < i + (k + 1) by omega)]
theorem oA_end (c : Nat → Rat) (m : Nat) : oA c m (m + 1) = ((List.range (m + 1)).map fun i => c (m - i)).map encQ := by
 unfold oA
 rw [List.map_map]
 refine List.map_congr_left fun i hi => ?_
 rw [if_pos (by omega)]
 rfl
set_option maxHeartbeats 8000000 in
theorem peel_core {m : Nat} (hm : m ≤ 100) {aS pS : Nat → Int} {aL pL qL mo : Nat → List AV} {c : Nat → Rat} {sj : Int} {J : List AV} {K : Nat} (hK : 1 ≤ K ∧ K ≤ 1000)
  (hc : ∀ k, k ≤ m → Ht (c k) K)
  (hAt : ∀ k, k ≤ m → QP 84 [serA (aS k) (aL k), iV (0 - ((m : Int) - k))] (.tup [encQ (c k), iV 0]))
  (hz : ∀ k, k ≤ m → c k = 0 → aS (k + 1) = aS k ∧ aL (k + 1) = aL k)
  (hMon : ∀ k, k ≤ m → c k ≠ 0 → QP 113 [encQ (c k), iV 0, iV 1000] (.tup [serA 0 (mo k), iV 0]))
  (hPow : ∀ k, k < m → c k ≠ 0 → QP 46 [serA sj J, iV ((m : Int) - k)] (.tup [serA (pS k) (pL k), iV 0]))
  (hScl : ∀ k, k < m → c k ≠ 0 → QP 48 [encQ (c k), serA (pS k) (pL k)] (.tup [serA (pS k) (qL k), iV 0]))
  (hSub : ∀ k, k < m → c k ≠ 0 → QP 47 [serA (aS k) (aL k), serA (pS k) (qL k)] (.tup [serA (aS (k + 1)) (aL (k + 1)), iV 0]))
  (hSub0 : c m ≠ 0 → QP 47 [serA (aS m) (aL m), serA 0 (mo m)] (.tup [serA (aS (m + 1)) (aL (m + 1)), iV 0])) :
  QP 114 [serA (aS 0) (aL 0), serA sj J, iV m] (.tup [.sl (oA c m (m + 1)), serA (aS (m + 1)) (aL (m + 1))]) := by
 refine pc_body2 true Tryz.func114 rfl rfl rfl (Nat.le_of_ble_eq_true rfl) CellT.tmp (CellT.agg agg_ser) ?_
 refine goA ?_
 refine evG ggA (ss_make 30 (e0 := rz) (InB_of rfl) (make_tab rfl) rfl rfl rfl (by omega) (by omega) (by omega) (by omega) rfl rfl rfl) ?_
 rw [show ((m : Int) + 1).toNat = m + 1 by omega, oA_0 c m]
 refine runA ?_
 refine ev_nil ?_
 (repeat (first | with_reducible refine seqQ_n ?_ | with_reducible refine seqQ_e ?_ | with_reducible refine seqQ_r ?_ | with_reducible refine blockQ_n ?_ | with_reducible refine blockQ_r ?_ | with_reducible refine blockQ_e rfl ?_ | with_reducible refine blockQ_o rfl ?_ | with_reducible refine loopQ_e ?_ | with_reducible refine loopQ_r ?_ | with_reducible refine midQ_e ?_ | with_reducible refine midQ_r ?_ | with_reducible refine roundQ_n ?_ | with_reducible refine roundQ_e ?_ | with_reducible refine roundQ_r ?_))
 refine T.seqI (fun s1 => s1 = mkS [(3, .ptr 3 0), (7, .ptr 7 0), (8, .own 30 (m + 1))] [(3, .var [.v (iV (aS (m + 1))), .v (.sl (aL (m + 1)))]), (7, pvar0), (30, .lst 4 56 (oA c m (m + 1)))] 63 true) ?_ ?_
 ·refine r1A ?_
  refine T.block ?_
  refine T.loop (fun N s1 => ∃ k : Nat, N = m + 1 - k ∧ k ≤ m + 1 ∧ s1 = mkS [(3, .ptr 3 0), (4, .ptr 4 0), (7, .ptr 7 0), (8, .own 30 (m + 1)), (9, .v (iV ((m : Int) - k)))] [(3, .var [.v (iV (aS k)), .v (.sl (aL k))]), (4, .var [.v (iV sj), .v (.sl J)]), (7, pvar0), (30, .lst 4 56 (oA c m k))] 63 true) (m + 1)
   (s' := mkS [(3, .ptr 3 0), (4, .ptr 4 0), (7, .ptr 7 0), (8, .own 30 (m + 1)), (9, .v (iV ((m : Int) - (0 : Nat))))] [(3, .var [.v (iV (aS 0)), .v (.sl (aL 0))]), (4, .var [.v (iV sj), .v (.sl J)]), (7, pvar0), (30, .lst 4 56 (oA c m 0))] 63 true) (by rw [show (m : Int) - (0 : Nat) = m by omega]; exact entA) ⟨0, rfl, Nat.zero_le _, rfl⟩ ?_
  rintro _ _ ⟨k, rfl, hk, rfl⟩
  by_cases hlt : k ≤ m
  ·have b1 : decide ((m : Int) - k ≥ 0) = true := decide_eq_true (by omega)
   have c1 := hAt k hlt
   have hck := hc k hlt
   obtain ⟨sg, -, -, s0, c2⟩ := rsign_p (isV_encQ hck) (by omega)
   have hl := oA_len c m k
   have hs := oA_set c hlt
   have ht : ((m : Int) - k).toNat = m - k := by omega
   have c3 := hMon k hlt
   have c4 := hPow k
   have c5 := hScl k
   have c6 := hSub k
   have c7 := hSub0
   have hnx : (m : Int) - k - 1 = (m : Int) - ((k + 1 : Nat) : Int) := by omega
   obtain ⟨g, xs, g', xs', e⟩ := isV_cells (isV_encQ hck)
   by_cases h0 : c k = 0
   ·obtain ⟨z1, z2⟩ := hz k hlt h0
    have b2 : (sg == 0) = true := by rw [beq_iff_eq]; exact s0.2 h0
    rw [e] at c1 c2 hs
    refine goA ?_
    refine evG ggA (ss_call (InB_of rfl) rfl rfl c1) ?_
    refine goA ?_
    refine evG ggA (ss_index_own (InB_of rfl) (elem_tab rfl) rfl rfl hl rfl (by omega) (by omega)) ?_
    rw [ht]
    refine evG ggA (ss_store_own (x := .agg [.p (.bool g), .sl xs, .p (.bool g'), .sl xs']) rfl (size_tab rfl) rfl rfl hl (by omega) rfl rfl (fun l e => by cases e) rfl) ?_
    rw [hs]
    refine goA ?_
    refine evG ggA (ss_call (InB_of rfl) rfl rfl c2) ?_
    refine goA ?_
    rw [hnx, ← z1, ← z2]
    exact loopQ_intro (k := m + 1 - (k + 1)) (s' := mkS [(3, .ptr 3 0), (4, .ptr 4 0), (7, .ptr 7 0), (8, .own 30 (m + 1)), (9, .v (iV ((m : Int) - ((k + 1 : Nat) : Int))))] [(3, .var [.v (iV (aS (k + 1))), .v (.sl (aL (k + 1)))]), (4, .var [.v (iV sj), .v (.sl J)]), (7, pvar0), (30, .lst 4 56 (oA c m (k + 1)))] 63 true) (by omega) (by exact entA) ⟨k + 1, rfl, by omega, rfl⟩
   ·have b2 : (sg == 0) = false := by
     rw [beq_eq_false_iff_ne]
     exact fun e => h0 (s0.1 e)
    have c3 := c3 h0
    by_cases hkm : k < m
    ·have b3 : decide ((m : Int) - k > 0) = true := decide_eq_true (by omega)
     have c4 := c4 hkm h0
     have c5 := c5 hkm h0
     have c6 := c6 hkm h0
     rw [e] at c1 c2 c3 c5 hs
     refine goA ?_
     refine evG ggA (ss_call (InB_of rfl) rfl rfl c1) ?_
     refine goA ?_
     refine evG ggA (ss_index_own (InB_of rfl) (elem_tab rfl) rfl rfl hl rfl (by omega) (by omega)) ?_
     rw [ht]
     refine evG ggA (ss_store_own (x := .agg [.p (.bool g), .sl xs, .p (.bool g'), .sl xs']) rfl (size_tab rfl) rfl rfl hl (by omega) rfl rfl (fun l e => by cases e) rfl) ?_
     rw [hs]
     refine goA ?_
     refine evG ggA (ss_call (InB_of rfl) rfl rfl c2) ?_
     refine goA ?_
     refine evG ggA (ss_call (InB_of rfl) rfl rfl c3) ?_
     refine goA ?_
     refine evG ggA (ss_call (InB_of rfl) rfl rfl c4) ?_
     refine goA ?_
     refine evG ggA (ss_call (InB_of rfl) rfl rfl c5) ?_
     refine goA ?_
     refine evG ggA (ss_call (InB_of rfl) rfl rfl c6) ?_
     refine goA ?_
     rw [hnx]
     exact loopQ_intro (k := m + 1 - (k + 1)) (s' := mkS [(3, .ptr 3 0), (4, .ptr 4 0), (7, .ptr 7 0), (8, .own 30 (m + 1)), (9, .v (iV ((m : Int) - ((k + 1 : Nat) : Int))))] [(3, .var [.v (iV (aS (k + 1))), .v (.sl (aL (k + 1)))]), (4, .var [.v (iV sj), .v (.sl J)]), (7, pvar0), (30, .lst 4 56 (oA c m (k + 1)))] 63 true) (by omega) (by exact entA) ⟨k + 1, rfl, by omega, rfl⟩
    ·obtain rfl : k = m := by omega
     have b3 : decide ((k : Int) - k > 0) = false := decide_eq_false (by omega)
     have c7 := c7 h0
     rw [e] at c1 c2 c3 hs
     refine goA ?_
     refine evG ggA (ss_call (InB_of rfl) rfl rfl c1) ?_
     refine goA ?_
     refine evG ggA (ss_index_own (InB_of rfl) (elem_tab rfl) rfl rfl hl rfl (by omega) (by omega)) ?_
     rw [ht]
     refine evG ggA (ss_store_own (x := .agg [.p (.bool g), .sl xs, .p (.bool g'), .sl xs']) rfl (size_tab rfl) rfl rfl hl (by omega) rfl rfl (fun l e => by cases e) rfl) ?_
     rw [hs]
     refine goA ?_
     refine evG ggA (ss_call (InB_of rfl) rfl rfl c2) ?_
     refine goA ?_
     refine evG ggA (ss_call (InB_of rfl) rfl rfl c3) ?_
     refine goA ?_
     refine evG ggA (ss_call (InB_of rfl) rfl rfl c7) ?_
     refine goA ?_
     rw [hnx]
     exact loopQ_intro (k := k + 1 - (k + 1)) (s' := mkS [(3, .ptr 3 0), (4, .ptr 4 0), (7, .ptr 7 0), (8, .own 30 (k + 1)), (9, .v (iV ((k : Int) - ((k + 1 : Nat) : Int))))] [(3, .var [.v (iV (aS (k + 1))), .v (.sl (aL (k + 1)))]), (4, .var [.v (iV sj), .v (.sl J)]), (7, pvar0), (30, .lst 4 56 (oA c k (k + 1)))] 63 true) (by omega) (by exact entA) ⟨k + 1, rfl, by omega, rfl⟩
  ·obtain rfl : k = m + 1 := by omega
   have b1 : decide ((m : Int) - ((m + 1 : Nat) : Int) ≥ 0) = false := decide_eq_false (by omega)
   refine goA ?_
   exact midQ_intro (by exact entA) rfl
 rintro _ rfl
 have hx0 := oA_len c m (m + 1)
 refine T.weak (s' := mkS [(3, .ptr 3 0), (7, .ptr 7 0), (8, .v (.sl (oA c m (m + 1))))] [(3, .var [.v (iV (aS (m + 1))), .v (.sl (aL (m + 1)))]), (7, pvar0)] 63 true) (by exact entA) ?_
 refine goA ?_
 exact rfl
end Ab
namespace Ab
open Go Go.RowKit Go.Proofs Hp
set_option maxRecDepth 100000
set_option maxHeartbeats 8000000 in
theorem ofj_core {d p : Nat} (hd : d ≤ 20) (hp : p ≤ 900) {es : List AV} {c : Nat → Rat} {K : Nat} (hK : 1 ≤ K ∧ K ≤ 1000) {J : List AV} {oS mS nS : Nat → Int} {oL mL mo : Nat → List AV} {rs : Int} {rl : List AV}
  (hdeg : QP 115 [.sl es] (iV d))
  (hJ : QP 19 [iV ((p : Int) + d)] (.tup [serA (-1) J, iV 0]))
  (hc : ∀ k, k ≤ d → Ht (c k) K)
  (hx : ∀ k, k ≤ d → es[d - k]? = some (encQ (c k)))
  (hMon : ∀ k, k ≤ d → QP 113 [encQ (c k), iV 0, iV 1000] (.tup [serA (nS k) (mo k), iV 0]))
  (h0 : oS 0 = nS 0 ∧ oL 0 = mo 0)
  (hMul : ∀ k, k < d → QP 49 [serA (oS k) (oL k), serA (-1) J] (.tup [serA (mS k) (mL k), iV 0]))
  (hAdd : ∀ k, k < d → QP 71 [serA (mS k) (mL k), serA (nS (k + 1)) (mo (k + 1))] (.tup [serA (oS (k + 1)) (oL (k + 1)), iV 0]))
  (hCut : QP 50 [serA (oS d) (oL d), iV p] (.tup [serA rs rl, iV 0])) :
  QP 37 [.sl es, iV p] (.tup [serA rs rl, iV 0]) := by
 have b1 : decide ((d : Int) > 20) = false := decide_eq_false (by omega)
 have b2 : decide ((p : Int) < -100) = false := decide_eq_false (by omega)
 have b3 : decide ((p : Int) > 900) = false := decide_eq_false (by omega)
 have b4 : decide ((d : Int) < 0) = false := decide_eq_false (by omega)
 have hmax : max ((p : Int) + d) 0 = p + d := by omega
 have x0 := hx 0 (Nat.zero_le _)
 have m0 := hMon 0 (Nat.zero_le _)
 rw [Nat.sub_zero, show d = ((d : Nat) : Int).toNat by omega] at x0
 obtain ⟨g, xs, g', xs', e⟩ := isV_cells (isV_encQ (hc 0 (Nat.zero_le _)))
 rw [e] at x0 m0
 rw [← h0.1, ← h0.2] at m0
 clear e h0
 refine pc_body2 true Tryz.func37 rfl rfl rfl (Nat.le_of_ble_eq_true rfl) (CellT.agg agg_ser) CellT.tmp ?_
 refine goA ?_
 refine evG ggA (ss_call (InB_of rfl) rfl rfl hdeg) ?_
 refine goA ?_
 rw [hmax]
 refine evG ggA (ss_call (InB_of rfl) rfl rfl hJ) ?_
 refine goA ?_
 refine evG ggA (ss_index_sl (InB_of rfl) (elem_tab rfl) rfl rfl (by omega) x0 rfl) ?_
 refine goA ?_
 refine evG ggA (ss_call (InB_of rfl) rfl rfl m0) ?_
 refine runA ?_
 refine ev_nil ?_
 (repeat (first | with_reducible refine seqQ_n ?_ | with_reducible refine seqQ_e ?_ | with_reducible refine seqQ_r ?_ | with_reducible refine blockQ_n ?_ | with_reducible refine blockQ_r ?_ | with_reducible refine blockQ_e rfl ?_ | with_reducible refine blockQ_o rfl ?_ | with_reducible refine loopQ_e ?_ | with_reducible refine loopQ_r ?_ | with_reducible refine midQ_e ?_ | with_reducible refine midQ_r ?_ | with_reducible refine roundQ_n ?_ | with_reducible refine roundQ_e ?_ | with_reducible refine roundQ_r ?_))
 refine T.seqI (fun s1 => s1 = mkS [(1, .v (iV p)), (4, .ptr 4 0), (9, .ptr 9 0)] [(4, pvar0), (9, .var [.v (iV (oS d)), .v (.sl (oL d))])] 80 true) ?_ ?_
 ·refine r1A ?_
  refine T.block ?_
  refine T.loop (fun N s1 => ∃ k : Nat, N = d - k ∧ k ≤ d ∧ s1 = mkS [(0, .v (.sl es)), (1, .v (iV p)), (4, .ptr 4 0), (7, .ptr 7 0), (9, .ptr 9 0), (11, .v (iV ((d : Int) - 1 - k)))] [(4, pvar0), (7, .var [.v (iV (-1)), .v (.sl J)]), (9, .var [.v (iV (oS k)), .v (.sl (oL k))])] 80 true) d
   (s' := mkS [(0, .v (.sl es)), (1, .v (iV p)), (4, .ptr 4 0), (7, .ptr 7 0), (9, .ptr 9 0), (11, .v (iV ((d : Int) - 1 - (0 : Nat))))] [(4, pvar0), (7, .var [.v (iV (-1)), .v (.sl J)]), (9, .var [.v (iV (oS 0)), .v (.sl (oL 0))])] 80 true) (by rw [show (d : Int) - 1 - (0 : Nat) = d - 1 by omega]; exact entA) ⟨0, rfl, Nat.zero_le _, rfl⟩ ?_
  rintro _ _ ⟨k, rfl, hk, rfl⟩
  by_cases hlt : k < d
  ·have c1 : decide ((d : Int) - 1 - k ≥ 0) = true := decide_eq_true (by omega)
   have c2 := hMul k hlt
   have c3 := hx (k + 1) (by omega)
   have c4 := hMon (k + 1) (by omega)
   have c5 := hAdd k hlt
   rw [show d - (k + 1) = ((d : Int) - 1 - k).toNat by omega] at c3
   have hnx : (d : Int) - 1 - k - 1 = (d : Int) - 1 - ((k + 1 : Nat) : Int) := by omega
   obtain ⟨g, xs, g', xs', e⟩ := isV_cells (isV_encQ (hc (k + 1) (by omega)))
   rw [e] at c3 c4
   refine goA ?_
   refine evG ggA (ss_call (InB_of rfl) rfl rfl c2) ?_
   refine goA ?_
   refine evG ggA (ss_index_sl (InB_of rfl) (elem_tab rfl) rfl rfl (by omega) c3 rfl) ?_
   refine goA ?_
   refine evG ggA (ss_call (InB_of rfl) rfl rfl c4) ?_
   refine goA ?_
   refine evG ggA (ss_call (InB_of rfl) rfl rfl c5) ?_
   refine goA ?_
   rw [hnx]
   exact loopQ_intro (k := d - (k + 1)) (s' := mkS [(0, .v (.sl es)), (1, .v (iV p)), (4, .ptr 4 0), (7, .ptr 7 0), (9, .ptr 9 0), (11, .v (iV ((d : Int) - 1 - ((k + 1 : Nat) : Int))))] [(4, pvar0), (7, .var [.v (iV (-1)), .v (.sl J)]), (9, .var [.v (iV (oS (k + 1))), .v (.sl (oL (k + 1)))])] 80 true) (by omega) (by exact entA) ⟨k + 1, rfl, by omega, rfl⟩
  ·obtain rfl : k = d := by omega
   have c1 : decide ((k : Int) - 1 - k ≥ 0) = false := decide_eq_false (by omega)
   refine goA ?_
   exact midQ_intro (by exact entA) rfl
 rintro _ rfl
 refine goA ?_
 refine evG ggA (ss_call (InB_of rfl) rfl rfl hCut) ?_
 refine goA ?_
 exact rfl
theorem faber_core {m : Nat} (hm : m ≤ 20) {J A out B : List AV} {sa sb : Int} {g g' : Bool} {xs xs' : List AV}
  (hJ : QP 19 [iV m] (.tup [serA (-1) J, iV 0]))
  (hOf : QP 90 [iV 1] (rg g xs g' xs'))
  (hMon : QP 113 [rg g xs g' xs', iV (0 - (m : Int)), iV 1] (.tup [serA sa A, iV 0]))
  (hPeel : QP 114 [serA sa A, serA (-1) J, iV m] (.tup [.sl out, serA sb B])) :
  QP 36 [iV m] (.tup [.sl out, iV 0]) := by
 have b1 : decide ((m : Int) < 0) = false := decide_eq_false (by omega)
 have b2 : decide ((m : Int) > 20) = false := decide_eq_false (by omega)
 refine pc_body2 true Tryz.func36 rfl rfl rfl (Nat.le_of_ble_eq_true rfl) CellT.tmp CellT.tmp ?_
 refine goA ?_
 refine evG ggA (ss_call (InB_of rfl) rfl rfl hJ) ?_
 refine goA ?_
 refine evG ggA (ss_call (InB_of rfl) rfl rfl hOf) ?_
 refine goA ?_
 refine evG ggA (ss_call (InB_of rfl) rfl rfl hMon) ?_
 refine goA ?_
 refine evG ggA (ss_call (InB_of rfl) rfl rfl hPeel) ?_
 refine goA ?_
 exact rfl
end Ab
namespace Ab
open Go Go.RowKit Go.Proofs Hp
set_option maxRecDepth 100000
set_option maxHeartbeats 8000000 in
theorem dual_core {m n : Nat} (m0 : 1 ≤ m) (m1 : m ≤ 5) (n0 : 1 ≤ n) (n1 : n ≤ 5) {F G X Y : List AV} {sx sy : Int} {g0 h0 : Bool} {x0 y0 : List AV} {g1 h1 : Bool} {x1 y1 : List AV} {gn hn : Bool} {xn yn : List AV} {gm hm : Bool} {xm ym : List AV} {gu hu : Bool} {xu yu : List AV} {gv hv : Bool} {xv yv : List AV} {gw hw : Bool} {xw yw : List AV}
  (aw : QP 16 [] (bV true))
  (f1 : QP 36 [iV m] (.tup [.sl F, iV 0]))
  (f2 : QP 36 [iV n] (.tup [.sl G, iV 0]))
  (o1 : QP 37 [.sl F, iV ((n : Int) + 1)] (.tup [serA sx X, iV 0]))
  (o2 : QP 37 [.sl G, iV ((m : Int) + 1)] (.tup [serA sy Y, iV 0]))
  (p1 : QP 38 [serA sx X] (iV ((n : Int) + 1)))
  (p2 : QP 38 [serA sy Y] (iV ((m : Int) + 1)))
  (q0 : QP 39 [iV 0] (rg g0 x0 h0 y0))
  (q1 : QP 39 [iV 1] (rg g1 x1 h1 y1))
  (k0 : QP 41 [serA sx X, iV (0 - (m : Int) + (0 : Nat))] (rg g1 x1 h1 y1))
  (k1 : ∀ k, 1 ≤ k → k ≤ m → QP 41 [serA sx X, iV (0 - (m : Int) + (k : Nat))] (rg g0 x0 h0 y0))
  (s0 : QP 40 [rg g0 x0 h0 y0, rg g0 x0 h0 y0] (bV true))
  (s1 : QP 40 [rg g1 x1 h1 y1, rg g1 x1 h1 y1] (bV true))
  (a1 : QP 39 [iV n] (rg gn xn hn yn))
  (a2 : QP 41 [serA sx X, iV n] (rg gu xu hu yu))
  (a3 : QP 42 [rg gn xn hn yn, rg gu xu hu yu] (rg gw xw hw yw))
  (a4 : QP 39 [iV m] (rg gm xm hm ym))
  (a5 : QP 41 [serA sy Y, iV m] (rg gv xv hv yv))
  (a6 : QP 42 [rg gm xm hm ym, rg gv xv hv yv] (rg gw xw hw yw))
  (a7 : QP 40 [rg gw xw hw yw, rg gw xw hw yw] (bV true)) :
  QP 5 [iV m, iV n] (bV true) := by
 have b1 : decide ((m : Int) < 1) = false := decide_eq_false (by omega)
 have b2 : decide ((m : Int) > 5) = false := decide_eq_false (by omega)
 have b3 : decide ((n : Int) < 1) = false := decide_eq_false (by omega)
 have b4 : decide ((n : Int) > 5) = false := decide_eq_false (by omega)
 have b5 : (((n : Int) + 1) != ((n : Int) + 1)) = false := bne_self_eq_false _
 have b6 : (((m : Int) + 1) != ((m : Int) + 1)) = false := bne_self_eq_false _
 refine pc_body1 true Tryz.func5 rfl rfl rfl (Nat.le_of_ble_eq_true rfl) CellT.tmp ?_
 refine goA ?_
 refine evG ggA (ss_call (InB_of rfl) rfl rfl f1) ?_
 refine goA ?_
 refine evG ggA (ss_call (InB_of rfl) rfl rfl f2) ?_
 refine goA ?_
 refine evG ggA (ss_call (InB_of rfl) rfl rfl o1) ?_
 refine goA ?_
 refine evG ggA (ss_call (InB_of rfl) rfl rfl o2) ?_
 refine goA ?_
 refine evG ggA (ss_call (InB_of rfl) rfl rfl p1) ?_
 refine goA ?_
 refine evG ggA (ss_call (InB_of rfl) rfl rfl p2) ?_
 refine goA ?_
 refine T.loop (fun N s1 => ∃ k : Nat, N = m + 1 - k ∧ k ≤ m + 1 ∧ s1 = mkS [(0, .v (iV m)), (1, .v (iV n)), (9, .ptr 9 0), (11, .ptr 11 0), (13, .v (iV (0 - (m : Int) + (k : Nat))))] [(9, .var [.v (iV sx), .v (.sl X)]), (11, .var [.v (iV sy), .v (.sl Y)])] 110 true) (m + 1)
  (s' := mkS [(0, .v (iV m)), (1, .v (iV n)), (9, .ptr 9 0), (11, .ptr 11 0), (13, .v (iV (0 - (m : Int) + (0 : Nat))))] [(9, .var [.v (iV sx), .v (.sl X)]), (11, .var [.v (iV sy), .v (.sl Y)])] 110 true) (by rw [show 0 - (m : Int) + (0 : Nat) = 0 - m by omega]; exact entA) ⟨0, rfl, Nat.zero_le _, rfl⟩ ?_
 rintro _ _ ⟨k, rfl, hk, rfl⟩
 have hnx : 0 - (m : Int) + (k : Nat) + 1 = 0 - (m : Int) + ((k + 1 : Nat) : Int) := by omega
 by_cases hlt : k ≤ m
 ·have c1 : decide (0 - (m : Int) + (k : Nat) ≤ 0) = true := decide_eq_true (by omega)
  by_cases hk0 : k = 0
  ·subst hk0
   have c2 : ((0 - (m : Int) + (0 : Nat)) == (0 - (m : Int))) = true := by rw [beq_iff_eq]; omega
   refine goA ?_
   refine evG ggA (ss_call (InB_of rfl) rfl rfl q0) ?_
   refine goA ?_
   refine evG ggA (ss_call (InB_of rfl) rfl rfl q1) ?_
   refine goA ?_
   refine evG ggA (ss_call (InB_of rfl) rfl rfl k0) ?_
   refine goA ?_
   refine evG ggA (ss_call (InB_of rfl) rfl rfl s1) ?_
   refine goA ?_
   rw [hnx]
   exact loopQ_intro (k := m + 1 - (0 + 1)) (s' := mkS [(0, .v (iV m)), (1, .v (iV n)), (9, .ptr 9 0), (11, .ptr 11 0), (13, .v (iV (0 - (m : Int) + ((0 + 1 : Nat) : Int))))] [(9, .var [.v (iV sx), .v (.sl X)]), (11, .var [.v (iV sy), .v (.sl Y)])] 110 true) (by omega) (by exact entA) ⟨0 + 1, rfl, by omega, rfl⟩
  ·have c2 : ((0 - (m : Int) + (k : Nat)) == (0 - (m : Int))) = false := by rw [beq_eq_false_iff_ne]; omega
   have k2 := k1 k (by omega) hlt
   refine goA ?_
   refine evG ggA (ss_call (InB_of rfl) rfl rfl q0) ?_
   refine goA ?_
   refine evG ggA (ss_call (InB_of rfl) rfl rfl k2) ?_
   refine goA ?_
   refine evG ggA (ss_call (InB_of rfl) rfl rfl s0) ?_
   refine goA ?_
   rw [hnx]
   exact loopQ_intro (k := m + 1 - (k + 1)) (s' := mkS [(0, .v (iV m)), (1, .v (iV n)), (9, .ptr 9 0), (11, .ptr 11 0), (13, .v (iV (0 - (m : Int) + ((k + 1 : Nat) : Int))))] [(9, .var [.v (iV sx), .v (.sl X)]), (11, .var [.v (iV sy), .v (.sl Y)])] 110 true) (by omega) (by exact entA) ⟨k + 1, rfl, by omega, rfl⟩
 ·obtain rfl : k = m + 1 := by omega
  have c1 : decide (0 - (m : Int) + ((m + 1 : Nat) : Int) ≤ 0) = false := decide_eq_false (by omega)
  refine goA ?_
  refine evG ggA (ss_call (InB_of rfl) rfl rfl a1) ?_
  refine goA ?_
  refine evG ggA (ss_call (InB_of rfl) rfl rfl a2) ?_
  refine goA ?_
  refine evG ggA (ss_call (InB_of rfl) rfl rfl a3) ?_
  refine goA ?_
  refine evG ggA (ss_call (InB_of rfl) rfl rfl a4) ?_
  refine goA ?_
  refine evG ggA (ss_call (InB_of rfl) rfl rfl a5) ?_
  refine goA ?_
  refine evG ggA (ss_call (InB_of rfl) rfl rfl a6) ?_
  refine goA ?_
  refine evG ggA (ss_call (InB_of rfl) rfl rfl a7) ?_
  refine goA ?_
  refine evG ggA (ss_call (InB_of rfl) rfl rfl aw) ?_
  refine goA ?_
  exact rfl
theorem dual_out (aw : QP 16 [] (bV true)) (hin : ∀ m n : Nat, 1 ≤ m → m ≤ 5 → 1 ≤ n → n ≤ 5 → QP 5 [iV m, iV n] (bV true)) (m n : Int) :
    QP 5 [iV m, iV n] (bV true) := by
  by_cases hh : 1 ≤ m ∧ m ≤ 5 ∧ 1 ≤ n ∧ n ≤ 5
  ·obtain ⟨a, rfl⟩ : ∃ a : Nat, m = a := ⟨m.toNat, by omega⟩
   obtain ⟨b, rfl⟩ : ∃ b : Nat, n = b := ⟨n.toNat, by omega⟩
   exact hin a b (by omega) (by omega) (by omega) (by omega)
  ·have h : decide (m < 1) = true ∨ decide (m < 1) = false ∧ (decide (m > 5) = true ∨ decide (m > 5) = false ∧ (decide (n < 1) = true ∨ decide (n < 1) = false ∧ decide (n > 5) = true)) := by
    simp only [decide_eq_true_eq, decide_eq_false_iff_not]
    omega
   rcases h with h1 | ⟨h1, h2 | ⟨h2, h3 | ⟨h3, h4⟩⟩⟩
   all_goals
    refine pc_body1 true Tryz.func5 rfl rfl rfl (Nat.le_of_ble_eq_true rfl) CellT.tmp ?_
    refine goA ?_
    refine evG ggA (ss_call (InB_of rfl) rfl rfl aw) ?_
    refine goA ?_
    exact rfl
end Ab
namespace Ab
open Go Go.RowKit Go.Proofs Hp
set_option maxRecDepth 100000
theorem sadd_p {s t : Int} {es fs : List AV} {l m : List Rat} {K : Nat} (h : Both s es t fs K l m) (hK : 1 ≤ K ∧ K ≤ 268435456) : QP 71 [serA s es, serA t fs] (serE (combR s l t m 1)) := by
 obtain ⟨h1, h2, h3, ⟨a, b, c⟩, ⟨d, e, f⟩⟩ := h
 have hc := scombine_p (c := 1) (fun x y => (h1 x y).1) (fun x y => (h1 x y).2) h2 h3 hK ⟨a, b, c⟩ ⟨d, e, f⟩ (by decide)
 rw [serE_eq] at hc ⊢
 refine pc_body2 true Tryz.func71 rfl rfl rfl (Nat.le_of_ble_eq_true rfl) (CellT.agg agg_ser) CellT.tmp ?_
 refine goA ?_
 refine evG ggA (ss_call (InB_of rfl) rfl rfl hc) ?_
 refine goA ?_
 exact rfl
theorem jl_eq {n : Nat} (h : n ≤ 40) : tk jV n = jL.take n := by rw [← jV_eq, tk_take _ h]
def jp (e n : Nat) : List Rat := (powL (jL.take 12) (e : Int) 11).take n
theorem jp12 (e : Nat) : powL (tk jV 12) (e : Int) 11 = tk (pq jV e) 12 := powL_tk jV_ne (by decide) e (m := 11) (by decide)
theorem jp_eq (e : Nat) {n : Nat} (h : n ≤ 12) : tk (pq jV e) n = jp e n := by
 unfold jp
 rw [← jl_eq (by decide), jp12, tk_take _ h]
theorem jp_hb : ((List.range 6).all fun e => (powL (jL.take 12) (e : Int) 11).all (htB 9)) = true := by decide +kernel
theorem jp_h {e n i : Nat} (he : e ≤ 5) (hn : n ≤ 12) (hi : i < n) : Ht (pq jV e i) 9 := by
 have h := List.all_eq_true.1 jp_hb e (List.mem_range.2 (by omega))
 rw [← jl_eq (by decide), jp12] at h
 exact htB_all h _ (List.mem_map.2 ⟨i, List.mem_range.2 (by omega), rfl⟩)
theorem j12_b : ((List.range 40).all fun i => htB 9 (jL.getD i 0)) = true := by decide +kernel
theorem j12_h {i : Nat} (h : i < 40) : Ht (jV i) 9 := by
 rw [jL_at h]
 exact htB_ht (List.all_eq_true.1 j12_b i (List.mem_range.2 h))
theorem jpow_p {e n : Nat} (he : e ≤ 5) (h1 : 1 ≤ n) (hn : n ≤ 12) : QP 46 [serA (-1) ((tk jV n).map encQ), iV e] (.tup [serA ((e : Int) * -1) ((tk (pq jV e) n).map encQ), iV 0]) := by
 have c := spow_p (s := -1) (n := (e : Int)) (es := (tk jV n).map encQ) (l := tk jV n) (K := 9) (Q := 9) (fun _ => ⟨isL_enc (ht_tk fun i hi => j12_h (by omega)), by simp; omega⟩) (by simp) (inR_tk (by decide) (by decide) (by omega)) (by decide) (by decide) (by omega) (by omega)
  (fun _ _ _ m hm => by
   rw [drop_tk jV_ne] at hm ⊢
   rw [powL_tk jV_ne h1 e (by rw [tk_len] at hm; exact hm)]
   exact ht_tk fun i hi => jp_h he hn (by rw [tk_len] at hm; omega))
 rw [powT_tk jV_ne h1 (by omega) (by decide) (by omega) (by omega) (by omega)] at c
 exact c
def okZ (a : Int × List Rat) : Bool := decide (-100 ≤ a.1) && (decide (a.1 ≤ 1000) && (decide ((a.2.length : Int) ≤ 1000 - a.1) && a.2.all (htB 9)))
theorem okZ_iff {a : Int × List Rat} (h : okZ a = true) : -100 ≤ a.1 ∧ a.1 ≤ 1000 ∧ (a.2.length : Int) ≤ 1000 - a.1 ∧ ∀ q, q ∈ a.2 → Ht q 9 := by
 unfold okZ at h
 simp only [Bool.and_eq_true, decide_eq_true_eq] at h
 exact ⟨h.1, h.2.1, h.2.2.1, htB_all h.2.2.2⟩
def og (x : Option (Int × List Rat)) : Int × List Rat := x.getD (0, [])
theorem og_some {x : Option (Int × List Rat)} (h : x.isSome = true) : x = some ((og x).1, (og x).2) := by
 cases x with
 | none => cases h
 | some a => rfl
abbrev sZ (a : Int × List Rat) : AV := serA a.1 (a.2.map encQ)
theorem both_ok {a b : Int × List Rat} (ha : okZ a = true) (hb : okZ b = true) : Both a.1 (a.2.map encQ) b.1 (b.2.map encQ) 9 a.2 b.2 := by
 obtain ⟨a0, a1, a2, a3⟩ := okZ_iff ha
 obtain ⟨b0, b1, b2, b3⟩ := okZ_iff hb
 exact ⟨fun _ _ => ⟨isL_enc a3, isL_enc b3⟩, by simp, by simp, ⟨by omega, by omega, by simp; omega⟩, ⟨by omega, by omega, by simp; omega⟩⟩
theorem mulK {a b : Int × List Rat} (ha : okZ a = true) (hb : okZ b = true) (h : (mulR a.1 a.2 b.1 b.2).isSome = true) : QP 49 [sZ a, sZ b] (.tup [sZ (og (mulR a.1 a.2 b.1 b.2)), iV 0]) := by
 have c := mul_g (M := 2000) (both_ok ha hb) (by decide) (by decide) (by decide) (fun _ => by have := okZ_iff ha; simp; omega)
 rw [og_some h] at c
 exact c
theorem subK {a b : Int × List Rat} (ha : okZ a = true) (hb : okZ b = true) (h : (combR a.1 a.2 b.1 b.2 (-1)).isSome = true) : QP 47 [sZ a, sZ b] (.tup [sZ (og (combR a.1 a.2 b.1 b.2 (-1))), iV 0]) := by
 have c := ssub_p (both_ok ha hb) (by decide)
 rw [og_some h] at c
 exact c
theorem addK {a b : Int × List Rat} (ha : okZ a = true) (hb : okZ b = true) (h : (combR a.1 a.2 b.1 b.2 1).isSome = true) : QP 71 [sZ a, sZ b] (.tup [sZ (og (combR a.1 a.2 b.1 b.2 1)), iV 0]) := by
 have c := sadd_p (both_ok ha hb) (by decide)
 rw [og_some h] at c
 exact c
theorem cutK {a : Int × List Rat} {p : Int} (ha : okZ a = true) (p0 : -1000 ≤ p) (p1 : p ≤ 1000) (h : (cutR a.1 a.2 p).isSome = true) : QP 50 [sZ a, iV p] (.tup [sZ (og (cutR a.1 a.2 p)), iV 0]) := by
 obtain ⟨a0, a1, a2, a3⟩ := okZ_iff ha
 have c := scutx_p (s := a.1) (p := p) (es := a.2.map encQ) (l := a.2) (K := 9) (fun _ => isL_enc a3) (by simp) ⟨by omega, by omega, by simp; omega⟩ (by decide) (by omega) (by omega)
 rw [og_some h] at c
 exact c
def mo (c : Rat) : Int × List Rat := (0, c :: List.replicate 999 0)
theorem lead_cons {c : Rat} (h : c ≠ 0) (l : List Rat) : lead (c :: l) = 0 := by rw [lead, if_neg h]
theorem monK {c : Rat} (hc : Ht c 9) (h : c ≠ 0) : QP 113 [encQ c, iV 0, iV 1000] (.tup [sZ (mo c), iV 0]) := by
 have m := monomial_p (a := encQ c) (c := c) (K := 9) (n := 0) (p := 1000) (isV_encQ hc) (by decide)
 have e : monR c 0 1000 = some (0, c :: List.replicate 999 0) := by
  unfold monR
  rw [if_pos (show MV 0 1000 = true from rfl), if_neg (by decide), show ((1000 : Int) - 0).toNat - 1 = 999 from rfl, nrm_valid (by decide) (by decide) (by simp), lead_cons h]
  rfl
 rw [e] at m
 exact m
theorem atK {a : Int × List Rat} {n : Int} (ha : okZ a = true) (n0 : -1000 ≤ n) (n1 : n < a.1 + a.2.length) : QP 84 [sZ a, iV n] (.tup [encQ (cf a.1 a.2 n), iV 0]) := by
 obtain ⟨a0, a1, a2, a3⟩ := okZ_iff ha
 exact seriesAt_p (isL_enc a3) (by decide) (valid_iff.2 ⟨a0, a1, by simp; omega⟩) (by omega) (by simp; omega)
def fbP (c : Rat) (m k : Nat) : Int × List Rat := if k < m then (((m - k : Nat) : Int) * -1, (jp (m - k) (m + 1)).map (c * ·)) else mo c
def fbQ (a : Int × List Rat) (m k : Nat) : Rat := cf a.1 a.2 (0 - ((m : Int) - k))
def fbS (a : Int × List Rat) (m k : Nat) : Option (Int × List Rat) := combR a.1 a.2 (fbP (fbQ a m k) m k).1 (fbP (fbQ a m k) m k).2 (-1)
def fbA (m : Nat) : Nat → Int × List Rat
 | 0 => (0 - (m : Int), 1 :: List.replicate m 0)
 | k + 1 => og (fbS (fbA m k) m k)
def fbC (m k : Nat) : Rat := fbQ (fbA m k) m k
def fbK (m k : Nat) : Bool := okZ (fbA m k) && (htB 9 (fbC m k) && (decide (fbC m k ≠ 0) && (okZ (fbP (fbC m k) m k) && ((fbS (fbA m k) m k).isSome && (decide (0 - ((m : Int) - k) < (fbA m k).1 + (fbA m k).2.length) && okZ (mo (fbC m k)))))))
theorem fb_b : ((List.range 6).all fun m => (List.range (m + 1)).all fun k => decide (m = 0) || fbK m k) = true := by decide +kernel
end Ab
namespace Ab
open Go Go.RowKit Go.Proofs Hp
set_option maxRecDepth 100000
theorem fb_at {m k : Nat} (h1 : 1 ≤ m) (h5 : m ≤ 5) (hk : k ≤ m) : okZ (fbA m k) = true ∧ Ht (fbC m k) 9 ∧ fbC m k ≠ 0 ∧ okZ (fbP (fbC m k) m k) = true ∧ (fbS (fbA m k) m k).isSome = true ∧ 0 - ((m : Int) - k) < (fbA m k).1 + (fbA m k).2.length ∧ okZ (mo (fbC m k)) = true := by
 have h := List.all_eq_true.1 (List.all_eq_true.1 fb_b m (List.mem_range.2 (by omega))) k (List.mem_range.2 (by omega))
 rw [Bool.or_eq_true, decide_eq_true_eq] at h
 rcases h with h | h
 ·omega
 unfold fbK at h
 simp only [Bool.and_eq_true, decide_eq_true_eq] at h
 exact ⟨h.1, htB_ht h.2.1, h.2.2.1, h.2.2.2.1, h.2.2.2.2.1, h.2.2.2.2.2.1, h.2.2.2.2.2.2⟩
theorem ht1Z : Ht (1 : Rat) 9 := ⟨by decide, by decide⟩
theorem fbP_lt {c : Rat} {m k : Nat} (h : k < m) : fbP c m k = (((m - k : Nat) : Int) * -1, (jp (m - k) (m + 1)).map (c * ·)) := if_pos h
theorem fbP_m (c : Rat) (m : Nat) : fbP c m m = mo c := if_neg (by omega)
theorem fbSub {m k : Nat} (h1 : 1 ≤ m) (h5 : m ≤ 5) (hk : k ≤ m) : QP 47 [sZ (fbA m k), sZ (fbP (fbC m k) m k)] (.tup [sZ (fbA m (k + 1)), iV 0]) := by
 obtain ⟨a1, a2, a3, a4, a5, a6, a7⟩ := fb_at h1 h5 hk
 exact subK a1 a4 a5
theorem mon_m {m : Nat} (h5 : m ≤ 5) : monR 1 (0 - (m : Int)) 1 = some (0 - (m : Int), 1 :: List.replicate m 0) := by
 unfold monR
 have e : MV (0 - (m : Int)) 1 = true := by unfold MV; simp; omega
 rw [if_pos e, if_neg (by omega), show ((1 : Int) - (0 - (m : Int))).toNat - 1 = m by omega, nrm_valid (by omega) (by omega) (by simp; omega), lead_cons (by decide)]
 simp
def fbF (m : Nat) : List Rat := (List.range (m + 1)).map fun i => fbC m (m - i)
theorem jZ {N : Nat} (h : N ≤ 38) : QP 19 [iV N] (.tup [serA (-1) ((tk jV (N + 1)).map encQ), iV 0]) := by
 have c := j_p (p := (N : Int)) (by omega)
 rw [jT_ok h] at c
 exact c
theorem faberP {m : Nat} (h1 : 1 ≤ m) (h5 : m ≤ 5) : QP 36 [iV m] (.tup [.sl ((fbF m).map encQ), iV 0]) := by
 have hpeel := peel_core (m := m) (by omega) (aS := fun k => (fbA m k).1) (aL := fun k => (fbA m k).2.map encQ) (pS := fun k => ((m - k : Nat) : Int) * -1) (pL := fun k => (tk (pq jV (m - k)) (m + 1)).map encQ) (qL := fun k => ((jp (m - k) (m + 1)).map (fbC m k * ·)).map encQ) (mo := fun k => (mo (fbC m k)).2.map encQ) (c := fbC m) (sj := -1) (J := (tk jV (m + 1)).map encQ) (K := 9) (by decide)
  (fun k hk => (fb_at h1 h5 hk).2.1)
  (fun k hk => by
   obtain ⟨a1, a2, a3, a4, a5, a6, a7⟩ := fb_at h1 h5 hk
   exact atK a1 (by omega) a6)
  (fun k hk h0 => absurd h0 (fb_at h1 h5 hk).2.2.1)
  (fun k hk h0 => monK (fb_at h1 h5 hk).2.1 h0)
  (fun k hk h0 => by
   have c := jpow_p (e := m - k) (n := m + 1) (by omega) (by omega) (by omega)
   rw [show (((m - k : Nat) : Nat) : Int) = (m : Int) - k by omega] at c
   rw [show (((m - k : Nat) : Nat) : Int) = (m : Int) - k by omega]
   exact c)
  (fun k hk h0 => by
   have c := sscl_tk (c := fbC m k) (s := ((m - k : Nat) : Int) * -1) (f := pq jV (m - k)) (n := m + 1) (K := 9) (fb_at h1 h5 (by omega)).2.1 h0 (by decide) (by decide) (pq_ne jV_ne _) (fun i hi => jp_h (by omega) (by omega) hi) (by omega) (by omega) (by omega)
   have e : tk (fun i => fbC m k * pq jV (m - k) i) (m + 1) = (jp (m - k) (m + 1)).map (fbC m k * ·) := by
    rw [← jp_eq _ (by omega)]
    unfold tk
    rw [List.map_map]
    rfl
   rw [e] at c
   exact c)
  (fun k hk h0 => by
   have c := fbSub h1 h5 (show k ≤ m by omega)
   rw [fbP_lt hk] at c
   exact c)
  (fun h0 => by
   have c := fbSub h1 h5 (Nat.le_refl m)
   rw [fbP_m] at c
   exact c)
 rw [oA_end] at hpeel
 have hOf : QP 90 [iV 1] (encQ 1) := rof_p 1 (by decide) (by decide)
 have hMon := monomial_p (a := encQ 1) (c := 1) (K := 9) (n := 0 - (m : Int)) (p := 1) (isV_encQ ht1Z) (by decide)
 rw [mon_m h5] at hMon
 obtain ⟨g, xs, g', xs', e⟩ := isV_cells (isV_encQ ht1Z)
 rw [e] at hOf hMon
 exact faber_core (m := m) (by omega) (jZ (by omega)) hOf hMon hpeel
def ofM (a : Int × List Rat) (N : Nat) : Int × List Rat := og (mulR a.1 a.2 (-1) (jL.take N))
def ofS (a : Int × List Rat) (N : Nat) (c : Rat) : Option (Int × List Rat) := combR (ofM a N).1 (ofM a N).2 (mo c).1 (mo c).2 1
def ofA (m n : Nat) : Nat → Int × List Rat
 | 0 => mo (fbC m 0)
 | k + 1 => og (ofS (ofA m n k) (n + m + 2) (fbC m (k + 1)))
def ofZ (m n : Nat) : Int × List Rat := og (cutR (ofA m n m).1 (ofA m n m).2 ((n : Int) + 1))
def ofK (m n k : Nat) : Bool := okZ (ofA m n k) && ((mulR (ofA m n k).1 (ofA m n k).2 (-1) (jL.take (n + m + 2))).isSome && (okZ (ofM (ofA m n k) (n + m + 2)) && (ofS (ofA m n k) (n + m + 2) (fbC m (k + 1))).isSome))
def ofE (m n : Nat) : Bool := okZ (ofA m n m) && ((cutR (ofA m n m).1 (ofA m n m).2 ((n : Int) + 1)).isSome && (okZ (ofZ m n) && (decide ((ofZ m n).1 + (ofZ m n).2.length = (n : Int) + 1) && (decide (cf (ofZ m n).1 (ofZ m n).2 (0 - (m : Int) + (0 : Nat)) = 1) && (((List.range (m + 1)).all fun k => decide (k = 0) || decide (cf (ofZ m n).1 (ofZ m n).2 (0 - (m : Int) + (k : Nat)) = 0)) && (htB 9 (cf (ofZ m n).1 (ofZ m n).2 n) && (htB 9 (((n : Int) : Rat) * cf (ofZ m n).1 (ofZ m n).2 n) && decide (((n : Int) : Rat) * cf (ofZ m n).1 (ofZ m n).2 n = ((m : Int) : Rat) * cf (ofZ n m).1 (ofZ n m).2 m))))))))
theorem of_b : ((List.range 6).all fun m => (List.range 6).all fun n => decide (m = 0) || (decide (n = 0) || (ofE m n && (List.range m).all fun k => ofK m n k))) = true := by decide +kernel
theorem jt_b : ((List.range 14).all fun N => okZ (-1, jL.take N)) = true := by decide +kernel
theorem of_at {m n : Nat} (h1 : 1 ≤ m) (h5 : m ≤ 5) (i1 : 1 ≤ n) (i5 : n ≤ 5) : ofE m n = true ∧ ∀ k, k < m → ofK m n k = true := by
 have h := List.all_eq_true.1 (List.all_eq_true.1 of_b m (List.mem_range.2 (by omega))) n (List.mem_range.2 (by omega))
 simp only [Bool.or_eq_true, decide_eq_true_eq, Bool.and_eq_true] at h
 rcases h with h | h | h
 ·omega
 ·omega
 ·exact ⟨h.1, fun k hk => List.all_eq_true.1 h.2 k (List.mem_range.2 hk)⟩
theorem fbF_len (m : Nat) : (fbF m).length = m + 1 := by simp [fbF]
theorem fbF_at {m k : Nat} (hk : k ≤ m) : (fbF m)[m - k]? = some (fbC m k) := by
 unfold fbF
 rw [List.getElem?_map, List.getElem?_range (by omega)]
 show some (fbC m (m - (m - k))) = _
 rw [show m - (m - k) = k by omega]
theorem fbF_ht {m : Nat} (h1 : 1 ≤ m) (h5 : m ≤ 5) : ∀ q, q ∈ fbF m → Ht q 9 := fun q hq => by
 obtain ⟨i, hi, rfl⟩ := List.mem_map.1 hq
 exact (fb_at h1 h5 (by omega)).2.1
theorem ofjP {m n : Nat} (h1 : 1 ≤ m) (h5 : m ≤ 5) (i1 : 1 ≤ n) (i5 : n ≤ 5) : QP 37 [.sl ((fbF m).map encQ), iV ((n : Int) + 1)] (.tup [sZ (ofZ m n), iV 0]) := by
 obtain ⟨e1, e2⟩ := of_at h1 h5 i1 i5
 unfold ofE at e1
 simp only [Bool.and_eq_true] at e1
 have hdeg := degree_p (l := fbF m) (n := m) (K := 9) (fbF_len m) (by omega) (by decide) (fbF_ht h1 h5) (by
  have := fbF_at (m := m) (k := 0) (Nat.zero_le _)
  rw [Nat.sub_zero] at this
  rw [List.getD_eq_getElem?_getD, this]
  exact (fb_at h1 h5 (Nat.zero_le _)).2.2.1)
 have hJ := jZ (N := n + 1 + m) (by omega)
 rw [show n + 1 + m + 1 = n + m + 2 by omega, jl_eq (by omega), show ((n + 1 + m : Nat) : Int) = ((n + 1 : Nat) : Int) + m by omega] at hJ
 have hjt : okZ (-1, jL.take (n + m + 2)) = true := List.all_eq_true.1 jt_b _ (List.mem_range.2 (by omega))
 exact ofj_core (d := m) (p := n + 1) (by omega) (by omega) (c := fbC m) (K := 9) (by decide) (J := (jL.take (n + m + 2)).map encQ) (oS := fun k => (ofA m n k).1) (oL := fun k => (ofA m n k).2.map encQ) (mS := fun k => (ofM (ofA m n k) (n + m + 2)).1) (mL := fun k => (ofM (ofA m n k) (n + m + 2)).2.map encQ) (nS := fun k => 0) (mo := fun k => (mo (fbC m k)).2.map encQ)
  hdeg hJ (fun k hk => (fb_at h1 h5 hk).2.1)
  (fun k hk => by rw [List.getElem?_map, fbF_at hk]; rfl)
  (fun k hk => monK (fb_at h1 h5 hk).2.1 (fb_at h1 h5 hk).2.2.1)
  ⟨rfl, rfl⟩
  (fun k hk => by
   have h := e2 k hk
   unfold ofK at h
   simp only [Bool.and_eq_true] at h
   exact mulK (b := (-1, jL.take (n + m + 2))) h.1 hjt h.2.1)
  (fun k hk => by
   have h := e2 k hk
   unfold ofK at h
   simp only [Bool.and_eq_true] at h
   exact addK h.2.2.1 (fb_at h1 h5 (by omega : k + 1 ≤ m)).2.2.2.2.2.2 h.2.2.2)
  (cutK e1.1 (by omega) (by omega) e1.2.1)
theorem coefK {a : Int × List Rat} {n : Int} (ha : okZ a = true) (n0 : -100000 ≤ n) (n1 : n ≤ 100000) : QP 41 [sZ a, iV n] (encQ (cf a.1 a.2 n)) := by
 obtain ⟨a0, a1, a2, a3⟩ := okZ_iff ha
 exact coef_p (isL_enc a3) (by decide) a0 a1 (by simp; omega) n0 n1
theorem precK {a : Int × List Rat} {p : Int} (ha : okZ a = true) (h : a.1 + a.2.length = p) : QP 38 [sZ a] (iV p) := by
 obtain ⟨a0, a1, a2, a3⟩ := okZ_iff ha
 have c := rprec_p (s := a.1) (es := a.2.map encQ) a0 a1 (by simp; omega)
 rw [List.length_map, h] at c
 exact c
theorem zrefsame2_p {p q : Rat} {k : Nat} (hp : Ht p k) (hk : k ≤ 274877906944) : PW Tryz.prog 40 [encQ p, encQ q] (.p (.bool (decide (p = q)))) := by
 have l1 : (ri p.num).2.length ≤ 4611686018427387904 := by
  have : (dgs p.num.natAbs).length ≤ k := dgs_len hp.1
  show (dgs p.num.natAbs).length ≤ _
  omega
 have l2 : (ri (p.den : Int)).2.length ≤ 4611686018427387904 := by
  have : (dgs ((p.den : Int)).natAbs).length ≤ k := dgs_len (by rw [Int.natAbs_natCast]; exact hp.2)
  show (dgs ((p.den : Int)).natAbs).length ≤ _
  omega
 have c1 := refsame_p (ri p.num) (ri q.num) l1
 have c2 := refsame_p (ri (p.den : Int)) (ri (q.den : Int)) l2
 rw [ri_iff] at c1 c2
 have c1' : PW Tryz.prog 32 [encI p.num, encI q.num] (.p (.bool (decide (p.num = q.num)))) := c1
 have c2' : PW Tryz.prog 32 [encI (p.den : Int), encI (q.den : Int)] (.p (.bool (decide ((p.den : Int) = (q.den : Int))))) := c2
 clear c1 c2
 unfold encI ci at c1' c2'
 unfold encQ ci
 by_cases h1 : p.num = q.num
 ·rw [decide_eq_true h1] at c1'
  have e : decide (p = q) = decide ((p.den : Int) = (q.den : Int)) := by
   rw [decide_eq_decide]
   constructor
   ·intro h; rw [h]
   ·intro h; rw [← Rat.num_divInt_den p, ← Rat.num_divInt_den q, h1, h]
  rw [e]
  refine pc_body1 false Tryz.func40 rfl rfl rfl (Nat.le_of_ble_eq_true rfl) CellT.tmp ?_
  refine goA ?_
  refine evG ggA (ss_call (InB_of rfl) rfl rfl c1') ?_
  refine goA ?_
  refine evG ggA (ss_call (InB_of rfl) rfl rfl c2') ?_
  refine goA ?_
  exact rfl
 ·rw [decide_eq_false h1] at c1'
  have e : decide (p = q) = false := decide_eq_false fun h => h1 (by rw [h])
  rw [e]
  refine pc_body1 false Tryz.func40 rfl rfl rfl (Nat.le_of_ble_eq_true rfl) CellT.tmp ?_
  refine goA ?_
  refine evG ggA (ss_call (InB_of rfl) rfl rfl c1') ?_
  refine goA ?_
  exact rfl
theorem sameK {q : Rat} (h : Ht q 9) : QP 40 [encQ q, encQ q] (bV true) := by
 have c : QP 40 [encQ q, encQ q] (.p (.bool (decide (q = q)))) := (zrefsame2_p h (by decide)).up
 rw [decide_eq_true rfl] at c
 exact c
theorem ht0Z : Ht (0 : Rat) 9 := ht0 (by decide)
theorem htN {n : Nat} (h : n ≤ 5) : Ht (((n : Int)) : Rat) 9 := by
 have : ((List.range 6).all fun n => htB 9 (((n : Nat) : Int) : Rat)) = true := by decide +kernel
 exact htB_ht (List.all_eq_true.1 this n (List.mem_range.2 (by omega)))
theorem dualIn_p (m n : Nat) (h1 : 1 ≤ m) (h5 : m ≤ 5) (i1 : 1 ≤ n) (i5 : n ≤ 5) : QP 5 [iV m, iV n] (bV true) := by
 obtain ⟨e1, -⟩ := of_at h1 h5 i1 i5
 obtain ⟨e2, -⟩ := of_at i1 i5 h1 h5
 unfold ofE at e1 e2
 simp only [Bool.and_eq_true, decide_eq_true_eq] at e1 e2
 obtain ⟨-, -, x3, x4, x5, x6, x7, x8, x9⟩ := e1
 obtain ⟨-, -, y3, y4, -, -, y7, -, -⟩ := e2
 have k0 := coefK (n := 0 - (m : Int) + (0 : Nat)) x3 (by omega) (by omega)
 rw [x5] at k0
 have k1 : ∀ k, 1 ≤ k → k ≤ m → QP 41 [sZ (ofZ m n), iV (0 - (m : Int) + (k : Nat))] (encQ 0) := fun k a b => by
  have c := coefK (n := 0 - (m : Int) + (k : Nat)) x3 (by omega) (by omega)
  have h := List.all_eq_true.1 x6 k (List.mem_range.2 (by omega))
  rw [Bool.or_eq_true, decide_eq_true_eq, decide_eq_true_eq] at h
  rcases h with h | h
  ·omega
  ·rwa [h] at c
 have q0 : QP 39 [iV 0] (encQ 0) := q_p 0 (by decide) (by decide)
 have q1 : QP 39 [iV 1] (encQ 1) := q_p 1 (by decide) (by decide)
 have a1 := q_p (n : Int) (by omega) (by omega)
 have a4 := q_p (m : Int) (by omega) (by omega)
 have a2 := coefK (n := (n : Int)) x3 (by omega) (by omega)
 have a5 := coefK (n := (m : Int)) y3 (by omega) (by omega)
 have a3 : QP 42 _ _ := (refmul2_p (isV_encQ (htN i5)) (isV_encQ (htB_ht x7)) (by decide)).up
 have a6 : QP 42 _ _ := (refmul2_p (isV_encQ (htN h5)) (isV_encQ (htB_ht y7)) (by decide)).up
 rw [← x9] at a6
 have hw := htB_ht x8
 have a7 := sameK hw
 have s0 := sameK ht0Z
 have s1 := sameK ht1Z
 obtain ⟨_, _, _, _, z0⟩ := isV_cells (isV_encQ ht0Z)
 obtain ⟨_, _, _, _, z1⟩ := isV_cells (isV_encQ ht1Z)
 obtain ⟨_, _, _, _, zn⟩ := isV_cells (isV_encQ (htN i5))
 obtain ⟨_, _, _, _, zm⟩ := isV_cells (isV_encQ (htN h5))
 obtain ⟨_, _, _, _, zu⟩ := isV_cells (isV_encQ (htB_ht x7))
 obtain ⟨_, _, _, _, zv⟩ := isV_cells (isV_encQ (htB_ht y7))
 obtain ⟨_, _, _, _, zw⟩ := isV_cells (isV_encQ hw)
 have p1 := precK x3 x4
 have p2 := precK y3 y4
 have o1 := ofjP h1 h5 i1 i5
 have o2 := ofjP i1 i5 h1 h5
 rw [zw] at a3 a6 a7
 rw [zu] at a2 a3
 rw [zv] at a5 a6
 rw [zn] at a1 a3
 rw [zm] at a4 a6
 rw [z0] at q0 s0
 rw [z1] at q1 s1 k0
 exact dual_core h1 h5 i1 i5 l39awake_p (faberP h1 h5) (faberP i1 i5) o1 o2 p1 p2 q0 q1 k0 (fun k a b => by have := k1 k a b; rwa [z0] at this) s0 s1 a1 a2 a3 a4 a5 a6 a7
theorem leveloneDuality_p (m : Int) (m0 : -9223372036854775808 ≤ m) (m1 : m ≤ 9223372036854775807) (n : Int) (n0 : -9223372036854775808 ≤ n) (n1 : n ≤ 9223372036854775807) :
  QP 5 [iV m, iV n] (bV true) := dual_out l39awake_p dualIn_p m n
end Ab
