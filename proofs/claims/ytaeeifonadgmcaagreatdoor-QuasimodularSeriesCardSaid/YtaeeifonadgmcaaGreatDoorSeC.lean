/- Brackets of series, in the program and in the document: by the contracts of what they call. -/
import Derived.Test.YtaeeifonadgmcaaGreatDoorSeA
set_option linter.all false
namespace Ab
open Go Go.RowKit Go.Proofs Hp
set_option maxRecDepth 100000
def bnQ (m : Int) : Nat → Rat
 | 0 => 1
 | i + 1 => bnQ m i * Rat.divInt (m - i) (i + 1)
def bnQE : Bool := (List.range 70).all fun a => (List.range 8).all fun i => decide (bnQ ((a : Int) - 1) i = ((bnG ((a : Int) - 1) i : Int) : Rat)) && decide ((bnG ((a : Int) - 1) i).natAbs ≤ 1000000000)
theorem bnQE_ok : bnQE = true := by decide +kernel
theorem bnQ_eq {m : Int} {i : Nat} (h0 : -1 ≤ m) (h1 : m ≤ 68) (hi : i < 8) : bnQ m i = ((bnG m i : Int) : Rat) ∧ (bnG m i).natAbs ≤ 1000000000 := by
 have h := List.all_eq_true.1 (List.all_eq_true.1 bnQE_ok (m + 1).toNat (List.mem_range.2 (by omega))) i (List.mem_range.2 hi)
 rw [show (((m + 1).toNat : Int)) - 1 = m by omega, Bool.and_eq_true] at h
 exact ⟨of_decide_eq_true h.1, of_decide_eq_true h.2⟩
abbrev zV : Blk := .var [.v (.p (.bool false)), .v (.p nilV), .v (.p (.bool false)), .v (.p nilV)]
abbrev rA (q : Rat) : AV := .agg [.p (.bool (decide (q.num < 0))), .sl ((dgs q.num.natAbs).map u32), .p (.bool (decide ((q.den : Int) < 0))), .sl ((dgs (q.den : Int).natAbs).map u32)]
abbrev rV (q : Rat) : Blk := .var [.v (.p (.bool (decide (q.num < 0)))), .v (.sl ((dgs q.num.natAbs).map u32)), .v (.p (.bool (decide ((q.den : Int) < 0)))), .v (.sl ((dgs (q.den : Int).natAbs).map u32))]
set_option maxHeartbeats 4000000 in
theorem rBin_p {m : Int} {s : Nat} (h0 : -1 ≤ m) (h1 : m ≤ 68) (hs : s ≤ 7) : PC Tryz.prog 85 [iV m, iV s] (encQ (bnQ m s)) := by
 have cq : PC Tryz.prog 20 [iV 1] (rA (bnQ m 0)) := q_p 1 (by decide) (by decide)
 have cf : ∀ i : Nat, i < s → PC Tryz.prog 19 [iV (m - i), iV ((i : Int) + 1)] (rA (Rat.divInt (m - i) ((i : Int) + 1))) := fun i hi => Zfn (by unfold Bn; omega) (by omega) (by unfold Bn; omega)
 have cm : ∀ i : Nat, i < s → PC Tryz.prog 81 [rA (bnQ m i), rA (Rat.divInt (m - i) ((i : Int) + 1))] (rA (bnQ m (i + 1))) := fun i hi => by
  obtain ⟨e, hb⟩ := bnQ_eq h0 h1 (i := i) (by omega)
  have hh : Ht (bnQ m i) 1 := by rw [e]; exact Zcj (by omega)
  have hd : Ht (Rat.divInt (m - i) ((i : Int) + 1)) 2 := by rw [Rat.divInt_eq_div]; exact ht_frac (by omega) (by omega)
  exact (Zbv (Zaj hh) (Zaj hd) (by decide)).up
 have er : encQ (bnQ m s) = rA (bnQ m s) := rfl
 rw [er]
 refine Zaf true Tryz.func85 rfl rfl rfl (Nat.le_of_ble_eq_true rfl) (Zah.agg Zbf) ?_
 refine r1A ?_
 refine T.seqI (fun s1 => s1 = mkS [(0, .v (iV m)), (1, .v (iV s)), (4, .ptr 4 0), (5, .ptr 5 0)] [(4, zV), (5, rV (bnQ m 0))] 22 true) ?_ ?_
 ·refine regA ?_
  refine evG ggA (Zab (Zaa rfl) rfl rfl cq) ?_
  refine runA ?_
  refine Zaw ?_
  exact Zac (s' := mkS [(0, .v (iV m)), (1, .v (iV s)), (4, .ptr 4 0), (5, .ptr 5 0)] [(4, zV), (5, rV (bnQ m 0))] 22 true) (by exact entA) rfl
 rintro _ rfl
 refine T.seqI (fun s1 => s1 = mkS [(4, .ptr 4 0), (5, .ptr 5 0)] [(4, zV), (5, rV (bnQ m s))] 22 true) ?_ ?_
 ·refine r1A ?_
  refine T.block ?_
  refine T.loop (fun N s1 => ∃ i : Nat, N = s - i ∧ i ≤ s ∧ s1 = mkS [(0, .v (iV m)), (1, .v (iV s)), (4, .ptr 4 0), (5, .ptr 5 0), (6, .v (iV i))] [(4, zV), (5, rV (bnQ m i))] 22 true) s
   (s' := mkS [(0, .v (iV m)), (1, .v (iV s)), (4, .ptr 4 0), (5, .ptr 5 0), (6, .v (iV ((0 : Nat) : Int)))] [(4, zV), (5, rV (bnQ m 0))] 22 true) (by exact entA) ⟨0, rfl, Nat.zero_le _, rfl⟩ ?_
  rintro _ _ ⟨i, rfl, hi, rfl⟩
  by_cases hlt : i < s
  ·have b1 : decide ((i : Int) < (s : Int)) = true := decide_eq_true (by omega)
   have c1 := cf i hlt
   have c2 := cm i hlt
   generalize bnQ m i = x at *
   generalize hy : bnQ m (i + 1) = y at *
   generalize Rat.divInt (m - i) ((i : Int) + 1) = z at *
   refine goA ?_
   refine evG ggA (Zab (Zaa rfl) rfl rfl c1) ?_
   refine goA ?_
   refine evG ggA (Zab (Zaa rfl) rfl rfl c2) ?_
   refine goA ?_
   exact Zae (k := s - (i + 1)) (s' := mkS [(0, .v (iV m)), (1, .v (iV s)), (4, .ptr 4 0), (5, .ptr 5 0), (6, .v (iV ((i : Int) + 1)))] [(4, zV), (5, rV y)] 22 true) (by omega) (by exact entA) ⟨i + 1, rfl, hlt, by rw [hy]; rfl⟩
  ·obtain rfl : i = s := by omega
   have b1 : decide ((i : Int) < (i : Int)) = false := decide_eq_false (by omega)
   refine goA ?_
   exact Zac (s' := mkS [(4, .ptr 4 0), (5, .ptr 5 0)] [(4, zV), (5, rV (bnQ m i))] 22 true) (by exact entA) rfl
 rintro _ rfl
 refine goA ?_
 exact rfl
def fcI (n r : Nat) (k l : Int) : Int := if r % 2 = 0 then bnG ((n : Int) + k - 1) (n - r) * bnG ((n : Int) + l - 1) r else -(bnG ((n : Int) + k - 1) (n - r) * bnG ((n : Int) + l - 1) r)
set_option maxHeartbeats 4000000 in
theorem rFac_p {n r : Nat} {k l : Int} (hn : n ≤ 6) (hr : r ≤ n) (hk : 0 ≤ k ∧ k ≤ 60) (hl : 0 ≤ l ∧ l ≤ 60) : PC Tryz.prog 48 [iV n, iV r, iV k, iV l] (encQ (fcI n r k l : Int)) := by
 have c1 := rBin_p (m := (n : Int) + k - 1) (s := n - r) (by omega) (by omega) (by omega)
 have c2 := rBin_p (m := (n : Int) + l - 1) (s := r) (by omega) (by omega) (by omega)
 rw [show ((n - r : Nat) : Int) = (n : Int) - r by omega] at c1
 obtain ⟨e1, h1⟩ := bnQ_eq (m := (n : Int) + k - 1) (i := n - r) (by omega) (by omega) (by omega)
 obtain ⟨e2, h2⟩ := bnQ_eq (m := (n : Int) + l - 1) (i := r) (by omega) (by omega) (by omega)
 unfold fcI
 rw [e1] at c1
 rw [e2] at c2
 generalize bnG ((n : Int) + k - 1) (n - r) = x at *
 generalize bnG ((n : Int) + l - 1) r = y at *
 clear e1 e2
 have hx : Ht (x : Rat) 1 := Zcj (by omega)
 have hy : Ht (y : Rat) 1 := Zcj (by omega)
 have c3 := (Zbv (Zaj hx) (Zaj hy) (by decide)).up (dm := true)
 have c4 := (refneg2_p (Zaj (Zci hx hy (by decide))) (by decide)).up (dm := true)
 rw [← Rat.intCast_mul] at c3 c4
 rw [← Rat.intCast_neg] at c4
 have c1 : PC Tryz.prog 85 [iV ((n : Int) + k - 1), iV ((n : Int) - r)] (rA (x : Rat)) := c1
 have c2 : PC Tryz.prog 85 [iV ((n : Int) + l - 1), iV r] (rA (y : Rat)) := c2
 have c3 : PC Tryz.prog 81 [rA (x : Rat), rA (y : Rat)] (rA ((x * y : Int) : Rat)) := c3
 have c4 : PC Tryz.prog 86 [rA ((x * y : Int) : Rat)] (rA ((-(x * y) : Int) : Rat)) := c4
 generalize hP : ((x * y : Int) : Rat) = P at *
 generalize hM : ((-(x * y) : Int) : Rat) = M at *
 by_cases hpar : r % 2 = 0
 ·have d2 : (((r : Int)).tmod 2 == 1) = false := by rw [show (r : Int).tmod 2 = ((r % 2 : Nat) : Int) from (Int.ofNat_tmod r 2).symm, hpar]; rfl
  rw [if_pos hpar, hP, show encQ P = rA P from rfl]
  clear hx hy hP hM
  generalize (x : Rat) = x1 at *
  generalize (y : Rat) = y1 at *
  refine Zaf true Tryz.func48 rfl rfl rfl (Nat.le_of_ble_eq_true rfl) (Zah.agg Zbf) ?_
  refine goA ?_
  refine evG ggA (Zab (Zaa rfl) rfl rfl c1) ?_
  refine goA ?_
  refine evG ggA (Zab (Zaa rfl) rfl rfl c2) ?_
  refine goA ?_
  refine evG ggA (Zab (Zaa rfl) rfl rfl c3) ?_
  refine goA ?_
  refine evG ggA (Za1 (op := .rem) (Zaa rfl) rfl rfl (by omega) rfl) ?_
  refine goA ?_
  exact rfl
 ·have d2 : (((r : Int)).tmod 2 == 1) = true := by rw [show (r : Int).tmod 2 = ((r % 2 : Nat) : Int) from (Int.ofNat_tmod r 2).symm, show r % 2 = 1 by omega]; rfl
  rw [if_neg hpar, hM, show encQ M = rA M from rfl]
  clear hx hy hP hM
  generalize (x : Rat) = x1 at *
  generalize (y : Rat) = y1 at *
  refine Zaf true Tryz.func48 rfl rfl rfl (Nat.le_of_ble_eq_true rfl) (Zah.agg Zbf) ?_
  refine goA ?_
  refine evG ggA (Zab (Zaa rfl) rfl rfl c1) ?_
  refine goA ?_
  refine evG ggA (Zab (Zaa rfl) rfl rfl c2) ?_
  refine goA ?_
  refine evG ggA (Zab (Zaa rfl) rfl rfl c3) ?_
  refine goA ?_
  refine evG ggA (Za1 (op := .rem) (Zaa rfl) rfl rfl (by omega) rfl) ?_
  refine goA ?_
  refine evG ggA (Zab (Zaa rfl) rfl rfl c4) ?_
  refine goA ?_
  exact rfl
theorem fcI_le {m r : Nat} {k l : Int} (hm : m ≤ 6) (hr : r ≤ m) (hk : 0 ≤ k ∧ k ≤ 60) (hl : 0 ≤ l ∧ l ≤ 60) : (bnG ((m : Int) + k - 1) (m - r) * bnG ((m : Int) + l - 1) r).natAbs ≤ 1000000000000000000 ∧ (fcI m r k l).natAbs ≤ 1000000000000000000 := by
 have h1 := (bnQ_eq (m := (m : Int) + k - 1) (i := m - r) (by omega) (by omega) (by omega)).2
 have h2 := (bnQ_eq (m := (m : Int) + l - 1) (i := r) (by omega) (by omega) (by omega)).2
 have h : (bnG ((m : Int) + k - 1) (m - r) * bnG ((m : Int) + l - 1) r).natAbs ≤ 1000000000 * 1000000000 := by
  rw [Int.natAbs_mul]
  exact Nat.mul_le_mul h1 h2
 refine ⟨h, ?_⟩
 unfold fcI
 split
 ·exact h
 ·rw [Int.natAbs_neg]; exact h
theorem ht_big {z : Int} (h : z.natAbs ≤ 1000000000000000000) : Ht (z : Rat) 2 := by
 have e : pw 2 = 18446744073709551616 := by decide
 refine ⟨?_, ?_⟩
 ·rw [Rat.num_intCast, e]; omega
 ·rw [Rat.den_intCast, e]; decide
theorem T.drawE {dm : Bool} {P : Program} {l : List Oper} {s : AS} {id : Nat} {Q : Exit → AS → Prop} (hm : P.follows .mixedOrders = true) (h : EvX dm false P l.toArray l s (fun z => okE z l (Region.before l.toArray) = true ∧ Q .normal z)) : T dm P (.region id l.toArray true) s Q := T.draw2 hm h
abbrev sV (x : Int × List AV) : Blk := .var [.v (iV x.1), .v (.sl x.2)]
abbrev wV (s : Int) (es : List AV) (k : Int) : Blk := .var [.v (iV s), .v (.sl es), .v (iV k)]
abbrev wA (s : Int) (es : List AV) (k : Int) : AV := .agg [iV s, .sl es, iV k]
abbrev sv0 : Blk := .var [.v (iV 0), .v (.p nilV)]
set_option maxHeartbeats 16000000 in
theorem qbs_bad {s t k l n a a' e e' : Int} {es fs A A' : List AV} (n1 : PC Tryz.prog 33 [serA s es] (.tup [serA a A, iV e])) (n2 : PC Tryz.prog 33 [serA t fs] (.tup [serA a' A', iV e'])) (h : e ≠ 0 ∨ e' ≠ 0 ∨ k < 0 ∨ 60 < k ∨ l < 0 ∨ 60 < l ∨ n < 0 ∨ 6 < n) : PC Tryz.prog 13 [wA s es k, wA t fs l, iV n] (.tup [serA 0 [], iV 2]) := by
 by_cases h0 : e ≠ 0
 ·have b0 : (e != 0) = true := by simp [h0]
  refine Zak true Tryz.func13 rfl rfl rfl (Nat.le_of_ble_eq_true rfl) (Zah.agg Zar) Zah.tmp ?_
  refine goA ?_
  refine evG ggA (Zab (Zaa rfl) rfl rfl n1) ?_
  refine goA ?_
  refine evG ggA (Zab (Zaa rfl) rfl rfl n2) ?_
  refine goA ?_
  exact rfl
 have b0 : (e != 0) = false := by simp; omega
 by_cases h1 : e' ≠ 0
 ·have b1 : (e' != 0) = true := by simp [h1]
  refine Zak true Tryz.func13 rfl rfl rfl (Nat.le_of_ble_eq_true rfl) (Zah.agg Zar) Zah.tmp ?_
  refine goA ?_
  refine evG ggA (Zab (Zaa rfl) rfl rfl n1) ?_
  refine goA ?_
  refine evG ggA (Zab (Zaa rfl) rfl rfl n2) ?_
  refine goA ?_
  exact rfl
 have b1 : (e' != 0) = false := by simp; omega
 by_cases h2 : k < 0
 ·have b2 : decide (k < 0) = true := decide_eq_true (by omega)
  refine Zak true Tryz.func13 rfl rfl rfl (Nat.le_of_ble_eq_true rfl) (Zah.agg Zar) Zah.tmp ?_
  refine goA ?_
  refine evG ggA (Zab (Zaa rfl) rfl rfl n1) ?_
  refine goA ?_
  refine evG ggA (Zab (Zaa rfl) rfl rfl n2) ?_
  refine goA ?_
  exact rfl
 have b2 : decide (k < 0) = false := decide_eq_false (by omega)
 by_cases h3 : 60 < k
 ·have b3 : decide (k > 60) = true := decide_eq_true (by omega)
  refine Zak true Tryz.func13 rfl rfl rfl (Nat.le_of_ble_eq_true rfl) (Zah.agg Zar) Zah.tmp ?_
  refine goA ?_
  refine evG ggA (Zab (Zaa rfl) rfl rfl n1) ?_
  refine goA ?_
  refine evG ggA (Zab (Zaa rfl) rfl rfl n2) ?_
  refine goA ?_
  exact rfl
 have b3 : decide (k > 60) = false := decide_eq_false (by omega)
 by_cases h4 : l < 0
 ·have b4 : decide (l < 0) = true := decide_eq_true (by omega)
  refine Zak true Tryz.func13 rfl rfl rfl (Nat.le_of_ble_eq_true rfl) (Zah.agg Zar) Zah.tmp ?_
  refine goA ?_
  refine evG ggA (Zab (Zaa rfl) rfl rfl n1) ?_
  refine goA ?_
  refine evG ggA (Zab (Zaa rfl) rfl rfl n2) ?_
  refine goA ?_
  exact rfl
 have b4 : decide (l < 0) = false := decide_eq_false (by omega)
 by_cases h5 : 60 < l
 ·have b5 : decide (l > 60) = true := decide_eq_true (by omega)
  refine Zak true Tryz.func13 rfl rfl rfl (Nat.le_of_ble_eq_true rfl) (Zah.agg Zar) Zah.tmp ?_
  refine goA ?_
  refine evG ggA (Zab (Zaa rfl) rfl rfl n1) ?_
  refine goA ?_
  refine evG ggA (Zab (Zaa rfl) rfl rfl n2) ?_
  refine goA ?_
  exact rfl
 have b5 : decide (l > 60) = false := decide_eq_false (by omega)
 by_cases h6 : n < 0
 ·have b6 : decide (n < 0) = true := decide_eq_true (by omega)
  refine Zak true Tryz.func13 rfl rfl rfl (Nat.le_of_ble_eq_true rfl) (Zah.agg Zar) Zah.tmp ?_
  refine goA ?_
  refine evG ggA (Zab (Zaa rfl) rfl rfl n1) ?_
  refine goA ?_
  refine evG ggA (Zab (Zaa rfl) rfl rfl n2) ?_
  refine goA ?_
  exact rfl
 have b6 : decide (n < 0) = false := decide_eq_false (by omega)
 by_cases h7 : 6 < n
 ·have b7 : decide (n > 6) = true := decide_eq_true (by omega)
  refine Zak true Tryz.func13 rfl rfl rfl (Nat.le_of_ble_eq_true rfl) (Zah.agg Zar) Zah.tmp ?_
  refine goA ?_
  refine evG ggA (Zab (Zaa rfl) rfl rfl n1) ?_
  refine goA ?_
  refine evG ggA (Zab (Zaa rfl) rfl rfl n2) ?_
  refine goA ?_
  exact rfl
 have b7 : decide (n > 6) = false := decide_eq_false (by omega)
 exfalso
 rcases h with h | h | h | h | h | h | h | h
 ·exact h0 h
 ·exact h1 h
 ·exact h2 h
 ·exact h3 h
 ·exact h4 h
 ·exact h5 h
 ·exact h6 h
 ·exact h7 h
theorem qbs_mul {n : Nat} (hn : n ≤ 6) {s t k l : Int} {es fs : List AV} {f g : Int × List AV} (hk : 0 ≤ k ∧ k ≤ 60) (hl : 0 ≤ l ∧ l ≤ 60) (n1 : PC Tryz.prog 33 [serA s es] (.tup [serA f.1 f.2, iV 0])) (n2 : PC Tryz.prog 33 [serA t fs] (.tup [serA g.1 g.2, iV 0])) (hm0 : PC Tryz.prog 26 [serA f.1 f.2, serA g.1 g.2] (.tup [serA 0 [], iV 2])) :
  PC Tryz.prog 13 [wA s es k, wA t fs l, iV n] (.tup [serA 0 [], iV 2]) := by
 have c1 : decide (k < 0) = false := decide_eq_false (by omega)
 have c2 : decide (k > 60) = false := decide_eq_false (by omega)
 have c3 : decide (l < 0) = false := decide_eq_false (by omega)
 have c4 : decide (l > 60) = false := decide_eq_false (by omega)
 have c5 : decide ((n : Int) < 0) = false := decide_eq_false (by omega)
 have c6 : decide ((n : Int) > 6) = false := decide_eq_false (by omega)
 refine Zak true Tryz.func13 rfl rfl rfl (Nat.le_of_ble_eq_true rfl) (Zah.agg Zar) Zah.tmp ?_
 refine goA ?_
 refine evG ggA (Zab (Zaa rfl) rfl rfl n1) ?_
 refine goA ?_
 refine evG ggA (Zab (Zaa rfl) rfl rfl n2) ?_
 refine goA ?_
 refine evG ggA (Zab (Zaa rfl) rfl rfl hm0) ?_
 refine goA ?_
 exact rfl
set_option maxHeartbeats 32000000 in
theorem qbs_core {n : Nat} (hn : n ≤ 6) {s t k l v p : Int} {es fs W : List AV} {f g o m z : Nat → Int × List AV} {b1 b2 : Nat → Int} {q : Nat → Rat} (hk : 0 ≤ k ∧ k ≤ 60) (hl : 0 ≤ l ∧ l ≤ 60)
  (n1 : PC Tryz.prog 33 [serA s es] (.tup [serA (f 0).1 (f 0).2, iV 0])) (n2 : PC Tryz.prog 33 [serA t fs] (.tup [serA (g 0).1 (g 0).2, iV 0])) (hm0 : PC Tryz.prog 26 [serA (f 0).1 (f 0).2, serA (g 0).1 (g 0).2] (.tup [serA v W, iV 0])) (hp : PC Tryz.prog 45 [serA v W] (.tup [iV p, iV 0]))
  (hd1 : ∀ i, i < n → PC Tryz.prog 34 [serA (f i).1 (f i).2] (.tup [serA (f (i + 1)).1 (f (i + 1)).2, iV 0])) (hd2 : ∀ i, i < n → PC Tryz.prog 34 [serA (g i).1 (g i).2] (.tup [serA (g (i + 1)).1 (g (i + 1)).2, iV 0]))
  (h0 : PC Tryz.prog 23 [iV 0] (encQ 0)) (hmon : PC Tryz.prog 22 [encQ 0, iV 0, iV p] (.tup [serA (o 0).1 (o 0).2, iV 0]))
  (hb1 : ∀ r : Nat, r ≤ n → PC Tryz.prog 46 [iV ((n : Int) + k - 1), iV ((n : Int) - r)] (iV (b1 r))) (hb2 : ∀ r : Nat, r ≤ n → PC Tryz.prog 46 [iV ((n : Int) + l - 1), iV r] (iV (b2 r))) (hbl : ∀ r, r ≤ n → (b1 r * b2 r).natAbs ≤ 1000000000000000000)
  (hof : ∀ r, r ≤ n → PC Tryz.prog 23 [iV (if r % 2 = 0 then b1 r * b2 r else -(b1 r * b2 r))] (encQ (q r))) (hm : ∀ r, r ≤ n → PC Tryz.prog 26 [serA (f r).1 (f r).2, serA (g (n - r)).1 (g (n - r)).2] (.tup [serA (m r).1 (m r).2, iV 0]))
  (hs : ∀ r, r ≤ n → PC Tryz.prog 35 [encQ (q r), serA (m r).1 (m r).2] (.tup [serA (z r).1 (z r).2, iV 0])) (ha : ∀ r, r ≤ n → PC Tryz.prog 27 [serA (o r).1 (o r).2, serA (z r).1 (z r).2] (.tup [serA (o (r + 1)).1 (o (r + 1)).2, iV 0])) :
  PC Tryz.prog 13 [wA s es k, wA t fs l, iV n] (.tup [serA (o (n + 1)).1 (o (n + 1)).2, iV 0]) := by
 have c1 : decide (k < 0) = false := decide_eq_false (by omega)
 have c2 : decide (k > 60) = false := decide_eq_false (by omega)
 have c3 : decide (l < 0) = false := decide_eq_false (by omega)
 have c4 : decide (l > 60) = false := decide_eq_false (by omega)
 have c5 : decide ((n : Int) < 0) = false := decide_eq_false (by omega)
 have c6 : decide ((n : Int) > 6) = false := decide_eq_false (by omega)
 have fm : ∀ m, (((List.range m).map (fun i => serA (f i).1 (f i).2))).length = m := fun m => by simp
 have fa : ∀ m i, i < m → (((List.range m).map (fun i => serA (f i).1 (f i).2)))[i]? = some (.agg [iV (f i).1, .sl (f i).2]) := fun m i h => by rw [List.getElem?_map, List.getElem?_range h]; rfl
 have fap : ∀ m, ((List.range m).map (fun i => serA (f i).1 (f i).2)) ++ [serA (f m).1 (f m).2] = ((List.range (m + 1)).map (fun i => serA (f i).1 (f i).2)) := fun m => by rw [List.range_succ, List.map_append]; rfl
 have gm : ∀ m, (((List.range m).map (fun i => serA (g i).1 (g i).2))).length = m := fun m => by simp
 have ga : ∀ m i, i < m → (((List.range m).map (fun i => serA (g i).1 (g i).2)))[i]? = some (.agg [iV (g i).1, .sl (g i).2]) := fun m i h => by rw [List.getElem?_map, List.getElem?_range h]; rfl
 have gap : ∀ m, ((List.range m).map (fun i => serA (g i).1 (g i).2)) ++ [serA (g m).1 (g m).2] = ((List.range (m + 1)).map (fun i => serA (g i).1 (g i).2)) := fun m => by rw [List.range_succ, List.map_append]; rfl
 refine Zak true Tryz.func13 rfl rfl rfl (Nat.le_of_ble_eq_true rfl) (Zah.agg Zar) Zah.tmp ?_
 refine goA ?_
 refine evG ggA (Zab (Zaa rfl) rfl rfl n1) ?_
 refine goA ?_
 refine evG ggA (Zab (Zaa rfl) rfl rfl n2) ?_
 refine goA ?_
 refine evG ggA (Zab (Zaa rfl) rfl rfl hm0) ?_
 refine goA ?_
 refine evG ggA (Zab (Zaa rfl) rfl rfl hp) ?_
 refine goA ?_
 refine evG ggA (Zbn 31 (Zaa rfl) rfl (Zai rfl) rfl rfl rfl rfl (Zbu rfl) (Nat.le_of_ble_eq_true rfl) (by decide) (fun _ a ha => by rw [List.mem_singleton] at ha; subst ha; exact List.all_eq_true.1 rfl)) ?_
 refine goA ?_
 refine evG ggA (Zbn 32 (Zaa rfl) rfl (Zai rfl) rfl rfl rfl rfl (Zbu rfl) (Nat.le_of_ble_eq_true rfl) (by decide) (fun _ a ha => by rw [List.mem_singleton] at ha; subst ha; exact List.all_eq_true.1 rfl)) ?_
 refine runA ?_
 refine Zaw ?_
 refine osA ?_
 refine T.seqI (fun s1 => s1 = mkS [(2, .v (iV n)), (3, .ptr 3 0), (4, .ptr 4 0), (6, .ptr 6 0), (13, .v (iV p)), (15, .v (.sl ((List.range (n + 1)).map (fun i => serA (f i).1 (f i).2)))), (16, .v (.sl ((List.range (n + 1)).map (fun i => serA (g i).1 (g i).2))))] [(3, wV s es k), (4, wV t fs l), (6, sv0)] 193 true) ?_ ?_
 ·refine r1A ?_
  refine T.block ?_
  refine T.loop (fun N s1 => ∃ i : Nat, N = n - i ∧ i ≤ n ∧ s1 = mkS [(2, .v (iV n)), (3, .ptr 3 0), (4, .ptr 4 0), (6, .ptr 6 0), (13, .v (iV p)), (15, .own 31 (i + 1)), (16, .own 32 (i + 1)), (94, .v (iV n)), (95, .v (iV i))] [(3, wV s es k), (4, wV t fs l), (6, sv0), (31, .lst 2 28 ((List.range (i + 1)).map (fun i => serA (f i).1 (f i).2))), (32, .lst 2 28 ((List.range (i + 1)).map (fun i => serA (g i).1 (g i).2)))] 193 true) n
   (s' := mkS [(2, .v (iV n)), (3, .ptr 3 0), (4, .ptr 4 0), (6, .ptr 6 0), (13, .v (iV p)), (15, .own 31 (1)), (16, .own 32 (1)), (94, .v (iV n)), (95, .v (iV ((0 : Nat) : Int)))] [(3, wV s es k), (4, wV t fs l), (6, sv0), (31, .lst 2 28 [serA (f 0).1 (f 0).2]), (32, .lst 2 28 [serA (g 0).1 (g 0).2])] 193 true) (by exact entA) ⟨0, rfl, Nat.zero_le _, rfl⟩ ?_
  rintro _ _ ⟨i, rfl, hi, rfl⟩
  have ef := fm (i + 1)
  have eg := gm (i + 1)
  by_cases hlt : i < n
  ·have d0 : decide ((i : Int) < (n : Int)) = true := decide_eq_true (by omega)
   have e1 := fa (i + 1) i (by omega)
   have e2 := ga (i + 1) i (by omega)
   have e3 := fap (i + 1)
   have e4 := gap (i + 1)
   have d1 := hd1 i hlt
   have d2 := hd2 i hlt
   have hfin : ∃ i' : Nat, n - (i + 1) = n - i' ∧ i' ≤ n ∧ mkS [(2, .v (iV n)), (3, .ptr 3 0), (4, .ptr 4 0), (6, .ptr 6 0), (13, .v (iV p)), (15, .own 31 (i + 1 + 1)), (16, .own 32 (i + 1 + 1)), (94, .v (iV n)), (95, .v (iV ((i : Int) + 1)))] [(3, wV s es k), (4, wV t fs l), (6, sv0), (31, .lst 2 28 ((List.range (i + 1 + 1)).map (fun i => serA (f i).1 (f i).2))), (32, .lst 2 28 ((List.range (i + 1 + 1)).map (fun i => serA (g i).1 (g i).2)))] 193 true = mkS [(2, .v (iV n)), (3, .ptr 3 0), (4, .ptr 4 0), (6, .ptr 6 0), (13, .v (iV p)), (15, .own 31 (i' + 1)), (16, .own 32 (i' + 1)), (94, .v (iV n)), (95, .v (iV i'))] [(3, wV s es k), (4, wV t fs l), (6, sv0), (31, .lst 2 28 ((List.range (i' + 1)).map (fun i => serA (f i).1 (f i).2))), (32, .lst 2 28 ((List.range (i' + 1)).map (fun i => serA (g i).1 (g i).2)))] 193 true := ⟨i + 1, rfl, hlt, rfl⟩
   generalize hF2 : ((List.range (i + 1 + 1)).map (fun i => serA (f i).1 (f i).2)) = F2 at *
   generalize hG2 : ((List.range (i + 1 + 1)).map (fun i => serA (g i).1 (g i).2)) = G2 at *
   generalize ((List.range (i + 1)).map (fun i => serA (f i).1 (f i).2)) = F at *
   generalize ((List.range (i + 1)).map (fun i => serA (g i).1 (g i).2)) = G at *
   generalize f i = fi at *
   generalize g i = gi at *
   generalize f (i + 1) = fj at *
   generalize g (i + 1) = gj at *
   obtain ⟨fi1, fi2⟩ := fi
   obtain ⟨gi1, gi2⟩ := gi
   obtain ⟨fj1, fj2⟩ := fj
   obtain ⟨gj1, gj2⟩ := gj
   simp only at e1 e2 e3 e4 d1 d2
   clear fm gm fa ga fap gap n1 n2 hm0 hp hd1 hd2 h0 hmon hb1 hb2 hbl hof hm hs ha hF2 hG2
   refine goA ?_
   refine evG ggA (Zax (Zaa rfl) (Zag rfl) rfl rfl ef rfl (by omega) (by omega)) ?_
   rw [show ((i : Nat) : Int).toNat = i by omega]
   refine evG ggA (Zbe (Zaa rfl) (Zby rfl) rfl rfl ef e1) ?_
   refine goA ?_
   refine evG ggA (Zab (Zaa rfl) rfl rfl d1) ?_
   refine goA ?_
   refine evG ggA (Zax (Zaa rfl) (Zag rfl) rfl rfl eg rfl (by omega) (by omega)) ?_
   rw [show ((i : Nat) : Int).toNat = i by omega]
   refine evG ggA (Zbe (Zaa rfl) (Zby rfl) rfl rfl eg e2) ?_
   refine goA ?_
   refine evG ggA (Zab (Zaa rfl) rfl rfl d2) ?_
   refine runA ?_
   refine Zaw ?_
   refine osA ?_
   first
    | refine T.drawE mixed ?_
    | (refine T.seq ?_; refine T.drawE mixed ?_)
   refine runA ?_
   refine evG ggA (Zat (Zaa rfl) (Zai rfl) rfl rfl rfl rfl (Zbu rfl) (Nat.le_of_ble_eq_true rfl)) ?_
   refine evG ggA (Zdx (a := serA fj1 fj2) (Zaa rfl) (Zai rfl) rfl rfl ef rfl rfl (by decide) rfl (by omega) (Nat.le_of_ble_eq_true rfl) rfl) ?_
   refine runA ?_
   refine evG ggA (Zat (Zaa rfl) (Zai rfl) rfl rfl rfl rfl (Zbu rfl) (Nat.le_of_ble_eq_true rfl)) ?_
   refine evG ggA (Zdx (a := serA gj1 gj2) (Zaa rfl) (Zai rfl) rfl rfl eg rfl rfl (by decide) rfl (by omega) (Nat.le_of_ble_eq_true rfl) rfl) ?_
   refine runA ?_
   refine Zaw ⟨by kernel_rfl, ?_⟩
   rw [e3, e4]
   refine goA ?_
   exact Zae (k := n - (i + 1)) (s' := mkS [(2, .v (iV n)), (3, .ptr 3 0), (4, .ptr 4 0), (6, .ptr 6 0), (13, .v (iV p)), (15, .own 31 (i + 1 + 1)), (16, .own 32 (i + 1 + 1)), (94, .v (iV n)), (95, .v (iV ((i : Int) + 1)))] [(3, wV s es k), (4, wV t fs l), (6, sv0), (31, .lst 2 28 F2), (32, .lst 2 28 G2)] 193 true) (by omega) (by exact entA) hfin
  ·obtain rfl : i = n := by omega
   have d0 : decide ((i : Int) < (i : Int)) = false := decide_eq_false (by omega)
   refine goA ?_
   exact Zac (s' := mkS [(2, .v (iV i)), (3, .ptr 3 0), (4, .ptr 4 0), (6, .ptr 6 0), (13, .v (iV p)), (15, .v (.sl ((List.range (i + 1)).map (fun i => serA (f i).1 (f i).2)))), (16, .v (.sl ((List.range (i + 1)).map (fun i => serA (g i).1 (g i).2))))] [(3, wV s es k), (4, wV t fs l), (6, sv0)] 193 true) (by exact entA) rfl
 rintro _ rfl
 have fa := fa (n + 1)
 have ga := ga (n + 1)
 clear fap gap fm gm hd1 hd2 hm0 hp n1 n2
 generalize ((List.range (n + 1)).map (fun i => serA (f i).1 (f i).2)) = F at *
 generalize ((List.range (n + 1)).map (fun i => serA (g i).1 (g i).2)) = G at *
 refine goA ?_
 refine evG ggA (Zab (Zaa rfl) rfl rfl h0) ?_
 refine goA ?_
 refine evG ggA (Zab (Zaa rfl) rfl rfl hmon) ?_
 refine goA ?_
 refine T.loop (fun N s1 => ∃ r : Nat, N = n + 1 - r ∧ r ≤ n + 1 ∧ s1 = mkS [(2, .v (iV n)), (3, .ptr 3 0), (4, .ptr 4 0), (6, .ptr 6 0), (15, .v (.sl F)), (16, .v (.sl G)), (22, .ptr 22 0), (130, .v (iV ((n : Int) + 1))), (131, .v (iV r))] [(3, wV s es k), (4, wV t fs l), (6, sv0), (22, sV (o r))] 193 true) (n + 1)
  (s' := mkS [(2, .v (iV n)), (3, .ptr 3 0), (4, .ptr 4 0), (6, .ptr 6 0), (15, .v (.sl F)), (16, .v (.sl G)), (22, .ptr 22 0), (130, .v (iV ((n : Int) + 1))), (131, .v (iV ((0 : Nat) : Int)))] [(3, wV s es k), (4, wV t fs l), (6, sv0), (22, sV (o 0))] 193 true) (by exact entA) ⟨0, rfl, Nat.zero_le _, rfl⟩ ?_
 rintro _ _ ⟨r, rfl, hr, rfl⟩
 by_cases hlt : r < n + 1
 ·have d1 : decide ((r : Int) < (n : Int) + 1) = true := decide_eq_true (by omega)
  have e1 : F[((r : Nat) : Int).toNat]? = some (.agg [iV (f r).1, .sl (f r).2]) := by rw [show ((r : Nat) : Int).toNat = r by omega]; exact fa r hlt
  have e2 : G[((n : Int) - (r : Int)).toNat]? = some (.agg [iV (g (n - r)).1, .sl (g (n - r)).2]) := by rw [show ((n : Int) - (r : Int)).toNat = n - r by omega]; exact ga _ (by omega)
  have k1 := hb1 r (by omega)
  have k2 := hb2 r (by omega)
  have k3 := hbl r (by omega)
  have k4 := hof r (by omega)
  have k5 := hm r (by omega)
  have k6 := hs r (by omega)
  have k7 := ha r (by omega)
  have hfin : ∃ r' : Nat, n + 1 - (r + 1) = n + 1 - r' ∧ r' ≤ n + 1 ∧ mkS [(2, .v (iV n)), (3, .ptr 3 0), (4, .ptr 4 0), (6, .ptr 6 0), (15, .v (.sl F)), (16, .v (.sl G)), (22, .ptr 22 0), (130, .v (iV ((n : Int) + 1))), (131, .v (iV ((r : Int) + 1)))] [(3, wV s es k), (4, wV t fs l), (6, sv0), (22, sV (o (r + 1)))] 193 true = mkS [(2, .v (iV n)), (3, .ptr 3 0), (4, .ptr 4 0), (6, .ptr 6 0), (15, .v (.sl F)), (16, .v (.sl G)), (22, .ptr 22 0), (130, .v (iV ((n : Int) + 1))), (131, .v (iV r'))] [(3, wV s es k), (4, wV t fs l), (6, sv0), (22, sV (o r'))] 193 true := ⟨r + 1, rfl, hlt, rfl⟩
  clear hb1 hb2 hbl hof hm hs ha h0 hmon fa ga
  generalize b1 r = B1 at *
  generalize b2 r = B2 at *
  generalize hP : B1 * B2 = P at *
  generalize q r = qr at *
  generalize f r = fr at *
  generalize g (n - r) = gr at *
  generalize m r = mr at *
  generalize z r = zr at *
  generalize hO : o (r + 1) = ox at *
  generalize o r = or at *
  obtain ⟨fr1, fr2⟩ := fr
  obtain ⟨gr1, gr2⟩ := gr
  obtain ⟨mr1, mr2⟩ := mr
  obtain ⟨zr1, zr2⟩ := zr
  obtain ⟨ox1, ox2⟩ := ox
  obtain ⟨or1, or2⟩ := or
  simp only at e1 e2 k5 k6 k7
  by_cases hpar : r % 2 = 0
  ·have d2 : (((r : Int)).tmod 2 != 0) = false := by rw [show (r : Int).tmod 2 = ((r % 2 : Nat) : Int) from (Int.ofNat_tmod r 2).symm, hpar]; rfl
   rw [if_pos hpar] at k4
   refine goA ?_
   refine evG ggA (Zab (Zaa rfl) rfl rfl k1) ?_
   refine goA ?_
   refine evG ggA (Zab (Zaa rfl) rfl rfl k2) ?_
   refine goA ?_
   rw [hP]
   refine goA ?_
   refine evG ggA (Za1 (op := .rem) (Zaa rfl) rfl rfl (by omega) rfl) ?_
   refine goA ?_
   refine evG ggA (Zad (Zaa rfl) (Zag rfl) rfl rfl (by omega) e1 rfl) ?_
   refine goA ?_
   refine evG ggA (Zad (Zaa rfl) (Zag rfl) rfl rfl (by omega) e2 rfl) ?_
   refine goA ?_
   refine evG ggA (Zab (Zaa rfl) rfl rfl k5) ?_
   refine goA ?_
   refine evG ggA (Zab (Zaa rfl) rfl rfl k4) ?_
   refine goA ?_
   refine evG ggA (Zab (Zaa rfl) rfl rfl k6) ?_
   refine goA ?_
   refine evG ggA (Zab (Zaa rfl) rfl rfl k7) ?_
   refine goA ?_
   exact Zae (k := n + 1 - (r + 1)) (s' := mkS [(2, .v (iV n)), (3, .ptr 3 0), (4, .ptr 4 0), (6, .ptr 6 0), (15, .v (.sl F)), (16, .v (.sl G)), (22, .ptr 22 0), (130, .v (iV ((n : Int) + 1))), (131, .v (iV ((r : Int) + 1)))] [(3, wV s es k), (4, wV t fs l), (6, sv0), (22, sV (ox1, ox2))] 193 true) (by omega) (by exact entA) hfin
  ·have d2 : (((r : Int)).tmod 2 != 0) = true := by rw [show (r : Int).tmod 2 = ((r % 2 : Nat) : Int) from (Int.ofNat_tmod r 2).symm, show r % 2 = 1 by omega]; rfl
   rw [if_neg hpar] at k4
   have hneg : (0 : Int) - P = -P := Int.zero_sub P
   refine goA ?_
   refine evG ggA (Zab (Zaa rfl) rfl rfl k1) ?_
   refine goA ?_
   refine evG ggA (Zab (Zaa rfl) rfl rfl k2) ?_
   refine goA ?_
   rw [hP]
   refine goA ?_
   refine evG ggA (Za1 (op := .rem) (Zaa rfl) rfl rfl (by omega) rfl) ?_
   refine goA ?_
   rw [hneg]
   refine goA ?_
   refine evG ggA (Zad (Zaa rfl) (Zag rfl) rfl rfl (by omega) e1 rfl) ?_
   refine goA ?_
   refine evG ggA (Zad (Zaa rfl) (Zag rfl) rfl rfl (by omega) e2 rfl) ?_
   refine goA ?_
   refine evG ggA (Zab (Zaa rfl) rfl rfl k5) ?_
   refine goA ?_
   refine evG ggA (Zab (Zaa rfl) rfl rfl k4) ?_
   refine goA ?_
   refine evG ggA (Zab (Zaa rfl) rfl rfl k6) ?_
   refine goA ?_
   refine evG ggA (Zab (Zaa rfl) rfl rfl k7) ?_
   refine goA ?_
   exact Zae (k := n + 1 - (r + 1)) (s' := mkS [(2, .v (iV n)), (3, .ptr 3 0), (4, .ptr 4 0), (6, .ptr 6 0), (15, .v (.sl F)), (16, .v (.sl G)), (22, .ptr 22 0), (130, .v (iV ((n : Int) + 1))), (131, .v (iV ((r : Int) + 1)))] [(3, wV s es k), (4, wV t fs l), (6, sv0), (22, sV (ox1, ox2))] 193 true) (by omega) (by exact entA) hfin
 ·obtain rfl : r = n + 1 := by omega
  have d1 : decide (((n + 1 : Nat) : Int) < (n : Int) + 1) = false := decide_eq_false (by omega)
  refine goA ?_
  exact rfl
theorem rbs_bad1 {s t k l n : Int} {es fs : List AV} (hc : PC Tryz.prog 32 [serA s es] (iV 2)) : PC Tryz.prog 14 [wA s es k, wA t fs l, iV n] (.tup [serA 0 [], iV 2]) := by
 refine Zak true Tryz.func14 rfl rfl rfl (Nat.le_of_ble_eq_true rfl) (Zah.agg Zar) Zah.tmp ?_
 refine goA ?_
 refine evG ggA (Zab (Zaa rfl) rfl rfl hc) ?_
 refine goA ?_
 exact rfl
theorem rbs_bad2 {s t k l n : Int} {es fs : List AV} (hc : PC Tryz.prog 32 [serA s es] (iV 0)) (hc' : PC Tryz.prog 32 [serA t fs] (iV 2)) : PC Tryz.prog 14 [wA s es k, wA t fs l, iV n] (.tup [serA 0 [], iV 2]) := by
 refine Zak true Tryz.func14 rfl rfl rfl (Nat.le_of_ble_eq_true rfl) (Zah.agg Zar) Zah.tmp ?_
 refine goA ?_
 refine evG ggA (Zab (Zaa rfl) rfl rfl hc) ?_
 refine goA ?_
 refine evG ggA (Zab (Zaa rfl) rfl rfl hc') ?_
 refine goA ?_
 exact rfl
set_option maxHeartbeats 16000000 in
theorem rbs_range {s t k l n : Int} {es fs : List AV} (hc : PC Tryz.prog 32 [serA s es] (iV 0)) (hc' : PC Tryz.prog 32 [serA t fs] (iV 0)) (h : k < 0 ∨ 60 < k ∨ l < 0 ∨ 60 < l ∨ n < 0 ∨ 6 < n) : PC Tryz.prog 14 [wA s es k, wA t fs l, iV n] (.tup [serA 0 [], iV 2]) := by
 by_cases h0 : k < 0
 ·have b0 : decide (k < 0) = true := decide_eq_true (by omega)
  refine Zak true Tryz.func14 rfl rfl rfl (Nat.le_of_ble_eq_true rfl) (Zah.agg Zar) Zah.tmp ?_
  refine goA ?_
  refine evG ggA (Zab (Zaa rfl) rfl rfl hc) ?_
  refine goA ?_
  refine evG ggA (Zab (Zaa rfl) rfl rfl hc') ?_
  refine goA ?_
  exact rfl
 have b0 : decide (k < 0) = false := decide_eq_false (by omega)
 by_cases h1 : 60 < k
 ·have b1 : decide (k > 60) = true := decide_eq_true (by omega)
  refine Zak true Tryz.func14 rfl rfl rfl (Nat.le_of_ble_eq_true rfl) (Zah.agg Zar) Zah.tmp ?_
  refine goA ?_
  refine evG ggA (Zab (Zaa rfl) rfl rfl hc) ?_
  refine goA ?_
  refine evG ggA (Zab (Zaa rfl) rfl rfl hc') ?_
  refine goA ?_
  exact rfl
 have b1 : decide (k > 60) = false := decide_eq_false (by omega)
 by_cases h2 : l < 0
 ·have b2 : decide (l < 0) = true := decide_eq_true (by omega)
  refine Zak true Tryz.func14 rfl rfl rfl (Nat.le_of_ble_eq_true rfl) (Zah.agg Zar) Zah.tmp ?_
  refine goA ?_
  refine evG ggA (Zab (Zaa rfl) rfl rfl hc) ?_
  refine goA ?_
  refine evG ggA (Zab (Zaa rfl) rfl rfl hc') ?_
  refine goA ?_
  exact rfl
 have b2 : decide (l < 0) = false := decide_eq_false (by omega)
 by_cases h3 : 60 < l
 ·have b3 : decide (l > 60) = true := decide_eq_true (by omega)
  refine Zak true Tryz.func14 rfl rfl rfl (Nat.le_of_ble_eq_true rfl) (Zah.agg Zar) Zah.tmp ?_
  refine goA ?_
  refine evG ggA (Zab (Zaa rfl) rfl rfl hc) ?_
  refine goA ?_
  refine evG ggA (Zab (Zaa rfl) rfl rfl hc') ?_
  refine goA ?_
  exact rfl
 have b3 : decide (l > 60) = false := decide_eq_false (by omega)
 by_cases h4 : n < 0
 ·have b4 : decide (n < 0) = true := decide_eq_true (by omega)
  refine Zak true Tryz.func14 rfl rfl rfl (Nat.le_of_ble_eq_true rfl) (Zah.agg Zar) Zah.tmp ?_
  refine goA ?_
  refine evG ggA (Zab (Zaa rfl) rfl rfl hc) ?_
  refine goA ?_
  refine evG ggA (Zab (Zaa rfl) rfl rfl hc') ?_
  refine goA ?_
  exact rfl
 have b4 : decide (n < 0) = false := decide_eq_false (by omega)
 by_cases h5 : 6 < n
 ·have b5 : decide (n > 6) = true := decide_eq_true (by omega)
  refine Zak true Tryz.func14 rfl rfl rfl (Nat.le_of_ble_eq_true rfl) (Zah.agg Zar) Zah.tmp ?_
  refine goA ?_
  refine evG ggA (Zab (Zaa rfl) rfl rfl hc) ?_
  refine goA ?_
  refine evG ggA (Zab (Zaa rfl) rfl rfl hc') ?_
  refine goA ?_
  exact rfl
 have b5 : decide (n > 6) = false := decide_eq_false (by omega)
 exfalso
 rcases h with h | h | h | h | h | h
 ·exact h0 h
 ·exact h1 h
 ·exact h2 h
 ·exact h3 h
 ·exact h4 h
 ·exact h5 h
theorem rbs_mul {n : Nat} (hn : n ≤ 6) {s t k l : Int} {es fs : List AV} (hk : 0 ≤ k ∧ k ≤ 60) (hl : 0 ≤ l ∧ l ≤ 60) (hc : PC Tryz.prog 32 [serA s es] (iV 0)) (hc' : PC Tryz.prog 32 [serA t fs] (iV 0)) (hm0 : PC Tryz.prog 41 [serA s es, serA t fs] (.tup [serA 0 [], iV 2])) : PC Tryz.prog 14 [wA s es k, wA t fs l, iV n] (.tup [serA 0 [], iV 2]) := by
 have c1 : decide (k < 0) = false := decide_eq_false (by omega)
 have c2 : decide (k > 60) = false := decide_eq_false (by omega)
 have c3 : decide (l < 0) = false := decide_eq_false (by omega)
 have c4 : decide (l > 60) = false := decide_eq_false (by omega)
 have c5 : decide ((n : Int) < 0) = false := decide_eq_false (by omega)
 have c6 : decide ((n : Int) > 6) = false := decide_eq_false (by omega)
 refine Zak true Tryz.func14 rfl rfl rfl (Nat.le_of_ble_eq_true rfl) (Zah.agg Zar) Zah.tmp ?_
 refine goA ?_
 refine evG ggA (Zab (Zaa rfl) rfl rfl hc) ?_
 refine goA ?_
 refine evG ggA (Zab (Zaa rfl) rfl rfl hc') ?_
 refine goA ?_
 refine evG ggA (Zab (Zaa rfl) rfl rfl hm0) ?_
 refine goA ?_
 exact rfl
set_option maxHeartbeats 32000000 in
theorem rbs_core {n : Nat} (hn : n ≤ 6) {s t k l v p : Int} {es fs W : List AV} {f g o m z : Nat → Int × List AV} {q : Nat → Rat} (hk : 0 ≤ k ∧ k ≤ 60) (hl : 0 ≤ l ∧ l ≤ 60) (f0 : f 0 = (s, es)) (g0 : g 0 = (t, fs))
  (hc : PC Tryz.prog 32 [serA s es] (iV 0)) (hc' : PC Tryz.prog 32 [serA t fs] (iV 0)) (hm0 : PC Tryz.prog 41 [serA s es, serA t fs] (.tup [serA v W, iV 0])) (hp : PC Tryz.prog 39 [serA v W] (iV p)) (he : PC Tryz.prog 47 [iV p] (serA (o 0).1 (o 0).2))
  (hd1 : ∀ i, i < n → PC Tryz.prog 43 [serA (f i).1 (f i).2] (.tup [serA (f (i + 1)).1 (f (i + 1)).2, iV 0])) (hd2 : ∀ i, i < n → PC Tryz.prog 43 [serA (g i).1 (g i).2] (.tup [serA (g (i + 1)).1 (g (i + 1)).2, iV 0]))
  (hf : ∀ r : Nat, r ≤ n → PC Tryz.prog 48 [iV n, iV r, iV k, iV l] (encQ (q r))) (hm : ∀ r, r ≤ n → PC Tryz.prog 41 [serA (f r).1 (f r).2, serA (g (n - r)).1 (g (n - r)).2] (.tup [serA (m r).1 (m r).2, iV 0]))
  (hs : ∀ r, r ≤ n → PC Tryz.prog 42 [encQ (q r), serA (m r).1 (m r).2] (.tup [serA (z r).1 (z r).2, iV 0])) (ha : ∀ r, r ≤ n → PC Tryz.prog 44 [serA (o r).1 (o r).2, serA (z r).1 (z r).2] (.tup [serA (o (r + 1)).1 (o (r + 1)).2, iV 0])) :
  PC Tryz.prog 14 [wA s es k, wA t fs l, iV n] (.tup [serA (o (n + 1)).1 (o (n + 1)).2, iV 0]) := by
 have c1 : decide (k < 0) = false := decide_eq_false (by omega)
 have c2 : decide (k > 60) = false := decide_eq_false (by omega)
 have c3 : decide (l < 0) = false := decide_eq_false (by omega)
 have c4 : decide (l > 60) = false := decide_eq_false (by omega)
 have c5 : decide ((n : Int) < 0) = false := decide_eq_false (by omega)
 have c6 : decide ((n : Int) > 6) = false := decide_eq_false (by omega)
 refine Zak true Tryz.func14 rfl rfl rfl (Nat.le_of_ble_eq_true rfl) (Zah.agg Zar) Zah.tmp ?_
 refine goA ?_
 refine evG ggA (Zab (Zaa rfl) rfl rfl hc) ?_
 refine goA ?_
 refine evG ggA (Zab (Zaa rfl) rfl rfl hc') ?_
 refine goA ?_
 refine evG ggA (Zab (Zaa rfl) rfl rfl hm0) ?_
 refine goA ?_
 refine evG ggA (Zab (Zaa rfl) rfl rfl hp) ?_
 refine evG ggA (Zab (Zaa rfl) rfl rfl he) ?_
 refine goA ?_
 clear hc hc' hm0 hp he
 refine T.loop (fun N s1 => ∃ r : Nat, N = n + 1 - r ∧ r ≤ n + 1 ∧ s1 = mkS [(2, .v (iV n)), (3, .ptr 3 0), (4, .ptr 4 0), (6, .ptr 6 0), (10, .ptr 10 0), (12, .v (iV r))] [(3, wV s es k), (4, wV t fs l), (6, sv0), (10, sV (o r))] 131 true) (n + 1)
  (s' := mkS [(2, .v (iV n)), (3, .ptr 3 0), (4, .ptr 4 0), (6, .ptr 6 0), (10, .ptr 10 0), (12, .v (iV ((0 : Nat) : Int)))] [(3, wV s es k), (4, wV t fs l), (6, sv0), (10, sV (o 0))] 131 true) (by exact entA) ⟨0, rfl, Nat.zero_le _, rfl⟩ ?_
 rintro _ _ ⟨r, rfl, hr, rfl⟩
 by_cases hlt : r ≤ n
 ·have b1 : decide ((r : Int) ≤ (n : Int)) = true := decide_eq_true (by omega)
  have cf := hf r hlt
  have cm := hm r hlt
  have cs := hs r hlt
  have ca := ha r hlt
  have hfin : ∃ r' : Nat, n + 1 - (r + 1) = n + 1 - r' ∧ r' ≤ n + 1 ∧ mkS [(2, .v (iV n)), (3, .ptr 3 0), (4, .ptr 4 0), (6, .ptr 6 0), (10, .ptr 10 0), (12, .v (iV ((r : Int) + 1)))] [(3, wV s es k), (4, wV t fs l), (6, sv0), (10, sV (o (r + 1)))] 131 true = mkS [(2, .v (iV n)), (3, .ptr 3 0), (4, .ptr 4 0), (6, .ptr 6 0), (10, .ptr 10 0), (12, .v (iV r'))] [(3, wV s es k), (4, wV t fs l), (6, sv0), (10, sV (o r'))] 131 true := ⟨r + 1, rfl, by omega, rfl⟩
  clear hf hm hs ha
  generalize m r = mr at *
  generalize z r = zr at *
  generalize q r = q0 at *
  generalize hO : o (r + 1) = ox at *
  generalize o r = or at *
  obtain ⟨mr1, mr2⟩ := mr
  obtain ⟨zr1, zr2⟩ := zr
  obtain ⟨ox1, ox2⟩ := ox
  obtain ⟨or1, or2⟩ := or
  simp only at cm cs ca
  refine T.seq ?_
  refine r1A ?_
  refine T.condT rfl b1 ?_
  refine T.skip ?_
  refine Za8 ?_
  refine T.seq ?_
  refine T.block ?_
  refine T.seq ?_
  refine T.drawE mixed ?_
  refine runA ?_
  refine Zaw ⟨by kernel_rfl, ?_⟩
  refine goA ?_
  refine T.loop (fun N s1 => ∃ i : Nat, N = r - i ∧ i ≤ r ∧ s1 = mkS [(2, .v (iV n)), (3, .ptr 3 0), (4, .ptr 4 0), (6, .ptr 6 0), (10, .ptr 10 0), (12, .v (iV r)), (13, .ptr 13 0), (14, .ptr 14 0), (15, .v (iV i))] [(3, wV s es k), (4, wV t fs l), (6, sv0), (10, sV (or1, or2)), (13, sV (f i)), (14, sV (t, fs))] 131 true) r
   (s' := mkS [(2, .v (iV n)), (3, .ptr 3 0), (4, .ptr 4 0), (6, .ptr 6 0), (10, .ptr 10 0), (12, .v (iV r)), (13, .ptr 13 0), (14, .ptr 14 0), (15, .v (iV ((0 : Nat) : Int)))] [(3, wV s es k), (4, wV t fs l), (6, sv0), (10, sV (or1, or2)), (13, sV (s, es)), (14, sV (t, fs))] 131 true) (by exact entA) ⟨0, rfl, Nat.zero_le _, by rw [f0]⟩ ?_
  rintro _ _ ⟨i, rfl, hi, rfl⟩
  by_cases hil : i < r
  ·have b2 : decide ((i : Int) < (r : Int)) = true := decide_eq_true (by omega)
   have cd := hd1 i (by omega)
   have hfin2 : ∃ i' : Nat, r - (i + 1) = r - i' ∧ i' ≤ r ∧ mkS [(2, .v (iV n)), (3, .ptr 3 0), (4, .ptr 4 0), (6, .ptr 6 0), (10, .ptr 10 0), (12, .v (iV r)), (13, .ptr 13 0), (14, .ptr 14 0), (15, .v (iV ((i : Int) + 1)))] [(3, wV s es k), (4, wV t fs l), (6, sv0), (10, sV (or1, or2)), (13, sV (f (i + 1))), (14, sV (t, fs))] 131 true = mkS [(2, .v (iV n)), (3, .ptr 3 0), (4, .ptr 4 0), (6, .ptr 6 0), (10, .ptr 10 0), (12, .v (iV r)), (13, .ptr 13 0), (14, .ptr 14 0), (15, .v (iV i'))] [(3, wV s es k), (4, wV t fs l), (6, sv0), (10, sV (or1, or2)), (13, sV (f i')), (14, sV (t, fs))] 131 true := ⟨i + 1, rfl, hil, rfl⟩
   generalize f (i + 1) = fj at *
   generalize f i = fi at *
   obtain ⟨fi1, fi2⟩ := fi
   obtain ⟨fj1, fj2⟩ := fj
   simp only at cd
   refine goA ?_
   refine evG ggA (Zab (Zaa rfl) rfl rfl cd) ?_
   refine goA ?_
   exact Zae (k := r - (i + 1)) (s' := mkS [(2, .v (iV n)), (3, .ptr 3 0), (4, .ptr 4 0), (6, .ptr 6 0), (10, .ptr 10 0), (12, .v (iV r)), (13, .ptr 13 0), (14, .ptr 14 0), (15, .v (iV ((i : Int) + 1)))] [(3, wV s es k), (4, wV t fs l), (6, sv0), (10, sV (or1, or2)), (13, sV (fj1, fj2)), (14, sV (t, fs))] 131 true) (by omega) (by exact entA) hfin2
  ·obtain rfl : i = r := by omega
   have b2 : decide ((i : Int) < (i : Int)) = false := decide_eq_false (by omega)
   refine goA ?_
   refine T.loop (fun N s1 => ∃ j : Nat, N = n - i - j ∧ j ≤ n - i ∧ s1 = mkS [(2, .v (iV n)), (3, .ptr 3 0), (4, .ptr 4 0), (6, .ptr 6 0), (10, .ptr 10 0), (12, .v (iV i)), (13, .ptr 13 0), (14, .ptr 14 0), (16, .v (iV j))] [(3, wV s es k), (4, wV t fs l), (6, sv0), (10, sV (or1, or2)), (13, sV (f i)), (14, sV (g j))] 131 true) (n - i)
    (s' := mkS [(2, .v (iV n)), (3, .ptr 3 0), (4, .ptr 4 0), (6, .ptr 6 0), (10, .ptr 10 0), (12, .v (iV i)), (13, .ptr 13 0), (14, .ptr 14 0), (16, .v (iV ((0 : Nat) : Int)))] [(3, wV s es k), (4, wV t fs l), (6, sv0), (10, sV (or1, or2)), (13, sV (f i)), (14, sV (t, fs))] 131 true) (by exact entA) ⟨0, rfl, Nat.zero_le _, by rw [g0]⟩ ?_
   rintro _ _ ⟨j, rfl, hj, rfl⟩
   by_cases hjl : j < n - i
   ·have b3 : decide ((j : Int) < (n : Int) - (i : Int)) = true := decide_eq_true (by omega)
    have cd := hd2 j (by omega)
    have hfin3 : ∃ j' : Nat, n - i - (j + 1) = n - i - j' ∧ j' ≤ n - i ∧ mkS [(2, .v (iV n)), (3, .ptr 3 0), (4, .ptr 4 0), (6, .ptr 6 0), (10, .ptr 10 0), (12, .v (iV i)), (13, .ptr 13 0), (14, .ptr 14 0), (16, .v (iV ((j : Int) + 1)))] [(3, wV s es k), (4, wV t fs l), (6, sv0), (10, sV (or1, or2)), (13, sV (f i)), (14, sV (g (j + 1)))] 131 true = mkS [(2, .v (iV n)), (3, .ptr 3 0), (4, .ptr 4 0), (6, .ptr 6 0), (10, .ptr 10 0), (12, .v (iV i)), (13, .ptr 13 0), (14, .ptr 14 0), (16, .v (iV j'))] [(3, wV s es k), (4, wV t fs l), (6, sv0), (10, sV (or1, or2)), (13, sV (f i)), (14, sV (g j'))] 131 true := ⟨j + 1, rfl, by omega, rfl⟩
    generalize g (j + 1) = gk at *
    generalize g j = gj at *
    obtain ⟨gj1, gj2⟩ := gj
    obtain ⟨gk1, gk2⟩ := gk
    simp only at cd
    refine goA ?_
    refine evG ggA (Zab (Zaa rfl) rfl rfl cd) ?_
    refine goA ?_
    exact Zae (k := n - i - (j + 1)) (s' := mkS [(2, .v (iV n)), (3, .ptr 3 0), (4, .ptr 4 0), (6, .ptr 6 0), (10, .ptr 10 0), (12, .v (iV i)), (13, .ptr 13 0), (14, .ptr 14 0), (16, .v (iV ((j : Int) + 1)))] [(3, wV s es k), (4, wV t fs l), (6, sv0), (10, sV (or1, or2)), (13, sV (f i)), (14, sV (gk1, gk2))] 131 true) (by omega) (by exact entA) hfin3
   ·have hj2 : j = n - i := by omega
    rw [← hj2] at cm
    have b3 : decide ((j : Int) < (n : Int) - (i : Int)) = false := decide_eq_false (by omega)
    clear hd1 hd2
    generalize f i = fi at *
    generalize g j = gj at *
    obtain ⟨fi1, fi2⟩ := fi
    obtain ⟨gj1, gj2⟩ := gj
    simp only at cm
    refine goA ?_
    refine evG ggA (Zab (Zaa rfl) rfl rfl cm) ?_
    refine goA ?_
    refine evG ggA (Zab (Zaa rfl) rfl rfl cf) ?_
    refine goA ?_
    refine evG ggA (Zab (Zaa rfl) rfl rfl cs) ?_
    refine goA ?_
    refine evG ggA (Zab (Zaa rfl) rfl rfl ca) ?_
    refine goA ?_
    exact Zae (k := n + 1 - (i + 1)) (s' := mkS [(2, .v (iV n)), (3, .ptr 3 0), (4, .ptr 4 0), (6, .ptr 6 0), (10, .ptr 10 0), (12, .v (iV ((i : Int) + 1)))] [(3, wV s es k), (4, wV t fs l), (6, sv0), (10, sV (ox1, ox2))] 131 true) (by omega) (by exact entA) hfin
 ·obtain rfl : r = n + 1 := by omega
  have b1 : decide (((n + 1 : Nat) : Int) ≤ (n : Int)) = false := decide_eq_false (by omega)
  refine goA ?_
  exact rfl
end Ab
