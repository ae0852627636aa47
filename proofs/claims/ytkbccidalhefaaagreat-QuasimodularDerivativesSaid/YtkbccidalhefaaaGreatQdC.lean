/- Binomials and factors of the document; the exported derivatives and brackets with their errors, both sides: by the contracts of what they call. -/
import Derived.Test.YtkbccidalhefaaaGreatQdB
import Derived.Test.YtkbccidalhefaaaGreatQrE
set_option linter.all false
namespace Ab
open Go Go.RowKit Go.Proofs Hp
set_option maxRecDepth 100000

abbrev zV : Blk := .var [.v (.p (.bool false)), .v (.p nilV), .v (.p (.bool false)), .v (.p nilV)]
set_option maxHeartbeats 4000000 in
theorem rBin_p {m : Int} {s : Nat} (h0 : -1 ≤ m) (h1 : m ≤ 68) (hs : s ≤ 7) : PC Tryz.prog 69 [iV m, iV s] (encQ (bnR m s)) := by
  have cq : PC Tryz.prog 29 [iV 1] (rA (bnR m 0)) := q_p 1 (by decide) (by decide)
  have cf : ∀ i : Nat, i < s → PC Tryz.prog 28 [iV (m - i), iV ((i : Int) + 1)] (rA (Rat.divInt (m - i) ((i : Int) + 1))) := fun i hi => lfrac_p (by unfold Bn; omega) (by omega) (by unfold Bn; omega)
  have cm : ∀ i : Nat, i < s → PC Tryz.prog 65 [rA (bnR m i), rA (Rat.divInt (m - i) ((i : Int) + 1))] (rA (bnR m (i + 1))) := fun i hi => by
    obtain ⟨e, hb⟩ := bnR_eq h0 h1 (i := i) (by omega)
    have hh : Ht (bnR m i) 1 := by rw [e]; exact ht_int (by omega)
    have hd : Ht (Rat.divInt (m - i) ((i : Int) + 1)) 2 := by rw [Rat.divInt_eq_div]; exact ht_frac (by omega) (by omega)
    exact (refmul2_p (isV_encQ hh) (isV_encQ hd) (by decide)).up
  have er : encQ (bnR m s) = rA (bnR m s) := rfl
  rw [er]
  refine pc_body1 true Tryz.func69 rfl rfl rfl (Nat.le_of_ble_eq_true rfl) (CellT.agg agg_rat) ?_
  refine r1A ?_
  refine T.seqI (fun s1 => s1 = mkS [(0, .v (iV m)), (1, .v (iV s)), (4, .ptr 4 0), (5, .ptr 5 0)] [(4, zV), (5, rV (bnR m 0))] 22 true) ?_ ?_
  · refine regA ?_
    refine evG ggA (ss_call (InB_of rfl) rfl rfl cq) ?_
    refine runA ?_
    refine ev_nil ?_
    exact midQ_intro (s' := mkS [(0, .v (iV m)), (1, .v (iV s)), (4, .ptr 4 0), (5, .ptr 5 0)] [(4, zV), (5, rV (bnR m 0))] 22 true) (by exact entA) rfl
  rintro _ rfl
  refine T.seqI (fun s1 => s1 = mkS [(4, .ptr 4 0), (5, .ptr 5 0)] [(4, zV), (5, rV (bnR m s))] 22 true) ?_ ?_
  · refine r1A ?_
    refine T.block ?_
    refine T.loop (fun N s1 => ∃ i : Nat, N = s - i ∧ i ≤ s ∧ s1 = mkS [(0, .v (iV m)), (1, .v (iV s)), (4, .ptr 4 0), (5, .ptr 5 0), (6, .v (iV i))] [(4, zV), (5, rV (bnR m i))] 22 true) s
      (s' := mkS [(0, .v (iV m)), (1, .v (iV s)), (4, .ptr 4 0), (5, .ptr 5 0), (6, .v (iV ((0 : Nat) : Int)))] [(4, zV), (5, rV (bnR m 0))] 22 true) (by exact entA) ⟨0, rfl, Nat.zero_le _, rfl⟩ ?_
    rintro _ _ ⟨i, rfl, hi, rfl⟩
    by_cases hlt : i < s
    · have b1 : decide ((i : Int) < (s : Int)) = true := decide_eq_true (by omega)
      have c1 := cf i hlt
      have c2 := cm i hlt
      generalize bnR m i = x at *
      generalize hy : bnR m (i + 1) = y at *
      generalize Rat.divInt (m - i) ((i : Int) + 1) = z at *
      refine goA ?_
      refine evG ggA (ss_call (InB_of rfl) rfl rfl c1) ?_
      refine goA ?_
      refine evG ggA (ss_call (InB_of rfl) rfl rfl c2) ?_
      refine goA ?_
      exact loopQ_intro (k := s - (i + 1)) (s' := mkS [(0, .v (iV m)), (1, .v (iV s)), (4, .ptr 4 0), (5, .ptr 5 0), (6, .v (iV ((i : Int) + 1)))] [(4, zV), (5, rV y)] 22 true) (by omega) (by exact entA) ⟨i + 1, rfl, hlt, by rw [hy]; rfl⟩
    · obtain rfl : i = s := by omega
      have b1 : decide ((i : Int) < (i : Int)) = false := decide_eq_false (by omega)
      refine goA ?_
      exact midQ_intro (s' := mkS [(4, .ptr 4 0), (5, .ptr 5 0)] [(4, zV), (5, rV (bnR m i))] 22 true) (by exact entA) rfl
  rintro _ rfl
  refine goA ?_
  exact rfl
/-- the number of a summand, as the program -/
def fcI (n r : Nat) (k l : Int) : Int := if r % 2 = 0 then bnG ((n : Int) + k - 1) (n - r) * bnG ((n : Int) + l - 1) r else -(bnG ((n : Int) + k - 1) (n - r) * bnG ((n : Int) + l - 1) r)
set_option maxHeartbeats 4000000 in
theorem rFac_p {n r : Nat} {k l : Int} (hn : n ≤ 6) (hr : r ≤ n) (hk : 0 ≤ k ∧ k ≤ 60) (hl : 0 ≤ l ∧ l ≤ 60) : PC Tryz.prog 51 [iV n, iV r, iV k, iV l] (encQ (fcI n r k l : Int)) := by
  have c1 := rBin_p (m := (n : Int) + k - 1) (s := n - r) (by omega) (by omega) (by omega)
  have c2 := rBin_p (m := (n : Int) + l - 1) (s := r) (by omega) (by omega) (by omega)
  rw [show ((n - r : Nat) : Int) = (n : Int) - r by omega] at c1
  obtain ⟨e1, h1⟩ := bnR_eq (m := (n : Int) + k - 1) (i := n - r) (by omega) (by omega) (by omega)
  obtain ⟨e2, h2⟩ := bnR_eq (m := (n : Int) + l - 1) (i := r) (by omega) (by omega) (by omega)
  unfold fcI
  rw [e1] at c1
  rw [e2] at c2
  generalize bnG ((n : Int) + k - 1) (n - r) = x at *
  generalize bnG ((n : Int) + l - 1) r = y at *
  clear e1 e2
  have hx : Ht (x : Rat) 1 := ht_int (by omega)
  have hy : Ht (y : Rat) 1 := ht_int (by omega)
  have c3 := (refmul2_p (isV_encQ hx) (isV_encQ hy) (by decide)).up (dm := true)
  have c4 := (refneg2_p (isV_encQ (ht_mul hx hy (by decide))) (by decide)).up (dm := true)
  rw [← Rat.intCast_mul] at c3 c4
  rw [← Rat.intCast_neg] at c4
  have c1 : PC Tryz.prog 69 [iV ((n : Int) + k - 1), iV ((n : Int) - r)] (rA (x : Rat)) := c1
  have c2 : PC Tryz.prog 69 [iV ((n : Int) + l - 1), iV r] (rA (y : Rat)) := c2
  have c3 : PC Tryz.prog 65 [rA (x : Rat), rA (y : Rat)] (rA ((x * y : Int) : Rat)) := c3
  have c4 : PC Tryz.prog 70 [rA ((x * y : Int) : Rat)] (rA ((-(x * y) : Int) : Rat)) := c4
  generalize hP : ((x * y : Int) : Rat) = P at *
  generalize hM : ((-(x * y) : Int) : Rat) = M at *
  by_cases hpar : r % 2 = 0
  · have d2 : (((r : Int)).tmod 2 == 1) = false := by rw [show (r : Int).tmod 2 = ((r % 2 : Nat) : Int) from (Int.ofNat_tmod r 2).symm, hpar]; rfl
    rw [if_pos hpar, hP, show encQ P = rA P from rfl]
    clear hx hy hP hM
    generalize (x : Rat) = x1 at *
    generalize (y : Rat) = y1 at *
    refine pc_body1 true Tryz.func51 rfl rfl rfl (Nat.le_of_ble_eq_true rfl) (CellT.agg agg_rat) ?_
    refine goA ?_
    refine evG ggA (ss_call (InB_of rfl) rfl rfl c1) ?_
    refine goA ?_
    refine evG ggA (ss_call (InB_of rfl) rfl rfl c2) ?_
    refine goA ?_
    refine evG ggA (ss_call (InB_of rfl) rfl rfl c3) ?_
    refine goA ?_
    refine evG ggA (ss_div (op := .rem) (InB_of rfl) rfl rfl (by omega) rfl) ?_
    refine goA ?_
    exact rfl
  · have d2 : (((r : Int)).tmod 2 == 1) = true := by rw [show (r : Int).tmod 2 = ((r % 2 : Nat) : Int) from (Int.ofNat_tmod r 2).symm, show r % 2 = 1 by omega]; rfl
    rw [if_neg hpar, hM, show encQ M = rA M from rfl]
    clear hx hy hP hM
    generalize (x : Rat) = x1 at *
    generalize (y : Rat) = y1 at *
    refine pc_body1 true Tryz.func51 rfl rfl rfl (Nat.le_of_ble_eq_true rfl) (CellT.agg agg_rat) ?_
    refine goA ?_
    refine evG ggA (ss_call (InB_of rfl) rfl rfl c1) ?_
    refine goA ?_
    refine evG ggA (ss_call (InB_of rfl) rfl rfl c2) ?_
    refine goA ?_
    refine evG ggA (ss_call (InB_of rfl) rfl rfl c3) ?_
    refine goA ?_
    refine evG ggA (ss_div (op := .rem) (InB_of rfl) rfl rfl (by omega) rfl) ?_
    refine goA ?_
    refine evG ggA (ss_call (InB_of rfl) rfl rfl c4) ?_
    refine goA ?_
    exact rfl
/-- the program's errors -/
theorem qD_bad {X : List AV} (hv : PC Tryz.prog 30 [.sl X] (bV false)) : PC Tryz.prog 7 [.sl X] (.tup [.sl [], iV 2]) := by
  refine pc_body2 true Tryz.func7 rfl rfl rfl (Nat.le_of_ble_eq_true rfl) CellT.tmp CellT.tmp ?_
  refine goA ?_
  refine evG ggA (ss_call (InB_of rfl) rfl rfl hv) ?_
  refine goA ?_
  exact rfl
theorem qS'_bad {X : List AV} (hv : PC Tryz.prog 30 [.sl X] (bV false)) : PC Tryz.prog 10 [.sl X] (.tup [.sl [], iV 2]) := by
  refine pc_body2 true Tryz.func10 rfl rfl rfl (Nat.le_of_ble_eq_true rfl) CellT.tmp CellT.tmp ?_
  refine goA ?_
  refine evG ggA (ss_call (InB_of rfl) rfl rfl hv) ?_
  refine goA ?_
  exact rfl
section
variable {X T1 R : List AV} {k : Int} (hv : PC Tryz.prog 30 [.sl X] (bV true)) (ht : PC Tryz.prog 31 [.sl X] (.sl T1))
include hv ht
theorem qD_large (hT : 0 < T1.length) (hp : PC Tryz.prog 32 [.sl T1] (iV k)) (hk : 58 < k ∧ k ≤ 1000) : PC Tryz.prog 7 [.sl X] (.tup [.sl [], iV 7]) := by
  have b1 : decide ((T1.length : Int) > 0) = true := decide_eq_true (by omega)
  have b2 : decide (k + 2 > 60) = true := decide_eq_true (by omega)
  refine pc_body2 true Tryz.func7 rfl rfl rfl (Nat.le_of_ble_eq_true rfl) CellT.tmp CellT.tmp ?_
  refine goA ?_
  refine evG ggA (ss_call (InB_of rfl) rfl rfl hv) ?_
  refine goA ?_
  refine evG ggA (ss_call (InB_of rfl) rfl rfl ht) ?_
  refine goA ?_
  refine evG ggA (ss_call (InB_of rfl) rfl rfl hp) ?_
  refine goA ?_
  exact rfl
theorem qD_zero (hT : T1.length = 0) (hd : PC Tryz.prog 33 [.sl T1] (.sl R)) : PC Tryz.prog 7 [.sl X] (.tup [.sl R, iV 0]) := by
  have b1 : decide ((T1.length : Int) > 0) = false := decide_eq_false (by omega)
  refine pc_body2 true Tryz.func7 rfl rfl rfl (Nat.le_of_ble_eq_true rfl) CellT.tmp CellT.tmp ?_
  refine goA ?_
  refine evG ggA (ss_call (InB_of rfl) rfl rfl hv) ?_
  refine goA ?_
  refine evG ggA (ss_call (InB_of rfl) rfl rfl ht) ?_
  refine goA ?_
  refine evG ggA (ss_call (InB_of rfl) rfl rfl hd) ?_
  refine goA ?_
  exact rfl
theorem qS'_kind (hp : PC Tryz.prog 38 [.sl T1] (.tup [iV k, bV false])) : PC Tryz.prog 10 [.sl X] (.tup [.sl [], iV 20]) := by
  refine pc_body2 true Tryz.func10 rfl rfl rfl (Nat.le_of_ble_eq_true rfl) CellT.tmp CellT.tmp ?_
  refine goA ?_
  refine evG ggA (ss_call (InB_of rfl) rfl rfl hv) ?_
  refine goA ?_
  refine evG ggA (ss_call (InB_of rfl) rfl rfl ht) ?_
  refine goA ?_
  refine evG ggA (ss_call (InB_of rfl) rfl rfl hp) ?_
  refine goA ?_
  exact rfl
theorem qS'_large (hT : 0 < T1.length) (hp : PC Tryz.prog 38 [.sl T1] (.tup [iV k, bV true])) (hk : 58 < k ∧ k ≤ 1000) : PC Tryz.prog 10 [.sl X] (.tup [.sl [], iV 7]) := by
  have b1 : decide ((T1.length : Int) > 0) = true := decide_eq_true (by omega)
  have b2 : decide (k + 2 > 60) = true := decide_eq_true (by omega)
  refine pc_body2 true Tryz.func10 rfl rfl rfl (Nat.le_of_ble_eq_true rfl) CellT.tmp CellT.tmp ?_
  refine goA ?_
  refine evG ggA (ss_call (InB_of rfl) rfl rfl hv) ?_
  refine goA ?_
  refine evG ggA (ss_call (InB_of rfl) rfl rfl ht) ?_
  refine goA ?_
  refine evG ggA (ss_call (InB_of rfl) rfl rfl hp) ?_
  refine goA ?_
  exact rfl
end
theorem qB_range {X Y : List AV} {n : Int} (hv : PC Tryz.prog 30 [.sl X] (bV true)) (hw : PC Tryz.prog 30 [.sl Y] (bV true)) (hn : n < 0 ∨ n > 6) : PC Tryz.prog 12 [.sl X, .sl Y, iV n] (.tup [.sl [], iV 2]) := by
  by_cases h : n < 0
  · have b1 : decide (n < 0) = true := decide_eq_true h
    refine pc_body2 true Tryz.func12 rfl rfl rfl (Nat.le_of_ble_eq_true rfl) CellT.tmp CellT.tmp ?_
    refine goA ?_
    refine evG ggA (ss_call (InB_of rfl) rfl rfl hv) ?_
    refine goA ?_
    refine evG ggA (ss_call (InB_of rfl) rfl rfl hw) ?_
    refine goA ?_
    exact rfl
  · have b1 : decide (n < 0) = false := decide_eq_false h
    have b2 : decide (n > 6) = true := decide_eq_true (by omega)
    refine pc_body2 true Tryz.func12 rfl rfl rfl (Nat.le_of_ble_eq_true rfl) CellT.tmp CellT.tmp ?_
    refine goA ?_
    refine evG ggA (ss_call (InB_of rfl) rfl rfl hv) ?_
    refine goA ?_
    refine evG ggA (ss_call (InB_of rfl) rfl rfl hw) ?_
    refine goA ?_
    exact rfl
theorem qB_bad {X Y : List AV} {n : Int} {b : Bool} (hv : PC Tryz.prog 30 [.sl X] (bV b)) (hw : b = true → PC Tryz.prog 30 [.sl Y] (bV false)) : PC Tryz.prog 12 [.sl X, .sl Y, iV n] (.tup [.sl [], iV 2]) := by
  cases b with
  | false =>
    refine pc_body2 true Tryz.func12 rfl rfl rfl (Nat.le_of_ble_eq_true rfl) CellT.tmp CellT.tmp ?_
    refine goA ?_
    refine evG ggA (ss_call (InB_of rfl) rfl rfl hv) ?_
    refine goA ?_
    exact rfl
  | true =>
    have hw := hw rfl
    refine pc_body2 true Tryz.func12 rfl rfl rfl (Nat.le_of_ble_eq_true rfl) CellT.tmp CellT.tmp ?_
    refine goA ?_
    refine evG ggA (ss_call (InB_of rfl) rfl rfl hv) ?_
    refine goA ?_
    refine evG ggA (ss_call (InB_of rfl) rfl rfl hw) ?_
    refine goA ?_
    exact rfl
section
variable {X Y T1 T2 : List AV} {n k l : Int} (hn : 0 ≤ n ∧ n ≤ 6) (hv : PC Tryz.prog 30 [.sl X] (bV true)) (hw : PC Tryz.prog 30 [.sl Y] (bV true)) (ht : PC Tryz.prog 31 [.sl X] (.sl T1)) (hu : PC Tryz.prog 31 [.sl Y] (.sl T2))
include hn hv hw ht hu
theorem qB_kind {b c : Bool} (hp : PC Tryz.prog 38 [.sl T1] (.tup [iV k, bV b])) (hq : PC Tryz.prog 38 [.sl T2] (.tup [iV l, bV c])) (h : (b && c) = false) : PC Tryz.prog 12 [.sl X, .sl Y, iV n] (.tup [.sl [], iV 20]) := by
  have b1 : decide (n < 0) = false := decide_eq_false (by omega)
  have b2 : decide (n > 6) = false := decide_eq_false (by omega)
  cases b with
  | false =>
    refine pc_body2 true Tryz.func12 rfl rfl rfl (Nat.le_of_ble_eq_true rfl) CellT.tmp CellT.tmp ?_
    refine goA ?_
    refine evG ggA (ss_call (InB_of rfl) rfl rfl hv) ?_
    refine goA ?_
    refine evG ggA (ss_call (InB_of rfl) rfl rfl hw) ?_
    refine goA ?_
    refine evG ggA (ss_call (InB_of rfl) rfl rfl ht) ?_
    refine goA ?_
    refine evG ggA (ss_call (InB_of rfl) rfl rfl hu) ?_
    refine goA ?_
    refine evG ggA (ss_call (InB_of rfl) rfl rfl hp) ?_
    refine goA ?_
    refine evG ggA (ss_call (InB_of rfl) rfl rfl hq) ?_
    refine goA ?_
    exact rfl
  | true =>
    obtain rfl : c = false := by simpa using h
    refine pc_body2 true Tryz.func12 rfl rfl rfl (Nat.le_of_ble_eq_true rfl) CellT.tmp CellT.tmp ?_
    refine goA ?_
    refine evG ggA (ss_call (InB_of rfl) rfl rfl hv) ?_
    refine goA ?_
    refine evG ggA (ss_call (InB_of rfl) rfl rfl hw) ?_
    refine goA ?_
    refine evG ggA (ss_call (InB_of rfl) rfl rfl ht) ?_
    refine goA ?_
    refine evG ggA (ss_call (InB_of rfl) rfl rfl hu) ?_
    refine goA ?_
    refine evG ggA (ss_call (InB_of rfl) rfl rfl hp) ?_
    refine goA ?_
    refine evG ggA (ss_call (InB_of rfl) rfl rfl hq) ?_
    refine goA ?_
    exact rfl
section
variable (hp : PC Tryz.prog 38 [.sl T1] (.tup [iV k, bV true])) (hq : PC Tryz.prog 38 [.sl T2] (.tup [iV l, bV true]))
include hp hq
theorem qB_zero (h : T1.length = 0 ∨ T2.length = 0) : PC Tryz.prog 12 [.sl X, .sl Y, iV n] (.tup [.sl [], iV 0]) := by
  have b1 : decide (n < 0) = false := decide_eq_false (by omega)
  have b2 : decide (n > 6) = false := decide_eq_false (by omega)
  by_cases h1 : T1.length = 0
  · have b3 : ((T1.length : Int) == 0) = true := by simp [List.length_eq_zero_iff.1 h1]
    refine pc_body2 true Tryz.func12 rfl rfl rfl (Nat.le_of_ble_eq_true rfl) CellT.tmp CellT.tmp ?_
    refine goA ?_
    refine evG ggA (ss_call (InB_of rfl) rfl rfl hv) ?_
    refine goA ?_
    refine evG ggA (ss_call (InB_of rfl) rfl rfl hw) ?_
    refine goA ?_
    refine evG ggA (ss_call (InB_of rfl) rfl rfl ht) ?_
    refine goA ?_
    refine evG ggA (ss_call (InB_of rfl) rfl rfl hu) ?_
    refine goA ?_
    refine evG ggA (ss_call (InB_of rfl) rfl rfl hp) ?_
    refine goA ?_
    refine evG ggA (ss_call (InB_of rfl) rfl rfl hq) ?_
    refine goA ?_
    exact rfl
  · have b3 : ((T1.length : Int) == 0) = false := by simp; intro e; rw [e] at h1; simp at h1
    have b4 : ((T2.length : Int) == 0) = true := by simp [List.length_eq_zero_iff.1 (show T2.length = 0 by omega)]
    refine pc_body2 true Tryz.func12 rfl rfl rfl (Nat.le_of_ble_eq_true rfl) CellT.tmp CellT.tmp ?_
    refine goA ?_
    refine evG ggA (ss_call (InB_of rfl) rfl rfl hv) ?_
    refine goA ?_
    refine evG ggA (ss_call (InB_of rfl) rfl rfl hw) ?_
    refine goA ?_
    refine evG ggA (ss_call (InB_of rfl) rfl rfl ht) ?_
    refine goA ?_
    refine evG ggA (ss_call (InB_of rfl) rfl rfl hu) ?_
    refine goA ?_
    refine evG ggA (ss_call (InB_of rfl) rfl rfl hp) ?_
    refine goA ?_
    refine evG ggA (ss_call (InB_of rfl) rfl rfl hq) ?_
    refine goA ?_
    exact rfl
theorem qB_large (h1 : 0 < T1.length) (h2 : 0 < T2.length) (hk : 0 ≤ k ∧ k ≤ 1000) (hl : 0 ≤ l ∧ l ≤ 1000) (hkl : 60 < k + l + 2 * n) : PC Tryz.prog 12 [.sl X, .sl Y, iV n] (.tup [.sl [], iV 7]) := by
  have b1 : decide (n < 0) = false := decide_eq_false (by omega)
  have b2 : decide (n > 6) = false := decide_eq_false (by omega)
  have b3 : ((T1.length : Int) == 0) = false := by simp; intro e; rw [e] at h1; simp at h1
  have b4 : ((T2.length : Int) == 0) = false := by simp; intro e; rw [e] at h2; simp at h2
  have b5 : decide (k + l + 2 * n > 60) = true := decide_eq_true (by omega)
  refine pc_body2 true Tryz.func12 rfl rfl rfl (Nat.le_of_ble_eq_true rfl) CellT.tmp CellT.tmp ?_
  refine goA ?_
  refine evG ggA (ss_call (InB_of rfl) rfl rfl hv) ?_
  refine goA ?_
  refine evG ggA (ss_call (InB_of rfl) rfl rfl hw) ?_
  refine goA ?_
  refine evG ggA (ss_call (InB_of rfl) rfl rfl ht) ?_
  refine goA ?_
  refine evG ggA (ss_call (InB_of rfl) rfl rfl hu) ?_
  refine goA ?_
  refine evG ggA (ss_call (InB_of rfl) rfl rfl hp) ?_
  refine goA ?_
  refine evG ggA (ss_call (InB_of rfl) rfl rfl hq) ?_
  refine goA ?_
  exact rfl
end
end
/-- the document's -/
theorem rD_bad {X : List AV} (hv : PC Tryz.prog 34 [.sl X] (iV 2)) : PC Tryz.prog 8 [.sl X] (.tup [.sl [], iV 2]) := by
  refine pc_body2 true Tryz.func8 rfl rfl rfl (Nat.le_of_ble_eq_true rfl) CellT.tmp CellT.tmp ?_
  refine goA ?_
  refine evG ggA (ss_call (InB_of rfl) rfl rfl hv) ?_
  refine goA ?_
  exact rfl
theorem rS'_bad {X : List AV} (hv : PC Tryz.prog 34 [.sl X] (iV 2)) : PC Tryz.prog 11 [.sl X] (.tup [.sl [], iV 2]) := by
  refine pc_body2 true Tryz.func11 rfl rfl rfl (Nat.le_of_ble_eq_true rfl) CellT.tmp CellT.tmp ?_
  refine goA ?_
  refine evG ggA (ss_call (InB_of rfl) rfl rfl hv) ?_
  refine goA ?_
  exact rfl
section
variable {X T1 R : List AV} {k : Int} (hv : PC Tryz.prog 34 [.sl X] (iV 0)) (ht : PC Tryz.prog 35 [.sl X] (.sl T1))
include hv ht
theorem rD_large (hT : 0 < T1.length) (hp : PC Tryz.prog 36 [.sl T1] (iV k)) (hk : 58 < k ∧ k ≤ 1000) : PC Tryz.prog 8 [.sl X] (.tup [.sl [], iV 7]) := by
  have b1 : decide ((T1.length : Int) > 0) = true := decide_eq_true (by omega)
  have b2 : decide (k + 2 > 60) = true := decide_eq_true (by omega)
  refine pc_body2 true Tryz.func8 rfl rfl rfl (Nat.le_of_ble_eq_true rfl) CellT.tmp CellT.tmp ?_
  refine goA ?_
  refine evG ggA (ss_call (InB_of rfl) rfl rfl hv) ?_
  refine goA ?_
  refine evG ggA (ss_call (InB_of rfl) rfl rfl ht) ?_
  refine goA ?_
  refine evG ggA (ss_call (InB_of rfl) rfl rfl hp) ?_
  refine goA ?_
  exact rfl
theorem rD_zero (hT : T1.length = 0) (hd : PC Tryz.prog 37 [.sl T1] (.sl R)) : PC Tryz.prog 8 [.sl X] (.tup [.sl R, iV 0]) := by
  have b1 : decide ((T1.length : Int) > 0) = false := decide_eq_false (by omega)
  refine pc_body2 true Tryz.func8 rfl rfl rfl (Nat.le_of_ble_eq_true rfl) CellT.tmp CellT.tmp ?_
  refine goA ?_
  refine evG ggA (ss_call (InB_of rfl) rfl rfl hv) ?_
  refine goA ?_
  refine evG ggA (ss_call (InB_of rfl) rfl rfl ht) ?_
  refine goA ?_
  refine evG ggA (ss_call (InB_of rfl) rfl rfl hd) ?_
  refine goA ?_
  exact rfl
theorem rD_ok (hT : 0 < T1.length) (hp : PC Tryz.prog 36 [.sl T1] (iV k)) (hk : 0 ≤ k ∧ k + 2 ≤ 60) (hd : PC Tryz.prog 37 [.sl T1] (.sl R)) : PC Tryz.prog 8 [.sl X] (.tup [.sl R, iV 0]) := by
  have b1 : decide ((T1.length : Int) > 0) = true := decide_eq_true (by omega)
  have b2 : decide (k + 2 > 60) = false := decide_eq_false (by omega)
  refine pc_body2 true Tryz.func8 rfl rfl rfl (Nat.le_of_ble_eq_true rfl) CellT.tmp CellT.tmp ?_
  refine goA ?_
  refine evG ggA (ss_call (InB_of rfl) rfl rfl hv) ?_
  refine goA ?_
  refine evG ggA (ss_call (InB_of rfl) rfl rfl ht) ?_
  refine goA ?_
  refine evG ggA (ss_call (InB_of rfl) rfl rfl hp) ?_
  refine goA ?_
  refine evG ggA (ss_call (InB_of rfl) rfl rfl hd) ?_
  refine goA ?_
  exact rfl
theorem rS'_kind (hp : PC Tryz.prog 42 [.sl T1] (bV false)) : PC Tryz.prog 11 [.sl X] (.tup [.sl [], iV 20]) := by
  refine pc_body2 true Tryz.func11 rfl rfl rfl (Nat.le_of_ble_eq_true rfl) CellT.tmp CellT.tmp ?_
  refine goA ?_
  refine evG ggA (ss_call (InB_of rfl) rfl rfl hv) ?_
  refine goA ?_
  refine evG ggA (ss_call (InB_of rfl) rfl rfl ht) ?_
  refine goA ?_
  refine evG ggA (ss_call (InB_of rfl) rfl rfl hp) ?_
  refine goA ?_
  exact rfl
theorem rS'_large (hT : 0 < T1.length) (hq : PC Tryz.prog 42 [.sl T1] (bV true)) (hp : PC Tryz.prog 36 [.sl T1] (iV k)) (hk : 58 < k ∧ k ≤ 1000) : PC Tryz.prog 11 [.sl X] (.tup [.sl [], iV 7]) := by
  have b1 : decide ((T1.length : Int) > 0) = true := decide_eq_true (by omega)
  have b2 : decide (k + 2 > 60) = true := decide_eq_true (by omega)
  refine pc_body2 true Tryz.func11 rfl rfl rfl (Nat.le_of_ble_eq_true rfl) CellT.tmp CellT.tmp ?_
  refine goA ?_
  refine evG ggA (ss_call (InB_of rfl) rfl rfl hv) ?_
  refine goA ?_
  refine evG ggA (ss_call (InB_of rfl) rfl rfl ht) ?_
  refine goA ?_
  refine evG ggA (ss_call (InB_of rfl) rfl rfl hq) ?_
  refine goA ?_
  refine evG ggA (ss_call (InB_of rfl) rfl rfl hp) ?_
  refine goA ?_
  exact rfl
theorem rS'_ok {D W S L : List AV} {f o : Rat} (h : T1.length = 0 ∨ k + 2 ≤ 60) (hk : 0 ≤ k ∧ k ≤ 1000) (hq : PC Tryz.prog 42 [.sl T1] (bV true)) (hp : PC Tryz.prog 36 [.sl T1] (iV k)) (hd : PC Tryz.prog 37 [.sl T1] (.sl D))
    (hf : PC Tryz.prog 28 [iV (0 - k), iV 12] (encQ f)) (ho : PC Tryz.prog 29 [iV 1] (encQ o)) (hL : PC Tryz.prog 46 [iV 1, iV 0, iV 0, encQ o] (.sl L)) (hW : PC Tryz.prog 45 [.sl L, .sl T1] (.sl W)) (hS : PC Tryz.prog 44 [encQ f, .sl W] (.sl S)) (hR : PC Tryz.prog 43 [.sl D, .sl S] (.sl R)) :
    PC Tryz.prog 11 [.sl X] (.tup [.sl R, iV 0]) := by
  by_cases h1 : T1.length = 0
  · have b1 : decide ((T1.length : Int) > 0) = false := decide_eq_false (by omega)
    refine pc_body2 true Tryz.func11 rfl rfl rfl (Nat.le_of_ble_eq_true rfl) CellT.tmp CellT.tmp ?_
    refine goA ?_
    refine evG ggA (ss_call (InB_of rfl) rfl rfl hv) ?_
    refine goA ?_
    refine evG ggA (ss_call (InB_of rfl) rfl rfl ht) ?_
    refine goA ?_
    refine evG ggA (ss_call (InB_of rfl) rfl rfl hq) ?_
    refine goA ?_
    refine evG ggA (ss_call (InB_of rfl) rfl rfl hd) ?_
    refine goA ?_
    refine evG ggA (ss_call (InB_of rfl) rfl rfl hp) ?_
    refine goA ?_
    refine evG ggA (ss_call (InB_of rfl) rfl rfl hf) ?_
    refine evG ggA (ss_call (InB_of rfl) rfl rfl ho) ?_
    refine evG ggA (ss_call (InB_of rfl) rfl rfl hL) ?_
    refine goA ?_
    refine evG ggA (ss_call (InB_of rfl) rfl rfl hW) ?_
    refine evG ggA (ss_call (InB_of rfl) rfl rfl hS) ?_
    refine evG ggA (ss_call (InB_of rfl) rfl rfl hR) ?_
    refine goA ?_
    exact rfl
  · have b1 : decide ((T1.length : Int) > 0) = true := decide_eq_true (by omega)
    have b2 : decide (k + 2 > 60) = false := decide_eq_false (by omega)
    refine pc_body2 true Tryz.func11 rfl rfl rfl (Nat.le_of_ble_eq_true rfl) CellT.tmp CellT.tmp ?_
    refine goA ?_
    refine evG ggA (ss_call (InB_of rfl) rfl rfl hv) ?_
    refine goA ?_
    refine evG ggA (ss_call (InB_of rfl) rfl rfl ht) ?_
    refine goA ?_
    refine evG ggA (ss_call (InB_of rfl) rfl rfl hq) ?_
    refine goA ?_
    refine evG ggA (ss_call (InB_of rfl) rfl rfl hp) ?_
    refine goA ?_
    refine evG ggA (ss_call (InB_of rfl) rfl rfl hd) ?_
    refine goA ?_
    refine evG ggA (ss_call (InB_of rfl) rfl rfl hp) ?_
    refine goA ?_
    refine evG ggA (ss_call (InB_of rfl) rfl rfl hf) ?_
    refine evG ggA (ss_call (InB_of rfl) rfl rfl ho) ?_
    refine evG ggA (ss_call (InB_of rfl) rfl rfl hL) ?_
    refine goA ?_
    refine evG ggA (ss_call (InB_of rfl) rfl rfl hW) ?_
    refine evG ggA (ss_call (InB_of rfl) rfl rfl hS) ?_
    refine evG ggA (ss_call (InB_of rfl) rfl rfl hR) ?_
    refine goA ?_
    exact rfl
end
theorem rB_bad {X Y : List AV} {n : Int} (hv : PC Tryz.prog 50 [.sl X, .sl Y] (iV 2)) : PC Tryz.prog 13 [.sl X, .sl Y, iV n] (.tup [.sl [], iV 2]) := by
  refine pc_body2 true Tryz.func13 rfl rfl rfl (Nat.le_of_ble_eq_true rfl) CellT.tmp CellT.tmp ?_
  refine goA ?_
  refine evG ggA (ss_call (InB_of rfl) rfl rfl hv) ?_
  refine goA ?_
  exact rfl
section
variable {X Y : List AV} {n : Int} (hv : PC Tryz.prog 50 [.sl X, .sl Y] (iV 0))
include hv
theorem rB_range (hn : n < 0 ∨ n > 6) : PC Tryz.prog 13 [.sl X, .sl Y, iV n] (.tup [.sl [], iV 2]) := by
  by_cases h : n < 0
  · have b1 : decide (n < 0) = true := decide_eq_true h
    refine pc_body2 true Tryz.func13 rfl rfl rfl (Nat.le_of_ble_eq_true rfl) CellT.tmp CellT.tmp ?_
    refine goA ?_
    refine evG ggA (ss_call (InB_of rfl) rfl rfl hv) ?_
    refine goA ?_
    exact rfl
  · have b1 : decide (n < 0) = false := decide_eq_false h
    have b2 : decide (n > 6) = true := decide_eq_true (by omega)
    refine pc_body2 true Tryz.func13 rfl rfl rfl (Nat.le_of_ble_eq_true rfl) CellT.tmp CellT.tmp ?_
    refine goA ?_
    refine evG ggA (ss_call (InB_of rfl) rfl rfl hv) ?_
    refine goA ?_
    exact rfl
section
variable {T1 T2 : List AV} {k l : Int} (hn : 0 ≤ n ∧ n ≤ 6) (ht : PC Tryz.prog 35 [.sl X] (.sl T1)) (hu : PC Tryz.prog 35 [.sl Y] (.sl T2))
include hn ht hu
theorem rB_kind {b c : Bool} (hp : PC Tryz.prog 42 [.sl T1] (bV b)) (hq : PC Tryz.prog 42 [.sl T2] (bV c)) (h : (b && c) = false) : PC Tryz.prog 13 [.sl X, .sl Y, iV n] (.tup [.sl [], iV 20]) := by
  have b1 : decide (n < 0) = false := decide_eq_false (by omega)
  have b2 : decide (n > 6) = false := decide_eq_false (by omega)
  cases b with
  | false =>
    refine pc_body2 true Tryz.func13 rfl rfl rfl (Nat.le_of_ble_eq_true rfl) CellT.tmp CellT.tmp ?_
    refine goA ?_
    refine evG ggA (ss_call (InB_of rfl) rfl rfl hv) ?_
    refine goA ?_
    refine evG ggA (ss_call (InB_of rfl) rfl rfl ht) ?_
    refine goA ?_
    refine evG ggA (ss_call (InB_of rfl) rfl rfl hu) ?_
    refine goA ?_
    refine evG ggA (ss_call (InB_of rfl) rfl rfl hp) ?_
    refine goA ?_
    exact rfl
  | true =>
    obtain rfl : c = false := by simpa using h
    refine pc_body2 true Tryz.func13 rfl rfl rfl (Nat.le_of_ble_eq_true rfl) CellT.tmp CellT.tmp ?_
    refine goA ?_
    refine evG ggA (ss_call (InB_of rfl) rfl rfl hv) ?_
    refine goA ?_
    refine evG ggA (ss_call (InB_of rfl) rfl rfl ht) ?_
    refine goA ?_
    refine evG ggA (ss_call (InB_of rfl) rfl rfl hu) ?_
    refine goA ?_
    refine evG ggA (ss_call (InB_of rfl) rfl rfl hp) ?_
    refine goA ?_
    refine evG ggA (ss_call (InB_of rfl) rfl rfl hq) ?_
    refine goA ?_
    exact rfl
section
variable (hp : PC Tryz.prog 42 [.sl T1] (bV true)) (hq : PC Tryz.prog 42 [.sl T2] (bV true))
include hp hq
theorem rB_zero (h : T1.length = 0 ∨ T2.length = 0) : PC Tryz.prog 13 [.sl X, .sl Y, iV n] (.tup [.sl [], iV 0]) := by
  have b1 : decide (n < 0) = false := decide_eq_false (by omega)
  have b2 : decide (n > 6) = false := decide_eq_false (by omega)
  by_cases h1 : T1.length = 0
  · have b3 : ((T1.length : Int) == 0) = true := by simp [List.length_eq_zero_iff.1 h1]
    refine pc_body2 true Tryz.func13 rfl rfl rfl (Nat.le_of_ble_eq_true rfl) CellT.tmp CellT.tmp ?_
    refine goA ?_
    refine evG ggA (ss_call (InB_of rfl) rfl rfl hv) ?_
    refine goA ?_
    refine evG ggA (ss_call (InB_of rfl) rfl rfl ht) ?_
    refine goA ?_
    refine evG ggA (ss_call (InB_of rfl) rfl rfl hu) ?_
    refine goA ?_
    refine evG ggA (ss_call (InB_of rfl) rfl rfl hp) ?_
    refine goA ?_
    refine evG ggA (ss_call (InB_of rfl) rfl rfl hq) ?_
    refine goA ?_
    exact rfl
  · have b3 : ((T1.length : Int) == 0) = false := by simp; intro e; rw [e] at h1; simp at h1
    have b4 : ((T2.length : Int) == 0) = true := by simp [List.length_eq_zero_iff.1 (show T2.length = 0 by omega)]
    refine pc_body2 true Tryz.func13 rfl rfl rfl (Nat.le_of_ble_eq_true rfl) CellT.tmp CellT.tmp ?_
    refine goA ?_
    refine evG ggA (ss_call (InB_of rfl) rfl rfl hv) ?_
    refine goA ?_
    refine evG ggA (ss_call (InB_of rfl) rfl rfl ht) ?_
    refine goA ?_
    refine evG ggA (ss_call (InB_of rfl) rfl rfl hu) ?_
    refine goA ?_
    refine evG ggA (ss_call (InB_of rfl) rfl rfl hp) ?_
    refine goA ?_
    refine evG ggA (ss_call (InB_of rfl) rfl rfl hq) ?_
    refine goA ?_
    exact rfl
theorem rB_large (h1 : 0 < T1.length) (h2 : 0 < T2.length) (htp : PC Tryz.prog 36 [.sl T1] (iV k)) (htq : PC Tryz.prog 36 [.sl T2] (iV l)) (hk : 0 ≤ k ∧ k ≤ 1000) (hl : 0 ≤ l ∧ l ≤ 1000) (hkl : 60 < k + l + 2 * n) : PC Tryz.prog 13 [.sl X, .sl Y, iV n] (.tup [.sl [], iV 7]) := by
  have b1 : decide (n < 0) = false := decide_eq_false (by omega)
  have b2 : decide (n > 6) = false := decide_eq_false (by omega)
  have b3 : ((T1.length : Int) == 0) = false := by simp; intro e; rw [e] at h1; simp at h1
  have b4 : ((T2.length : Int) == 0) = false := by simp; intro e; rw [e] at h2; simp at h2
  have b5 : decide (k + l + 2 * n > 60) = true := decide_eq_true (by omega)
  refine pc_body2 true Tryz.func13 rfl rfl rfl (Nat.le_of_ble_eq_true rfl) CellT.tmp CellT.tmp ?_
  refine goA ?_
  refine evG ggA (ss_call (InB_of rfl) rfl rfl hv) ?_
  refine goA ?_
  refine evG ggA (ss_call (InB_of rfl) rfl rfl ht) ?_
  refine goA ?_
  refine evG ggA (ss_call (InB_of rfl) rfl rfl hu) ?_
  refine goA ?_
  refine evG ggA (ss_call (InB_of rfl) rfl rfl hp) ?_
  refine goA ?_
  refine evG ggA (ss_call (InB_of rfl) rfl rfl hq) ?_
  refine goA ?_
  refine evG ggA (ss_call (InB_of rfl) rfl rfl htp) ?_
  refine goA ?_
  refine evG ggA (ss_call (InB_of rfl) rfl rfl htq) ?_
  refine goA ?_
  exact rfl
end
end
end
end Ab
