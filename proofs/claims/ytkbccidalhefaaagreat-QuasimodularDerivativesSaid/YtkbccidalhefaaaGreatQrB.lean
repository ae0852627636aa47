/- The exported operations on polynomials with their errors, the program's and the document's: by the contracts of what they call. -/
import Derived.Test.YtkbccidalhefaaaGreatQcA
import Derived.Test.YtkbccidalhefaaaGreatQeA
set_option linter.all false
namespace Ab
open Go Go.RowKit Go.Proofs Hp
set_option maxRecDepth 100000

theorem qN_ok {X R : List AV} (hv : PC Tryz.prog 30 [.sl X] (bV true)) (hd : PC Tryz.prog 31 [.sl X] (.sl R)) : PC Tryz.prog 14 [.sl X] (.tup [.sl R, iV 0]) := by
  refine pc_body2 true Tryz.func14 rfl rfl rfl (Nat.le_of_ble_eq_true rfl) CellT.tmp CellT.tmp ?_
  refine goA ?_
  refine evG ggA (ss_call (InB_of rfl) rfl rfl hv) ?_
  refine goA ?_
  refine evG ggA (ss_call (InB_of rfl) rfl rfl hd) ?_
  refine goA ?_
  exact rfl
theorem qN_bad {X : List AV} (hv : PC Tryz.prog 30 [.sl X] (bV false)) : PC Tryz.prog 14 [.sl X] (.tup [.sl [], iV 2]) := by
  refine pc_body2 true Tryz.func14 rfl rfl rfl (Nat.le_of_ble_eq_true rfl) CellT.tmp CellT.tmp ?_
  refine goA ?_
  refine evG ggA (ss_call (InB_of rfl) rfl rfl hv) ?_
  refine goA ?_
  exact rfl
theorem qA_bad {X Y : List AV} {b : Bool} (hv : PC Tryz.prog 30 [.sl X] (bV b)) (hw : b = true → PC Tryz.prog 30 [.sl Y] (bV false)) : PC Tryz.prog 16 [.sl X, .sl Y] (.tup [.sl [], iV 2]) := by
  cases b with
  | false =>
    refine pc_body2 true Tryz.func16 rfl rfl rfl (Nat.le_of_ble_eq_true rfl) CellT.tmp CellT.tmp ?_
    refine goA ?_
    refine evG ggA (ss_call (InB_of rfl) rfl rfl hv) ?_
    refine goA ?_
    exact rfl
  | true =>
    have hw := hw rfl
    refine pc_body2 true Tryz.func16 rfl rfl rfl (Nat.le_of_ble_eq_true rfl) CellT.tmp CellT.tmp ?_
    refine goA ?_
    refine evG ggA (ss_call (InB_of rfl) rfl rfl hv) ?_
    refine goA ?_
    refine evG ggA (ss_call (InB_of rfl) rfl rfl hw) ?_
    refine goA ?_
    exact rfl
theorem qS_bad {g g' : Bool} {d d' X : List AV} (hv : PC Tryz.prog 30 [.sl X] (bV false)) : PC Tryz.prog 18 [.agg [.p (.bool g), .sl d, .p (.bool g'), .sl d'], .sl X] (.tup [.sl [], iV 2]) := by
  refine pc_body2 true Tryz.func18 rfl rfl rfl (Nat.le_of_ble_eq_true rfl) CellT.tmp CellT.tmp ?_
  refine goA ?_
  refine evG ggA (ss_call (InB_of rfl) rfl rfl hv) ?_
  refine goA ?_
  exact rfl
theorem qM_bad {X Y : List AV} {b : Bool} (hv : PC Tryz.prog 30 [.sl X] (bV b)) (hw : b = true → PC Tryz.prog 30 [.sl Y] (bV false)) : PC Tryz.prog 20 [.sl X, .sl Y] (.tup [.sl [], iV 2]) := by
  cases b with
  | false =>
    refine pc_body2 true Tryz.func20 rfl rfl rfl (Nat.le_of_ble_eq_true rfl) CellT.tmp CellT.tmp ?_
    refine goA ?_
    refine evG ggA (ss_call (InB_of rfl) rfl rfl hv) ?_
    refine goA ?_
    exact rfl
  | true =>
    have hw := hw rfl
    refine pc_body2 true Tryz.func20 rfl rfl rfl (Nat.le_of_ble_eq_true rfl) CellT.tmp CellT.tmp ?_
    refine goA ?_
    refine evG ggA (ss_call (InB_of rfl) rfl rfl hv) ?_
    refine goA ?_
    refine evG ggA (ss_call (InB_of rfl) rfl rfl hw) ?_
    refine goA ?_
    exact rfl
section
variable {X Y T1 T2 R : List AV} {k l : Int} (hv : PC Tryz.prog 30 [.sl X] (bV true)) (hw : PC Tryz.prog 30 [.sl Y] (bV true)) (ht : PC Tryz.prog 31 [.sl X] (.sl T1)) (hu : PC Tryz.prog 31 [.sl Y] (.sl T2))
include hv hw ht hu
theorem qM_large (h1 : 0 < T1.length) (h2 : 0 < T2.length) (hp : PC Tryz.prog 32 [.sl T1] (iV k)) (hq : PC Tryz.prog 32 [.sl T2] (iV l)) (hk : 0 ≤ k ∧ k ≤ 1000) (hl : 0 ≤ l ∧ l ≤ 1000) (hkl : 60 < k + l) : PC Tryz.prog 20 [.sl X, .sl Y] (.tup [.sl [], iV 7]) := by
  have b1 : decide ((T1.length : Int) > 0) = true := decide_eq_true (by omega)
  have b2 : decide ((T2.length : Int) > 0) = true := decide_eq_true (by omega)
  have b3 : decide (k + l > 60) = true := decide_eq_true (by omega)
  refine pc_body2 true Tryz.func20 rfl rfl rfl (Nat.le_of_ble_eq_true rfl) CellT.tmp CellT.tmp ?_
  refine goA ?_
  refine evG ggA (ss_call (InB_of rfl) rfl rfl hv) ?_
  refine goA ?_
  refine evG ggA (ss_call (InB_of rfl) rfl rfl hw) ?_
  refine goA ?_
  refine evG ggA (ss_call (InB_of rfl) rfl rfl ht) ?_
  refine goA ?_
  refine evG ggA (ss_call (InB_of rfl) rfl rfl hu) ?_
  refine goA ?_
  refine evG ggA (ss_call (InB_of rfl) rfl rfl hp) ?_
  refine goA ?_
  refine evG ggA (ss_call (InB_of rfl) rfl rfl hq) ?_
  refine goA ?_
  exact rfl
theorem qM_zero (h : T1.length = 0 ∨ T2.length = 0) (hd : PC Tryz.prog 39 [.sl T1, .sl T2] (.sl R)) : PC Tryz.prog 20 [.sl X, .sl Y] (.tup [.sl R, iV 0]) := by
  by_cases h1 : T1.length = 0
  · have b1 : decide ((T1.length : Int) > 0) = false := decide_eq_false (by omega)
    refine pc_body2 true Tryz.func20 rfl rfl rfl (Nat.le_of_ble_eq_true rfl) CellT.tmp CellT.tmp ?_
    refine goA ?_
    refine evG ggA (ss_call (InB_of rfl) rfl rfl hv) ?_
    refine goA ?_
    refine evG ggA (ss_call (InB_of rfl) rfl rfl hw) ?_
    refine goA ?_
    refine evG ggA (ss_call (InB_of rfl) rfl rfl ht) ?_
    refine goA ?_
    refine evG ggA (ss_call (InB_of rfl) rfl rfl hu) ?_
    refine goA ?_
    refine evG ggA (ss_call (InB_of rfl) rfl rfl hd) ?_
    refine goA ?_
    exact rfl
  · have b1 : decide ((T1.length : Int) > 0) = true := decide_eq_true (by omega)
    have b2 : decide ((T2.length : Int) > 0) = false := decide_eq_false (by omega)
    refine pc_body2 true Tryz.func20 rfl rfl rfl (Nat.le_of_ble_eq_true rfl) CellT.tmp CellT.tmp ?_
    refine goA ?_
    refine evG ggA (ss_call (InB_of rfl) rfl rfl hv) ?_
    refine goA ?_
    refine evG ggA (ss_call (InB_of rfl) rfl rfl hw) ?_
    refine goA ?_
    refine evG ggA (ss_call (InB_of rfl) rfl rfl ht) ?_
    refine goA ?_
    refine evG ggA (ss_call (InB_of rfl) rfl rfl hu) ?_
    refine goA ?_
    refine evG ggA (ss_call (InB_of rfl) rfl rfl hd) ?_
    refine goA ?_
    exact rfl
end
theorem qW_bad {X : List AV} (hv : PC Tryz.prog 30 [.sl X] (bV false)) : PC Tryz.prog 22 [.sl X] (.tup [iV 0, iV 2]) := by
  refine pc_body2 true Tryz.func22 rfl rfl rfl (Nat.le_of_ble_eq_true rfl) CellT.tmp CellT.tmp ?_
  refine goA ?_
  refine evG ggA (ss_call (InB_of rfl) rfl rfl hv) ?_
  refine goA ?_
  exact rfl
theorem qW_zero {X T1 : List AV} (hv : PC Tryz.prog 30 [.sl X] (bV true)) (ht : PC Tryz.prog 31 [.sl X] (.sl T1)) (h : T1.length = 0) : PC Tryz.prog 22 [.sl X] (.tup [iV 0, iV 5]) := by
  have b1 : ((T1.length : Int) == 0) = true := by simp [List.length_eq_zero_iff.1 h]
  refine pc_body2 true Tryz.func22 rfl rfl rfl (Nat.le_of_ble_eq_true rfl) CellT.tmp CellT.tmp ?_
  refine goA ?_
  refine evG ggA (ss_call (InB_of rfl) rfl rfl hv) ?_
  refine goA ?_
  refine evG ggA (ss_call (InB_of rfl) rfl rfl ht) ?_
  refine goA ?_
  exact rfl
theorem qW_ok {X T1 : List AV} {k : Int} {b : Bool} (hv : PC Tryz.prog 30 [.sl X] (bV true)) (ht : PC Tryz.prog 31 [.sl X] (.sl T1)) (h : 0 < T1.length) (hp : PC Tryz.prog 38 [.sl T1] (.tup [iV k, bV b])) : PC Tryz.prog 22 [.sl X] (.tup [iV (if b then k else 0), iV (if b then 0 else 20)]) := by
  have b1 : ((T1.length : Int) == 0) = false := by simp; intro e; rw [e] at h; simp at h
  cases b with
  | true =>
    refine pc_body2 true Tryz.func22 rfl rfl rfl (Nat.le_of_ble_eq_true rfl) CellT.tmp CellT.tmp ?_
    refine goA ?_
    refine evG ggA (ss_call (InB_of rfl) rfl rfl hv) ?_
    refine goA ?_
    refine evG ggA (ss_call (InB_of rfl) rfl rfl ht) ?_
    refine goA ?_
    refine evG ggA (ss_call (InB_of rfl) rfl rfl hp) ?_
    refine goA ?_
    exact rfl
  | false =>
    refine pc_body2 true Tryz.func22 rfl rfl rfl (Nat.le_of_ble_eq_true rfl) CellT.tmp CellT.tmp ?_
    refine goA ?_
    refine evG ggA (ss_call (InB_of rfl) rfl rfl hv) ?_
    refine goA ?_
    refine evG ggA (ss_call (InB_of rfl) rfl rfl ht) ?_
    refine goA ?_
    refine evG ggA (ss_call (InB_of rfl) rfl rfl hp) ?_
    refine goA ?_
    exact rfl
theorem qH_bad {X : List AV} (hv : PC Tryz.prog 30 [.sl X] (bV false)) : PC Tryz.prog 24 [.sl X] (.tup [iV 0, iV 2]) := by
  refine pc_body2 true Tryz.func24 rfl rfl rfl (Nat.le_of_ble_eq_true rfl) CellT.tmp CellT.tmp ?_
  refine goA ?_
  refine evG ggA (ss_call (InB_of rfl) rfl rfl hv) ?_
  refine goA ?_
  exact rfl
/-- the document's -/
theorem rTwo_p {X Y : List AV} {b c : Bool} (hv : PC Tryz.prog 34 [.sl X] (iV (vk b))) (hw : PC Tryz.prog 34 [.sl Y] (iV (vk c))) : PC Tryz.prog 50 [.sl X, .sl Y] (iV (vk (b && c))) := by
  cases b with
  | false =>
    refine pc_body1 true Tryz.func50 rfl rfl rfl (Nat.le_of_ble_eq_true rfl) CellT.tmp ?_
    refine goA ?_
    refine evG ggA (ss_call (InB_of rfl) rfl rfl hv) ?_
    refine goA ?_
    exact rfl
  | true =>
    rw [Bool.true_and]
    refine pc_body1 true Tryz.func50 rfl rfl rfl (Nat.le_of_ble_eq_true rfl) CellT.tmp ?_
    refine goA ?_
    refine evG ggA (ss_call (InB_of rfl) rfl rfl hv) ?_
    refine goA ?_
    refine evG ggA (ss_call (InB_of rfl) rfl rfl hw) ?_
    refine goA ?_
    exact rfl
theorem rN_ok {X R : List AV} (hv : PC Tryz.prog 34 [.sl X] (iV 0)) (hd : PC Tryz.prog 35 [.sl X] (.sl R)) : PC Tryz.prog 15 [.sl X] (.tup [.sl R, iV 0]) := by
  refine pc_body2 true Tryz.func15 rfl rfl rfl (Nat.le_of_ble_eq_true rfl) CellT.tmp CellT.tmp ?_
  refine goA ?_
  refine evG ggA (ss_call (InB_of rfl) rfl rfl hv) ?_
  refine goA ?_
  refine evG ggA (ss_call (InB_of rfl) rfl rfl hd) ?_
  refine goA ?_
  exact rfl
theorem rN_bad {X : List AV} (hv : PC Tryz.prog 34 [.sl X] (iV 2)) : PC Tryz.prog 15 [.sl X] (.tup [.sl [], iV 2]) := by
  refine pc_body2 true Tryz.func15 rfl rfl rfl (Nat.le_of_ble_eq_true rfl) CellT.tmp CellT.tmp ?_
  refine goA ?_
  refine evG ggA (ss_call (InB_of rfl) rfl rfl hv) ?_
  refine goA ?_
  exact rfl
theorem rA_bad {X Y : List AV} (hv : PC Tryz.prog 50 [.sl X, .sl Y] (iV 2)) : PC Tryz.prog 17 [.sl X, .sl Y] (.tup [.sl [], iV 2]) := by
  refine pc_body2 true Tryz.func17 rfl rfl rfl (Nat.le_of_ble_eq_true rfl) CellT.tmp CellT.tmp ?_
  refine goA ?_
  refine evG ggA (ss_call (InB_of rfl) rfl rfl hv) ?_
  refine goA ?_
  exact rfl
theorem rA_ok {X Y T1 T2 R : List AV} (hv : PC Tryz.prog 50 [.sl X, .sl Y] (iV 0)) (ht : PC Tryz.prog 35 [.sl X] (.sl T1)) (hu : PC Tryz.prog 35 [.sl Y] (.sl T2)) (hd : PC Tryz.prog 43 [.sl T1, .sl T2] (.sl R)) : PC Tryz.prog 17 [.sl X, .sl Y] (.tup [.sl R, iV 0]) := by
  refine pc_body2 true Tryz.func17 rfl rfl rfl (Nat.le_of_ble_eq_true rfl) CellT.tmp CellT.tmp ?_
  refine goA ?_
  refine evG ggA (ss_call (InB_of rfl) rfl rfl hv) ?_
  refine goA ?_
  refine evG ggA (ss_call (InB_of rfl) rfl rfl ht) ?_
  refine goA ?_
  refine evG ggA (ss_call (InB_of rfl) rfl rfl hu) ?_
  refine goA ?_
  refine evG ggA (ss_call (InB_of rfl) rfl rfl hd) ?_
  refine goA ?_
  exact rfl
theorem rS_bad {g g' : Bool} {d d' X : List AV} (hv : PC Tryz.prog 34 [.sl X] (iV 2)) : PC Tryz.prog 19 [.agg [.p (.bool g), .sl d, .p (.bool g'), .sl d'], .sl X] (.tup [.sl [], iV 2]) := by
  refine pc_body2 true Tryz.func19 rfl rfl rfl (Nat.le_of_ble_eq_true rfl) CellT.tmp CellT.tmp ?_
  refine goA ?_
  refine evG ggA (ss_call (InB_of rfl) rfl rfl hv) ?_
  refine goA ?_
  exact rfl
theorem rS_ok {g g' : Bool} {d d' X R : List AV} (hv : PC Tryz.prog 34 [.sl X] (iV 0)) (hd : PC Tryz.prog 44 [.agg [.p (.bool g), .sl d, .p (.bool g'), .sl d'], .sl X] (.sl R)) : PC Tryz.prog 19 [.agg [.p (.bool g), .sl d, .p (.bool g'), .sl d'], .sl X] (.tup [.sl R, iV 0]) := by
  refine pc_body2 true Tryz.func19 rfl rfl rfl (Nat.le_of_ble_eq_true rfl) CellT.tmp CellT.tmp ?_
  refine goA ?_
  refine evG ggA (ss_call (InB_of rfl) rfl rfl hv) ?_
  refine goA ?_
  refine evG ggA (ss_call (InB_of rfl) rfl rfl hd) ?_
  refine goA ?_
  exact rfl
theorem rM_bad {X Y : List AV} (hv : PC Tryz.prog 50 [.sl X, .sl Y] (iV 2)) : PC Tryz.prog 21 [.sl X, .sl Y] (.tup [.sl [], iV 2]) := by
  refine pc_body2 true Tryz.func21 rfl rfl rfl (Nat.le_of_ble_eq_true rfl) CellT.tmp CellT.tmp ?_
  refine goA ?_
  refine evG ggA (ss_call (InB_of rfl) rfl rfl hv) ?_
  refine goA ?_
  exact rfl
section
variable {X Y T1 T2 R : List AV} {k l : Int} (hv : PC Tryz.prog 50 [.sl X, .sl Y] (iV 0)) (ht : PC Tryz.prog 35 [.sl X] (.sl T1)) (hu : PC Tryz.prog 35 [.sl Y] (.sl T2))
include hv ht hu
theorem rM_zero (h : T1.length = 0 ∨ T2.length = 0) (hd : PC Tryz.prog 45 [.sl T1, .sl T2] (.sl R)) : PC Tryz.prog 21 [.sl X, .sl Y] (.tup [.sl R, iV 0]) := by
  by_cases h1 : T1.length = 0
  · have b1 : decide ((T1.length : Int) > 0) = false := decide_eq_false (by omega)
    refine pc_body2 true Tryz.func21 rfl rfl rfl (Nat.le_of_ble_eq_true rfl) CellT.tmp CellT.tmp ?_
    refine goA ?_
    refine evG ggA (ss_call (InB_of rfl) rfl rfl hv) ?_
    refine goA ?_
    refine evG ggA (ss_call (InB_of rfl) rfl rfl ht) ?_
    refine goA ?_
    refine evG ggA (ss_call (InB_of rfl) rfl rfl hu) ?_
    refine goA ?_
    refine evG ggA (ss_call (InB_of rfl) rfl rfl hd) ?_
    refine goA ?_
    exact rfl
  · have b1 : decide ((T1.length : Int) > 0) = true := decide_eq_true (by omega)
    have b2 : decide ((T2.length : Int) > 0) = false := decide_eq_false (by omega)
    refine pc_body2 true Tryz.func21 rfl rfl rfl (Nat.le_of_ble_eq_true rfl) CellT.tmp CellT.tmp ?_
    refine goA ?_
    refine evG ggA (ss_call (InB_of rfl) rfl rfl hv) ?_
    refine goA ?_
    refine evG ggA (ss_call (InB_of rfl) rfl rfl ht) ?_
    refine goA ?_
    refine evG ggA (ss_call (InB_of rfl) rfl rfl hu) ?_
    refine goA ?_
    refine evG ggA (ss_call (InB_of rfl) rfl rfl hd) ?_
    refine goA ?_
    exact rfl
section
variable (h1 : 0 < T1.length) (h2 : 0 < T2.length) (hp : PC Tryz.prog 36 [.sl T1] (iV k)) (hq : PC Tryz.prog 36 [.sl T2] (iV l)) (hk : 0 ≤ k ∧ k ≤ 1000) (hl : 0 ≤ l ∧ l ≤ 1000)
include h1 h2 hp hq hk hl
theorem rM_large (hkl : 60 < k + l) : PC Tryz.prog 21 [.sl X, .sl Y] (.tup [.sl [], iV 7]) := by
  have b1 : decide ((T1.length : Int) > 0) = true := decide_eq_true (by omega)
  have b2 : decide ((T2.length : Int) > 0) = true := decide_eq_true (by omega)
  have b3 : decide (k + l > 60) = true := decide_eq_true (by omega)
  refine pc_body2 true Tryz.func21 rfl rfl rfl (Nat.le_of_ble_eq_true rfl) CellT.tmp CellT.tmp ?_
  refine goA ?_
  refine evG ggA (ss_call (InB_of rfl) rfl rfl hv) ?_
  refine goA ?_
  refine evG ggA (ss_call (InB_of rfl) rfl rfl ht) ?_
  refine goA ?_
  refine evG ggA (ss_call (InB_of rfl) rfl rfl hu) ?_
  refine goA ?_
  refine evG ggA (ss_call (InB_of rfl) rfl rfl hp) ?_
  refine goA ?_
  refine evG ggA (ss_call (InB_of rfl) rfl rfl hq) ?_
  refine goA ?_
  exact rfl
theorem rM_ok (hkl : k + l ≤ 60) (hd : PC Tryz.prog 45 [.sl T1, .sl T2] (.sl R)) : PC Tryz.prog 21 [.sl X, .sl Y] (.tup [.sl R, iV 0]) := by
  have b1 : decide ((T1.length : Int) > 0) = true := decide_eq_true (by omega)
  have b2 : decide ((T2.length : Int) > 0) = true := decide_eq_true (by omega)
  have b3 : decide (k + l > 60) = false := decide_eq_false (by omega)
  refine pc_body2 true Tryz.func21 rfl rfl rfl (Nat.le_of_ble_eq_true rfl) CellT.tmp CellT.tmp ?_
  refine goA ?_
  refine evG ggA (ss_call (InB_of rfl) rfl rfl hv) ?_
  refine goA ?_
  refine evG ggA (ss_call (InB_of rfl) rfl rfl ht) ?_
  refine goA ?_
  refine evG ggA (ss_call (InB_of rfl) rfl rfl hu) ?_
  refine goA ?_
  refine evG ggA (ss_call (InB_of rfl) rfl rfl hp) ?_
  refine goA ?_
  refine evG ggA (ss_call (InB_of rfl) rfl rfl hq) ?_
  refine goA ?_
  refine evG ggA (ss_call (InB_of rfl) rfl rfl hd) ?_
  refine goA ?_
  exact rfl
end
end
theorem rW_bad {X : List AV} (hv : PC Tryz.prog 34 [.sl X] (iV 2)) : PC Tryz.prog 23 [.sl X] (.tup [iV 0, iV 2]) := by
  refine pc_body2 true Tryz.func23 rfl rfl rfl (Nat.le_of_ble_eq_true rfl) CellT.tmp CellT.tmp ?_
  refine goA ?_
  refine evG ggA (ss_call (InB_of rfl) rfl rfl hv) ?_
  refine goA ?_
  exact rfl
theorem rW_zero {X T1 : List AV} (hv : PC Tryz.prog 34 [.sl X] (iV 0)) (ht : PC Tryz.prog 35 [.sl X] (.sl T1)) (h : T1.length = 0) : PC Tryz.prog 23 [.sl X] (.tup [iV 0, iV 5]) := by
  have b1 : ((T1.length : Int) == 0) = true := by simp [List.length_eq_zero_iff.1 h]
  refine pc_body2 true Tryz.func23 rfl rfl rfl (Nat.le_of_ble_eq_true rfl) CellT.tmp CellT.tmp ?_
  refine goA ?_
  refine evG ggA (ss_call (InB_of rfl) rfl rfl hv) ?_
  refine goA ?_
  refine evG ggA (ss_call (InB_of rfl) rfl rfl ht) ?_
  refine goA ?_
  exact rfl
theorem rW_kind {X T1 : List AV} (hv : PC Tryz.prog 34 [.sl X] (iV 0)) (ht : PC Tryz.prog 35 [.sl X] (.sl T1)) (h : 0 < T1.length) (hp : PC Tryz.prog 42 [.sl T1] (bV false)) : PC Tryz.prog 23 [.sl X] (.tup [iV 0, iV 20]) := by
  have b1 : ((T1.length : Int) == 0) = false := by simp; intro e; rw [e] at h; simp at h
  refine pc_body2 true Tryz.func23 rfl rfl rfl (Nat.le_of_ble_eq_true rfl) CellT.tmp CellT.tmp ?_
  refine goA ?_
  refine evG ggA (ss_call (InB_of rfl) rfl rfl hv) ?_
  refine goA ?_
  refine evG ggA (ss_call (InB_of rfl) rfl rfl ht) ?_
  refine goA ?_
  refine evG ggA (ss_call (InB_of rfl) rfl rfl hp) ?_
  refine goA ?_
  exact rfl
theorem rW_ok {X T1 : List AV} {e : QE} (hv : PC Tryz.prog 34 [.sl X] (iV 0)) (ht : PC Tryz.prog 35 [.sl X] (.sl (e.av :: T1))) (hp : PC Tryz.prog 42 [.sl (e.av :: T1)] (bV true)) (hs : e.sm) : PC Tryz.prog 23 [.sl X] (.tup [iV e.w, iV 0]) := by
  have cw := rweight38_p hs
  generalize hw : e.w = w at *
  obtain ⟨Z, hZ⟩ : ∃ Z, Z = e.av :: T1 := ⟨_, rfl⟩
  have b1 : ((Z.length : Int) == 0) = false := by rw [hZ]; simp; omega
  have hl : 0 < Z.length := by rw [hZ]; simp
  have hget : Z[(0 : Int).toNat]? = some e.av := by rw [hZ]; rfl
  rw [← hZ] at ht hp
  obtain ⟨a, b, c, g, d, g', d', q⟩ := e
  have hget : Z[(0 : Int).toNat]? = some (.agg [iV a, iV b, iV c, .p (.bool g), .sl d, .p (.bool g'), .sl d']) := hget
  refine pc_body2 true Tryz.func23 rfl rfl rfl (Nat.le_of_ble_eq_true rfl) CellT.tmp CellT.tmp ?_
  refine goA ?_
  refine evG ggA (ss_call (InB_of rfl) rfl rfl hv) ?_
  refine goA ?_
  refine evG ggA (ss_call (InB_of rfl) rfl rfl ht) ?_
  refine goA ?_
  refine evG ggA (ss_call (InB_of rfl) rfl rfl hp) ?_
  refine goA ?_
  refine evG ggA (ss_index_sl (InB_of rfl) (elem_tab rfl) rfl rfl (by omega) hget rfl) ?_
  refine goA ?_
  refine evG ggA (ss_call (InB_of rfl) rfl rfl cw) ?_
  refine goA ?_
  exact rfl
theorem rH_bad {X : List AV} (hv : PC Tryz.prog 34 [.sl X] (iV 2)) : PC Tryz.prog 25 [.sl X] (.tup [iV 0, iV 2]) := by
  refine pc_body2 true Tryz.func25 rfl rfl rfl (Nat.le_of_ble_eq_true rfl) CellT.tmp CellT.tmp ?_
  refine goA ?_
  refine evG ggA (ss_call (InB_of rfl) rfl rfl hv) ?_
  refine goA ?_
  exact rfl
end Ab
