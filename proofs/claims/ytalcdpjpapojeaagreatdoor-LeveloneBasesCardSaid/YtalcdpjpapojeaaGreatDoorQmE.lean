/- Products of powers of E2, E4 and E6 as functions of the index. -/
import Derived.Test.YtalcdpjpapojeaaGreatDoorLx
import Derived.Test.YtalcdpjpapojeaaGreatDoorQB
set_option linter.all false
namespace Ab
open Go Go.RowKit Go.Proofs Hp
set_option maxRecDepth 100000
def eiC (k : Nat) : Int := if k = 2 then -24 else if k = 4 then 240 else -504
def eiZ (k n : Nat) : Int := if n = 0 then 1 else eiC k * (sgm (k - 1) n n : Nat)
def w246 (k : Nat) : Prop := k = 2 ∨ k = 4 ∨ k = 6
theorem w246_ok {k : Nat} (h : w246 k) : wOK k = true := by rcases h with rfl | rfl | rfl <;> rfl
theorem eiC_q : ∀ k, w246 k → ((-2 * (k : Int) : Int) : Rat) / bqP k = (eiC k : Int) := by
 intro k h
 rcases h with rfl | rfl | rfl <;> decide +kernel
theorem eiV_Z {k : Nat} (h : w246 k) (n : Nat) : eiV k n = ((eiZ k n : Int) : Rat) := by
 by_cases h0 : n = 0
 ·subst h0
  rw [eiV_0 (w246_ok h)]
  rfl
 ·unfold eiV clV eiZ
  rw [if_neg h0, if_neg h0, eiC_q k h, Rat.intCast_mul]
theorem eiZ_lt {k n : Nat} (h : w246 k) (hn : n ≤ 12) : (eiZ k n).natAbs ≤ 2147483648 := by
 unfold eiZ
 by_cases h0 : n = 0
 ·rw [if_pos h0]; decide
 ·rw [if_neg h0, Int.natAbs_mul, Int.natAbs_natCast]
  have h1 := sgm_le (k - 1) n n (Nat.le_refl _)
  have h2 : n ^ (k - 1) ≤ 12 ^ (k - 1) := Nat.pow_le_pow_left hn _
  have h3 : n * n ^ (k - 1) ≤ 12 * 12 ^ (k - 1) := Nat.mul_le_mul hn h2
  have h4 : (eiC k).natAbs ≤ 504 := by rcases h with rfl | rfl | rfl <;> decide
  have h5 : 12 * 12 ^ (k - 1) ≤ 2985984 := by rcases h with rfl | rfl | rfl <;> decide
  have h6 : (eiC k).natAbs * sgm (k - 1) n n ≤ 504 * 2985984 := Nat.mul_le_mul h4 oM
  omega
def suZ (f : Nat → Int) : Nat → Int
 | 0 => 0
 | j + 1 => suZ f j + f j
theorem suZ_q (f : Nat → Int) : ∀ n, ((suZ f n : Int) : Rat) = su (fun j => ((f j : Int) : Rat)) n
 | 0 => rfl
 | n + 1 => by rw [suZ, su, Rat.intCast_add, suZ_q f n]
theorem suZ_le {f : Nat → Int} {B : Nat} : ∀ n, (∀ j, j < n → (f j).natAbs ≤ B) → (suZ f n).natAbs ≤ n * B
  | 0, _ => by simp [suZ]
  | n + 1, h => by
    have h1 := suZ_le n fun j hj => h j oM
    have h2 := h n oM
    rw [suZ, Nat.add_mul, Nat.one_mul]
    omega
def zE : List Nat → Nat → Int
 | [] => fun n => if n = 0 then 1 else 0
 | k :: l => fun n => suZ (fun j => zE l j * eiZ k (n - j)) (n + 1)
def qE : List Nat → Nat → Rat
 | [] => one'
 | k :: l => nc (qE l) (eiV k)
def Zdk (l : List Nat) : Prop := ∀ k, k ∈ l → w246 k
theorem qE_Z : ∀ l, Zdk l → ∀ n, qE l n = ((zE l n : Int) : Rat)
  | [], _, n => by
    show one' n = _
    unfold one' zE
    split <;> rfl
  | k :: l, h, n => by
    show su (fun j => qE l j * eiV k (n - j)) (n + 1) = _
    unfold zE
    rw [suZ_q]
    refine Zbk fun j _ => ?_
    rw [Rat.intCast_mul, qE_Z l (fun x hx => h x (List.mem_cons_of_mem _ hx)), eiV_Z (h k (List.mem_cons_self ..))]
theorem zE_le : ∀ l, Zdk l → ∀ n, n ≤ 12 → (zE l n).natAbs ≤ 18446744073709551616 ^ l.length
  | [], _, n, _ => by
    unfold zE
    split <;> decide
  | k :: l, h, n, hn => by
    have h1 := suZ_le (f := fun j => zE l j * eiZ k (n - j)) (B := 18446744073709551616 ^ l.length * 2147483648) (n + 1) fun j hj => by
      rw [Int.natAbs_mul]
      exact Nat.mul_le_mul (zE_le l (fun x hx => h x (List.mem_cons_of_mem _ hx)) j oM) (eiZ_lt (h k (List.mem_cons_self ..)) oM)
    unfold zE
    refine Nat.le_trans h1 ?_
    rw [List.length_cons, Nat.pow_succ]
    generalize 18446744073709551616 ^ l.length = X
    have h2 : (n + 1) * (X * 2147483648) ≤ 13 * (X * 2147483648) := Nat.mul_le_mul_right _ oM
    omega
theorem pw_sq (n : Nat) : pw (2 * n) = ((18446744073709551616 ^ n : Nat) : Int) := by
 rw [pw_nat, Nat.pow_mul]
theorem qE_ht {l : List Nat} (h : Zdk l) {n : Nat} (hn : n ≤ 12) : Ht (qE l n) (2 * l.length + 1) := by
 rw [qE_Z l h]
 have h1 := Int.ofNat_le.2 (zE_le l h n hn)
 have h2 := pw_lt (2 * l.length) (2 * l.length + 1) oM
 rw [pw_sq] at h2
 exact ht_whole (Int.lt_of_le_of_lt h1 h2) oM
theorem qE_0 : ∀ l, Zdk l → qE l 0 = 1
  | [], _ => rfl
  | k :: l, h => by
    rw [qE, nc_0, qE_0 l (fun x hx => h x (List.mem_cons_of_mem _ hx)), eiV_0 (w246_ok (h k (List.mem_cons_self ..))), Rat.one_mul]
theorem nc_scl (c : Rat) (f g : Nat → Rat) (n : Nat) : nc (fun i => c * f i) g n = c * nc f g n := by
 unfold nc
 rw [← Zf0]
 exact Zbk fun j _ => by rw [Rat.mul_assoc]
def qX (c : Rat) (l : List Nat) (i : Nat) : Rat := c * qE l i
theorem qX_0 {c : Rat} {l : List Nat} (hc : c ≠ 0) (h : Zdk l) : qX c l 0 ≠ 0 := by
 unfold qX
 rw [qE_0 l h, Rat.mul_one]
 exact hc
theorem qX_ht {c : Rat} {l : List Nat} {K : Nat} (hK : 1 ≤ K) (hc : Ht c K) (h : Zdk l) (hl : l.length ≤ 30) {i : Nat} (hi : i ≤ 12) : Ht (qX c l i) (K + 61) :=
 (Zbq hc (qE_ht h hi) hK).mono oM
theorem qX_cons (c : Rat) (k : Nat) (l : List Nat) : nc (qX c l) (eiV k) = qX c (k :: l) := funext fun n => nc_scl c (qE l) (eiV k) n
theorem qX_nil (c : Rat) : qX c [] = fun i => if i = 0 then c else 0 := funext fun i => by
 show c * one' i = _
 unfold one'
 split <;> simp [Rat.mul_one, Rat.mul_zero]
def qW (t : QT) : List Nat := List.replicate t.c.toNat 6 ++ (List.replicate t.b.toNat 4 ++ List.replicate t.a.toNat 2)
theorem all_rep {n k : Nat} {l : List Nat} (h : Zdk l) (hk : w246 k) : Zdk (List.replicate n k ++ l) := fun x hx => by
 rcases List.mem_append.1 hx with hx | hx
 ·rw [List.eq_of_mem_replicate hx]; exact hk
 ·exact h x hx
theorem all_nil : Zdk [] := fun x hx => by cases hx
theorem qW_all (t : QT) : Zdk (qW t) := all_rep (all_rep (by rw [← List.append_nil (List.replicate _ 2)]; exact all_rep all_nil (.inl rfl)) (.inr (.inl rfl))) (.inr (.inr rfl))
def qEx : List QT → Nat → Rat
 | [], _ => 0
 | t :: p, i => qX t.q (qW t) i + qEx p i
end Ab
