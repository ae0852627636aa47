import Derived.Test.YtdbkmjahbgcjbaaGreatDoorInJ
set_option linter.all false
namespace Ab
open Hp
theorem cf_ge {s : Int} {l : List Rat} {n : Int} (h : s + l.length ≤ n) : cf s l n = 0 := by
 unfold cf
 rw [if_neg (by omega), List.getD_eq_getElem?_getD, List.getElem?_eq_none (by omega)]
 rfl
theorem cf_lt {s : Int} {l : List Rat} {n : Int} (h : n < s) : cf s l n = 0 := by unfold cf; rw [if_pos h]
theorem cf_tk {s : Int} {f : Nat → Rat} {N : Nat} {n : Int} (h0 : s ≤ n) (h1 : n < s + N) : cf s (tk f N) n = f (n - s).toNat := by
 unfold cf tk
 rw [if_neg (by omega), List.getD_eq_getElem?_getD, List.getElem?_map, List.getElem?_range (by omega)]
 rfl
def Out (x : Option (Int × List Rat)) (p : Int) (f : Int → Rat) (b : Int) (K : Nat) : Prop :=
 ∃ s l, x = some (s, l) ∧ -100 ≤ s ∧ s + l.length = p ∧ p ≤ 1000 ∧ b ≤ s ∧ (∀ n, n < p → cf s l n = f n) ∧ (∀ q, q ∈ l → Ht q K) ∧ lead l = 0
theorem Out.congr {x : Option (Int × List Rat)} {p p' : Int} {f f' : Int → Rat} {b b' : Int} {K K' : Nat} (h : Out x p f b K) (hp : p = p') (hf : ∀ n, n < p' → f n = f' n) (hb : b' ≤ b) (hK : K ≤ K') : Out x p' f' b' K' := by
 subst hp
 obtain ⟨s, l, h1, h2, h3, h4, h5, h6, h7, h8⟩ := h
 exact ⟨s, l, h1, h2, h3, h4, by omega, fun n hn => by rw [h6 n hn, hf n hn], fun q hq => (h7 q hq).mono hK, h8⟩
def su (f : Nat → Rat) : Nat → Rat
 | 0 => 0
 | j + 1 => su f j + f j
theorem su_congr {f g : Nat → Rat} : ∀ {n : Nat}, (∀ j, j < n → f j = g j) → su f n = su g n
 | 0, _ => rfl
 | n + 1, h => by rw [su, su, su_congr (fun j hj => h j (by omega)), h n (by omega)]
theorem su_zero {f : Nat → Rat} : ∀ {n : Nat}, (∀ j, j < n → f j = 0) → su f n = 0
 | 0, _ => rfl
 | n + 1, h => by rw [su, su_zero (fun j hj => h j (by omega)), h n (by omega), Rat.add_zero]
theorem su_add (f g : Nat → Rat) : ∀ n : Nat, su (fun j => f j + g j) n = su f n + su g n
 | 0 => by simp [su, Rat.add_zero]
 | n + 1 => by rw [su, su, su, su_add f g n]; grind
theorem su_mul (c : Rat) (f : Nat → Rat) : ∀ n : Nat, su (fun j => c * f j) n = c * su f n
 | 0 => by simp [su]
 | n + 1 => by rw [su, su, su_mul c f n, Rat.mul_add]
theorem su_split (f : Nat → Rat) (a : Nat) : ∀ k : Nat, su f (a + k) = su f a + su (fun i => f (a + i)) k
 | 0 => by simp [su, Rat.add_zero]
 | k + 1 => by rw [← Nat.add_assoc, su, su_split f a k, su, Rat.add_assoc]
def cv (A B : Int → Rat) (n : Int) : Rat := su (fun j => A ((j : Int) - 100) * B (n - ((j : Int) - 100))) (n + 201).toNat
theorem cs_su (l m : List Rat) (k : Nat) : ∀ j, cs l m k j = su (fun i => l.getD i 0 * m.getD (k - i) 0) j
 | 0 => rfl
 | j + 1 => by rw [cs, su, cs_su l m k j]
end Ab
