/- The axioms of a ring, by coefficients; plain. -/
import Derived.Test.YtmcfohngblbpbaaGood
namespace Ab
open Hp
/-- the product of two sequences -/
def nc (a b : Nat → Rat) (k : Nat) : Rat := su (fun j => a j * b (k - j)) (k + 1)
theorem su_front (f : Nat → Rat) (n : Nat) : su f (n + 1) = f 0 + su (fun j => f (j + 1)) n := by
  rw [Nat.add_comm, su_split]
  show (0 : Rat) + f 0 + _ = _
  rw [Rat.zero_add]
  congr 1
  exact su_congr fun j _ => by rw [Nat.add_comm]
theorem su_rev (f : Nat → Rat) : ∀ n, su (fun j => f (n - 1 - j)) n = su f n
  | 0 => rfl
  | n + 1 => by
    rw [su_front]
    show f (n + 1 - 1 - 0) + _ = su f n + f n
    rw [show n + 1 - 1 - 0 = n by omega, Rat.add_comm]
    congr 1
    rw [← su_rev f n]
    exact su_congr fun j _ => by rw [show n + 1 - 1 - (j + 1) = n - 1 - j by omega]
theorem nc_comm (a b : Nat → Rat) (k : Nat) : nc a b k = nc b a k := by
  unfold nc
  rw [← su_rev]
  refine su_congr fun j hj => ?_
  rw [show k + 1 - 1 - j = k - j by omega, show k - (k - j) = j by omega, Rat.mul_comm]
theorem tri (F : Nat → Nat → Rat) : ∀ n, su (fun i => su (fun j => F i j) (i + 1)) n = su (fun j => su (fun i => F (i + j) j) (n - j)) n
  | 0 => rfl
  | n + 1 => by
    show su _ n + su (fun j => F n j) (n + 1) = su _ n + su (fun i => F (i + n) n) (n + 1 - n)
    rw [tri F n, show n + 1 - n = 0 + 1 by omega]
    show _ + (su (fun j => F n j) n + F n n) = _ + ((0 : Rat) + F (0 + n) n)
    rw [Rat.zero_add, Nat.zero_add, ← Rat.add_assoc]
    congr 1
    rw [← su_add]
    refine su_congr fun j hj => ?_
    rw [show n + 1 - j = (n - j) + 1 by omega]
    show _ = su (fun i => F (i + j) j) (n - j) + F (n - j + j) j
    rw [show n - j + j = n by omega]
theorem su_mulr (c : Rat) (f : Nat → Rat) (n : Nat) : su f n * c = su (fun j => f j * c) n := by
  rw [Rat.mul_comm, ← su_mul]
  exact su_congr fun j _ => Rat.mul_comm _ _
theorem nc_assoc (a b c : Nat → Rat) (k : Nat) : nc (nc a b) c k = nc a (nc b c) k := by
  have h1 : nc (nc a b) c k = su (fun i => su (fun j => a j * b (i - j) * c (k - i)) (i + 1)) (k + 1) := su_congr fun i _ => su_mulr _ _ _
  have h2 : nc a (nc b c) k = su (fun j => su (fun i => a j * b (i + j - j) * c (k - (i + j))) (k + 1 - j)) (k + 1) := su_congr fun j hj => by
    unfold nc
    rw [← su_mul, show k + 1 - j = k - j + 1 by omega]
    refine su_congr fun i hi => ?_
    rw [show i + j - j = i by omega, show k - (i + j) = k - j - i by omega, Rat.mul_assoc]
  rw [h1, h2]
  exact tri (fun i j => a j * b (i - j) * c (k - i)) (k + 1)
/-- a family as a sequence -/
def sq (A : Int → Rat) (j : Nat) : Rat := A ((j : Int) - 100)
theorem cv_nc {A B : Int → Rat} {n : Int} (h : -200 ≤ n) : cv A B n = nc (sq A) (sq B) (n + 200).toNat := by
  unfold cv nc
  rw [show (n + 201).toNat = (n + 200).toNat + 1 by omega]
  refine su_congr fun j hj => ?_
  unfold sq
  congr 2
  omega
theorem cv_low {A B : Int → Rat} {n : Int} (h : n < -200) : cv A B n = 0 := by
  unfold cv
  rw [show (n + 201).toNat = 0 by omega]
  rfl
theorem cv_comm (A B : Int → Rat) : cv A B = cv B A := funext fun n => by
  by_cases h : -200 ≤ n
  · rw [cv_nc h, cv_nc h, nc_comm]
  · rw [cv_low (by omega), cv_low (by omega)]
/-- nothing below -30 -/
def Low (A : Int → Rat) : Prop := ∀ n, n < -30 → A n = 0
theorem nc_low {a b : Nat → Rat} (ha : ∀ j, j < 70 → a j = 0) (hb : ∀ j, j < 70 → b j = 0) {k : Nat} (hk : k < 100) : nc a b k = 0 := su_zero fun j _ => by
  by_cases h : j < 70
  · rw [ha j h, Rat.zero_mul]
  · rw [hb (k - j) (by omega), Rat.mul_zero]
theorem Low.sq {A : Int → Rat} (h : Low A) : ∀ j, j < 70 → sq A j = 0 := fun j hj => h _ (by omega)
theorem nc_left {D c : Nat → Rat} (hD : ∀ j, j < 100 → D j = 0) (k : Nat) : nc D c (k + 100) = su (fun j => D (100 + j) * c (k - j)) (k + 1) := by
  have e : nc D c (k + 100) = su (fun j => D j * c (k + 100 - j)) (100 + (k + 1)) := by unfold nc; rw [show k + 100 + 1 = 100 + (k + 1) by omega]
  have z : su (fun j => D j * c (k + 100 - j)) 100 = 0 := su_zero fun j hj => by rw [hD j hj, Rat.zero_mul]
  rw [e, su_split, z, Rat.zero_add]
  exact su_congr fun j hj => by rw [show k + 100 - (100 + j) = k - j by omega]
theorem nc_right {a D : Nat → Rat} (hD : ∀ j, j < 100 → D j = 0) (k : Nat) : nc a D (k + 100) = su (fun j => a j * D (k + 100 - j)) (k + 1) := by
  have e : nc a D (k + 100) = su (fun j => a j * D (k + 100 - j)) ((k + 1) + 100) := by unfold nc; rw [show k + 100 + 1 = (k + 1) + 100 by omega]
  have z : su (fun i => a (k + 1 + i) * D (k + 100 - (k + 1 + i))) 100 = 0 := su_zero fun j hj => by rw [hD _ (by omega), Rat.mul_zero]
  rw [e, su_split, z, Rat.add_zero]
theorem cv_assoc {A B C : Int → Rat} (ha : Low A) (hb : Low B) (hc : Low C) : cv (cv A B) C = cv A (cv B C) := funext fun n => by
  by_cases h : -200 ≤ n
  · have h1 : cv (cv A B) C n = nc (nc (sq A) (sq B)) (sq C) ((n + 200).toNat + 100) := by
      rw [cv_nc h, nc_left (fun j hj => nc_low ha.sq hb.sq hj)]
      refine su_congr fun j hj => ?_
      congr 1
      show cv A B ((j : Int) - 100) = _
      rw [cv_nc (by omega), show ((j : Int) - 100 + 200).toNat = 100 + j by omega]
    have h2 : cv A (cv B C) n = nc (sq A) (nc (sq B) (sq C)) ((n + 200).toNat + 100) := by
      rw [cv_nc h, nc_right (fun j hj => nc_low hb.sq hc.sq hj)]
      refine su_congr fun j hj => ?_
      congr 1
      show cv B C ((((n + 200).toNat - j : Nat) : Int) - 100) = _
      rw [cv_nc (by omega), show ((((n + 200).toNat - j : Nat) : Int) - 100 + 200).toNat = (n + 200).toNat + 100 - j by omega]
    rw [h1, h2, nc_assoc]
  · rw [cv_low (by omega), cv_low (by omega)]
theorem cv_add (A B C : Int → Rat) (n : Int) : cv A (fun i => B i + C i) n = cv A B n + cv A C n := by
  unfold cv
  rw [← su_add]
  exact su_congr fun j _ => Rat.mul_add _ _ _
theorem cv_left {A A' B : Int → Rat} {n : Int} (h : ∀ i, A i = A' i ∨ B (n - i) = 0) : cv A B n = cv A' B n := su_congr fun j _ => by
  rcases h ((j : Int) - 100) with h | h <;> rw [h]
  rw [Rat.mul_zero, Rat.mul_zero]
theorem cv_right {A B B' : Int → Rat} {n : Int} (h : ∀ i, B i = B' i ∨ A (n - i) = 0) : cv A B n = cv A B' n := by
  rw [cv_comm A B, cv_comm A B']
  exact cv_left h
theorem low_cf {s : Int} {l : List Rat} (h : -30 ≤ s) : Low (cf s l) := fun n hn => cf_lt (by omega)
/-- two normal series with the same precision and coefficients are the same -/
theorem norm_eq {s t : Int} {l m : List Rat} (h1 : lead l = 0) (h2 : lead m = 0) (hp : s + l.length = t + m.length) (hf : ∀ n, n < s + l.length → cf s l n = cf t m n) : s = t ∧ l = m := by
  have key : ∀ {s t : Int} {l m : List Rat}, lead m = 0 → s + l.length = t + m.length → (∀ n, n < s + l.length → cf s l n = cf t m n) → s ≤ t := fun {s t l m} h2 hp hf => by
    by_cases h : s ≤ t
    · exact h
    · exfalso
      have hlen : 0 < m.length := by omega
      have hx := hf t (by omega)
      rw [cf_lt (by omega)] at hx
      have hy : cf t m t = m[0] := by unfold cf; rw [if_neg (by omega), Int.sub_self]; simp [hlen]
      exact lead_ne m m[0] (by rw [h2]; exact List.getElem?_eq_getElem hlen) (by rw [← hy, ← hx])
  have e : s = t := by
    have a := key h2 hp hf
    have b := key h1 hp.symm (fun n hn => (hf n (by omega)).symm)
    omega
  subst e
  have hl : l.length = m.length := by omega
  refine ⟨rfl, List.ext_getElem hl fun i h3 h4 => ?_⟩
  have := hf (s + i) (by omega)
  unfold cf at this
  rw [if_neg (by omega), if_neg (by omega), show (s + (i : Int) - s).toNat = i by omega] at this
  simpa [h3, h4] using this
/-- the order of a product is the sum of the orders -/
theorem mul_ord {s t u p : Int} {l m c : List Rat} (hs : -100 ≤ s) (ht : -100 ≤ t) (hb : s + lead l + (t + lead m) ≤ u) (hp : u + c.length = p) (hp2 : p = min (s + lead l + (t + m.length)) (t + lead m + (s + l.length)))
    (hf : ∀ n, n < p → cf u c n = cv (cf s l) (cf t m) n) : u = s + lead l + (t + lead m) := by
  by_cases h : u = s + lead l + (t + lead m)
  · exact h
  · exfalso
    have hx := hf (s + lead l + (t + lead m)) (by omega)
    have la := lead_le l
    have lb := lead_le m
    rw [cf_lt (s := u) (by omega)] at hx
    have fa : cf (s + lead l) (l.drop (lead l)) = cf s l := funext fun n => cf_drop s l _ (Nat.le_refl _) n
    have fb : cf (t + lead m) (m.drop (lead m)) = cf t m := funext fun n => cf_drop t m _ (Nat.le_refl _) n
    rw [← fa, ← fb, cv_eq (by omega) (by omega), if_neg (by omega), show (s + lead l + (t + lead m) - (s + lead l) - (t + lead m)).toNat = 0 by omega] at hx
    have e : conv (l.drop (lead l)) (m.drop (lead m)) 0 = (l.drop (lead l)).getD 0 0 * (m.drop (lead m)).getD 0 0 := by
      show (0 : Rat) + _ = _
      rw [Rat.zero_add]
    have e1 : (l.drop (lead l)).getD 0 0 = l[lead l] := by simp [List.getD_eq_getElem?_getD, show lead l < l.length by omega]
    have e2 : (m.drop (lead m)).getD 0 0 = m[lead m] := by simp [List.getD_eq_getElem?_getD, show lead m < m.length by omega]
    have n1 := lead_ne l l[lead l] (List.getElem?_eq_getElem (by omega))
    have n2 := lead_ne m m[lead m] (List.getElem?_eq_getElem (by omega))
    rw [e, e1, e2] at hx
    rcases Rat.mul_eq_zero.1 hx.symm with h | h
    · exact n1 h
    · exact n2 h
end Ab
