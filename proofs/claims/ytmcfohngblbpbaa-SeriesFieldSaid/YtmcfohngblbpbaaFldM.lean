/- Exponents of powers add up; plain. -/
import Derived.Test.YtmcfohngblbpbaaFldP
namespace Ab
open Hp
/-- equal below N -/
def EqN (N : Nat) (f g : Nat → Rat) : Prop := ∀ k, k < N → f k = g k
theorem EqN.nc {N : Nat} {f f' g g' : Nat → Rat} (h : EqN N f f') (h' : EqN N g g') : EqN N (nc f g) (nc f' g') := fun k hk =>
  nc_congr (fun j hj => h j (by omega)) (fun j hj => h' j (by omega))
theorem EqN.refl (N : Nat) (f : Nat → Rat) : EqN N f f := fun _ _ => rfl
theorem EqN.trans {N : Nat} {f g h : Nat → Rat} (a : EqN N f g) (b : EqN N g h) : EqN N f h := fun k hk => (a k hk).trans (b k hk)
theorem nc_one (f : Nat → Rat) : nc f one' = f := funext fun k => by
  show su (fun j => f j * one' (k - j)) (k + 1) = f k
  rw [su, su_zero]
  · unfold one'
    rw [Nat.sub_self, if_pos rfl, Rat.mul_one, Rat.zero_add]
  · intro j hj
    unfold one'
    rw [if_neg (by omega), Rat.mul_zero]
theorem one_nc (f : Nat → Rat) : nc one' f = f := by rw [nc_fun, nc_one]
theorem pq_add (u : Nat → Rat) (i : Nat) : ∀ j, pq u (i + j) = nc (pq u i) (pq u j)
  | 0 => (nc_one _).symm
  | j + 1 => by
    show nc (pq u (i + j)) u = nc (pq u i) (nc (pq u j) u)
    rw [pq_add u i j, nc_ass]
theorem pq_inv {N : Nat} {a b : Nat → Rat} (h : EqN N (nc a b) one') : ∀ i, EqN N (nc (pq a i) (pq b i)) one'
  | 0 => by
    show EqN N (nc one' one') one'
    rw [nc_one]
    exact EqN.refl _ _
  | i + 1 => by
    show EqN N (nc (nc (pq a i) a) (nc (pq b i) b)) one'
    have e : nc (nc (pq a i) a) (nc (pq b i) b) = nc (nc (pq a i) (pq b i)) (nc a b) := by
      rw [nc_ass, nc_ass, ← nc_ass a, nc_fun a (pq b i), nc_ass (pq b i)]
    rw [e]
    have := EqN.nc (pq_inv h i) h
    rw [nc_one] at this
    exact this
/-- the m-th power, b the inverse -/
def pz (a b : Nat → Rat) (m : Int) : Nat → Rat := if m < 0 then pq b m.natAbs else pq a m.natAbs
theorem pq_sub {N : Nat} {a b : Nat → Rat} (h : EqN N (nc a b) one') {i j : Nat} (hij : j ≤ i) : EqN N (nc (pq a i) (pq b j)) (pq a (i - j)) := by
  have e : pq a i = nc (pq a (i - j)) (pq a j) := by rw [← pq_add]; congr 1; omega
  rw [e, nc_ass]
  have := EqN.nc (EqN.refl N (pq a (i - j))) (pq_inv h j)
  rw [nc_one] at this
  exact this
theorem pz_add {N : Nat} {a b : Nat → Rat} (h : EqN N (nc a b) one') (m n : Int) : EqN N (nc (pz a b m) (pz a b n)) (pz a b (m + n)) := by
  have h' : EqN N (nc b a) one' := by rw [nc_fun]; exact h
  unfold pz
  by_cases hm : m < 0
  · rw [if_pos hm]
    by_cases hn : n < 0
    · rw [if_pos hn, if_pos (show m + n < 0 by omega), ← pq_add, show m.natAbs + n.natAbs = (m + n).natAbs by omega]
      exact EqN.refl _ _
    · rw [if_neg hn]
      by_cases hs : m + n < 0
      · rw [if_pos hs, show (m + n).natAbs = m.natAbs - n.natAbs by omega]
        exact pq_sub h' (by omega)
      · rw [if_neg hs, show (m + n).natAbs = n.natAbs - m.natAbs by omega, nc_fun]
        exact pq_sub h (by omega)
  · rw [if_neg hm]
    by_cases hn : n < 0
    · rw [if_pos hn]
      by_cases hs : m + n < 0
      · rw [if_pos hs, show (m + n).natAbs = n.natAbs - m.natAbs by omega, nc_fun]
        exact pq_sub h' (by omega)
      · rw [if_neg hs, show (m + n).natAbs = m.natAbs - n.natAbs by omega]
        exact pq_sub h (by omega)
    · rw [if_neg hn, if_neg (show ¬ m + n < 0 by omega), ← pq_add, show m.natAbs + n.natAbs = (m + n).natAbs by omega]
      exact EqN.refl _ _
/-- the list of the m-th power -/
theorem powL_pz {A : List Rat} (h0 : A.getD 0 0 ≠ 0) (hN : 0 < A.length) (m : Int) : powL A m (A.length - 1) = tk (pz (fun j => A.getD j 0) (fun j => (ivs A A.length).getD j 0) m) A.length := by
  have e := pow_eq h0 hN m m.natAbs
  have hs : sgi m m.natAbs = m := by unfold sgi; split <;> omega
  rw [hs] at e
  rw [← e]
  unfold pz ubase
  by_cases hm : m < 0
  · rw [if_pos hm, if_pos hm]
  · rw [if_neg hm, if_neg hm]
theorem tk_eqN {N : Nat} {f g : Nat → Rat} (h : EqN N f g) : tk f N = tk g N := by
  unfold tk
  exact List.map_congr_left fun k hk => h k (by simpa using hk)
theorem tk_getD {f : Nat → Rat} {n i : Nat} (h : i < n) : (tk f n).getD i 0 = f i := by
  unfold tk
  rw [List.getD_eq_getElem?_getD, List.getElem?_map, List.getElem?_range h]
  rfl
theorem conv_tk {N : Nat} (f g : Nat → Rat) : tk (conv (tk f N) (tk g N)) N = tk (nc f g) N := by
  unfold tk
  refine List.map_congr_left fun k hk => ?_
  have hk : k < N := by simpa using hk
  unfold conv
  rw [cs_su]
  exact su_congr fun j hj => by
    have e1 := tk_getD (f := f) (n := N) (i := j) (by omega)
    have e2 := tk_getD (f := g) (n := N) (i := k - j) (by omega)
    unfold tk at e1 e2
    rw [e1, e2]
/-- the product of two powers is the power of the sum -/
theorem pow_mul {A : List Rat} (h0 : A.getD 0 0 ≠ 0) (hN : 0 < A.length) (m n : Int) : tk (conv (powL A m (A.length - 1)) (powL A n (A.length - 1))) A.length = powL A (m + n) (A.length - 1) := by
  rw [powL_pz h0 hN, powL_pz h0 hN, powL_pz h0 hN, conv_tk]
  exact tk_eqN (pz_add (fun k hk => inv_nc' h0 k hk) m n)
/-- a series times its inverse -/
theorem inv_mul {A : List Rat} (h0 : A.getD 0 0 ≠ 0) : tk (conv A (ivs A A.length)) A.length = tk one' A.length := by
  refine List.map_congr_left fun k hk => ?_
  have hk : k < A.length := by simpa using hk
  unfold conv
  rw [cs_su]
  exact inv_nc' h0 k hk
end Ab
