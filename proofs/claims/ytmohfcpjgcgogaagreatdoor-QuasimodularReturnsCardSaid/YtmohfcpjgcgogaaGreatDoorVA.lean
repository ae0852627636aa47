/- Inverse and Quo of package series, Inverse and Mul of the document, with heights by value. Product of package series and of the document, with heights by value. Power of package series and of the document, with heights by value. -/
import Derived.Test.YtmohfcpjgcgogaaGreatDoorZJ
import Derived.Test.YtmohfcpjgcgogaaGreatDoorOCG
import Derived.Test.YtmohfcpjgcgogaaGreatDoorWo
set_option linter.all false
namespace Ab
open Go Go.RowKit Go.Proofs Hp
set_option maxRecDepth 100000
end Ab
namespace Ab
open Go Go.RowKit Go.Proofs Hp
set_option maxRecDepth 100000
end Ab
namespace Ab
open Go Go.RowKit Go.Proofs Hp
set_option maxRecDepth 100000
def dsg (c : List Rat) (i : Nat) : Nat → Rat
 | 0 => 0
 | d + 1 => if (i + 1) % (d + 1) = 0 then dsg c i d + (((d : Int) + 1 : Int) : Rat) * c.getD d 0 else dsg c i d
def sgs (c : List Rat) (k : Nat) : List Rat := tk (fun i => dsg c i (i + 1)) k
def prc (L : List Rat) : Nat → List Rat
 | 0 => [1]
 | m + 1 => prc L m ++ [-(iss (0 :: L) (prc L m) (m + 1) (m + 1)) / (((m : Int) + 1 : Int) : Rat)]
theorem prc_len (L : List Rat) : ∀ m, (prc L m).length = m + 1
 | 0 => rfl
 | m + 1 => by rw [prc, List.length_append, prc_len L m]; rfl
theorem rep_range' {α : Type} (n : Nat) (x : α) {g : Nat → α} (h : ∀ k, k < n → g k = x) : List.replicate n x = (List.range n).map g := by
 apply List.ext_getElem
 ·simp
 ·intro i h1 h2
  have : i < n := by simpa using h1
  simp [h i this]
theorem range_set' {α : Type} (n i : Nat) (x : α) {g g' : Nat → α} (h0 : g' i = x) (h : ∀ k, k < n → k ≠ i → g' k = g k) : ((List.range n).map g).set i x = (List.range n).map g' := by
 apply List.ext_getElem
 ·simp
 ·intro k h1 h2
  have hk : k < n := by simpa using h1
  rw [List.getElem_set]
  split
  ·rename_i e; subst e; simp [h0]
  ·rename_i e; simp [h k hk (fun e2 => e e2.symm)]
theorem range_congr' {α : Type} (n : Nat) {g g' : Nat → α} (h : ∀ k, k < n → g k = g' k) : (List.range n).map g = (List.range n).map g' := by
 apply List.ext_getElem
 ·simp
 ·intro k h1 h2
  have hk : k < n := by simpa using h1
  simp [h k hk]
end Ab
namespace Ab
open Go Go.RowKit Go.Proofs Hp
set_option maxRecDepth 100000
def thq (f : Nat → Rat) (k : Nat) : Rat := ((k : Int) : Rat) * f k
def one' (k : Nat) : Rat := if k = 0 then 1 else 0
theorem nc_congr {f f' g g' : Nat → Rat} {k : Nat} (hf : ∀ j, j ≤ k → f j = f' j) (hg : ∀ j, j ≤ k → g j = g' j) : nc f g k = nc f' g' k :=
 Zay fun j hj => by rw [hf j (by omega), hg (k - j) (by omega)]
theorem nc_addr (f g h : Nat → Rat) (k : Nat) : nc f (fun j => g j + h j) k = nc f g k + nc f h k := by
 unfold nc
 rw [← su_add]
 exact Zay fun j _ => Rat.mul_add _ _ _
theorem nc_smulr (c : Rat) (f g : Nat → Rat) (k : Nat) : nc f (fun j => c * g j) k = c * nc f g k := by
 unfold nc
 rw [← Zgq]
 exact Zay fun j _ => by grind
theorem nc_smull (c : Rat) (f g : Nat → Rat) (k : Nat) : nc (fun j => c * f j) g k = c * nc f g k := by
 rw [nc_comm, nc_smulr, nc_comm]
theorem nc_fun (f g : Nat → Rat) : nc f g = nc g f := funext fun k => nc_comm f g k
theorem nc_ass (f g h : Nat → Rat) : nc (nc f g) h = nc f (nc g h) := funext fun k => nc_assoc f g h k
theorem nc_leib (f g : Nat → Rat) (k : Nat) : thq (nc f g) k = nc (thq f) g k + nc f (thq g) k := by
 unfold thq nc
 rw [← Zgq, ← su_add]
 refine Zay fun j hj => ?_
 have e : ((k : Int) : Rat) = ((j : Int) : Rat) + (((k - j : Nat) : Int) : Rat) := by
  rw [← Rat.intCast_add]
  congr 1
  omega
 rw [e]
 grind
def pq (u : Nat → Rat) : Nat → Nat → Rat
 | 0 => one'
 | i + 1 => nc (pq u i) u
theorem thq_one (k : Nat) : thq one' k = 0 := by
 unfold thq one'
 by_cases h : k = 0
 ·subst h; simp
 ·rw [if_neg h, Rat.mul_zero]
theorem pow_id {N : Nat} {a u : Nat → Rat} {σ : Rat} (hu : ∀ k, k < N → nc a (thq u) k = σ * nc (thq a) u k) : ∀ i k, k < N → nc a (thq (pq u i)) k = (σ * ((i : Int) : Rat)) * nc (thq a) (pq u i) k
  | 0, k, _ => by
    have e : nc a (thq (pq u 0)) k = 0 := Zcr fun j _ => by
      show a j * thq one' (k - j) = 0
      rw [thq_one, Rat.mul_zero]
    rw [e]
    simp
  | i + 1, k, hk => by
    have ih := pow_id hu i
    have e1 : nc a (thq (pq u (i + 1))) k = nc a (nc (thq (pq u i)) u) k + nc a (nc (pq u i) (thq u)) k := by
      rw [← nc_addr]
      exact nc_congr (fun _ _ => rfl) fun j _ => nc_leib _ _ j
    have e2 : nc a (nc (thq (pq u i)) u) k = (σ * ((i : Int) : Rat)) * nc (thq a) (nc (pq u i) u) k := by
      rw [← nc_ass a, ← nc_ass (thq a), ← nc_smull]
      exact nc_congr (fun j hj => ih j (by omega)) fun _ _ => rfl
    have e3 : nc a (nc (pq u i) (thq u)) k = σ * nc (thq a) (nc (pq u i) u) k := by
      rw [← nc_ass a, nc_fun a (pq u i), nc_ass (pq u i), ← nc_ass (thq a), nc_fun (thq a) (pq u i), nc_ass (pq u i), ← nc_smulr]
      exact nc_congr (fun _ _ => rfl) fun j hj => hu j (by omega)
    have e4 : (((i + 1 : Nat) : Int) : Rat) = ((i : Int) : Rat) + 1 := by
      rw [show ((i + 1 : Nat) : Int) = (i : Int) + 1 from rfl, Rat.intCast_add]
      rfl
    rw [e1, e2, e3, e4]
    show _ = _ * nc (thq a) (nc (pq u i) u) k
    grind
def msum (A X : List Rat) (n : Int) (k : Nat) : Nat → Rat
 | 0 => 0
 | j + 1 => msum A X n k j + (((((j : Int) + 1) * n - k + ((j : Int) + 1)) : Int) : Rat) * (A.getD (j + 1) 0 * X.getD (k - (j + 1)) 0)
def mil (A : List Rat) (c : Rat) (n : Int) : Nat → List Rat
 | 0 => [c]
 | m + 1 => mil A c n m ++ [1 / A.getD 0 0 * msum A (mil A c n m) n (m + 1) (m + 1) / (((m : Int) + 1 : Int) : Rat)]
theorem mil_len (A : List Rat) (c : Rat) (n : Int) : ∀ m, (mil A c n m).length = m + 1
 | 0 => rfl
 | m + 1 => by rw [mil, List.length_append, mil_len A c n m]; rfl
theorem msum_su (A X : List Rat) (n : Int) (k : Nat) : ∀ j, msum A X n k j = su (fun i => (((((i : Int) + 1) * n - k + ((i : Int) + 1)) : Int) : Rat) * (A.getD (i + 1) 0 * X.getD (k - (i + 1)) 0)) j
 | 0 => rfl
 | j + 1 => by rw [msum, su, msum_su A X n k j]
theorem mil_eq {A : List Rat} {p : Nat → Rat} {n : Int} {M : Nat} (h0 : A.getD 0 0 ≠ 0) (hp : ∀ k, k ≤ M → nc (fun j => A.getD j 0) (thq p) k = (n : Rat) * nc (thq fun j => A.getD j 0) p k) :
    ∀ m, m ≤ M → mil A (p 0) n m = tk p (m + 1)
  | 0, _ => rfl
  | m + 1, hm => by
    have ih := mil_eq h0 hp m (by omega)
    rw [mil, ih, tk_succ p (m + 1)]
    congr 2
    have hk := hp (m + 1) hm
    have z : thq (fun j => A.getD j 0) 0 = 0 := by unfold thq; simp
    have hk1 : nc (fun j => A.getD j 0) (thq p) (m + 1) = A.getD 0 0 * thq p (m + 1) + su (fun j => A.getD (j + 1) 0 * thq p (m + 1 - (j + 1))) (m + 1) := by unfold nc; rw [su_front]; rfl
    have hk2 : nc (thq fun j => A.getD j 0) p (m + 1) = su (fun j => thq (fun j => A.getD j 0) (j + 1) * p (m + 1 - (j + 1))) (m + 1) := by
      unfold nc
      rw [su_front, z, Rat.zero_mul, Rat.zero_add]
    rw [hk1, hk2, ← Zgq] at hk
    have key : msum A (tk p (m + 1)) n (m + 1) (m + 1) = A.getD 0 0 * thq p (m + 1) := by
      have e1 : A.getD 0 0 * thq p (m + 1) = su (fun j => (n : Rat) * (thq (fun j => A.getD j 0) (j + 1) * p (m + 1 - (j + 1)))) (m + 1) + (-1) * su (fun j => A.getD (j + 1) 0 * thq p (m + 1 - (j + 1))) (m + 1) := by
        rw [← hk]
        grind
      rw [e1, ← Zgq, ← su_add, msum_su]
      refine Zay fun j hj => ?_
      rw [show (tk p (m + 1)).getD (m + 1 - (j + 1)) 0 = p (m + 1 - (j + 1)) by unfold tk; simp [List.getD_eq_getElem?_getD, show m - j < m + 1 by omega, show m + 1 - (j + 1) = m - j by omega]]
      unfold thq
      have e2 : (((((j : Int) + 1) * n - ((m + 1 : Nat) : Int) + ((j : Int) + 1)) : Int) : Rat) = (n : Rat) * (((j + 1 : Nat) : Int) : Rat) - (((m + 1 - (j + 1) : Nat) : Int) : Rat) := by
        rw [← Rat.intCast_mul, ← Rat.intCast_sub]
        congr 1
        have : ((m + 1 - (j + 1) : Nat) : Int) = ((m + 1 : Nat) : Int) - ((j : Int) + 1) := by omega
        rw [this, show ((j + 1 : Nat) : Int) = (j : Int) + 1 from rfl, Int.mul_comm n]
        omega
      rw [e2]
      grind
    rw [key]
    unfold thq
    have hne : (((m : Int) + 1 : Int) : Rat) ≠ 0 := fun e => by
      have := Rat.intCast_eq_zero_iff.1 e
      omega
    show 1 / A.getD 0 0 * (A.getD 0 0 * ((((m : Int) + 1 : Int) : Rat) * p (m + 1))) / (((m : Int) + 1 : Int) : Rat) = _
    grind
def rpw (x : Rat) : Nat → Rat
 | 0 => 1
 | k + 1 => rpw x k * x
def bas (x : Rat) (n : Int) : Rat := if n < 0 then 1 / x else x
def powL (A : List Rat) (n : Int) (m : Nat) : List Rat := mil A (rpw (bas (A.getD 0 0) n) n.natAbs) n m
theorem mil_take (A : List Rat) (c : Rat) (n : Int) : ∀ M m, m ≤ M → (mil A c n M).take (m + 1) = mil A c n m
  | 0, m, h => by
    obtain rfl : m = 0 := by omega
    rfl
  | M + 1, m, h => by
    have hl := mil_len A c n M
    by_cases h1 : m = M + 1
    · subst h1
      rw [List.take_of_length_le (by rw [mil_len]; omega)]
    · rw [mil, List.take_append_of_le_length (by omega)]
      exact mil_take A c n M m (by omega)
theorem lead00 {l : List Rat} (h : l.getD 0 0 ≠ 0) : lead l = 0 := by
  cases l with
  | nil => exact absurd rfl h
  | cons q r =>
    unfold lead
    rw [if_neg (show ¬ q = 0 from h)]
theorem inv_nc' {A : List Rat} {N : Nat} (h0 : A.getD 0 0 ≠ 0) (k : Nat) (hk : k < N) : nc (fun j => A.getD j 0) (fun j => (ivs A N).getD j 0) k = one' k := by
  unfold nc
  rw [su_front]
  show A.getD 0 0 * (ivs A N).getD (k - 0) 0 + su (fun j => A.getD (j + 1) 0 * (ivs A N).getD (k - (j + 1)) 0) k = _
  rw [Nat.sub_zero, ivs_get A N k hk]
  have hc := Rat.mul_inv_cancel _ h0
  have h1 : A.getD 0 0 * (1 / A.getD 0 0) = 1 := by rw [Rat.div_def, Rat.one_mul]; exact hc
  unfold one'
  by_cases hk0 : k = 0
  · subst hk0
    rw [if_pos rfl, if_pos rfl, su, h1, Rat.add_zero]
  · rw [if_neg hk0, if_neg hk0]
    have e : iss A (ivs A k) k k = su (fun j => A.getD (j + 1) 0 * (ivs A N).getD (k - (j + 1)) 0) k := by
      have key : ∀ j, j ≤ k → iss A (ivs A k) k j = su (fun j => A.getD (j + 1) 0 * (ivs A N).getD (k - (j + 1)) 0) j := by
        intro j
        induction j with
        | zero => intro _; rfl
        | succ j ih =>
          intro hj
          rw [iss, su, ih (by omega), ivs_get A k _ (by omega), ivs_get A N _ (by omega)]
      exact key k (Nat.le_refl k)
    rw [← e]
    generalize iss A (ivs A k) k k = S at *
    generalize 1 / A.getD 0 0 = fi at *
    have : A.getD 0 0 * -(fi * S) = -((A.getD 0 0 * fi) * S) := by grind
    rw [this, h1]
    grind
def ubase (A : List Rat) (n : Int) : List Rat := if n < 0 then ivs A A.length else A
def sgi (n : Int) (i : Nat) : Int := if n < 0 then -(i : Int) else (i : Int)
theorem pq0 (u : Nat → Rat) : ∀ i, pq u i 0 = rpw (u 0) i
  | 0 => rfl
  | i + 1 => by
    show nc (pq u i) u 0 = rpw (u 0) i * u 0
    unfold nc
    rw [su, su, Rat.zero_add, pq0 u i]
theorem rpw_bas (x : Rat) (n : Int) (i : Nat) : rpw (bas x (sgi n i)) (sgi n i).natAbs = rpw (bas x n) i := by
 unfold sgi
 by_cases hn : n < 0
 ·rw [if_pos hn]
  by_cases hi : i = 0
  ·subst hi; rfl
  ·have e1 : bas x (-(i : Int)) = bas x n := by unfold bas; rw [if_pos (by omega), if_pos hn]
   rw [e1]
   congr 1
   omega
 ·rw [if_neg hn]
  have e1 : bas x (i : Int) = bas x n := by unfold bas; rw [if_neg (by omega), if_neg hn]
  rw [e1]
  congr 1
theorem pow_eq {A : List Rat} (h0 : A.getD 0 0 ≠ 0) (hN : 0 < A.length) (n : Int) (i : Nat) : tk (pq (fun j => (ubase A n).getD j 0) i) A.length = powL A (sgi n i) (A.length - 1) := by
 have hu0 : (ubase A n).getD 0 0 = bas (A.getD 0 0) n := by
  unfold ubase bas
  split
  ·rw [ivs_get A _ 0 hN, if_pos rfl]
  ·rfl
 have hid : ∀ k, k < A.length → nc (fun j => A.getD j 0) (thq (pq (fun j => (ubase A n).getD j 0) i)) k = ((sgi n i : Int) : Rat) * nc (thq fun j => A.getD j 0) (pq (fun j => (ubase A n).getD j 0) i) k := by
  intro k hk
  by_cases hn : n < 0
  ·have e := pow_id (N := A.length) (a := fun j => A.getD j 0) (u := fun j => (ubase A n).getD j 0) (σ := -1) (fun k hk => by
    have hl := nc_leib (fun j => A.getD j 0) (fun j => (ubase A n).getD j 0) k
    have hz : thq (nc (fun j => A.getD j 0) (fun j => (ubase A n).getD j 0)) k = 0 := by
     unfold ubase
     rw [if_pos hn]
     have : thq (nc (fun j => A.getD j 0) (fun j => (ivs A A.length).getD j 0)) k = thq one' k := by
      unfold thq
      rw [inv_nc' h0 k hk]
     rw [this, thq_one]
    rw [hz] at hl
    grind) i k hk
   rw [e]
   unfold sgi
   rw [if_pos hn, Rat.intCast_neg]
   congr 1
   grind
  ·have e := pow_id (N := A.length) (a := fun j => A.getD j 0) (u := fun j => (ubase A n).getD j 0) (σ := 1) (fun k hk => by
    unfold ubase
    rw [if_neg hn, Rat.one_mul, nc_comm]) i k hk
   rw [e]
   unfold sgi
   rw [if_neg hn, Rat.one_mul]
 have key := mil_eq (A := A) (p := pq (fun j => (ubase A n).getD j 0) i) (n := sgi n i) (M := A.length - 1) h0 (fun k hk => hid k (by omega)) (A.length - 1) (Nat.le_refl _)
 rw [show A.length - 1 + 1 = A.length by omega, pq0] at key
 unfold powL
 rw [rpw_bas, ← hu0]
 exact key.symm
theorem tk_get' {f : Nat → Rat} {n i : Nat} (h : i < n) : ((List.range n).map f).getD i 0 = f i := by
 rw [List.getD_eq_getElem?_getD, List.getElem?_map, List.getElem?_range h]
 rfl
end Ab
