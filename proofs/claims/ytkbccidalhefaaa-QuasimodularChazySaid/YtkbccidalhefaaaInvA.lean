/- The inverse of a series, in abstract values. -/
import Derived.Test.YtkbccidalhefaaaMulC
set_option linter.all false
namespace Ab
open Go Go.RowKit Go.Proofs Hp
set_option maxRecDepth 100000

/-- the sum of l[i] x[k-i] for i from 1 to j -/
def iss (l x : List Rat) (k : Nat) : Nat → Rat
  | 0 => 0
  | j + 1 => iss l x k j + l.getD (j + 1) 0 * x.getD (k - (j + 1)) 0
/-- the first n coefficients of the inverse -/
def ivs (l : List Rat) : Nat → List Rat
  | 0 => []
  | 1 => [1 / l.getD 0 0]
  | n + 2 => ivs l (n + 1) ++ [-(1 / l.getD 0 0 * iss l (ivs l (n + 1)) (n + 1) (n + 1))]
theorem ivs_len (l : List Rat) : ∀ n, (ivs l n).length = n
  | 0 => rfl
  | 1 => rfl
  | n + 2 => by rw [ivs, List.length_append, ivs_len l (n + 1)]; rfl
/-- a series with its error -/
abbrev Res := Int × List Rat × Int
def serT (r : Res) : AV := .tup [serA r.1 (r.2.1.map encQ), .p (.int .i64 r.2.2)]
def nrmT (x : Option (Int × List Rat)) : Res := (sF x, sL x, sE x)
theorem serE_T (x : Option (Int × List Rat)) : serE x = serT (nrmT x) := serE_eq x
def invT (s : Int) (l : List Rat) : Res :=
  if ValidP s l.length then (if l.drop (lead l) = [] then (0, [], 18) else nrmT (nrm (-(s + lead l)) (ivs (l.drop (lead l)) (l.drop (lead l)).length))) else (0, [], 2)
/-- bounds on the digits of the inverse's coefficients -/
def HB (K k : Nat) : Nat := 26 * (K + 2) * 2 ^ k
theorem HB_succ (K k : Nat) : HB K (k + 1) = 2 * HB K k := by unfold HB; rw [Nat.pow_succ]; simp only [Nat.mul_comm, Nat.mul_assoc, Nat.mul_left_comm]
theorem HB_mono (K : Nat) {i k : Nat} (h : i ≤ k) : HB K i ≤ HB K k := by
  induction h with
  | refl => exact Nat.le_refl _
  | step h ih => rw [HB_succ]; omega
theorem HB_le {K k : Nat} (hK : K ≤ 100) (hk : k ≤ 24) : HB K k ≤ 44493176832 := by
  have h1 := HB_mono K hk
  have h2 : HB K 24 = 26 * (K + 2) * 16777216 := rfl
  omega
theorem ht_iss {l x : List Rat} {K k : Nat} (hK : 1 ≤ K) (hl : ∀ q, q ∈ l → Ht q K) (hx : ∀ i, i < k → Ht (x.getD i 0) (HB K i)) : ∀ j, j ≤ k → Ht (iss l x k j) (HB K k - HB K (k - j) + j * (K + 1) + 1)
  | 0, _ => (ht0 (Nat.le_refl _)).mono (by omega)
  | j + 1, h => by
    have ih := ht_iss hK hl hx j (by omega)
    refine (ht_add ih (ht_mul (getD_ht hK hl (j + 1)) (hx (k - (j + 1)) (by omega)) hK)).mono ?_
    have e : HB K (k - j) = 2 * HB K (k - (j + 1)) := by rw [show k - j = (k - (j + 1)) + 1 by omega, HB_succ]
    have m := HB_mono K (show k - j ≤ k by omega)
    rw [Nat.add_mul]
    omega
theorem ivs_get (l : List Rat) : ∀ n i, i < n → (ivs l n).getD i 0 = (if i = 0 then 1 / l.getD 0 0 else -(1 / l.getD 0 0 * iss l (ivs l i) i i))
  | 0, i, h => by omega
  | 1, i, h => by obtain rfl : i = 0 := by omega
                  rfl
  | n + 2, i, h => by
    have hl := ivs_len l (n + 1)
    rw [ivs, List.getD_eq_getElem?_getD]
    by_cases hi : i < n + 1
    · rw [List.getElem?_append_left (by omega), ← List.getD_eq_getElem?_getD]
      exact ivs_get l (n + 1) i hi
    · obtain rfl : i = n + 1 := by omega
      rw [List.getElem?_append_right (by omega), hl, Nat.sub_self, if_neg (by omega)]
      rfl
theorem ht_iv {l : List Rat} {K : Nat} (hK : 1 ≤ K) (hl : ∀ q, q ∈ l → Ht q K) : ∀ n, n ≤ 24 → ∀ i, i < n → Ht ((ivs l n).getD i 0) (HB K i) := by
  intro n hn i
  induction i using Nat.strongRecOn generalizing n with
  | _ i ih =>
    intro hi
    have h1 : Ht (1 / l.getD 0 0) K := by
      rw [Rat.div_def, Rat.one_mul]
      exact ht_inv (getD_ht hK hl 0) hK
    rw [ivs_get l n i hi]
    split
    · refine h1.mono ?_
      have : HB K 0 = 26 * (K + 2) * 1 := rfl
      have := HB_mono K (Nat.zero_le i)
      omega
    · rename_i h0
      refine (ht_neg (ht_mul h1 (ht_iss hK hl (fun j hj => ih j hj i (by omega) hj) i (Nat.le_refl _)) hK)).mono ?_
      rw [Nat.sub_self]
      have e0 : HB K 0 = 26 * (K + 2) * 1 := rfl
      have m := HB_mono K (Nat.zero_le i)
      have : i * (K + 1) ≤ 24 * (K + 1) := Nat.mul_le_mul_right _ (by omega)
      omega
end Ab
