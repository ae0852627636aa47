/- The product of series, in abstract values. -/
import Derived.Test.YtkbccidalhefaaaSerC
set_option linter.all false
namespace Ab
open Go Go.RowKit Go.Proofs Hp
set_option maxRecDepth 100000

/-- the first j summands of the coefficient k of a product -/
def cs (l m : List Rat) (k : Nat) : Nat → Rat
  | 0 => 0
  | j + 1 => cs l m k j + l.getD j 0 * m.getD (k - j) 0
def conv (l m : List Rat) (k : Nat) : Rat := cs l m k (k + 1)
def mlen (s : Int) (n m : Nat) : Nat := (max 0 (min (min (n : Int) m) (1000 - s))).toNat
def mulN (s : Int) (l : List Rat) (t : Int) (m : List Rat) : Option (Int × List Rat) := nrm (s + t) (tk (conv l m) (mlen (s + t) l.length m.length))
def mulR (s : Int) (l : List Rat) (t : Int) (m : List Rat) : Option (Int × List Rat) :=
  if ValidP s l.length && ValidP t m.length then mulN (s + lead l) (l.drop (lead l)) (t + lead m) (m.drop (lead m)) else none
theorem getD_ht {l : List Rat} {K : Nat} (hK : 1 ≤ K) (h : ∀ q, q ∈ l → Ht q K) (i : Nat) : Ht (l.getD i 0) K := by
  rw [List.getD_eq_getElem?_getD]
  cases hq : l[i]? with
  | none => exact ht0 hK
  | some q => exact h q (List.mem_of_getElem? hq)
theorem ht_cs {l m : List Rat} {K : Nat} (hK : 1 ≤ K) (hl : ∀ q, q ∈ l → Ht q K) (hm : ∀ q, q ∈ m → Ht q K) (k : Nat) : ∀ j, Ht (cs l m k j) ((2 * K + 1) * j + 1)
  | 0 => ht0 (Nat.le_refl _)
  | j + 1 => by
    refine (ht_add (ht_cs hK hl hm k j) (ht_mul (getD_ht hK hl j) (getD_ht hK hm (k - j)) hK)).mono ?_
    rw [Nat.mul_succ]; omega
theorem cs_zero {l m : List Rat} {k j : Nat} (h : l.getD j 0 = 0 ∨ m.getD (k - j) 0 = 0) : cs l m k (j + 1) = cs l m k j := by
  show cs l m k j + _ = _
  rcases h with h | h <;> rw [h] <;> simp [Rat.add_zero]
/-- a variable that holds a fraction -/
abbrev qvar (q : Rat) : Blk := .var [.v (.p (.bool (decide (q.num < 0)))), .v (.sl ((dgs q.num.natAbs).map u32)), .v (.p (.bool (decide ((q.den : Int) < 0)))), .v (.sl ((dgs (q.den : Int).natAbs).map u32))]
abbrev svar (s : Int) (l : List Rat) : Blk := .var [.v (.p (.int .i64 s)), .v (.sl (l.map encQ))]
theorem enc_at {l : List Rat} {i : Nat} {q : Rat} (h : l[i]? = some q) : (l.map encQ)[i]? = some (encQ q) := by rw [List.getElem?_map, h]; rfl
end Ab
