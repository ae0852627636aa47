/- Expansions as functions of the coefficients: sums, products, and Ramanujan's equations. Plain arithmetic. -/
import Derived.Test.YtmohfcpjgcgogaaGreatDoorQmE
import Derived.Test.YtmohfcpjgcgogaaGreatDoorQD
set_option linter.all false
namespace Ab
open Go Go.RowKit Go.Proofs Hp
set_option maxRecDepth 100000
theorem nc_cg {f f' g g' : Nat → Rat} {n : Nat} (h : ∀ i, i ≤ n → f i = f' i) (k : ∀ i, i ≤ n → g i = g' i) : nc f g n = nc f' g' n :=
 Zay fun j hj => by rw [h j (by omega), k (n - j) (by omega)]
def qK (k : Ky) : List Nat := List.replicate k.2.2.toNat 6 ++ (List.replicate k.2.1.toNat 4 ++ List.replicate k.1.toNat 2)
def xP (n : Nat) (k : Ky) : Rat := qE (qK k) n
theorem qK_all (k : Ky) : Zdt (qK k) := qW_all ⟨k.1, k.2.1, k.2.2, 0⟩
def Nn (t : QT) : Prop := 0 ≤ t.a ∧ 0 ≤ t.b ∧ 0 ≤ t.c
end Ab
