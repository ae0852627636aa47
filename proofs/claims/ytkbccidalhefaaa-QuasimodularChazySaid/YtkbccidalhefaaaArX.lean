/- Small things (of other texts). -/
import Derived.Test.YtkbccidalhefaaaEnc
set_option linter.all false
namespace Ab
open Go Go.RowKit Go.Proofs Hp
set_option maxRecDepth 100000

def bV (b : Bool) : AV := .p (.bool b)
def Bn (N x : Int) : Prop := -N ≤ x ∧ x ≤ N
theorem tmod_lt {a b : Int} (h : b ≠ 0) : (a.tmod b).natAbs < b.natAbs := by
  rw [Int.natAbs_tmod]
  exact Nat.mod_lt _ (by omega)
end Ab
