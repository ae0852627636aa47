/- Lists of elements (of another text). -/
import Derived.Test.YtkbccidalhefaaaEnc
set_option linter.all false
namespace Ab
open Go Go.RowKit Go.Proofs Hp
set_option maxRecDepth 100000

theorem ones_ok {xs : List AV} {n : Nat} (h : (xs.all fun a => a.cells.length == n && a.cells.all AV.one) = true) : ∀ x, x ∈ xs → x.cells.length = n ∧ x.cells.all AV.one = true := fun x hx => by
  have := List.all_eq_true.1 h x hx
  simpa using this
end Ab
