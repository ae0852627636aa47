/- Tables. -/
import Derived.Test.YtalcdpjpapojeaaGreatDoorWo
set_option linter.all false
namespace Ab
open Go Go.RowKit Go.Proofs
section
variable {dm : Bool} {ops : Array Oper} {s : AS} {dst : Option Tmp} {ty : TypeId} {pos : String} {after : Array Edge} {g : Option (Nat × Bool)}
end
end Ab
