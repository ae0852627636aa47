/- The functions whose results may be lists of the caller's own; the library's table, in its variable; no condition. -/
import Derived.WalkKit
import Derived.Lib.TrailingZeros
set_option linter.all false
namespace Ab
def ownF (f : Nat) : Bool := Nat.beq f 24
def Tabs (b : Nat) : Option (List Go.Value) := bif Nat.beq b 0 then some (Go.Lib.deBruijn64tab.map fun k : Nat => .int .u8 (k : Int)) else none
end Ab
