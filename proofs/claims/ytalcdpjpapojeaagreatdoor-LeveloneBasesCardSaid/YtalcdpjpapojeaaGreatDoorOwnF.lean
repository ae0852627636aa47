/- The functions whose results may be lists of the caller's own. -/
import Derived.WalkKit
import Derived.Lib.TrailingZeros
set_option linter.all false
namespace Ab
theorem oM {p : Prop} (h : p := by omega) : p := h
theorem dC {p : Prop} (h : p := by decide) : p := h
def ownF (f : Nat) : Bool := Nat.beq f 34
def Tabs (b : Nat) : Option (List Go.Value) := bif Nat.beq b 0 then some (Go.Lib.deBruijn64tab.map fun k : Nat => .int .u8 (k : Int)) else none
end Ab
