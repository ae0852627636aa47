/- The functions whose results may be lists of the caller's own; no condition. -/
import Derived.WalkKit
set_option linter.all false
namespace Ab
def ownF (_f : Nat) : Bool := false
def Tabs (_b : Nat) : Option (List Go.Value) := none
end Ab
