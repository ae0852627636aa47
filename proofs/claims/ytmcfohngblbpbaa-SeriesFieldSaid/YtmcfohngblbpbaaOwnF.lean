/- The functions whose results may be lists of the caller's own; no condition. -/
import Derived.WalkKit
namespace Ab
def ownF (f : Nat) : Bool := Nat.beq f 33
end Ab
