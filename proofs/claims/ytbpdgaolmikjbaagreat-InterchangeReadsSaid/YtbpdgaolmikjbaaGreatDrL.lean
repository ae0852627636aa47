/- A drawn region whose last operation waits for all others: the others in any order, then the last one, which may be a call that is handed the caller's own memory. -/
import Derived.Test.YtbpdgaolmikjbaaGreatWo
set_option linter.all false
namespace Ab
open Go Go.RowKit Go.Proofs
variable {dm : Bool}
section
variable {P : Program} {l : List Oper} {o : Oper} {x : Nat → TV} {e : Nat → Eff} {s : AS} {A : Array Nat}
end
theorem T.drawF {P : Program} {l : List Oper} {s : AS} {id : Nat} {Q : Exit → AS → Prop} (hm : P.follows .mixedOrders = true) (h : EvX dm false P l.toArray l s (fun z => okE z l (Region.before l.toArray) = true ∧ Q .normal z)) : T dm P (.region id l.toArray true) s Q := T.draw2 hm h
end Ab
