/- From a contract over two series to a row; the readings of the arguments, before and behind. -/
import Derived.Test.YtajhaoapcapgeaaGreatDoorRows
import Derived.Test.YtajhaoapcapgeaaGreatDoorOpen
set_option linter.all false
namespace Go.Proofs.YtajhaoapcapgeaaGreatDoor
open Go.ChangeShapes Go.WideShapes Go.ChangeAt Go.RowKit Ab
set_option maxRecDepth 100000

theorem own : ownKnob Tryz.prog.godebug = none := by kernel_rfl
theorem laidOut : laidOutB Tryz.prog = true := by kernel_rfl
theorem repsCons {w : World} {M : Nat → Prop} {a : AV} {v : Value} {l : List AV} {vs : List Value} (h : Rep w M a v) (t : Reps w M l vs) : Reps w M (a :: l) (v :: vs) := .cons a v l vs h t
theorem serAgain {H : Type} {enc : TypeId × Value → H} {W W' : World} {v : Value} {d : DataW H} {ps : List MemPlace} (h : DataW.Trod enc Tryz.prog W 0 (fun _ => true) true 24 v d ps) (hb : Below W.heap.size W W') (hlt : ∀ x ∈ ps, x.block < W.heap.size) :
    DataW.Trod enc Tryz.prog W' 0 (fun b => decide (b < W.heap.size)) true 24 v d ps := Below.trod laidOut (by kernel_rfl) (of_decide_eq_true (by kernel_rfl)) h hb hlt
end Go.Proofs.YtajhaoapcapgeaaGreatDoor
