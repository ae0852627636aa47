import Derived.Test.YtdbkmjahbgcjbaaGreatDoorFacL
set_option linter.all false
namespace Go.Proofs.YtdbkmjahbgcjbaaGreatDoor
open Go.ChangeShapes Go.WideShapes Go.ChangeAt Go.RowKit Ab
set_option maxRecDepth 100000
theorem leveloneDelta_inPlace : (Rows.leveloneDeltaRow.inPlace == Tryz.prog.inPlace 3) = true := by kernel_rfl
theorem leveloneDelta_unfoll : (Rows.leveloneDeltaRow.unfollowed == Tryz.prog.unfollowed 3) = true := by kernel_rfl
theorem leveloneDelta_recurs : (Rows.leveloneDeltaRow.recurses == Tryz.prog.recurses 3) = true := by kernel_rfl
theorem leveloneDelta_named : (Rows.leveloneDeltaRow.named == Tryz.prog.varsNamed 3) = true := by kernel_rfl
theorem leveloneDelta_lifts : (Rows.leveloneDeltaRow.lifted == Tryz.prog.liftsFinal) = true := by rw [gLifts]; kernel_rfl
theorem leveloneDelta_goes : false = Rows.leveloneDeltaRow.goesBy Tryz.prog := by kernel_rfl
end Go.Proofs.YtdbkmjahbgcjbaaGreatDoor
