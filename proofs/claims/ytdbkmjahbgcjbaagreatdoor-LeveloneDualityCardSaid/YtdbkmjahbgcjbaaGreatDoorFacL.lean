import Derived.Test.YtdbkmjahbgcjbaaGreatDoorFL
set_option linter.all false
namespace Go.Proofs.YtdbkmjahbgcjbaaGreatDoor
open Go.ChangeShapes Go.WideShapes Go.ChangeAt Go.RowKit Ab
set_option maxRecDepth 100000
theorem gMaps : mapsRowed Tryz.prog = true := by kernel_rfl
theorem gHeard : Tryz.prog.stopsHeard = true := by kernel_rfl
theorem gEnter : Tryz.prog.mayEnter = true := by kernel_rfl
theorem gLooks : Tryz.prog.looks [] = false := by kernel_rfl
theorem gLifts : Tryz.prog.liftsFinal = false := by kernel_rfl
end Go.Proofs.YtdbkmjahbgcjbaaGreatDoor
