/- The statement LeveloneDuality: what the kernel reckons of the program from its function. -/
import Derived.Test.YtdbkmjahbgcjbaaGreatDoorFacL
set_option linter.all false
namespace Go.Proofs.YtdbkmjahbgcjbaaGreatDoor
open Go.ChangeShapes Go.WideShapes Go.ChangeAt Go.RowKit Ab
set_option maxRecDepth 100000
theorem leveloneDuality_inPlace : (Rows.leveloneDualityRow.inPlace == Tryz.prog.inPlace 5) = true := by kernel_rfl
theorem leveloneDuality_unfoll : (Rows.leveloneDualityRow.unfollowed == Tryz.prog.unfollowed 5) = true := by kernel_rfl
theorem leveloneDuality_recurs : (Rows.leveloneDualityRow.recurses == Tryz.prog.recurses 5) = true := by kernel_rfl
theorem leveloneDuality_named : (Rows.leveloneDualityRow.named == Tryz.prog.varsNamed 5) = true := by kernel_rfl
theorem leveloneDuality_lifts : (Rows.leveloneDualityRow.lifted == Tryz.prog.liftsFinal) = true := by rw [gLifts]; kernel_rfl
theorem leveloneDuality_goes : false = Rows.leveloneDualityRow.goesBy Tryz.prog := by kernel_rfl
end Go.Proofs.YtdbkmjahbgcjbaaGreatDoor
