/- The statement LeveloneBases. -/
import Derived.Test.YtalcdpjpapojeaaGreatDoorFL
set_option linter.all false
namespace Go.Proofs.YtalcdpjpapojeaaGreatDoor
open Go.ChangeShapes Go.WideShapes Go.ChangeAt Go.RowKit Ab
set_option maxRecDepth 100000
theorem leveloneBases_inPlace : (Rows.leveloneBasesRow.inPlace == Tryz.prog.inPlace 3) = true := by kernel_rfl
theorem leveloneBases_unfoll : (Rows.leveloneBasesRow.unfollowed == Tryz.prog.unfollowed 3) = true := by kernel_rfl
theorem leveloneBases_recurs : (Rows.leveloneBasesRow.recurses == Tryz.prog.recurses 3) = true := by kernel_rfl
theorem leveloneBases_named : (Rows.leveloneBasesRow.named == Tryz.prog.varsNamed 3) = true := by kernel_rfl
theorem Zf9 : (Rows.leveloneBasesRow.lifted == Tryz.prog.liftsFinal) = true := by rw [gLifts]; kernel_rfl
theorem Zgu : false = Rows.leveloneBasesRow.goesBy Tryz.prog := by kernel_rfl
end Go.Proofs.YtalcdpjpapojeaaGreatDoor
