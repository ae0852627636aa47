/- The statement LeveloneDiscriminant: what the kernel reckons of the program from its function. -/
import Derived.Test.YtdbkmjahbgcjbaaGreatDoorFacL
set_option linter.all false
namespace Go.Proofs.YtdbkmjahbgcjbaaGreatDoor
open Go.ChangeShapes Go.WideShapes Go.ChangeAt Go.RowKit Ab
set_option maxRecDepth 100000
theorem leveloneDiscriminant_inPlace : (Rows.leveloneDiscriminantRow.inPlace == Tryz.prog.inPlace 7) = true := by kernel_rfl
theorem leveloneDiscriminant_unfoll : (Rows.leveloneDiscriminantRow.unfollowed == Tryz.prog.unfollowed 7) = true := by kernel_rfl
theorem leveloneDiscriminant_recurs : (Rows.leveloneDiscriminantRow.recurses == Tryz.prog.recurses 7) = true := by kernel_rfl
theorem leveloneDiscriminant_named : (Rows.leveloneDiscriminantRow.named == Tryz.prog.varsNamed 7) = true := by kernel_rfl
theorem leveloneDiscriminant_lifts : (Rows.leveloneDiscriminantRow.lifted == Tryz.prog.liftsFinal) = true := by rw [gLifts]; kernel_rfl
theorem leveloneDiscriminant_goes : false = Rows.leveloneDiscriminantRow.goesBy Tryz.prog := by kernel_rfl
end Go.Proofs.YtdbkmjahbgcjbaaGreatDoor
