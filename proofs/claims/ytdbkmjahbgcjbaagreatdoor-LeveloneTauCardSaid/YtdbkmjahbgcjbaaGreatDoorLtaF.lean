/- The statement LeveloneTau: what the kernel reckons of the program from its function. -/
import Derived.Test.YtdbkmjahbgcjbaaGreatDoorFacL
set_option linter.all false
namespace Go.Proofs.YtdbkmjahbgcjbaaGreatDoor
open Go.ChangeShapes Go.WideShapes Go.ChangeAt Go.RowKit Ab
set_option maxRecDepth 100000
theorem leveloneTau_inPlace : (Rows.leveloneTauRow.inPlace == Tryz.prog.inPlace 4) = true := by kernel_rfl
theorem leveloneTau_unfoll : (Rows.leveloneTauRow.unfollowed == Tryz.prog.unfollowed 4) = true := by kernel_rfl
theorem leveloneTau_recurs : (Rows.leveloneTauRow.recurses == Tryz.prog.recurses 4) = true := by kernel_rfl
theorem leveloneTau_named : (Rows.leveloneTauRow.named == Tryz.prog.varsNamed 4) = true := by kernel_rfl
theorem leveloneTau_lifts : (Rows.leveloneTauRow.lifted == Tryz.prog.liftsFinal) = true := by rw [gLifts]; kernel_rfl
theorem leveloneTau_goes : false = Rows.leveloneTauRow.goesBy Tryz.prog := by kernel_rfl
end Go.Proofs.YtdbkmjahbgcjbaaGreatDoor
