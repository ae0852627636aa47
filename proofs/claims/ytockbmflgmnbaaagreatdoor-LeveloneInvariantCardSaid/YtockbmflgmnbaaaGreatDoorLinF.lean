/- The statement LeveloneInvariant: what the kernel reckons of the program from its function. -/
import Derived.Test.YtockbmflgmnbaaaGreatDoorFL
set_option linter.all false
namespace Go.Proofs.YtockbmflgmnbaaaGreatDoor
open Go.ChangeShapes Go.WideShapes Go.ChangeAt Go.RowKit Ab
set_option maxRecDepth 100000
theorem leveloneInvariant_inPlace : (Rows.leveloneInvariantRow.inPlace == Tryz.prog.inPlace 3) = true := by kernel_rfl
theorem leveloneInvariant_unfoll : (Rows.leveloneInvariantRow.unfollowed == Tryz.prog.unfollowed 3) = true := by kernel_rfl
theorem leveloneInvariant_recurs : (Rows.leveloneInvariantRow.recurses == Tryz.prog.recurses 3) = true := by kernel_rfl
theorem leveloneInvariant_named : (Rows.leveloneInvariantRow.named == Tryz.prog.varsNamed 3) = true := by kernel_rfl
theorem Ze4 : (Rows.leveloneInvariantRow.lifted == Tryz.prog.liftsFinal) = true := by rw [gLifts]; kernel_rfl
theorem Zff : false = Rows.leveloneInvariantRow.goesBy Tryz.prog := by kernel_rfl
end Go.Proofs.YtockbmflgmnbaaaGreatDoor
