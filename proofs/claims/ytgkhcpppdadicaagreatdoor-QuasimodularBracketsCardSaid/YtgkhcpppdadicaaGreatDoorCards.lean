/-
  DERIVED. GIVEN WITH THE SEED: THE CARDS: each row of YtgkhcpppdadicaaGreatDoorRows.lean that lists a variable, with what it lists TIED to the program's text (the seventh form; the later family's looks); each row that meets fmt, with fmt's text TOLD by the authors' own Lean function (tested against real Go, not proved from fmt's source: count such statements apart). THE CARD IS WHAT COUNTS. Prove the row's statement (the work); the ties are given (YtgkhcpppdadicaaGreatDoorTie.lean); close each card by the builder's one call (the guide's Derived/Test/ToyasCard.lean, 'card_holds'). Laid BY PROGRAM, IN A SANDBOX (cutbox-door.mjs). By AI agents, Wed Nov 11 2026. No macro, syntax, notation, axiom, sorry.
-/
import Derived.Test.YtgkhcpppdadicaaGreatDoorRows
import GoSem.ClaimSeven
namespace Go.Proofs.YtgkhcpppdadicaaGreatDoor
namespace Rows

/-- THE TIED CARD OF 'halfplanelaw38.QuasimodularCommutes'. -/
def quasimodularCommutesCard : Claim7 := { stood := { row := quasimodularCommutesRow, standIns := [], harness := (true, "f7565ca3d5a697f7ea507d5cafcbf8b18ebb5ac67575df0b14e7c56f9712f69c"), looks := false }, kinds := [], alts := [], laidByText := true, laidKinds := [.data], laidTests := true, laidLooks := .later }
def QuasimodularCommutesCardSaid : Prop := Claim7.holds Tryz.pinned (.plain (OpenSpec.ofChange quasimodularCommutesSpec)) quasimodularCommutesCard

/-- THE TIED CARD OF 'halfplanelaw38.QuasimodularBrackets'. -/
def quasimodularBracketsCard : Claim7 := { stood := { row := quasimodularBracketsRow, standIns := [], harness := (true, "f7565ca3d5a697f7ea507d5cafcbf8b18ebb5ac67575df0b14e7c56f9712f69c"), looks := false }, kinds := [], alts := [], laidByText := true, laidKinds := [.data], laidTests := true, laidLooks := .later }
def QuasimodularBracketsCardSaid : Prop := Claim7.holds Tryz.pinned (.plain (OpenSpec.ofChange quasimodularBracketsSpec)) quasimodularBracketsCard

/-- THE SECOND FORM's CARD OF 'halfplanelaw38.QuasimodularCommutes'. -/
def quasimodularCommutesUptoCard : Claim7 := { stood := { row := quasimodularCommutesUptoRow, standIns := [], harness := (true, "f7565ca3d5a697f7ea507d5cafcbf8b18ebb5ac67575df0b14e7c56f9712f69c"), looks := false }, kinds := [], alts := [], laidByText := true, laidKinds := [.data], laidTests := true, laidLooks := .later }
def QuasimodularCommutesUptoCardSaid : Prop := Claim7.holds Tryz.pinned (.plain (OpenSpec.upto quasimodularCommutesSpec)) quasimodularCommutesUptoCard

/-- THE SECOND FORM's CARD OF 'halfplanelaw38.QuasimodularBrackets'. -/
def quasimodularBracketsUptoCard : Claim7 := { stood := { row := quasimodularBracketsUptoRow, standIns := [], harness := (true, "f7565ca3d5a697f7ea507d5cafcbf8b18ebb5ac67575df0b14e7c56f9712f69c"), looks := false }, kinds := [], alts := [], laidByText := true, laidKinds := [.data], laidTests := true, laidLooks := .later }
def QuasimodularBracketsUptoCardSaid : Prop := Claim7.holds Tryz.pinned (.plain (OpenSpec.upto quasimodularBracketsSpec)) quasimodularBracketsUptoCard
end Rows
end Go.Proofs.YtgkhcpppdadicaaGreatDoor
