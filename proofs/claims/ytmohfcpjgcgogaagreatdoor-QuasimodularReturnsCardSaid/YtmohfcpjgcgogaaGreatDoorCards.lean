/-
  DERIVED. GIVEN WITH THE SEED: THE CARDS: each row of YtmohfcpjgcgogaaGreatDoorRows.lean that lists a variable, with what it lists TIED to the program's text (the seventh form; the later family's looks); each row that meets fmt, with fmt's text TOLD by the authors' own Lean function (tested against real Go, not proved from fmt's source: count such statements apart). THE CARD IS WHAT COUNTS. Prove the row's statement (the work); the ties are given (YtmohfcpjgcgogaaGreatDoorTie.lean); close each card by the builder's one call (the guide's Derived/Test/ToyasCard.lean, 'card_holds'). Laid BY PROGRAM, IN A SANDBOX (cutbox-door.mjs). By AI agents, Wed Nov 11 2026. No macro, syntax, notation, axiom, sorry.
-/
import Derived.Test.YtmohfcpjgcgogaaGreatDoorRows
import GoSem.ClaimSeven
namespace Go.Proofs.YtmohfcpjgcgogaaGreatDoor
namespace Rows

/-- THE TIED CARD OF 'halfplanelaw38.QuasimodularFits'. -/
def quasimodularFitsCard : Claim7 := { stood := { row := quasimodularFitsRow, standIns := [], harness := (true, "59ce58e6540260fecab5289ed14a104c2d1ed409475378d010221e6038f2c274"), looks := false }, kinds := [], alts := [], laidByText := true, laidKinds := [.data], laidTests := true, laidLooks := .later }
def QuasimodularFitsCardSaid : Prop := Claim7.holds Tryz.pinned (.plain (OpenSpec.ofChange quasimodularFitsSpec)) quasimodularFitsCard

/-- THE TIED CARD OF 'halfplanelaw38.QuasimodularReturns'. -/
def quasimodularReturnsCard : Claim7 := { stood := { row := quasimodularReturnsRow, standIns := [], harness := (true, "59ce58e6540260fecab5289ed14a104c2d1ed409475378d010221e6038f2c274"), looks := false }, kinds := [], alts := [], laidByText := true, laidKinds := [.data], laidTests := true, laidLooks := .later }
def QuasimodularReturnsCardSaid : Prop := Claim7.holds Tryz.pinned (.plain (OpenSpec.ofChange quasimodularReturnsSpec)) quasimodularReturnsCard

/-- THE SECOND FORM's CARD OF 'halfplanelaw38.QuasimodularFits'. -/
def quasimodularFitsUptoCard : Claim7 := { stood := { row := quasimodularFitsUptoRow, standIns := [], harness := (true, "59ce58e6540260fecab5289ed14a104c2d1ed409475378d010221e6038f2c274"), looks := false }, kinds := [], alts := [], laidByText := true, laidKinds := [.data], laidTests := true, laidLooks := .later }
def QuasimodularFitsUptoCardSaid : Prop := Claim7.holds Tryz.pinned (.plain (OpenSpec.upto quasimodularFitsSpec)) quasimodularFitsUptoCard

/-- THE SECOND FORM's CARD OF 'halfplanelaw38.QuasimodularReturns'. -/
def quasimodularReturnsUptoCard : Claim7 := { stood := { row := quasimodularReturnsUptoRow, standIns := [], harness := (true, "59ce58e6540260fecab5289ed14a104c2d1ed409475378d010221e6038f2c274"), looks := false }, kinds := [], alts := [], laidByText := true, laidKinds := [.data], laidTests := true, laidLooks := .later }
def QuasimodularReturnsUptoCardSaid : Prop := Claim7.holds Tryz.pinned (.plain (OpenSpec.upto quasimodularReturnsSpec)) quasimodularReturnsUptoCard
end Rows
end Go.Proofs.YtmohfcpjgcgogaaGreatDoor
