/-
  DERIVED. GIVEN WITH THE SEED: THE CARDS: each row of YtaeeifonadgmcaaGreatDoorRows.lean that lists a variable, with what it lists TIED to the program's text (the seventh form; the later family's looks); each row that meets fmt, with fmt's text TOLD by the authors' own Lean function (tested against real Go, not proved from fmt's source: count such statements apart). THE CARD IS WHAT COUNTS. Prove the row's statement (the work); the ties are given (YtaeeifonadgmcaaGreatDoorTie.lean); close each card by the builder's one call (the guide's Derived/Test/ToyasCard.lean, 'card_holds'). Laid BY PROGRAM, IN A SANDBOX (cutbox-door.mjs). By AI agents, Wed Nov 11 2026. No macro, syntax, notation, axiom, sorry.
-/
import Derived.Test.YtaeeifonadgmcaaGreatDoorRows
import GoSem.ClaimSeven
namespace Go.Proofs.YtaeeifonadgmcaaGreatDoor
namespace Rows

/-- THE TIED CARD OF 'halfplanelaw38.QuasimodularExpansions'. -/
def quasimodularExpansionsCard : Claim7 := { stood := { row := quasimodularExpansionsRow, standIns := [], harness := (true, "40659d76ac6cd48518d3a6f8f9d2db87f1ebc4e573d2e27fe489ee50a46e91c1"), looks := false }, kinds := [], alts := [], laidByText := true, laidKinds := [.data], laidTests := true, laidLooks := .later }
def QuasimodularExpansionsCardSaid : Prop := Claim7.holds Tryz.pinned (.plain (OpenSpec.ofChange quasimodularExpansionsSpec)) quasimodularExpansionsCard

/-- THE TIED CARD OF 'halfplanelaw38.QuasimodularSeries'. -/
def quasimodularSeriesCard : Claim7 := { stood := { row := quasimodularSeriesRow, standIns := [], harness := (true, "40659d76ac6cd48518d3a6f8f9d2db87f1ebc4e573d2e27fe489ee50a46e91c1"), looks := false }, kinds := [], alts := [], laidByText := true, laidKinds := [.data], laidTests := true, laidLooks := .later }
def QuasimodularSeriesCardSaid : Prop := Claim7.holds Tryz.pinned (.plain (OpenSpec.ofChange quasimodularSeriesSpec)) quasimodularSeriesCard

/-- THE SECOND FORM's CARD OF 'halfplanelaw38.QuasimodularExpansions'. -/
def quasimodularExpansionsUptoCard : Claim7 := { stood := { row := quasimodularExpansionsUptoRow, standIns := [], harness := (true, "40659d76ac6cd48518d3a6f8f9d2db87f1ebc4e573d2e27fe489ee50a46e91c1"), looks := false }, kinds := [], alts := [], laidByText := true, laidKinds := [.data], laidTests := true, laidLooks := .later }
def QuasimodularExpansionsUptoCardSaid : Prop := Claim7.holds Tryz.pinned (.plain (OpenSpec.upto quasimodularExpansionsSpec)) quasimodularExpansionsUptoCard

/-- THE SECOND FORM's CARD OF 'halfplanelaw38.QuasimodularSeries'. -/
def quasimodularSeriesUptoCard : Claim7 := { stood := { row := quasimodularSeriesUptoRow, standIns := [], harness := (true, "40659d76ac6cd48518d3a6f8f9d2db87f1ebc4e573d2e27fe489ee50a46e91c1"), looks := false }, kinds := [], alts := [], laidByText := true, laidKinds := [.data], laidTests := true, laidLooks := .later }
def QuasimodularSeriesUptoCardSaid : Prop := Claim7.holds Tryz.pinned (.plain (OpenSpec.upto quasimodularSeriesSpec)) quasimodularSeriesUptoCard
end Rows
end Go.Proofs.YtaeeifonadgmcaaGreatDoor
