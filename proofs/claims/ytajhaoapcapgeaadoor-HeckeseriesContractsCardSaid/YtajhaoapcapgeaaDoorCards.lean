/-
  DERIVED. GIVEN WITH THE SEED: THE CARDS: each row of YtajhaoapcapgeaaDoorRows.lean that lists a variable, with what it lists TIED to the program's text (the seventh form; the later family's looks); each row that meets fmt, with fmt's text TOLD by the authors' own Lean function (tested against real Go, not proved from fmt's source: count such statements apart). THE CARD IS WHAT COUNTS. Prove the row's statement (the work); the ties are given (YtajhaoapcapgeaaDoorTie.lean); close each card by the builder's one call (the guide's Derived/Test/ToyasCard.lean, 'card_holds'). Laid BY PROGRAM, IN A SANDBOX (cutbox-door.mjs). By AI agents, Wed Nov 11 2026. No macro, syntax, notation, axiom, sorry.
-/
import Derived.Test.YtajhaoapcapgeaaDoorRows
import GoSem.ClaimSeven
namespace Go.Proofs.YtajhaoapcapgeaaDoor
namespace Rows

/-- THE TIED CARD OF 'halfplanelaw37.HeckeseriesContracts'. -/
def heckeseriesContractsCard : Claim7 := { stood := { row := heckeseriesContractsRow, standIns := [], harness := (true, "290d3c6c60889c75ffc2600b9252668d5ffbcf6fa72d627347ee903b9c4db04b"), looks := false }, kinds := [], alts := [], laidByText := true, laidKinds := [.data], laidTests := true, laidLooks := .later }
def HeckeseriesContractsCardSaid : Prop := Claim7.holds Tryd.pinned (.plain (OpenSpec.ofChange heckeseriesContractsSpec)) heckeseriesContractsCard

/-- THE SECOND FORM's CARD OF 'halfplanelaw37.HeckeseriesContracts'. -/
def heckeseriesContractsUptoCard : Claim7 := { stood := { row := heckeseriesContractsUptoRow, standIns := [], harness := (true, "290d3c6c60889c75ffc2600b9252668d5ffbcf6fa72d627347ee903b9c4db04b"), looks := false }, kinds := [], alts := [], laidByText := true, laidKinds := [.data], laidTests := true, laidLooks := .later }
def HeckeseriesContractsUptoCardSaid : Prop := Claim7.holds Tryd.pinned (.plain (OpenSpec.upto heckeseriesContractsSpec)) heckeseriesContractsUptoCard
end Rows
end Go.Proofs.YtajhaoapcapgeaaDoor
