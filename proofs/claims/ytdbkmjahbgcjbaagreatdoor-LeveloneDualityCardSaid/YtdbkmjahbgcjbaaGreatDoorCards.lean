/-
  DERIVED. GIVEN WITH THE SEED: THE CARDS: each row of YtdbkmjahbgcjbaaGreatDoorRows.lean that lists a variable, with what it lists TIED to the program's text (the seventh form; the later family's looks); each row that meets fmt, with fmt's text TOLD by the authors' own Lean function (tested against real Go, not proved from fmt's source: count such statements apart). THE CARD IS WHAT COUNTS. Prove the row's statement (the work); the ties are given (YtdbkmjahbgcjbaaGreatDoorTie.lean); close each card by the builder's one call (the guide's Derived/Test/ToyasCard.lean, 'card_holds'). Laid BY PROGRAM, IN A SANDBOX (cutbox-door.mjs). By AI agents, Wed Nov 11 2026. No macro, syntax, notation, axiom, sorry.
-/
import Derived.Test.YtdbkmjahbgcjbaaGreatDoorRows
import GoSem.ClaimSeven
namespace Go.Proofs.YtdbkmjahbgcjbaaGreatDoor
namespace Rows

/-- THE TIED CARD OF 'halfplanelaw39.LeveloneDelta'. -/
def leveloneDeltaCard : Claim7 := { stood := { row := leveloneDeltaRow, standIns := [], harness := (true, "d9ead7d5ef95a0d4770931a1c09ce2d05592902195c1910bd0dcf708a09c2bdc"), looks := false }, kinds := [], alts := [], laidByText := true, laidKinds := [.data], laidTests := true, laidLooks := .later }
def LeveloneDeltaCardSaid : Prop := Claim7.holds Tryz.pinned (.plain (OpenSpec.ofChange leveloneDeltaSpec)) leveloneDeltaCard

/-- THE TIED CARD OF 'halfplanelaw39.LeveloneTau'. -/
def leveloneTauCard : Claim7 := { stood := { row := leveloneTauRow, standIns := [], harness := (true, "d9ead7d5ef95a0d4770931a1c09ce2d05592902195c1910bd0dcf708a09c2bdc"), looks := false }, kinds := [], alts := [], laidByText := true, laidKinds := [.data], laidTests := true, laidLooks := .later }
def LeveloneTauCardSaid : Prop := Claim7.holds Tryz.pinned (.plain (OpenSpec.ofChange leveloneTauSpec)) leveloneTauCard

/-- THE TIED CARD OF 'halfplanelaw39.LeveloneDuality'. -/
def leveloneDualityCard : Claim7 := { stood := { row := leveloneDualityRow, standIns := [], harness := (true, "d9ead7d5ef95a0d4770931a1c09ce2d05592902195c1910bd0dcf708a09c2bdc"), looks := false }, kinds := [], alts := [], laidByText := true, laidKinds := [.data], laidTests := true, laidLooks := .later }
def LeveloneDualityCardSaid : Prop := Claim7.holds Tryz.pinned (.plain (OpenSpec.ofChange leveloneDualitySpec)) leveloneDualityCard

/-- THE TIED CARD OF 'halfplanelaw39.LeveloneBases'. -/
def leveloneBasesCard : Claim7 := { stood := { row := leveloneBasesRow, standIns := [], harness := (true, "d9ead7d5ef95a0d4770931a1c09ce2d05592902195c1910bd0dcf708a09c2bdc"), looks := false }, kinds := [], alts := [], laidByText := true, laidKinds := [.data], laidTests := true, laidLooks := .later }
def LeveloneBasesCardSaid : Prop := Claim7.holds Tryz.pinned (.plain (OpenSpec.ofChange leveloneBasesSpec)) leveloneBasesCard

/-- THE TIED CARD OF 'halfplanelaw39.LeveloneDiscriminant'. -/
def leveloneDiscriminantCard : Claim7 := { stood := { row := leveloneDiscriminantRow, standIns := [], harness := (true, "d9ead7d5ef95a0d4770931a1c09ce2d05592902195c1910bd0dcf708a09c2bdc"), looks := false }, kinds := [], alts := [], laidByText := true, laidKinds := [.data], laidTests := true, laidLooks := .later }
def LeveloneDiscriminantCardSaid : Prop := Claim7.holds Tryz.pinned (.plain (OpenSpec.ofChange leveloneDiscriminantSpec)) leveloneDiscriminantCard

/-- THE TIED CARD OF 'halfplanelaw39.LeveloneInvariant'. -/
def leveloneInvariantCard : Claim7 := { stood := { row := leveloneInvariantRow, standIns := [], harness := (true, "d9ead7d5ef95a0d4770931a1c09ce2d05592902195c1910bd0dcf708a09c2bdc"), looks := false }, kinds := [], alts := [], laidByText := true, laidKinds := [.data], laidTests := true, laidLooks := .later }
def LeveloneInvariantCardSaid : Prop := Claim7.holds Tryz.pinned (.plain (OpenSpec.ofChange leveloneInvariantSpec)) leveloneInvariantCard

/-- THE TIED CARD OF 'halfplanelaw38.QuasimodularExpansions'. -/
def quasimodularExpansionsCard : Claim7 := { stood := { row := quasimodularExpansionsRow, standIns := [], harness := (true, "d9ead7d5ef95a0d4770931a1c09ce2d05592902195c1910bd0dcf708a09c2bdc"), looks := false }, kinds := [], alts := [], laidByText := true, laidKinds := [.data], laidTests := true, laidLooks := .later }
def QuasimodularExpansionsCardSaid : Prop := Claim7.holds Tryz.pinned (.plain (OpenSpec.ofChange quasimodularExpansionsSpec)) quasimodularExpansionsCard

/-- THE TIED CARD OF 'halfplanelaw38.QuasimodularSeries'. -/
def quasimodularSeriesCard : Claim7 := { stood := { row := quasimodularSeriesRow, standIns := [], harness := (true, "d9ead7d5ef95a0d4770931a1c09ce2d05592902195c1910bd0dcf708a09c2bdc"), looks := false }, kinds := [], alts := [], laidByText := true, laidKinds := [.data], laidTests := true, laidLooks := .later }
def QuasimodularSeriesCardSaid : Prop := Claim7.holds Tryz.pinned (.plain (OpenSpec.ofChange quasimodularSeriesSpec)) quasimodularSeriesCard

/-- THE TIED CARD OF 'halfplanelaw38.QuasimodularCommutes'. -/
def quasimodularCommutesCard : Claim7 := { stood := { row := quasimodularCommutesRow, standIns := [], harness := (true, "d9ead7d5ef95a0d4770931a1c09ce2d05592902195c1910bd0dcf708a09c2bdc"), looks := false }, kinds := [], alts := [], laidByText := true, laidKinds := [.data], laidTests := true, laidLooks := .later }
def QuasimodularCommutesCardSaid : Prop := Claim7.holds Tryz.pinned (.plain (OpenSpec.ofChange quasimodularCommutesSpec)) quasimodularCommutesCard

/-- THE TIED CARD OF 'halfplanelaw38.QuasimodularBrackets'. -/
def quasimodularBracketsCard : Claim7 := { stood := { row := quasimodularBracketsRow, standIns := [], harness := (true, "d9ead7d5ef95a0d4770931a1c09ce2d05592902195c1910bd0dcf708a09c2bdc"), looks := false }, kinds := [], alts := [], laidByText := true, laidKinds := [.data], laidTests := true, laidLooks := .later }
def QuasimodularBracketsCardSaid : Prop := Claim7.holds Tryz.pinned (.plain (OpenSpec.ofChange quasimodularBracketsSpec)) quasimodularBracketsCard

/-- THE TIED CARD OF 'halfplanelaw39.LeveloneForms'. -/
def leveloneFormsCard : Claim7 := { stood := { row := leveloneFormsRow, standIns := [], harness := (true, "d9ead7d5ef95a0d4770931a1c09ce2d05592902195c1910bd0dcf708a09c2bdc"), looks := false }, kinds := [], alts := [], laidByText := true, laidKinds := [.data], laidTests := true, laidLooks := .later }
def LeveloneFormsCardSaid : Prop := Claim7.holds Tryz.pinned (.plain (OpenSpec.ofChange leveloneFormsSpec)) leveloneFormsCard

/-- THE TIED CARD OF 'halfplanelaw39.LeveloneReturns'. -/
def leveloneReturnsCard : Claim7 := { stood := { row := leveloneReturnsRow, standIns := [], harness := (true, "d9ead7d5ef95a0d4770931a1c09ce2d05592902195c1910bd0dcf708a09c2bdc"), looks := false }, kinds := [], alts := [], laidByText := true, laidKinds := [.data], laidTests := true, laidLooks := .later }
def LeveloneReturnsCardSaid : Prop := Claim7.holds Tryz.pinned (.plain (OpenSpec.ofChange leveloneReturnsSpec)) leveloneReturnsCard

/-- THE SECOND FORM's CARD OF 'halfplanelaw39.LeveloneDelta'. -/
def leveloneDeltaUptoCard : Claim7 := { stood := { row := leveloneDeltaUptoRow, standIns := [], harness := (true, "d9ead7d5ef95a0d4770931a1c09ce2d05592902195c1910bd0dcf708a09c2bdc"), looks := false }, kinds := [], alts := [], laidByText := true, laidKinds := [.data], laidTests := true, laidLooks := .later }
def LeveloneDeltaUptoCardSaid : Prop := Claim7.holds Tryz.pinned (.plain (OpenSpec.upto leveloneDeltaSpec)) leveloneDeltaUptoCard

/-- THE SECOND FORM's CARD OF 'halfplanelaw39.LeveloneTau'. -/
def leveloneTauUptoCard : Claim7 := { stood := { row := leveloneTauUptoRow, standIns := [], harness := (true, "d9ead7d5ef95a0d4770931a1c09ce2d05592902195c1910bd0dcf708a09c2bdc"), looks := false }, kinds := [], alts := [], laidByText := true, laidKinds := [.data], laidTests := true, laidLooks := .later }
def LeveloneTauUptoCardSaid : Prop := Claim7.holds Tryz.pinned (.plain (OpenSpec.upto leveloneTauSpec)) leveloneTauUptoCard

/-- THE SECOND FORM's CARD OF 'halfplanelaw39.LeveloneDuality'. -/
def leveloneDualityUptoCard : Claim7 := { stood := { row := leveloneDualityUptoRow, standIns := [], harness := (true, "d9ead7d5ef95a0d4770931a1c09ce2d05592902195c1910bd0dcf708a09c2bdc"), looks := false }, kinds := [], alts := [], laidByText := true, laidKinds := [.data], laidTests := true, laidLooks := .later }
def LeveloneDualityUptoCardSaid : Prop := Claim7.holds Tryz.pinned (.plain (OpenSpec.upto leveloneDualitySpec)) leveloneDualityUptoCard

/-- THE SECOND FORM's CARD OF 'halfplanelaw39.LeveloneBases'. -/
def leveloneBasesUptoCard : Claim7 := { stood := { row := leveloneBasesUptoRow, standIns := [], harness := (true, "d9ead7d5ef95a0d4770931a1c09ce2d05592902195c1910bd0dcf708a09c2bdc"), looks := false }, kinds := [], alts := [], laidByText := true, laidKinds := [.data], laidTests := true, laidLooks := .later }
def LeveloneBasesUptoCardSaid : Prop := Claim7.holds Tryz.pinned (.plain (OpenSpec.upto leveloneBasesSpec)) leveloneBasesUptoCard

/-- THE SECOND FORM's CARD OF 'halfplanelaw39.LeveloneDiscriminant'. -/
def leveloneDiscriminantUptoCard : Claim7 := { stood := { row := leveloneDiscriminantUptoRow, standIns := [], harness := (true, "d9ead7d5ef95a0d4770931a1c09ce2d05592902195c1910bd0dcf708a09c2bdc"), looks := false }, kinds := [], alts := [], laidByText := true, laidKinds := [.data], laidTests := true, laidLooks := .later }
def LeveloneDiscriminantUptoCardSaid : Prop := Claim7.holds Tryz.pinned (.plain (OpenSpec.upto leveloneDiscriminantSpec)) leveloneDiscriminantUptoCard

/-- THE SECOND FORM's CARD OF 'halfplanelaw39.LeveloneInvariant'. -/
def leveloneInvariantUptoCard : Claim7 := { stood := { row := leveloneInvariantUptoRow, standIns := [], harness := (true, "d9ead7d5ef95a0d4770931a1c09ce2d05592902195c1910bd0dcf708a09c2bdc"), looks := false }, kinds := [], alts := [], laidByText := true, laidKinds := [.data], laidTests := true, laidLooks := .later }
def LeveloneInvariantUptoCardSaid : Prop := Claim7.holds Tryz.pinned (.plain (OpenSpec.upto leveloneInvariantSpec)) leveloneInvariantUptoCard

/-- THE SECOND FORM's CARD OF 'halfplanelaw38.QuasimodularExpansions'. -/
def quasimodularExpansionsUptoCard : Claim7 := { stood := { row := quasimodularExpansionsUptoRow, standIns := [], harness := (true, "d9ead7d5ef95a0d4770931a1c09ce2d05592902195c1910bd0dcf708a09c2bdc"), looks := false }, kinds := [], alts := [], laidByText := true, laidKinds := [.data], laidTests := true, laidLooks := .later }
def QuasimodularExpansionsUptoCardSaid : Prop := Claim7.holds Tryz.pinned (.plain (OpenSpec.upto quasimodularExpansionsSpec)) quasimodularExpansionsUptoCard

/-- THE SECOND FORM's CARD OF 'halfplanelaw38.QuasimodularSeries'. -/
def quasimodularSeriesUptoCard : Claim7 := { stood := { row := quasimodularSeriesUptoRow, standIns := [], harness := (true, "d9ead7d5ef95a0d4770931a1c09ce2d05592902195c1910bd0dcf708a09c2bdc"), looks := false }, kinds := [], alts := [], laidByText := true, laidKinds := [.data], laidTests := true, laidLooks := .later }
def QuasimodularSeriesUptoCardSaid : Prop := Claim7.holds Tryz.pinned (.plain (OpenSpec.upto quasimodularSeriesSpec)) quasimodularSeriesUptoCard

/-- THE SECOND FORM's CARD OF 'halfplanelaw38.QuasimodularCommutes'. -/
def quasimodularCommutesUptoCard : Claim7 := { stood := { row := quasimodularCommutesUptoRow, standIns := [], harness := (true, "d9ead7d5ef95a0d4770931a1c09ce2d05592902195c1910bd0dcf708a09c2bdc"), looks := false }, kinds := [], alts := [], laidByText := true, laidKinds := [.data], laidTests := true, laidLooks := .later }
def QuasimodularCommutesUptoCardSaid : Prop := Claim7.holds Tryz.pinned (.plain (OpenSpec.upto quasimodularCommutesSpec)) quasimodularCommutesUptoCard

/-- THE SECOND FORM's CARD OF 'halfplanelaw38.QuasimodularBrackets'. -/
def quasimodularBracketsUptoCard : Claim7 := { stood := { row := quasimodularBracketsUptoRow, standIns := [], harness := (true, "d9ead7d5ef95a0d4770931a1c09ce2d05592902195c1910bd0dcf708a09c2bdc"), looks := false }, kinds := [], alts := [], laidByText := true, laidKinds := [.data], laidTests := true, laidLooks := .later }
def QuasimodularBracketsUptoCardSaid : Prop := Claim7.holds Tryz.pinned (.plain (OpenSpec.upto quasimodularBracketsSpec)) quasimodularBracketsUptoCard

/-- THE SECOND FORM's CARD OF 'halfplanelaw39.LeveloneForms'. -/
def leveloneFormsUptoCard : Claim7 := { stood := { row := leveloneFormsUptoRow, standIns := [], harness := (true, "d9ead7d5ef95a0d4770931a1c09ce2d05592902195c1910bd0dcf708a09c2bdc"), looks := false }, kinds := [], alts := [], laidByText := true, laidKinds := [.data], laidTests := true, laidLooks := .later }
def LeveloneFormsUptoCardSaid : Prop := Claim7.holds Tryz.pinned (.plain (OpenSpec.upto leveloneFormsSpec)) leveloneFormsUptoCard

/-- THE SECOND FORM's CARD OF 'halfplanelaw39.LeveloneReturns'. -/
def leveloneReturnsUptoCard : Claim7 := { stood := { row := leveloneReturnsUptoRow, standIns := [], harness := (true, "d9ead7d5ef95a0d4770931a1c09ce2d05592902195c1910bd0dcf708a09c2bdc"), looks := false }, kinds := [], alts := [], laidByText := true, laidKinds := [.data], laidTests := true, laidLooks := .later }
def LeveloneReturnsUptoCardSaid : Prop := Claim7.holds Tryz.pinned (.plain (OpenSpec.upto leveloneReturnsSpec)) leveloneReturnsUptoCard
end Rows
end Go.Proofs.YtdbkmjahbgcjbaaGreatDoor
