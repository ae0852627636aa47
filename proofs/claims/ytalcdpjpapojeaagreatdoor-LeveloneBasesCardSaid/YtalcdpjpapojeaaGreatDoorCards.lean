/-
  DERIVED. GIVEN WITH THE SEED: THE CARDS: each row of YtalcdpjpapojeaaGreatDoorRows.lean that lists a variable, with what it lists TIED to the program's text (the seventh form; the later family's looks); each row that meets fmt, with fmt's text TOLD by the authors' own Lean function (tested against real Go, not proved from fmt's source: count such statements apart). THE CARD IS WHAT COUNTS. Prove the row's statement (the work); the ties are given (YtalcdpjpapojeaaGreatDoorTie.lean); close each card by the builder's one call (the guide's Derived/Test/ToyasCard.lean, 'card_holds'). Laid BY PROGRAM, IN A SANDBOX (cutbox-door.mjs). By AI agents, Wed Nov 11 2026. No macro, syntax, notation, axiom, sorry.
-/
import Derived.Test.YtalcdpjpapojeaaGreatDoorRows
import GoSem.ClaimSeven
namespace Go.Proofs.YtalcdpjpapojeaaGreatDoor
namespace Rows

/-- THE TIED CARD OF 'halfplanelaw39.LeveloneBases'. -/
def leveloneBasesCard : Claim7 := { stood := { row := leveloneBasesRow, standIns := [], harness := (true, "b1a28c8a9e5680b07d23ed77c47306a4cb8e282b1f089906f1a25e7d4c8f79d0"), looks := false }, kinds := [], alts := [], laidByText := true, laidKinds := [.data], laidTests := true, laidLooks := .later }
def LeveloneBasesCardSaid : Prop := Claim7.holds Tryz.pinned (.plain (OpenSpec.ofChange leveloneBasesSpec)) leveloneBasesCard

/-- THE TIED CARD OF 'halfplanelaw39.LeveloneForms'. -/
def leveloneFormsCard : Claim7 := { stood := { row := leveloneFormsRow, standIns := [], harness := (true, "b1a28c8a9e5680b07d23ed77c47306a4cb8e282b1f089906f1a25e7d4c8f79d0"), looks := false }, kinds := [], alts := [], laidByText := true, laidKinds := [.data], laidTests := true, laidLooks := .later }
def LeveloneFormsCardSaid : Prop := Claim7.holds Tryz.pinned (.plain (OpenSpec.ofChange leveloneFormsSpec)) leveloneFormsCard

/-- THE TIED CARD OF 'halfplanelaw39.LeveloneReturns'. -/
def leveloneReturnsCard : Claim7 := { stood := { row := leveloneReturnsRow, standIns := [], harness := (true, "b1a28c8a9e5680b07d23ed77c47306a4cb8e282b1f089906f1a25e7d4c8f79d0"), looks := false }, kinds := [], alts := [], laidByText := true, laidKinds := [.data], laidTests := true, laidLooks := .later }
def LeveloneReturnsCardSaid : Prop := Claim7.holds Tryz.pinned (.plain (OpenSpec.ofChange leveloneReturnsSpec)) leveloneReturnsCard

/-- THE SECOND FORM's CARD OF 'halfplanelaw39.LeveloneBases'. -/
def leveloneBasesUptoCard : Claim7 := { stood := { row := leveloneBasesUptoRow, standIns := [], harness := (true, "b1a28c8a9e5680b07d23ed77c47306a4cb8e282b1f089906f1a25e7d4c8f79d0"), looks := false }, kinds := [], alts := [], laidByText := true, laidKinds := [.data], laidTests := true, laidLooks := .later }
def LeveloneBasesUptoCardSaid : Prop := Claim7.holds Tryz.pinned (.plain (OpenSpec.upto leveloneBasesSpec)) leveloneBasesUptoCard

/-- THE SECOND FORM's CARD OF 'halfplanelaw39.LeveloneForms'. -/
def leveloneFormsUptoCard : Claim7 := { stood := { row := leveloneFormsUptoRow, standIns := [], harness := (true, "b1a28c8a9e5680b07d23ed77c47306a4cb8e282b1f089906f1a25e7d4c8f79d0"), looks := false }, kinds := [], alts := [], laidByText := true, laidKinds := [.data], laidTests := true, laidLooks := .later }
def LeveloneFormsUptoCardSaid : Prop := Claim7.holds Tryz.pinned (.plain (OpenSpec.upto leveloneFormsSpec)) leveloneFormsUptoCard

/-- THE SECOND FORM's CARD OF 'halfplanelaw39.LeveloneReturns'. -/
def leveloneReturnsUptoCard : Claim7 := { stood := { row := leveloneReturnsUptoRow, standIns := [], harness := (true, "b1a28c8a9e5680b07d23ed77c47306a4cb8e282b1f089906f1a25e7d4c8f79d0"), looks := false }, kinds := [], alts := [], laidByText := true, laidKinds := [.data], laidTests := true, laidLooks := .later }
def LeveloneReturnsUptoCardSaid : Prop := Claim7.holds Tryz.pinned (.plain (OpenSpec.upto leveloneReturnsSpec)) leveloneReturnsUptoCard
end Rows
end Go.Proofs.YtalcdpjpapojeaaGreatDoor
