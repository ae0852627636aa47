/-
  DERIVED. GIVEN WITH THE SEED: THE CARDS: each row of YtockbmflgmnbaaaGreatDoorRows.lean that lists a variable, with what it lists TIED to the program's text (the seventh form; the later family's looks); each row that meets fmt, with fmt's text TOLD by the authors' own Lean function (tested against real Go, not proved from fmt's source: count such statements apart). THE CARD IS WHAT COUNTS. Prove the row's statement (the work); the ties are given (YtockbmflgmnbaaaGreatDoorTie.lean); close each card by the builder's one call (the guide's Derived/Test/ToyasCard.lean, 'card_holds'). Laid BY PROGRAM, IN A SANDBOX (cutbox-door.mjs). By AI agents, Wed Nov 11 2026. No macro, syntax, notation, axiom, sorry.
-/
import Derived.Test.YtockbmflgmnbaaaGreatDoorRows
import GoSem.ClaimSeven
namespace Go.Proofs.YtockbmflgmnbaaaGreatDoor
namespace Rows

/-- THE TIED CARD OF 'halfplanelaw39.LeveloneInvariant'. -/
def leveloneInvariantCard : Claim7 := { stood := { row := leveloneInvariantRow, standIns := [], harness := (true, "59d58d24f32c925fcfd4a34d7c79fffe2daf3072eecfdf61205b132de37b9c47"), looks := false }, kinds := [], alts := [], laidByText := true, laidKinds := [.data], laidTests := true, laidLooks := .later }
def LeveloneInvariantCardSaid : Prop := Claim7.holds Tryz.pinned (.plain (OpenSpec.ofChange leveloneInvariantSpec)) leveloneInvariantCard

/-- THE SECOND FORM's CARD OF 'halfplanelaw39.LeveloneInvariant'. -/
def leveloneInvariantUptoCard : Claim7 := { stood := { row := leveloneInvariantUptoRow, standIns := [], harness := (true, "59d58d24f32c925fcfd4a34d7c79fffe2daf3072eecfdf61205b132de37b9c47"), looks := false }, kinds := [], alts := [], laidByText := true, laidKinds := [.data], laidTests := true, laidLooks := .later }
def LeveloneInvariantUptoCardSaid : Prop := Claim7.holds Tryz.pinned (.plain (OpenSpec.upto leveloneInvariantSpec)) leveloneInvariantUptoCard
end Rows
end Go.Proofs.YtockbmflgmnbaaaGreatDoor
