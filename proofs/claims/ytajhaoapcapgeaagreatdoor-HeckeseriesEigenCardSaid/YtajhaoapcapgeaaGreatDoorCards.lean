/-
  DERIVED. GIVEN WITH THE SEED: THE CARDS: each row of YtajhaoapcapgeaaGreatDoorRows.lean that lists a variable, with what it lists TIED to the program's text (the seventh form; the later family's looks); each row that meets fmt, with fmt's text TOLD by the authors' own Lean function (tested against real Go, not proved from fmt's source: count such statements apart). THE CARD IS WHAT COUNTS. Prove the row's statement (the work); the ties are given (YtajhaoapcapgeaaGreatDoorTie.lean); close each card by the builder's one call (the guide's Derived/Test/ToyasCard.lean, 'card_holds'). Laid BY PROGRAM, IN A SANDBOX (cutbox-door.mjs). By AI agents, Wed Nov 11 2026. No macro, syntax, notation, axiom, sorry.
-/
import Derived.Test.YtajhaoapcapgeaaGreatDoorRows
import GoSem.ClaimSeven
namespace Go.Proofs.YtajhaoapcapgeaaGreatDoor
namespace Rows

/-- THE TIED CARD OF 'halfplanelaw33.SeriesOperators'. -/
def seriesOperatorsCard : Claim7 := { stood := { row := seriesOperatorsRow, standIns := [], harness := (true, "1bbc2329da07b039ee9a8ea67ad3d60a493a6cba0f596d2f736b575741ae7bb4"), looks := false }, kinds := [], alts := [], laidByText := true, laidKinds := [.data], laidTests := true, laidLooks := .later }
def SeriesOperatorsCardSaid : Prop := Claim7.holds Tryz.pinned (.plain (OpenSpec.ofChange seriesOperatorsSpec)) seriesOperatorsCard

/-- THE TIED CARD OF 'halfplanelaw37.HeckeseriesAlgebra'. -/
def heckeseriesAlgebraCard : Claim7 := { stood := { row := heckeseriesAlgebraRow, standIns := [], harness := (true, "1bbc2329da07b039ee9a8ea67ad3d60a493a6cba0f596d2f736b575741ae7bb4"), looks := false }, kinds := [], alts := [], laidByText := true, laidKinds := [.data], laidTests := true, laidLooks := .later }
def HeckeseriesAlgebraCardSaid : Prop := Claim7.holds Tryz.pinned (.plain (OpenSpec.ofChange heckeseriesAlgebraSpec)) heckeseriesAlgebraCard

/-- THE TIED CARD OF 'halfplanelaw37.HeckeseriesEigen'. -/
def heckeseriesEigenCard : Claim7 := { stood := { row := heckeseriesEigenRow, standIns := [], harness := (true, "1bbc2329da07b039ee9a8ea67ad3d60a493a6cba0f596d2f736b575741ae7bb4"), looks := false }, kinds := [], alts := [], laidByText := true, laidKinds := [.data], laidTests := true, laidLooks := .later }
def HeckeseriesEigenCardSaid : Prop := Claim7.holds Tryz.pinned (.plain (OpenSpec.ofChange heckeseriesEigenSpec)) heckeseriesEigenCard

/-- THE TIED CARD OF 'halfplanelaw37.HeckeseriesRows'. -/
def heckeseriesRowsCard : Claim7 := { stood := { row := heckeseriesRowsRow, standIns := [], harness := (true, "1bbc2329da07b039ee9a8ea67ad3d60a493a6cba0f596d2f736b575741ae7bb4"), looks := false }, kinds := [], alts := [], laidByText := true, laidKinds := [.data], laidTests := true, laidLooks := .later }
def HeckeseriesRowsCardSaid : Prop := Claim7.holds Tryz.pinned (.plain (OpenSpec.ofChange heckeseriesRowsSpec)) heckeseriesRowsCard

/-- THE SECOND FORM's CARD OF 'halfplanelaw33.SeriesOperators'. -/
def seriesOperatorsUptoCard : Claim7 := { stood := { row := seriesOperatorsUptoRow, standIns := [], harness := (true, "1bbc2329da07b039ee9a8ea67ad3d60a493a6cba0f596d2f736b575741ae7bb4"), looks := false }, kinds := [], alts := [], laidByText := true, laidKinds := [.data], laidTests := true, laidLooks := .later }
def SeriesOperatorsUptoCardSaid : Prop := Claim7.holds Tryz.pinned (.plain (OpenSpec.upto seriesOperatorsSpec)) seriesOperatorsUptoCard

/-- THE SECOND FORM's CARD OF 'halfplanelaw37.HeckeseriesAlgebra'. -/
def heckeseriesAlgebraUptoCard : Claim7 := { stood := { row := heckeseriesAlgebraUptoRow, standIns := [], harness := (true, "1bbc2329da07b039ee9a8ea67ad3d60a493a6cba0f596d2f736b575741ae7bb4"), looks := false }, kinds := [], alts := [], laidByText := true, laidKinds := [.data], laidTests := true, laidLooks := .later }
def HeckeseriesAlgebraUptoCardSaid : Prop := Claim7.holds Tryz.pinned (.plain (OpenSpec.upto heckeseriesAlgebraSpec)) heckeseriesAlgebraUptoCard

/-- THE SECOND FORM's CARD OF 'halfplanelaw37.HeckeseriesEigen'. -/
def heckeseriesEigenUptoCard : Claim7 := { stood := { row := heckeseriesEigenUptoRow, standIns := [], harness := (true, "1bbc2329da07b039ee9a8ea67ad3d60a493a6cba0f596d2f736b575741ae7bb4"), looks := false }, kinds := [], alts := [], laidByText := true, laidKinds := [.data], laidTests := true, laidLooks := .later }
def HeckeseriesEigenUptoCardSaid : Prop := Claim7.holds Tryz.pinned (.plain (OpenSpec.upto heckeseriesEigenSpec)) heckeseriesEigenUptoCard

/-- THE SECOND FORM's CARD OF 'halfplanelaw37.HeckeseriesRows'. -/
def heckeseriesRowsUptoCard : Claim7 := { stood := { row := heckeseriesRowsUptoRow, standIns := [], harness := (true, "1bbc2329da07b039ee9a8ea67ad3d60a493a6cba0f596d2f736b575741ae7bb4"), looks := false }, kinds := [], alts := [], laidByText := true, laidKinds := [.data], laidTests := true, laidLooks := .later }
def HeckeseriesRowsUptoCardSaid : Prop := Claim7.holds Tryz.pinned (.plain (OpenSpec.upto heckeseriesRowsSpec)) heckeseriesRowsUptoCard
end Rows
end Go.Proofs.YtajhaoapcapgeaaGreatDoor
