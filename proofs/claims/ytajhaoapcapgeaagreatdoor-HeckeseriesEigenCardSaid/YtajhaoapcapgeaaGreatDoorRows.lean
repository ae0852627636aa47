/-
  NARROWER THAN 'FOR EVERY INPUT', by the rows' own cells (each row's printed sentence says how): SeriesOperators: laid · HeckeseriesAlgebra: laid · HeckeseriesEigen: laid · HeckeseriesRows: laid.
  DERIVED. THE GIVEN ROWS OF THIS SEAT. 4 by the template 'for every input the law returns true; each argument reads behind the call as it read before'; 0 by the template 'total and deterministic' (their statements: YtajhaoapcapgeaaGreatDoorTotals.lean).
  GIVEN WITH THE SEED: the statements are not yours to turn. If you find one false, say at which input.
  Laid BY PROGRAM, IN A SANDBOX (cutbox-rows.mjs): the forced cells as the released guide's own fill.sh prints them over the translation 551e2da588653ef3… (all of the seat's roots in one cut). By AI agents, Wed Nov 11 2026. No macro, syntax, notation, axiom, sorry.
-/
import Derived.Test.YtajhaoapcapgeaaGreatDoorChecked
import GoSem.Claim
import GoSem.ClaimJoined
import GoSem.ClaimMapViews
import Derived.JoinedTies
import Derived.KernelRfl
namespace Go.Proofs.YtajhaoapcapgeaaGreatDoor
/- THE CELL 'sum', in the pinned program and in every row, IS THE sha256 OF THE DUMP (.gsa) THAT YtajhaoapcapgeaaGreatDoorProg.lean LOADS. Nothing in Lean hashes anything: it is a label: what it is worth is what the hold of that sum in a sandbox is worth. -/
noncomputable def Tryz.pinned : Pinned := { name := "ytajhaoapcapgeaagreatdoor", sum := "551e2da588653ef3c8fc0e2507951bc5b2e012ec0fe4d463bd94c5d233fcec0a", checked := Tryz.checked }
namespace Rows
def none {H : Type} : Left H := { results := [], args := [] }

/- WHAT THE LISTED PACKAGE-LEVEL VARIABLES READ AS WHEN THE CALL BEGINS. Each datum BY PROGRAM (the guide's laid-datum.mjs) off the statement by which the dump's own 'gosem.cut.vars' lays the variable. In a bare row this is a premise. The card (YtajhaoapcapgeaaGreatDoorCards.lean) ties it to the program's text. -/
def laid_math_bits_deBruijn64tab {H : Type} : DataW H := .agg [.lit (.int .u8 0), .lit (.int .u8 1), .lit (.int .u8 56), .lit (.int .u8 2), .lit (.int .u8 57), .lit (.int .u8 49), .lit (.int .u8 28), .lit (.int .u8 3), .lit (.int .u8 61), .lit (.int .u8 58), .lit (.int .u8 42), .lit (.int .u8 50), .lit (.int .u8 38), .lit (.int .u8 29), .lit (.int .u8 17), .lit (.int .u8 4), .lit (.int .u8 62), .lit (.int .u8 47), .lit (.int .u8 59), .lit (.int .u8 36), .lit (.int .u8 45), .lit (.int .u8 43), .lit (.int .u8 51), .lit (.int .u8 22), .lit (.int .u8 53), .lit (.int .u8 39), .lit (.int .u8 33), .lit (.int .u8 30), .lit (.int .u8 24), .lit (.int .u8 18), .lit (.int .u8 12), .lit (.int .u8 5), .lit (.int .u8 63), .lit (.int .u8 55), .lit (.int .u8 48), .lit (.int .u8 27), .lit (.int .u8 60), .lit (.int .u8 41), .lit (.int .u8 37), .lit (.int .u8 16), .lit (.int .u8 46), .lit (.int .u8 35), .lit (.int .u8 44), .lit (.int .u8 21), .lit (.int .u8 52), .lit (.int .u8 32), .lit (.int .u8 23), .lit (.int .u8 11), .lit (.int .u8 54), .lit (.int .u8 26), .lit (.int .u8 40), .lit (.int .u8 15), .lit (.int .u8 34), .lit (.int .u8 20), .lit (.int .u8 31), .lit (.int .u8 10), .lit (.int .u8 25), .lit (.int .u8 14), .lit (.int .u8 19), .lit (.int .u8 9), .lit (.int .u8 13), .lit (.int .u8 8), .lit (.int .u8 7), .lit (.int .u8 6)]

/-- 'halfplanelaw33.SeriesOperators': WHATEVER THE INPUT: true; the input reads as it did. -/
def seriesOperatorsSpec : ChangeSpec := { name := "seriesOperators", fn := fun _ => fun
  | [d1, d2] => { results := [.lit (.bool true)], args := [d1, d2] }
  | _ => none }
def seriesOperatorsRow : OpenClaim := { program := "ytajhaoapcapgeaagreatdoor", sum := "551e2da588653ef3c8fc0e2507951bc5b2e012ec0fe4d463bd94c5d233fcec0a", func := "halfplane/halfplanelaw33.SeriesOperators", spec := "seriesOperators", unfollowed := true, recurses := true, named := ["math/bits.overflowError", "math/bits.deBruijn64tab"], apart := false, laid := [("math/bits.deBruijn64tab", laid_math_bits_deBruijn64tab)] }
def SeriesOperatorsSaid : Prop := seriesOperatorsRow.holds Tryz.pinned (OpenSpec.ofChange seriesOperatorsSpec)

/-- ITS FALSE NEIGHBOUR: 'it returns false'. Refute it at one input. -/
def seriesOperatorsWrong : ChangeSpec := { name := "seriesOperators", fn := fun _ => fun
  | [d1, d2] => { results := [.lit (.bool false)], args := [d1, d2] }
  | _ => none }
def SeriesOperatorsWrongFalsely : Prop := seriesOperatorsRow.holds Tryz.pinned (OpenSpec.ofChange seriesOperatorsWrong)

/-- 'halfplanelaw37.HeckeseriesAlgebra': WHATEVER THE INPUT: true; the input reads as it did. -/
def heckeseriesAlgebraSpec : ChangeSpec := { name := "heckeseriesAlgebra", fn := fun _ => fun
  | [d1, d2, d3] => { results := [.lit (.bool true)], args := [d1, d2, d3] }
  | _ => none }
def heckeseriesAlgebraRow : OpenClaim := { program := "ytajhaoapcapgeaagreatdoor", sum := "551e2da588653ef3c8fc0e2507951bc5b2e012ec0fe4d463bd94c5d233fcec0a", func := "halfplane/halfplanelaw37.HeckeseriesAlgebra", spec := "heckeseriesAlgebra", unfollowed := true, recurses := true, named := ["math/bits.overflowError", "math/bits.deBruijn64tab"], apart := false, laid := [("math/bits.deBruijn64tab", laid_math_bits_deBruijn64tab)] }
def HeckeseriesAlgebraSaid : Prop := heckeseriesAlgebraRow.holds Tryz.pinned (OpenSpec.ofChange heckeseriesAlgebraSpec)

/-- ITS FALSE NEIGHBOUR: 'it returns false'. Refute it at one input. -/
def heckeseriesAlgebraWrong : ChangeSpec := { name := "heckeseriesAlgebra", fn := fun _ => fun
  | [d1, d2, d3] => { results := [.lit (.bool false)], args := [d1, d2, d3] }
  | _ => none }
def HeckeseriesAlgebraWrongFalsely : Prop := heckeseriesAlgebraRow.holds Tryz.pinned (OpenSpec.ofChange heckeseriesAlgebraWrong)

/-- 'halfplanelaw37.HeckeseriesEigen': WHATEVER THE INPUT: true; the input reads as it did. -/
def heckeseriesEigenSpec : ChangeSpec := { name := "heckeseriesEigen", fn := fun _ => fun
  | [d1, d2, d3] => { results := [.lit (.bool true)], args := [d1, d2, d3] }
  | _ => none }
def heckeseriesEigenRow : OpenClaim := { program := "ytajhaoapcapgeaagreatdoor", sum := "551e2da588653ef3c8fc0e2507951bc5b2e012ec0fe4d463bd94c5d233fcec0a", func := "halfplane/halfplanelaw37.HeckeseriesEigen", spec := "heckeseriesEigen", unfollowed := true, recurses := true, named := ["math/bits.overflowError", "math/bits.deBruijn64tab"], apart := false, laid := [("math/bits.deBruijn64tab", laid_math_bits_deBruijn64tab)] }
def HeckeseriesEigenSaid : Prop := heckeseriesEigenRow.holds Tryz.pinned (OpenSpec.ofChange heckeseriesEigenSpec)

/-- ITS FALSE NEIGHBOUR: 'it returns false'. Refute it at one input. -/
def heckeseriesEigenWrong : ChangeSpec := { name := "heckeseriesEigen", fn := fun _ => fun
  | [d1, d2, d3] => { results := [.lit (.bool false)], args := [d1, d2, d3] }
  | _ => none }
def HeckeseriesEigenWrongFalsely : Prop := heckeseriesEigenRow.holds Tryz.pinned (OpenSpec.ofChange heckeseriesEigenWrong)

/-- 'halfplanelaw37.HeckeseriesRows': WHATEVER THE INPUT: true; the input reads as it did. -/
def heckeseriesRowsSpec : ChangeSpec := { name := "heckeseriesRows", fn := fun _ => fun
  | [d1, d2, d3] => { results := [.lit (.bool true)], args := [d1, d2, d3] }
  | _ => none }
def heckeseriesRowsRow : OpenClaim := { program := "ytajhaoapcapgeaagreatdoor", sum := "551e2da588653ef3c8fc0e2507951bc5b2e012ec0fe4d463bd94c5d233fcec0a", func := "halfplane/halfplanelaw37.HeckeseriesRows", spec := "heckeseriesRows", unfollowed := true, recurses := true, named := ["math/bits.overflowError", "math/bits.deBruijn64tab"], apart := false, laid := [("math/bits.deBruijn64tab", laid_math_bits_deBruijn64tab)] }
def HeckeseriesRowsSaid : Prop := heckeseriesRowsRow.holds Tryz.pinned (OpenSpec.ofChange heckeseriesRowsSpec)

/-- ITS FALSE NEIGHBOUR: 'it returns false'. Refute it at one input. -/
def heckeseriesRowsWrong : ChangeSpec := { name := "heckeseriesRows", fn := fun _ => fun
  | [d1, d2, d3] => { results := [.lit (.bool false)], args := [d1, d2, d3] }
  | _ => none }
def HeckeseriesRowsWrongFalsely : Prop := heckeseriesRowsRow.holds Tryz.pinned (OpenSpec.ofChange heckeseriesRowsWrong)

/- THE SECOND FORM. 'bulk': how many values and letters a reading holds, each counted each time it is reached (what is shared counts as often as it is met; a slice's spare places count too). A statement '..UptoSaid' is the law's where the arguments, and the package variables that the reading takes, are together of bulk at most 1048576: NARROWER than '..Said'. Prove '..Said' where nothing that the law and all that it calls make is longer than what came in: it says more and counts as full. Else prove '..UptoSaid'. A law counts once. -/
mutual
def uptoBulk {H : Type} : DataW H → Nat
  | .lit (.string bytes) => bytes.length + 1
  | .lit _ => 1
  | .nil => 1
  | .ptr d => uptoBulk d + 1
  | .slice elems spare => uptoBulkAll elems + uptoBulkAll spare + 1
  | .agg parts => uptoBulkAll parts + 1
  | .iface _ d => uptoBulk d + 1
  | .map entries => uptoBulkEntries entries + 1
  | .held _ => 1
def uptoBulkAll {H : Type} : List (DataW H) → Nat
  | [] => 0
  | d :: r => uptoBulk d + uptoBulkAll r
def uptoBulkEntries {H : Type} : List (Lit × DataW H) → Nat
  | [] => 0
  | x :: r => uptoBulkEntry x + uptoBulkEntries r
def uptoBulkEntry {H : Type} : Lit × DataW H → Nat
  | (.string bytes, d) => bytes.length + uptoBulk d + 1
  | (_, d) => uptoBulk d + 1
 end
def uptoSmall : (H : Type) → List (DataW H) → Bool := fun _ ds => decide (uptoBulkAll ds ≤ 1048576)
def OpenSpec.upto (s : _root_.Go.ChangeSpec) : _root_.Go.OpenSpec := { _root_.Go.OpenSpec.ofChange s with cond := some uptoSmall }

/-- 'halfplanelaw33.SeriesOperators', WHERE WHAT IT READS IS OF BULK AT MOST 1048576: true; the input reads as it did. -/
def seriesOperatorsUptoRow : OpenClaim := { program := "ytajhaoapcapgeaagreatdoor", sum := "551e2da588653ef3c8fc0e2507951bc5b2e012ec0fe4d463bd94c5d233fcec0a", func := "halfplane/halfplanelaw33.SeriesOperators", spec := "seriesOperators", unfollowed := true, recurses := true, named := ["math/bits.overflowError", "math/bits.deBruijn64tab"], apart := false, laid := [("math/bits.deBruijn64tab", laid_math_bits_deBruijn64tab)], narrowed := true }
def SeriesOperatorsUptoSaid : Prop := seriesOperatorsUptoRow.holds Tryz.pinned (OpenSpec.upto seriesOperatorsSpec)

/-- 'halfplanelaw37.HeckeseriesAlgebra', WHERE WHAT IT READS IS OF BULK AT MOST 1048576: true; the input reads as it did. -/
def heckeseriesAlgebraUptoRow : OpenClaim := { program := "ytajhaoapcapgeaagreatdoor", sum := "551e2da588653ef3c8fc0e2507951bc5b2e012ec0fe4d463bd94c5d233fcec0a", func := "halfplane/halfplanelaw37.HeckeseriesAlgebra", spec := "heckeseriesAlgebra", unfollowed := true, recurses := true, named := ["math/bits.overflowError", "math/bits.deBruijn64tab"], apart := false, laid := [("math/bits.deBruijn64tab", laid_math_bits_deBruijn64tab)], narrowed := true }
def HeckeseriesAlgebraUptoSaid : Prop := heckeseriesAlgebraUptoRow.holds Tryz.pinned (OpenSpec.upto heckeseriesAlgebraSpec)

/-- 'halfplanelaw37.HeckeseriesEigen', WHERE WHAT IT READS IS OF BULK AT MOST 1048576: true; the input reads as it did. -/
def heckeseriesEigenUptoRow : OpenClaim := { program := "ytajhaoapcapgeaagreatdoor", sum := "551e2da588653ef3c8fc0e2507951bc5b2e012ec0fe4d463bd94c5d233fcec0a", func := "halfplane/halfplanelaw37.HeckeseriesEigen", spec := "heckeseriesEigen", unfollowed := true, recurses := true, named := ["math/bits.overflowError", "math/bits.deBruijn64tab"], apart := false, laid := [("math/bits.deBruijn64tab", laid_math_bits_deBruijn64tab)], narrowed := true }
def HeckeseriesEigenUptoSaid : Prop := heckeseriesEigenUptoRow.holds Tryz.pinned (OpenSpec.upto heckeseriesEigenSpec)

/-- 'halfplanelaw37.HeckeseriesRows', WHERE WHAT IT READS IS OF BULK AT MOST 1048576: true; the input reads as it did. -/
def heckeseriesRowsUptoRow : OpenClaim := { program := "ytajhaoapcapgeaagreatdoor", sum := "551e2da588653ef3c8fc0e2507951bc5b2e012ec0fe4d463bd94c5d233fcec0a", func := "halfplane/halfplanelaw37.HeckeseriesRows", spec := "heckeseriesRows", unfollowed := true, recurses := true, named := ["math/bits.overflowError", "math/bits.deBruijn64tab"], apart := false, laid := [("math/bits.deBruijn64tab", laid_math_bits_deBruijn64tab)], narrowed := true }
def HeckeseriesRowsUptoSaid : Prop := heckeseriesRowsUptoRow.holds Tryz.pinned (OpenSpec.upto heckeseriesRowsSpec)

end Rows
end Go.Proofs.YtajhaoapcapgeaaGreatDoor
