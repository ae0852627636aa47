/-
  NARROWER THAN 'FOR EVERY INPUT', by the rows' own cells (each row's printed sentence says how): InterchangeWrites: loops · InterchangeReturns: loops · InterchangeSpoilt: loops · InterchangeCanonical: loops.
  DERIVED. THE GIVEN ROWS OF THIS SEAT. 7 by the template 'for every input the law returns true; each argument reads behind the call as it read before'; 0 by the template 'total and deterministic' (their statements: YtbpdgaolmikjbaaGreatTotals.lean).
  GIVEN WITH THE SEED: the statements are not yours to turn. If you find one false, say at which input.
  Laid BY PROGRAM, IN A SANDBOX (cutbox-rows.mjs): the forced cells as the released guide's own fill.sh prints them over the translation ec1999b992f2d13f… (all of the seat's roots in one cut). By AI agents, Wed Nov 11 2026. No macro, syntax, notation, axiom, sorry.
-/
import Derived.Test.YtbpdgaolmikjbaaGreatChecked
import GoSem.Claim
import GoSem.ClaimJoined
import GoSem.ClaimMapViews
import Derived.JoinedTies
import Derived.KernelRfl
namespace Go.Proofs.YtbpdgaolmikjbaaGreat
/- THE CELL 'sum', in the pinned program and in every row, IS THE sha256 OF THE DUMP (.gsa) THAT YtbpdgaolmikjbaaGreatProg.lean LOADS. Nothing in Lean hashes anything: it is a label: what it is worth is what the hold of that sum in a sandbox is worth. -/
noncomputable def Tryz.pinned : Pinned := { name := "ytbpdgaolmikjbaagreat", sum := "ec1999b992f2d13f7157a09ab36b56df8619cf0f3979ed9bdf1ace64a6081a99", checked := Tryz.checked }
namespace Rows
def none {H : Type} : Left H := { results := [], args := [] }

/-- 'halfplanelaw59.InterchangeWrites': WHATEVER THE INPUT: true; the input reads as it did. -/
def interchangeWritesSpec : ChangeSpec := { name := "interchangeWrites", fn := fun _ => fun
  | [d] => { results := [.lit (.bool true)], args := [d] }
  | _ => none }
def interchangeWritesRow : OpenClaim := { program := "ytbpdgaolmikjbaagreat", sum := "ec1999b992f2d13f7157a09ab36b56df8619cf0f3979ed9bdf1ace64a6081a99", func := "halfplane/halfplanelaw59.InterchangeWrites", spec := "interchangeWrites", unfollowed := true, recurses := true, named := ["math/bits.overflowError"], loops := true, apart := false }
def InterchangeWritesSaid : Prop := interchangeWritesRow.holds Tryz.pinned (OpenSpec.ofChange interchangeWritesSpec)

/-- ITS FALSE NEIGHBOUR: 'it returns false'. Refute it at one input. -/
def interchangeWritesWrong : ChangeSpec := { name := "interchangeWrites", fn := fun _ => fun
  | [d] => { results := [.lit (.bool false)], args := [d] }
  | _ => none }
def InterchangeWritesWrongFalsely : Prop := interchangeWritesRow.holds Tryz.pinned (OpenSpec.ofChange interchangeWritesWrong)

/-- 'halfplanelaw59.InterchangeReads': WHATEVER THE INPUT: true; the input reads as it did. -/
def interchangeReadsSpec : ChangeSpec := { name := "interchangeReads", fn := fun _ => fun
  | [d] => { results := [.lit (.bool true)], args := [d] }
  | _ => none }
def interchangeReadsRow : OpenClaim := { program := "ytbpdgaolmikjbaagreat", sum := "ec1999b992f2d13f7157a09ab36b56df8619cf0f3979ed9bdf1ace64a6081a99", func := "halfplane/halfplanelaw59.InterchangeReads", spec := "interchangeReads", unfollowed := true, recurses := true, named := ["math/bits.overflowError"], apart := false }
def InterchangeReadsSaid : Prop := interchangeReadsRow.holds Tryz.pinned (OpenSpec.ofChange interchangeReadsSpec)

/-- ITS FALSE NEIGHBOUR: 'it returns false'. Refute it at one input. -/
def interchangeReadsWrong : ChangeSpec := { name := "interchangeReads", fn := fun _ => fun
  | [d] => { results := [.lit (.bool false)], args := [d] }
  | _ => none }
def InterchangeReadsWrongFalsely : Prop := interchangeReadsRow.holds Tryz.pinned (OpenSpec.ofChange interchangeReadsWrong)

/-- 'halfplanelaw59.InterchangeReturns': WHATEVER THE INPUT: true; the input reads as it did. -/
def interchangeReturnsSpec : ChangeSpec := { name := "interchangeReturns", fn := fun _ => fun
  | [d] => { results := [.lit (.bool true)], args := [d] }
  | _ => none }
def interchangeReturnsRow : OpenClaim := { program := "ytbpdgaolmikjbaagreat", sum := "ec1999b992f2d13f7157a09ab36b56df8619cf0f3979ed9bdf1ace64a6081a99", func := "halfplane/halfplanelaw59.InterchangeReturns", spec := "interchangeReturns", unfollowed := true, recurses := true, named := ["math/bits.overflowError"], loops := true, apart := false }
def InterchangeReturnsSaid : Prop := interchangeReturnsRow.holds Tryz.pinned (OpenSpec.ofChange interchangeReturnsSpec)

/-- ITS FALSE NEIGHBOUR: 'it returns false'. Refute it at one input. -/
def interchangeReturnsWrong : ChangeSpec := { name := "interchangeReturns", fn := fun _ => fun
  | [d] => { results := [.lit (.bool false)], args := [d] }
  | _ => none }
def InterchangeReturnsWrongFalsely : Prop := interchangeReturnsRow.holds Tryz.pinned (OpenSpec.ofChange interchangeReturnsWrong)

/-- 'halfplanelaw59.InterchangeOne': WHATEVER THE INPUT: true; the input reads as it did. -/
def interchangeOneSpec : ChangeSpec := { name := "interchangeOne", fn := fun _ => fun
  | [d] => { results := [.lit (.bool true)], args := [d] }
  | _ => none }
def interchangeOneRow : OpenClaim := { program := "ytbpdgaolmikjbaagreat", sum := "ec1999b992f2d13f7157a09ab36b56df8619cf0f3979ed9bdf1ace64a6081a99", func := "halfplane/halfplanelaw59.InterchangeOne", spec := "interchangeOne", unfollowed := true, recurses := true, named := ["math/bits.overflowError"], apart := false }
def InterchangeOneSaid : Prop := interchangeOneRow.holds Tryz.pinned (OpenSpec.ofChange interchangeOneSpec)

/-- ITS FALSE NEIGHBOUR: 'it returns false'. Refute it at one input. -/
def interchangeOneWrong : ChangeSpec := { name := "interchangeOne", fn := fun _ => fun
  | [d] => { results := [.lit (.bool false)], args := [d] }
  | _ => none }
def InterchangeOneWrongFalsely : Prop := interchangeOneRow.holds Tryz.pinned (OpenSpec.ofChange interchangeOneWrong)

/-- 'halfplanelaw59.InterchangeSpoilt': WHATEVER THE INPUT: true; the input reads as it did. -/
def interchangeSpoiltSpec : ChangeSpec := { name := "interchangeSpoilt", fn := fun _ => fun
  | [d1, d2, d3] => { results := [.lit (.bool true)], args := [d1, d2, d3] }
  | _ => none }
def interchangeSpoiltRow : OpenClaim := { program := "ytbpdgaolmikjbaagreat", sum := "ec1999b992f2d13f7157a09ab36b56df8619cf0f3979ed9bdf1ace64a6081a99", func := "halfplane/halfplanelaw59.InterchangeSpoilt", spec := "interchangeSpoilt", unfollowed := true, recurses := true, named := ["math/bits.overflowError"], loops := true, apart := false }
def InterchangeSpoiltSaid : Prop := interchangeSpoiltRow.holds Tryz.pinned (OpenSpec.ofChange interchangeSpoiltSpec)

/-- ITS FALSE NEIGHBOUR: 'it returns false'. Refute it at one input. -/
def interchangeSpoiltWrong : ChangeSpec := { name := "interchangeSpoilt", fn := fun _ => fun
  | [d1, d2, d3] => { results := [.lit (.bool false)], args := [d1, d2, d3] }
  | _ => none }
def InterchangeSpoiltWrongFalsely : Prop := interchangeSpoiltRow.holds Tryz.pinned (OpenSpec.ofChange interchangeSpoiltWrong)

/-- 'halfplanelaw59.InterchangeCanonical': WHATEVER THE INPUT: true; the input reads as it did. -/
def interchangeCanonicalSpec : ChangeSpec := { name := "interchangeCanonical", fn := fun _ => fun
  | [d] => { results := [.lit (.bool true)], args := [d] }
  | _ => none }
def interchangeCanonicalRow : OpenClaim := { program := "ytbpdgaolmikjbaagreat", sum := "ec1999b992f2d13f7157a09ab36b56df8619cf0f3979ed9bdf1ace64a6081a99", func := "halfplane/halfplanelaw59.InterchangeCanonical", spec := "interchangeCanonical", unfollowed := true, recurses := true, named := ["math/bits.overflowError"], loops := true, apart := false }
def InterchangeCanonicalSaid : Prop := interchangeCanonicalRow.holds Tryz.pinned (OpenSpec.ofChange interchangeCanonicalSpec)

/-- ITS FALSE NEIGHBOUR: 'it returns false'. Refute it at one input. -/
def interchangeCanonicalWrong : ChangeSpec := { name := "interchangeCanonical", fn := fun _ => fun
  | [d] => { results := [.lit (.bool false)], args := [d] }
  | _ => none }
def InterchangeCanonicalWrongFalsely : Prop := interchangeCanonicalRow.holds Tryz.pinned (OpenSpec.ofChange interchangeCanonicalWrong)

/-- 'halfplanelaw59.InterchangeLevels': WHATEVER THE INPUT: true; the input reads as it did. -/
def interchangeLevelsSpec : ChangeSpec := { name := "interchangeLevels", fn := fun _ => fun
  | [d1, d2] => { results := [.lit (.bool true)], args := [d1, d2] }
  | _ => none }
def interchangeLevelsRow : OpenClaim := { program := "ytbpdgaolmikjbaagreat", sum := "ec1999b992f2d13f7157a09ab36b56df8619cf0f3979ed9bdf1ace64a6081a99", func := "halfplane/halfplanelaw59.InterchangeLevels", spec := "interchangeLevels", unfollowed := true, recurses := true, named := ["math/bits.overflowError"], apart := false }
def InterchangeLevelsSaid : Prop := interchangeLevelsRow.holds Tryz.pinned (OpenSpec.ofChange interchangeLevelsSpec)

/-- ITS FALSE NEIGHBOUR: 'it returns false'. Refute it at one input. -/
def interchangeLevelsWrong : ChangeSpec := { name := "interchangeLevels", fn := fun _ => fun
  | [d1, d2] => { results := [.lit (.bool false)], args := [d1, d2] }
  | _ => none }
def InterchangeLevelsWrongFalsely : Prop := interchangeLevelsRow.holds Tryz.pinned (OpenSpec.ofChange interchangeLevelsWrong)

/- THE SECOND FORM. 'bulk': how many values and letters a reading holds, each counted each time it is reached (what is shared counts as often as it is met; a slice's spare places count too). A statement '..UptoSaid' is the law's where the arguments, and the package variables that the reading takes, are together of bulk at most 1048576: NARROWER than '..Said'. Prove '..Said' where nothing that the law and all that it calls make is longer than what came in: it says more and counts as full. Else prove '..UptoSaid'. A law counts once. -/
mutual
def uptoBulk {H : Type} : DataW H → Nat
  | .lit (.string bytes) => bytes.length + 1
  | .lit _ => 1
  | .nil => 1
  | .ptr d => uptoBulk d + 1
  | .slice elems spare => uptoBulkAll elems + uptoBulkAll spare + 1
  | .agg parts => uptoBulkAll parts + 1
  | .iface _ d => uptoBulk d + 1
  | .map entries => uptoBulkEntries entries + 1
  | .held _ => 1
def uptoBulkAll {H : Type} : List (DataW H) → Nat
  | [] => 0
  | d :: r => uptoBulk d + uptoBulkAll r
def uptoBulkEntries {H : Type} : List (Lit × DataW H) → Nat
  | [] => 0
  | x :: r => uptoBulkEntry x + uptoBulkEntries r
def uptoBulkEntry {H : Type} : Lit × DataW H → Nat
  | (.string bytes, d) => bytes.length + uptoBulk d + 1
  | (_, d) => uptoBulk d + 1
 end
def uptoSmall : (H : Type) → List (DataW H) → Bool := fun _ ds => decide (uptoBulkAll ds ≤ 1048576)
def OpenSpec.upto (s : _root_.Go.ChangeSpec) : _root_.Go.OpenSpec := { _root_.Go.OpenSpec.ofChange s with cond := some uptoSmall }

/-- 'halfplanelaw59.InterchangeWrites', WHERE WHAT IT READS IS OF BULK AT MOST 1048576: true; the input reads as it did. -/
def interchangeWritesUptoRow : OpenClaim := { program := "ytbpdgaolmikjbaagreat", sum := "ec1999b992f2d13f7157a09ab36b56df8619cf0f3979ed9bdf1ace64a6081a99", func := "halfplane/halfplanelaw59.InterchangeWrites", spec := "interchangeWrites", unfollowed := true, recurses := true, named := ["math/bits.overflowError"], loops := true, apart := false, narrowed := true }
def InterchangeWritesUptoSaid : Prop := interchangeWritesUptoRow.holds Tryz.pinned (OpenSpec.upto interchangeWritesSpec)

/-- 'halfplanelaw59.InterchangeReads', WHERE WHAT IT READS IS OF BULK AT MOST 1048576: true; the input reads as it did. -/
def interchangeReadsUptoRow : OpenClaim := { program := "ytbpdgaolmikjbaagreat", sum := "ec1999b992f2d13f7157a09ab36b56df8619cf0f3979ed9bdf1ace64a6081a99", func := "halfplane/halfplanelaw59.InterchangeReads", spec := "interchangeReads", unfollowed := true, recurses := true, named := ["math/bits.overflowError"], apart := false, narrowed := true }
def InterchangeReadsUptoSaid : Prop := interchangeReadsUptoRow.holds Tryz.pinned (OpenSpec.upto interchangeReadsSpec)

/-- 'halfplanelaw59.InterchangeReturns', WHERE WHAT IT READS IS OF BULK AT MOST 1048576: true; the input reads as it did. -/
def interchangeReturnsUptoRow : OpenClaim := { program := "ytbpdgaolmikjbaagreat", sum := "ec1999b992f2d13f7157a09ab36b56df8619cf0f3979ed9bdf1ace64a6081a99", func := "halfplane/halfplanelaw59.InterchangeReturns", spec := "interchangeReturns", unfollowed := true, recurses := true, named := ["math/bits.overflowError"], loops := true, apart := false, narrowed := true }
def InterchangeReturnsUptoSaid : Prop := interchangeReturnsUptoRow.holds Tryz.pinned (OpenSpec.upto interchangeReturnsSpec)

/-- 'halfplanelaw59.InterchangeOne', WHERE WHAT IT READS IS OF BULK AT MOST 1048576: true; the input reads as it did. -/
def interchangeOneUptoRow : OpenClaim := { program := "ytbpdgaolmikjbaagreat", sum := "ec1999b992f2d13f7157a09ab36b56df8619cf0f3979ed9bdf1ace64a6081a99", func := "halfplane/halfplanelaw59.InterchangeOne", spec := "interchangeOne", unfollowed := true, recurses := true, named := ["math/bits.overflowError"], apart := false, narrowed := true }
def InterchangeOneUptoSaid : Prop := interchangeOneUptoRow.holds Tryz.pinned (OpenSpec.upto interchangeOneSpec)

/-- 'halfplanelaw59.InterchangeSpoilt', WHERE WHAT IT READS IS OF BULK AT MOST 1048576: true; the input reads as it did. -/
def interchangeSpoiltUptoRow : OpenClaim := { program := "ytbpdgaolmikjbaagreat", sum := "ec1999b992f2d13f7157a09ab36b56df8619cf0f3979ed9bdf1ace64a6081a99", func := "halfplane/halfplanelaw59.InterchangeSpoilt", spec := "interchangeSpoilt", unfollowed := true, recurses := true, named := ["math/bits.overflowError"], loops := true, apart := false, narrowed := true }
def InterchangeSpoiltUptoSaid : Prop := interchangeSpoiltUptoRow.holds Tryz.pinned (OpenSpec.upto interchangeSpoiltSpec)

/-- 'halfplanelaw59.InterchangeCanonical', WHERE WHAT IT READS IS OF BULK AT MOST 1048576: true; the input reads as it did. -/
def interchangeCanonicalUptoRow : OpenClaim := { program := "ytbpdgaolmikjbaagreat", sum := "ec1999b992f2d13f7157a09ab36b56df8619cf0f3979ed9bdf1ace64a6081a99", func := "halfplane/halfplanelaw59.InterchangeCanonical", spec := "interchangeCanonical", unfollowed := true, recurses := true, named := ["math/bits.overflowError"], loops := true, apart := false, narrowed := true }
def InterchangeCanonicalUptoSaid : Prop := interchangeCanonicalUptoRow.holds Tryz.pinned (OpenSpec.upto interchangeCanonicalSpec)

/-- 'halfplanelaw59.InterchangeLevels', WHERE WHAT IT READS IS OF BULK AT MOST 1048576: true; the input reads as it did. -/
def interchangeLevelsUptoRow : OpenClaim := { program := "ytbpdgaolmikjbaagreat", sum := "ec1999b992f2d13f7157a09ab36b56df8619cf0f3979ed9bdf1ace64a6081a99", func := "halfplane/halfplanelaw59.InterchangeLevels", spec := "interchangeLevels", unfollowed := true, recurses := true, named := ["math/bits.overflowError"], apart := false, narrowed := true }
def InterchangeLevelsUptoSaid : Prop := interchangeLevelsUptoRow.holds Tryz.pinned (OpenSpec.upto interchangeLevelsSpec)

end Rows
end Go.Proofs.YtbpdgaolmikjbaaGreat
