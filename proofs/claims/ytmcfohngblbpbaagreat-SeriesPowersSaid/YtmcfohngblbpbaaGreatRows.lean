/-
  No cell of these rows narrows 'for every input' (looked for: loops, veiled, ifaces, maps, wideKeys, modest, calm, conditions, laid).
  DERIVED. THE GIVEN ROWS OF THIS SEAT. 6 by the template 'for every input the law returns true; each argument reads behind the call as it read before'; 0 by the template 'total and deterministic' (their statements: YtmcfohngblbpbaaGreatTotals.lean).
  GIVEN WITH THE SEED: the statements are not yours to turn. If you find one false, say at which input.
  Laid BY PROGRAM, IN A SANDBOX (cutbox-rows.mjs): the forced cells as the released guide's own fill.sh prints them over the translation e4d01cb51f5f7f62… (all of the seat's roots in one cut). By AI agents, Wed Nov 11 2026. No macro, syntax, notation, axiom, sorry.
-/
import Derived.Test.YtmcfohngblbpbaaGreatChecked
import GoSem.Claim
import GoSem.ClaimJoined
import GoSem.ClaimMapViews
import Derived.JoinedTies
import Derived.KernelRfl
namespace Go.Proofs.YtmcfohngblbpbaaGreat
/- THE CELL 'sum', in the pinned program and in every row, IS THE sha256 OF THE DUMP (.gsa) THAT YtmcfohngblbpbaaGreatProg.lean LOADS. Nothing in Lean hashes anything: it is a label: what it is worth is what the hold of that sum in a sandbox is worth. -/
noncomputable def Tryz.pinned : Pinned := { name := "ytmcfohngblbpbaagreat", sum := "e4d01cb51f5f7f62fd800ace11d72344a85d885bd87d610e124a16d2d5e3d1ea", checked := Tryz.checked }
namespace Rows
def none {H : Type} : Left H := { results := [], args := [] }

/-- 'halfplanelaw33.SeriesProducts': WHATEVER THE INPUT: true; the input reads as it did. -/
def seriesProductsSpec : ChangeSpec := { name := "seriesProducts", fn := fun _ => fun
  | [d1, d2] => { results := [.lit (.bool true)], args := [d1, d2] }
  | _ => none }
def seriesProductsRow : OpenClaim := { program := "ytmcfohngblbpbaagreat", sum := "e4d01cb51f5f7f62fd800ace11d72344a85d885bd87d610e124a16d2d5e3d1ea", func := "halfplane/halfplanelaw33.SeriesProducts", spec := "seriesProducts", named := ["math/bits.overflowError"], apart := false }
def SeriesProductsSaid : Prop := seriesProductsRow.holds Tryz.pinned (OpenSpec.ofChange seriesProductsSpec)

/-- ITS FALSE NEIGHBOUR: 'it returns false'. Refute it at one input. -/
def seriesProductsWrong : ChangeSpec := { name := "seriesProducts", fn := fun _ => fun
  | [d1, d2] => { results := [.lit (.bool false)], args := [d1, d2] }
  | _ => none }
def SeriesProductsWrongFalsely : Prop := seriesProductsRow.holds Tryz.pinned (OpenSpec.ofChange seriesProductsWrong)

/-- 'halfplanelaw33.SeriesSums': WHATEVER THE INPUT: true; the input reads as it did. -/
def seriesSumsSpec : ChangeSpec := { name := "seriesSums", fn := fun _ => fun
  | [d1, d2] => { results := [.lit (.bool true)], args := [d1, d2] }
  | _ => none }
def seriesSumsRow : OpenClaim := { program := "ytmcfohngblbpbaagreat", sum := "e4d01cb51f5f7f62fd800ace11d72344a85d885bd87d610e124a16d2d5e3d1ea", func := "halfplane/halfplanelaw33.SeriesSums", spec := "seriesSums", named := ["math/bits.overflowError"], apart := false }
def SeriesSumsSaid : Prop := seriesSumsRow.holds Tryz.pinned (OpenSpec.ofChange seriesSumsSpec)

/-- ITS FALSE NEIGHBOUR: 'it returns false'. Refute it at one input. -/
def seriesSumsWrong : ChangeSpec := { name := "seriesSums", fn := fun _ => fun
  | [d1, d2] => { results := [.lit (.bool false)], args := [d1, d2] }
  | _ => none }
def SeriesSumsWrongFalsely : Prop := seriesSumsRow.holds Tryz.pinned (OpenSpec.ofChange seriesSumsWrong)

/-- 'halfplanelaw33.SeriesOwn': WHATEVER THE INPUT: true; the input reads as it did. -/
def seriesOwnSpec : ChangeSpec := { name := "seriesOwn", fn := fun _ => fun
  | [d1, d2] => { results := [.lit (.bool true)], args := [d1, d2] }
  | _ => none }
def seriesOwnRow : OpenClaim := { program := "ytmcfohngblbpbaagreat", sum := "e4d01cb51f5f7f62fd800ace11d72344a85d885bd87d610e124a16d2d5e3d1ea", func := "halfplane/halfplanelaw33.SeriesOwn", spec := "seriesOwn", named := ["math/bits.overflowError"], apart := false }
def SeriesOwnSaid : Prop := seriesOwnRow.holds Tryz.pinned (OpenSpec.ofChange seriesOwnSpec)

/-- ITS FALSE NEIGHBOUR: 'it returns false'. Refute it at one input. -/
def seriesOwnWrong : ChangeSpec := { name := "seriesOwn", fn := fun _ => fun
  | [d1, d2] => { results := [.lit (.bool false)], args := [d1, d2] }
  | _ => none }
def SeriesOwnWrongFalsely : Prop := seriesOwnRow.holds Tryz.pinned (OpenSpec.ofChange seriesOwnWrong)

/-- 'halfplanelaw33.SeriesPowers': WHATEVER THE INPUT: true; the input reads as it did. -/
def seriesPowersSpec : ChangeSpec := { name := "seriesPowers", fn := fun _ => fun
  | [d1, d2] => { results := [.lit (.bool true)], args := [d1, d2] }
  | _ => none }
def seriesPowersRow : OpenClaim := { program := "ytmcfohngblbpbaagreat", sum := "e4d01cb51f5f7f62fd800ace11d72344a85d885bd87d610e124a16d2d5e3d1ea", func := "halfplane/halfplanelaw33.SeriesPowers", spec := "seriesPowers", named := ["math/bits.overflowError"], apart := false }
def SeriesPowersSaid : Prop := seriesPowersRow.holds Tryz.pinned (OpenSpec.ofChange seriesPowersSpec)

/-- ITS FALSE NEIGHBOUR: 'it returns false'. Refute it at one input. -/
def seriesPowersWrong : ChangeSpec := { name := "seriesPowers", fn := fun _ => fun
  | [d1, d2] => { results := [.lit (.bool false)], args := [d1, d2] }
  | _ => none }
def SeriesPowersWrongFalsely : Prop := seriesPowersRow.holds Tryz.pinned (OpenSpec.ofChange seriesPowersWrong)

/-- 'halfplanelaw33.SeriesExponents': WHATEVER THE INPUT: true; the input reads as it did. -/
def seriesExponentsSpec : ChangeSpec := { name := "seriesExponents", fn := fun _ => fun
  | [d1, d2, d3] => { results := [.lit (.bool true)], args := [d1, d2, d3] }
  | _ => none }
def seriesExponentsRow : OpenClaim := { program := "ytmcfohngblbpbaagreat", sum := "e4d01cb51f5f7f62fd800ace11d72344a85d885bd87d610e124a16d2d5e3d1ea", func := "halfplane/halfplanelaw33.SeriesExponents", spec := "seriesExponents", named := ["math/bits.overflowError"], apart := false }
def SeriesExponentsSaid : Prop := seriesExponentsRow.holds Tryz.pinned (OpenSpec.ofChange seriesExponentsSpec)

/-- ITS FALSE NEIGHBOUR: 'it returns false'. Refute it at one input. -/
def seriesExponentsWrong : ChangeSpec := { name := "seriesExponents", fn := fun _ => fun
  | [d1, d2, d3] => { results := [.lit (.bool false)], args := [d1, d2, d3] }
  | _ => none }
def SeriesExponentsWrongFalsely : Prop := seriesExponentsRow.holds Tryz.pinned (OpenSpec.ofChange seriesExponentsWrong)

/-- 'halfplanelaw33.SeriesEuler': WHATEVER THE INPUT: true; the input reads as it did. -/
def seriesEulerSpec : ChangeSpec := { name := "seriesEuler", fn := fun _ => fun
  | [d] => { results := [.lit (.bool true)], args := [d] }
  | _ => none }
def seriesEulerRow : OpenClaim := { program := "ytmcfohngblbpbaagreat", sum := "e4d01cb51f5f7f62fd800ace11d72344a85d885bd87d610e124a16d2d5e3d1ea", func := "halfplane/halfplanelaw33.SeriesEuler", spec := "seriesEuler", named := ["math/bits.overflowError"], apart := false }
def SeriesEulerSaid : Prop := seriesEulerRow.holds Tryz.pinned (OpenSpec.ofChange seriesEulerSpec)

/-- ITS FALSE NEIGHBOUR: 'it returns false'. Refute it at one input. -/
def seriesEulerWrong : ChangeSpec := { name := "seriesEuler", fn := fun _ => fun
  | [d] => { results := [.lit (.bool false)], args := [d] }
  | _ => none }
def SeriesEulerWrongFalsely : Prop := seriesEulerRow.holds Tryz.pinned (OpenSpec.ofChange seriesEulerWrong)

/- THE SECOND FORM. 'bulk': how many values and letters a reading holds, each counted each time it is reached (what is shared counts as often as it is met; a slice's spare places count too). A statement '..UptoSaid' is the law's where the arguments, and the package variables that the reading takes, are together of bulk at most 1048576: NARROWER than '..Said'. Prove '..Said' where nothing that the law and all that it calls make is longer than what came in: it says more and counts as full. Else prove '..UptoSaid'. A law counts once. -/
mutual
def uptoBulk {H : Type} : DataW H → Nat
  | .lit (.string bytes) => bytes.length + 1
  | .lit _ => 1
  | .nil => 1
  | .ptr d => uptoBulk d + 1
  | .slice elems spare => uptoBulkAll elems + uptoBulkAll spare + 1
  | .agg parts => uptoBulkAll parts + 1
  | .iface _ d => uptoBulk d + 1
  | .map entries => uptoBulkEntries entries + 1
  | .held _ => 1
def uptoBulkAll {H : Type} : List (DataW H) → Nat
  | [] => 0
  | d :: r => uptoBulk d + uptoBulkAll r
def uptoBulkEntries {H : Type} : List (Lit × DataW H) → Nat
  | [] => 0
  | x :: r => uptoBulkEntry x + uptoBulkEntries r
def uptoBulkEntry {H : Type} : Lit × DataW H → Nat
  | (.string bytes, d) => bytes.length + uptoBulk d + 1
  | (_, d) => uptoBulk d + 1
 end
def uptoSmall : (H : Type) → List (DataW H) → Bool := fun _ ds => decide (uptoBulkAll ds ≤ 1048576)
def OpenSpec.upto (s : _root_.Go.ChangeSpec) : _root_.Go.OpenSpec := { _root_.Go.OpenSpec.ofChange s with cond := some uptoSmall }

/-- 'halfplanelaw33.SeriesProducts', WHERE WHAT IT READS IS OF BULK AT MOST 1048576: true; the input reads as it did. -/
def seriesProductsUptoRow : OpenClaim := { program := "ytmcfohngblbpbaagreat", sum := "e4d01cb51f5f7f62fd800ace11d72344a85d885bd87d610e124a16d2d5e3d1ea", func := "halfplane/halfplanelaw33.SeriesProducts", spec := "seriesProducts", named := ["math/bits.overflowError"], apart := false, narrowed := true }
def SeriesProductsUptoSaid : Prop := seriesProductsUptoRow.holds Tryz.pinned (OpenSpec.upto seriesProductsSpec)

/-- 'halfplanelaw33.SeriesSums', WHERE WHAT IT READS IS OF BULK AT MOST 1048576: true; the input reads as it did. -/
def seriesSumsUptoRow : OpenClaim := { program := "ytmcfohngblbpbaagreat", sum := "e4d01cb51f5f7f62fd800ace11d72344a85d885bd87d610e124a16d2d5e3d1ea", func := "halfplane/halfplanelaw33.SeriesSums", spec := "seriesSums", named := ["math/bits.overflowError"], apart := false, narrowed := true }
def SeriesSumsUptoSaid : Prop := seriesSumsUptoRow.holds Tryz.pinned (OpenSpec.upto seriesSumsSpec)

/-- 'halfplanelaw33.SeriesOwn', WHERE WHAT IT READS IS OF BULK AT MOST 1048576: true; the input reads as it did. -/
def seriesOwnUptoRow : OpenClaim := { program := "ytmcfohngblbpbaagreat", sum := "e4d01cb51f5f7f62fd800ace11d72344a85d885bd87d610e124a16d2d5e3d1ea", func := "halfplane/halfplanelaw33.SeriesOwn", spec := "seriesOwn", named := ["math/bits.overflowError"], apart := false, narrowed := true }
def SeriesOwnUptoSaid : Prop := seriesOwnUptoRow.holds Tryz.pinned (OpenSpec.upto seriesOwnSpec)

/-- 'halfplanelaw33.SeriesPowers', WHERE WHAT IT READS IS OF BULK AT MOST 1048576: true; the input reads as it did. -/
def seriesPowersUptoRow : OpenClaim := { program := "ytmcfohngblbpbaagreat", sum := "e4d01cb51f5f7f62fd800ace11d72344a85d885bd87d610e124a16d2d5e3d1ea", func := "halfplane/halfplanelaw33.SeriesPowers", spec := "seriesPowers", named := ["math/bits.overflowError"], apart := false, narrowed := true }
def SeriesPowersUptoSaid : Prop := seriesPowersUptoRow.holds Tryz.pinned (OpenSpec.upto seriesPowersSpec)

/-- 'halfplanelaw33.SeriesExponents', WHERE WHAT IT READS IS OF BULK AT MOST 1048576: true; the input reads as it did. -/
def seriesExponentsUptoRow : OpenClaim := { program := "ytmcfohngblbpbaagreat", sum := "e4d01cb51f5f7f62fd800ace11d72344a85d885bd87d610e124a16d2d5e3d1ea", func := "halfplane/halfplanelaw33.SeriesExponents", spec := "seriesExponents", named := ["math/bits.overflowError"], apart := false, narrowed := true }
def SeriesExponentsUptoSaid : Prop := seriesExponentsUptoRow.holds Tryz.pinned (OpenSpec.upto seriesExponentsSpec)

/-- 'halfplanelaw33.SeriesEuler', WHERE WHAT IT READS IS OF BULK AT MOST 1048576: true; the input reads as it did. -/
def seriesEulerUptoRow : OpenClaim := { program := "ytmcfohngblbpbaagreat", sum := "e4d01cb51f5f7f62fd800ace11d72344a85d885bd87d610e124a16d2d5e3d1ea", func := "halfplane/halfplanelaw33.SeriesEuler", spec := "seriesEuler", named := ["math/bits.overflowError"], apart := false, narrowed := true }
def SeriesEulerUptoSaid : Prop := seriesEulerUptoRow.holds Tryz.pinned (OpenSpec.upto seriesEulerSpec)

end Rows
end Go.Proofs.YtmcfohngblbpbaaGreat
