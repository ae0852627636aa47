/-
  No cell of these rows narrows 'for every input' (looked for: loops, veiled, ifaces, maps, wideKeys, modest, calm, conditions, laid).
  DERIVED. THE GIVEN ROWS OF THIS SEAT. 6 by the template 'for every input the law returns true; each argument reads behind the call as it read before'; 0 by the template 'total and deterministic' (their statements: YtmcfohngblbpbaaTotals.lean).
  GIVEN WITH THE SEED: the statements are not yours to turn. If you find one false, say at which input.
  Laid BY PROGRAM, IN A SANDBOX (cutbox-rows.mjs): the forced cells as the released guide's own fill.sh prints them over the translation 27a471fbf8730dd8… (all of the seat's roots in one cut). By AI agents, Wed Nov 11 2026. No macro, syntax, notation, axiom, sorry.
-/
import Derived.Test.YtmcfohngblbpbaaChecked
import GoSem.Claim
import GoSem.ClaimJoined
import GoSem.ClaimMapViews
import Derived.JoinedTies
import Derived.KernelRfl
namespace Go.Proofs.Ytmcfohngblbpbaa
/- THE CELL 'sum', in the pinned program and in every row, IS THE sha256 OF THE DUMP (.gsa) THAT YtmcfohngblbpbaaProg.lean LOADS. Nothing in Lean hashes anything: it is a label: what it is worth is what the hold of that sum in a sandbox is worth. -/
noncomputable def Try.pinned : Pinned := { name := "ytmcfohngblbpbaa", sum := "27a471fbf8730dd8f4dfbb15a46c04c2bc9d5ef3d56b0d8b11ee218ea8eef3c8", checked := Try.checked }
namespace Rows
def none {H : Type} : Left H := { results := [], args := [] }

/-- 'halfplanelaw33.SeriesRing': WHATEVER THE INPUT: true; the input reads as it did. -/
def seriesRingSpec : ChangeSpec := { name := "seriesRing", fn := fun _ => fun
  | [d1, d2, d3] => { results := [.lit (.bool true)], args := [d1, d2, d3] }
  | _ => none }
def seriesRingRow : OpenClaim := { program := "ytmcfohngblbpbaa", sum := "27a471fbf8730dd8f4dfbb15a46c04c2bc9d5ef3d56b0d8b11ee218ea8eef3c8", func := "halfplane/halfplanelaw33.SeriesRing", spec := "seriesRing", named := ["math/bits.overflowError"], apart := false }
def SeriesRingSaid : Prop := seriesRingRow.holds Try.pinned (OpenSpec.ofChange seriesRingSpec)

/-- ITS FALSE NEIGHBOUR: 'it returns false'. Refute it at one input. -/
def seriesRingWrong : ChangeSpec := { name := "seriesRing", fn := fun _ => fun
  | [d1, d2, d3] => { results := [.lit (.bool false)], args := [d1, d2, d3] }
  | _ => none }
def SeriesRingWrongFalsely : Prop := seriesRingRow.holds Try.pinned (OpenSpec.ofChange seriesRingWrong)

/-- 'halfplanelaw33.SeriesMakes': WHATEVER THE INPUT: true; the input reads as it did. -/
def seriesMakesSpec : ChangeSpec := { name := "seriesMakes", fn := fun _ => fun
  | [d1, d2, d3] => { results := [.lit (.bool true)], args := [d1, d2, d3] }
  | _ => none }
def seriesMakesRow : OpenClaim := { program := "ytmcfohngblbpbaa", sum := "27a471fbf8730dd8f4dfbb15a46c04c2bc9d5ef3d56b0d8b11ee218ea8eef3c8", func := "halfplane/halfplanelaw33.SeriesMakes", spec := "seriesMakes", named := ["math/bits.overflowError"], apart := false }
def SeriesMakesSaid : Prop := seriesMakesRow.holds Try.pinned (OpenSpec.ofChange seriesMakesSpec)

/-- ITS FALSE NEIGHBOUR: 'it returns false'. Refute it at one input. -/
def seriesMakesWrong : ChangeSpec := { name := "seriesMakes", fn := fun _ => fun
  | [d1, d2, d3] => { results := [.lit (.bool false)], args := [d1, d2, d3] }
  | _ => none }
def SeriesMakesWrongFalsely : Prop := seriesMakesRow.holds Try.pinned (OpenSpec.ofChange seriesMakesWrong)

/-- 'halfplanelaw33.SeriesLeibniz': WHATEVER THE INPUT: true; the input reads as it did. -/
def seriesLeibnizSpec : ChangeSpec := { name := "seriesLeibniz", fn := fun _ => fun
  | [d1, d2] => { results := [.lit (.bool true)], args := [d1, d2] }
  | _ => none }
def seriesLeibnizRow : OpenClaim := { program := "ytmcfohngblbpbaa", sum := "27a471fbf8730dd8f4dfbb15a46c04c2bc9d5ef3d56b0d8b11ee218ea8eef3c8", func := "halfplane/halfplanelaw33.SeriesLeibniz", spec := "seriesLeibniz", named := ["math/bits.overflowError"], apart := false }
def SeriesLeibnizSaid : Prop := seriesLeibnizRow.holds Try.pinned (OpenSpec.ofChange seriesLeibnizSpec)

/-- ITS FALSE NEIGHBOUR: 'it returns false'. Refute it at one input. -/
def seriesLeibnizWrong : ChangeSpec := { name := "seriesLeibniz", fn := fun _ => fun
  | [d1, d2] => { results := [.lit (.bool false)], args := [d1, d2] }
  | _ => none }
def SeriesLeibnizWrongFalsely : Prop := seriesLeibnizRow.holds Try.pinned (OpenSpec.ofChange seriesLeibnizWrong)

/-- 'halfplanelaw33.SeriesPrecision': WHATEVER THE INPUT: true; the input reads as it did. -/
def seriesPrecisionSpec : ChangeSpec := { name := "seriesPrecision", fn := fun _ => fun
  | [d] => { results := [.lit (.bool true)], args := [d] }
  | _ => none }
def seriesPrecisionRow : OpenClaim := { program := "ytmcfohngblbpbaa", sum := "27a471fbf8730dd8f4dfbb15a46c04c2bc9d5ef3d56b0d8b11ee218ea8eef3c8", func := "halfplane/halfplanelaw33.SeriesPrecision", spec := "seriesPrecision", named := ["math/bits.overflowError"], apart := false }
def SeriesPrecisionSaid : Prop := seriesPrecisionRow.holds Try.pinned (OpenSpec.ofChange seriesPrecisionSpec)

/-- ITS FALSE NEIGHBOUR: 'it returns false'. Refute it at one input. -/
def seriesPrecisionWrong : ChangeSpec := { name := "seriesPrecision", fn := fun _ => fun
  | [d] => { results := [.lit (.bool false)], args := [d] }
  | _ => none }
def SeriesPrecisionWrongFalsely : Prop := seriesPrecisionRow.holds Try.pinned (OpenSpec.ofChange seriesPrecisionWrong)

/-- 'halfplanelaw33.SeriesField': WHATEVER THE INPUT: true; the input reads as it did. -/
def seriesFieldSpec : ChangeSpec := { name := "seriesField", fn := fun _ => fun
  | [d1, d2, d3] => { results := [.lit (.bool true)], args := [d1, d2, d3] }
  | _ => none }
def seriesFieldRow : OpenClaim := { program := "ytmcfohngblbpbaa", sum := "27a471fbf8730dd8f4dfbb15a46c04c2bc9d5ef3d56b0d8b11ee218ea8eef3c8", func := "halfplane/halfplanelaw33.SeriesField", spec := "seriesField", named := ["math/bits.overflowError"], apart := false }
def SeriesFieldSaid : Prop := seriesFieldRow.holds Try.pinned (OpenSpec.ofChange seriesFieldSpec)

/-- ITS FALSE NEIGHBOUR: 'it returns false'. Refute it at one input. -/
def seriesFieldWrong : ChangeSpec := { name := "seriesField", fn := fun _ => fun
  | [d1, d2, d3] => { results := [.lit (.bool false)], args := [d1, d2, d3] }
  | _ => none }
def SeriesFieldWrongFalsely : Prop := seriesFieldRow.holds Try.pinned (OpenSpec.ofChange seriesFieldWrong)

/-- 'halfplanelaw33.SeriesSplits': WHATEVER THE INPUT: true; the input reads as it did. -/
def seriesSplitsSpec : ChangeSpec := { name := "seriesSplits", fn := fun _ => fun
  | [d1, d2, d3] => { results := [.lit (.bool true)], args := [d1, d2, d3] }
  | _ => none }
def seriesSplitsRow : OpenClaim := { program := "ytmcfohngblbpbaa", sum := "27a471fbf8730dd8f4dfbb15a46c04c2bc9d5ef3d56b0d8b11ee218ea8eef3c8", func := "halfplane/halfplanelaw33.SeriesSplits", spec := "seriesSplits", named := ["math/bits.overflowError"], apart := false }
def SeriesSplitsSaid : Prop := seriesSplitsRow.holds Try.pinned (OpenSpec.ofChange seriesSplitsSpec)

/-- ITS FALSE NEIGHBOUR: 'it returns false'. Refute it at one input. -/
def seriesSplitsWrong : ChangeSpec := { name := "seriesSplits", fn := fun _ => fun
  | [d1, d2, d3] => { results := [.lit (.bool false)], args := [d1, d2, d3] }
  | _ => none }
def SeriesSplitsWrongFalsely : Prop := seriesSplitsRow.holds Try.pinned (OpenSpec.ofChange seriesSplitsWrong)

/- THE SECOND FORM. 'bulk': how many values and letters a reading holds, each counted each time it is reached (what is shared counts as often as it is met; a slice's spare places count too). A statement '..UptoSaid' is the law's where the arguments, and the package variables that the reading takes, are together of bulk at most 1048576: NARROWER than '..Said'. Prove '..Said' where nothing that the law and all that it calls make is longer than what came in: it says more and counts as full. Else prove '..UptoSaid'. A law counts once. -/
mutual
def uptoBulk {H : Type} : DataW H → Nat
  | .lit (.string bytes) => bytes.length + 1
  | .lit _ => 1
  | .nil => 1
  | .ptr d => uptoBulk d + 1
  | .slice elems spare => uptoBulkAll elems + uptoBulkAll spare + 1
  | .agg parts => uptoBulkAll parts + 1
  | .iface _ d => uptoBulk d + 1
  | .map entries => uptoBulkEntries entries + 1
  | .held _ => 1
def uptoBulkAll {H : Type} : List (DataW H) → Nat
  | [] => 0
  | d :: r => uptoBulk d + uptoBulkAll r
def uptoBulkEntries {H : Type} : List (Lit × DataW H) → Nat
  | [] => 0
  | x :: r => uptoBulkEntry x + uptoBulkEntries r
def uptoBulkEntry {H : Type} : Lit × DataW H → Nat
  | (.string bytes, d) => bytes.length + uptoBulk d + 1
  | (_, d) => uptoBulk d + 1
 end
def uptoSmall : (H : Type) → List (DataW H) → Bool := fun _ ds => decide (uptoBulkAll ds ≤ 1048576)
def OpenSpec.upto (s : _root_.Go.ChangeSpec) : _root_.Go.OpenSpec := { _root_.Go.OpenSpec.ofChange s with cond := some uptoSmall }

/-- 'halfplanelaw33.SeriesRing', WHERE WHAT IT READS IS OF BULK AT MOST 1048576: true; the input reads as it did. -/
def seriesRingUptoRow : OpenClaim := { program := "ytmcfohngblbpbaa", sum := "27a471fbf8730dd8f4dfbb15a46c04c2bc9d5ef3d56b0d8b11ee218ea8eef3c8", func := "halfplane/halfplanelaw33.SeriesRing", spec := "seriesRing", named := ["math/bits.overflowError"], apart := false, narrowed := true }
def SeriesRingUptoSaid : Prop := seriesRingUptoRow.holds Try.pinned (OpenSpec.upto seriesRingSpec)

/-- 'halfplanelaw33.SeriesMakes', WHERE WHAT IT READS IS OF BULK AT MOST 1048576: true; the input reads as it did. -/
def seriesMakesUptoRow : OpenClaim := { program := "ytmcfohngblbpbaa", sum := "27a471fbf8730dd8f4dfbb15a46c04c2bc9d5ef3d56b0d8b11ee218ea8eef3c8", func := "halfplane/halfplanelaw33.SeriesMakes", spec := "seriesMakes", named := ["math/bits.overflowError"], apart := false, narrowed := true }
def SeriesMakesUptoSaid : Prop := seriesMakesUptoRow.holds Try.pinned (OpenSpec.upto seriesMakesSpec)

/-- 'halfplanelaw33.SeriesLeibniz', WHERE WHAT IT READS IS OF BULK AT MOST 1048576: true; the input reads as it did. -/
def seriesLeibnizUptoRow : OpenClaim := { program := "ytmcfohngblbpbaa", sum := "27a471fbf8730dd8f4dfbb15a46c04c2bc9d5ef3d56b0d8b11ee218ea8eef3c8", func := "halfplane/halfplanelaw33.SeriesLeibniz", spec := "seriesLeibniz", named := ["math/bits.overflowError"], apart := false, narrowed := true }
def SeriesLeibnizUptoSaid : Prop := seriesLeibnizUptoRow.holds Try.pinned (OpenSpec.upto seriesLeibnizSpec)

/-- 'halfplanelaw33.SeriesPrecision', WHERE WHAT IT READS IS OF BULK AT MOST 1048576: true; the input reads as it did. -/
def seriesPrecisionUptoRow : OpenClaim := { program := "ytmcfohngblbpbaa", sum := "27a471fbf8730dd8f4dfbb15a46c04c2bc9d5ef3d56b0d8b11ee218ea8eef3c8", func := "halfplane/halfplanelaw33.SeriesPrecision", spec := "seriesPrecision", named := ["math/bits.overflowError"], apart := false, narrowed := true }
def SeriesPrecisionUptoSaid : Prop := seriesPrecisionUptoRow.holds Try.pinned (OpenSpec.upto seriesPrecisionSpec)

/-- 'halfplanelaw33.SeriesField', WHERE WHAT IT READS IS OF BULK AT MOST 1048576: true; the input reads as it did. -/
def seriesFieldUptoRow : OpenClaim := { program := "ytmcfohngblbpbaa", sum := "27a471fbf8730dd8f4dfbb15a46c04c2bc9d5ef3d56b0d8b11ee218ea8eef3c8", func := "halfplane/halfplanelaw33.SeriesField", spec := "seriesField", named := ["math/bits.overflowError"], apart := false, narrowed := true }
def SeriesFieldUptoSaid : Prop := seriesFieldUptoRow.holds Try.pinned (OpenSpec.upto seriesFieldSpec)

/-- 'halfplanelaw33.SeriesSplits', WHERE WHAT IT READS IS OF BULK AT MOST 1048576: true; the input reads as it did. -/
def seriesSplitsUptoRow : OpenClaim := { program := "ytmcfohngblbpbaa", sum := "27a471fbf8730dd8f4dfbb15a46c04c2bc9d5ef3d56b0d8b11ee218ea8eef3c8", func := "halfplane/halfplanelaw33.SeriesSplits", spec := "seriesSplits", named := ["math/bits.overflowError"], apart := false, narrowed := true }
def SeriesSplitsUptoSaid : Prop := seriesSplitsUptoRow.holds Try.pinned (OpenSpec.upto seriesSplitsSpec)

end Rows
end Go.Proofs.Ytmcfohngblbpbaa
