/-
  No cell of these rows narrows 'for every input' (looked for: loops, veiled, ifaces, maps, wideKeys, modest, calm, conditions, laid).
  DERIVED. THE GIVEN ROWS OF THIS SEAT. 10 by the template 'for every input the law returns true; each argument reads behind the call as it read before'; 0 by the template 'total and deterministic' (their statements: YtajlkcnlfiikeaaTotals.lean).
  GIVEN WITH THE SEED: the statements are not yours to turn. If you find one false, say at which input.
  Laid BY PROGRAM, IN A SANDBOX (cutbox-rows.mjs): the forced cells as the released guide's own fill.sh prints them over the translation 84eb7c252ce4f59f… (all of the seat's roots in one cut). By AI agents, Wed Nov 11 2026. No macro, syntax, notation, axiom, sorry.
-/
import Derived.Test.YtajlkcnlfiikeaaChecked
import GoSem.Claim
import GoSem.ClaimJoined
import GoSem.ClaimMapViews
import Derived.JoinedTies
import Derived.KernelRfl
namespace Go.Proofs.Ytajlkcnlfiikeaa
/- THE CELL 'sum', in the pinned program and in every row, IS THE sha256 OF THE DUMP (.gsa) THAT YtajlkcnlfiikeaaProg.lean LOADS. Nothing in Lean hashes anything: it is a label: what it is worth is what the hold of that sum in a sandbox is worth. -/
noncomputable def Try.pinned : Pinned := { name := "ytajlkcnlfiikeaa", sum := "84eb7c252ce4f59fb1131019ebd8f138a8dd491adbe7933a96b656ddc61ce163", checked := Try.checked }
namespace Rows
def none {H : Type} : Left H := { results := [], args := [] }

/-- 'halfplanelaw27.QuadformComposes': WHATEVER THE INPUT: true; the input reads as it did. -/
def quadformComposesSpec : ChangeSpec := { name := "quadformComposes", fn := fun _ => fun
  | [d1, d2] => { results := [.lit (.bool true)], args := [d1, d2] }
  | _ => none }
def quadformComposesRow : OpenClaim := { program := "ytajlkcnlfiikeaa", sum := "84eb7c252ce4f59fb1131019ebd8f138a8dd491adbe7933a96b656ddc61ce163", func := "halfplane/halfplanelaw27.QuadformComposes", spec := "quadformComposes", named := ["math/bits.overflowError"], plainKeys := false, apart := false }
def QuadformComposesSaid : Prop := quadformComposesRow.holds Try.pinned (OpenSpec.ofChange quadformComposesSpec)

/-- ITS FALSE NEIGHBOUR: 'it returns false'. Refute it at one input. -/
def quadformComposesWrong : ChangeSpec := { name := "quadformComposes", fn := fun _ => fun
  | [d1, d2] => { results := [.lit (.bool false)], args := [d1, d2] }
  | _ => none }
def QuadformComposesWrongFalsely : Prop := quadformComposesRow.holds Try.pinned (OpenSpec.ofChange quadformComposesWrong)

/-- 'halfplanelaw27.QuadformRepresents': WHATEVER THE INPUT: true; the input reads as it did. -/
def quadformRepresentsSpec : ChangeSpec := { name := "quadformRepresents", fn := fun _ => fun
  | [d1, d2] => { results := [.lit (.bool true)], args := [d1, d2] }
  | _ => none }
def quadformRepresentsRow : OpenClaim := { program := "ytajlkcnlfiikeaa", sum := "84eb7c252ce4f59fb1131019ebd8f138a8dd491adbe7933a96b656ddc61ce163", func := "halfplane/halfplanelaw27.QuadformRepresents", spec := "quadformRepresents", named := ["math/bits.overflowError"], plainKeys := false, apart := false }
def QuadformRepresentsSaid : Prop := quadformRepresentsRow.holds Try.pinned (OpenSpec.ofChange quadformRepresentsSpec)

/-- ITS FALSE NEIGHBOUR: 'it returns false'. Refute it at one input. -/
def quadformRepresentsWrong : ChangeSpec := { name := "quadformRepresents", fn := fun _ => fun
  | [d1, d2] => { results := [.lit (.bool false)], args := [d1, d2] }
  | _ => none }
def QuadformRepresentsWrongFalsely : Prop := quadformRepresentsRow.holds Try.pinned (OpenSpec.ofChange quadformRepresentsWrong)

/-- 'halfplanelaw27.QuadformProducts': WHATEVER THE INPUT: true; the input reads as it did. -/
def quadformProductsSpec : ChangeSpec := { name := "quadformProducts", fn := fun _ => fun
  | [d1, d2, d3] => { results := [.lit (.bool true)], args := [d1, d2, d3] }
  | _ => none }
def quadformProductsRow : OpenClaim := { program := "ytajlkcnlfiikeaa", sum := "84eb7c252ce4f59fb1131019ebd8f138a8dd491adbe7933a96b656ddc61ce163", func := "halfplane/halfplanelaw27.QuadformProducts", spec := "quadformProducts", named := ["math/bits.overflowError"], plainKeys := false, apart := false }
def QuadformProductsSaid : Prop := quadformProductsRow.holds Try.pinned (OpenSpec.ofChange quadformProductsSpec)

/-- ITS FALSE NEIGHBOUR: 'it returns false'. Refute it at one input. -/
def quadformProductsWrong : ChangeSpec := { name := "quadformProducts", fn := fun _ => fun
  | [d1, d2, d3] => { results := [.lit (.bool false)], args := [d1, d2, d3] }
  | _ => none }
def QuadformProductsWrongFalsely : Prop := quadformProductsRow.holds Try.pinned (OpenSpec.ofChange quadformProductsWrong)

/-- 'halfplanelaw27.QuadformGroup': WHATEVER THE INPUT: true; the input reads as it did. -/
def quadformGroupSpec : ChangeSpec := { name := "quadformGroup", fn := fun _ => fun
  | [d1, d2] => { results := [.lit (.bool true)], args := [d1, d2] }
  | _ => none }
def quadformGroupRow : OpenClaim := { program := "ytajlkcnlfiikeaa", sum := "84eb7c252ce4f59fb1131019ebd8f138a8dd491adbe7933a96b656ddc61ce163", func := "halfplane/halfplanelaw27.QuadformGroup", spec := "quadformGroup", named := ["math/bits.overflowError"], plainKeys := false, apart := false }
def QuadformGroupSaid : Prop := quadformGroupRow.holds Try.pinned (OpenSpec.ofChange quadformGroupSpec)

/-- ITS FALSE NEIGHBOUR: 'it returns false'. Refute it at one input. -/
def quadformGroupWrong : ChangeSpec := { name := "quadformGroup", fn := fun _ => fun
  | [d1, d2] => { results := [.lit (.bool false)], args := [d1, d2] }
  | _ => none }
def QuadformGroupWrongFalsely : Prop := quadformGroupRow.holds Try.pinned (OpenSpec.ofChange quadformGroupWrong)

/-- 'halfplanelaw27.QuadformChecks': WHATEVER THE INPUT: true; the input reads as it did. -/
def quadformChecksSpec : ChangeSpec := { name := "quadformChecks", fn := fun _ => fun
  | [d] => { results := [.lit (.bool true)], args := [d] }
  | _ => none }
def quadformChecksRow : OpenClaim := { program := "ytajlkcnlfiikeaa", sum := "84eb7c252ce4f59fb1131019ebd8f138a8dd491adbe7933a96b656ddc61ce163", func := "halfplane/halfplanelaw27.QuadformChecks", spec := "quadformChecks", named := ["math/bits.overflowError"], plainKeys := false, apart := false }
def QuadformChecksSaid : Prop := quadformChecksRow.holds Try.pinned (OpenSpec.ofChange quadformChecksSpec)

/-- ITS FALSE NEIGHBOUR: 'it returns false'. Refute it at one input. -/
def quadformChecksWrong : ChangeSpec := { name := "quadformChecks", fn := fun _ => fun
  | [d] => { results := [.lit (.bool false)], args := [d] }
  | _ => none }
def QuadformChecksWrongFalsely : Prop := quadformChecksRow.holds Try.pinned (OpenSpec.ofChange quadformChecksWrong)

/-- 'halfplanelaw27.QuadformClasses': WHATEVER THE INPUT: true; the input reads as it did. -/
def quadformClassesSpec : ChangeSpec := { name := "quadformClasses", fn := fun _ => fun
  | [d] => { results := [.lit (.bool true)], args := [d] }
  | _ => none }
def quadformClassesRow : OpenClaim := { program := "ytajlkcnlfiikeaa", sum := "84eb7c252ce4f59fb1131019ebd8f138a8dd491adbe7933a96b656ddc61ce163", func := "halfplane/halfplanelaw27.QuadformClasses", spec := "quadformClasses", named := ["math/bits.overflowError"], plainKeys := false, apart := false }
def QuadformClassesSaid : Prop := quadformClassesRow.holds Try.pinned (OpenSpec.ofChange quadformClassesSpec)

/-- ITS FALSE NEIGHBOUR: 'it returns false'. Refute it at one input. -/
def quadformClassesWrong : ChangeSpec := { name := "quadformClasses", fn := fun _ => fun
  | [d] => { results := [.lit (.bool false)], args := [d] }
  | _ => none }
def QuadformClassesWrongFalsely : Prop := quadformClassesRow.holds Try.pinned (OpenSpec.ofChange quadformClassesWrong)

/-- 'halfplanelaw27.QuadformReduces': WHATEVER THE INPUT: true; the input reads as it did. -/
def quadformReducesSpec : ChangeSpec := { name := "quadformReduces", fn := fun _ => fun
  | [d] => { results := [.lit (.bool true)], args := [d] }
  | _ => none }
def quadformReducesRow : OpenClaim := { program := "ytajlkcnlfiikeaa", sum := "84eb7c252ce4f59fb1131019ebd8f138a8dd491adbe7933a96b656ddc61ce163", func := "halfplane/halfplanelaw27.QuadformReduces", spec := "quadformReduces", named := ["math/bits.overflowError"], plainKeys := false, apart := false }
def QuadformReducesSaid : Prop := quadformReducesRow.holds Try.pinned (OpenSpec.ofChange quadformReducesSpec)

/-- ITS FALSE NEIGHBOUR: 'it returns false'. Refute it at one input. -/
def quadformReducesWrong : ChangeSpec := { name := "quadformReduces", fn := fun _ => fun
  | [d] => { results := [.lit (.bool false)], args := [d] }
  | _ => none }
def QuadformReducesWrongFalsely : Prop := quadformReducesRow.holds Try.pinned (OpenSpec.ofChange quadformReducesWrong)

/-- 'halfplanelaw27.QuadformEquivalent': WHATEVER THE INPUT: true; the input reads as it did. -/
def quadformEquivalentSpec : ChangeSpec := { name := "quadformEquivalent", fn := fun _ => fun
  | [d1, d2, d3] => { results := [.lit (.bool true)], args := [d1, d2, d3] }
  | _ => none }
def quadformEquivalentRow : OpenClaim := { program := "ytajlkcnlfiikeaa", sum := "84eb7c252ce4f59fb1131019ebd8f138a8dd491adbe7933a96b656ddc61ce163", func := "halfplane/halfplanelaw27.QuadformEquivalent", spec := "quadformEquivalent", named := ["math/bits.overflowError"], plainKeys := false, apart := false }
def QuadformEquivalentSaid : Prop := quadformEquivalentRow.holds Try.pinned (OpenSpec.ofChange quadformEquivalentSpec)

/-- ITS FALSE NEIGHBOUR: 'it returns false'. Refute it at one input. -/
def quadformEquivalentWrong : ChangeSpec := { name := "quadformEquivalent", fn := fun _ => fun
  | [d1, d2, d3] => { results := [.lit (.bool false)], args := [d1, d2, d3] }
  | _ => none }
def QuadformEquivalentWrongFalsely : Prop := quadformEquivalentRow.holds Try.pinned (OpenSpec.ofChange quadformEquivalentWrong)

/-- 'halfplanelaw27.QuadformPowers': WHATEVER THE INPUT: true; the input reads as it did. -/
def quadformPowersSpec : ChangeSpec := { name := "quadformPowers", fn := fun _ => fun
  | [d1, d2] => { results := [.lit (.bool true)], args := [d1, d2] }
  | _ => none }
def quadformPowersRow : OpenClaim := { program := "ytajlkcnlfiikeaa", sum := "84eb7c252ce4f59fb1131019ebd8f138a8dd491adbe7933a96b656ddc61ce163", func := "halfplane/halfplanelaw27.QuadformPowers", spec := "quadformPowers", named := ["math/bits.overflowError"], plainKeys := false, apart := false }
def QuadformPowersSaid : Prop := quadformPowersRow.holds Try.pinned (OpenSpec.ofChange quadformPowersSpec)

/-- ITS FALSE NEIGHBOUR: 'it returns false'. Refute it at one input. -/
def quadformPowersWrong : ChangeSpec := { name := "quadformPowers", fn := fun _ => fun
  | [d1, d2] => { results := [.lit (.bool false)], args := [d1, d2] }
  | _ => none }
def QuadformPowersWrongFalsely : Prop := quadformPowersRow.holds Try.pinned (OpenSpec.ofChange quadformPowersWrong)

/-- 'halfplanelaw27.QuadformGenera': WHATEVER THE INPUT: true; the input reads as it did. -/
def quadformGeneraSpec : ChangeSpec := { name := "quadformGenera", fn := fun _ => fun
  | [d] => { results := [.lit (.bool true)], args := [d] }
  | _ => none }
def quadformGeneraRow : OpenClaim := { program := "ytajlkcnlfiikeaa", sum := "84eb7c252ce4f59fb1131019ebd8f138a8dd491adbe7933a96b656ddc61ce163", func := "halfplane/halfplanelaw27.QuadformGenera", spec := "quadformGenera", unfollowed := true, recurses := true, named := ["math/bits.overflowError"], plainKeys := false, apart := false }
def QuadformGeneraSaid : Prop := quadformGeneraRow.holds Try.pinned (OpenSpec.ofChange quadformGeneraSpec)

/-- ITS FALSE NEIGHBOUR: 'it returns false'. Refute it at one input. -/
def quadformGeneraWrong : ChangeSpec := { name := "quadformGenera", fn := fun _ => fun
  | [d] => { results := [.lit (.bool false)], args := [d] }
  | _ => none }
def QuadformGeneraWrongFalsely : Prop := quadformGeneraRow.holds Try.pinned (OpenSpec.ofChange quadformGeneraWrong)

/- THE SECOND FORM. 'bulk': how many values and letters a reading holds, each counted each time it is reached (what is shared counts as often as it is met; a slice's spare places count too). A statement '..UptoSaid' is the law's where the arguments, and the package variables that the reading takes, are together of bulk at most 1048576: NARROWER than '..Said'. Prove '..Said' where nothing that the law and all that it calls make is longer than what came in: it says more and counts as full. Else prove '..UptoSaid'. A law counts once. -/
mutual
def uptoBulk {H : Type} : DataW H → Nat
  | .lit (.string bytes) => bytes.length + 1
  | .lit _ => 1
  | .nil => 1
  | .ptr d => uptoBulk d + 1
  | .slice elems spare => uptoBulkAll elems + uptoBulkAll spare + 1
  | .agg parts => uptoBulkAll parts + 1
  | .iface _ d => uptoBulk d + 1
  | .map entries => uptoBulkEntries entries + 1
  | .held _ => 1
def uptoBulkAll {H : Type} : List (DataW H) → Nat
  | [] => 0
  | d :: r => uptoBulk d + uptoBulkAll r
def uptoBulkEntries {H : Type} : List (Lit × DataW H) → Nat
  | [] => 0
  | x :: r => uptoBulkEntry x + uptoBulkEntries r
def uptoBulkEntry {H : Type} : Lit × DataW H → Nat
  | (.string bytes, d) => bytes.length + uptoBulk d + 1
  | (_, d) => uptoBulk d + 1
 end
def uptoSmall : (H : Type) → List (DataW H) → Bool := fun _ ds => decide (uptoBulkAll ds ≤ 1048576)
def OpenSpec.upto (s : _root_.Go.ChangeSpec) : _root_.Go.OpenSpec := { _root_.Go.OpenSpec.ofChange s with cond := some uptoSmall }

/-- 'halfplanelaw27.QuadformComposes', WHERE WHAT IT READS IS OF BULK AT MOST 1048576: true; the input reads as it did. -/
def quadformComposesUptoRow : OpenClaim := { program := "ytajlkcnlfiikeaa", sum := "84eb7c252ce4f59fb1131019ebd8f138a8dd491adbe7933a96b656ddc61ce163", func := "halfplane/halfplanelaw27.QuadformComposes", spec := "quadformComposes", named := ["math/bits.overflowError"], plainKeys := false, apart := false, narrowed := true }
def QuadformComposesUptoSaid : Prop := quadformComposesUptoRow.holds Try.pinned (OpenSpec.upto quadformComposesSpec)

/-- 'halfplanelaw27.QuadformRepresents', WHERE WHAT IT READS IS OF BULK AT MOST 1048576: true; the input reads as it did. -/
def quadformRepresentsUptoRow : OpenClaim := { program := "ytajlkcnlfiikeaa", sum := "84eb7c252ce4f59fb1131019ebd8f138a8dd491adbe7933a96b656ddc61ce163", func := "halfplane/halfplanelaw27.QuadformRepresents", spec := "quadformRepresents", named := ["math/bits.overflowError"], plainKeys := false, apart := false, narrowed := true }
def QuadformRepresentsUptoSaid : Prop := quadformRepresentsUptoRow.holds Try.pinned (OpenSpec.upto quadformRepresentsSpec)

/-- 'halfplanelaw27.QuadformProducts', WHERE WHAT IT READS IS OF BULK AT MOST 1048576: true; the input reads as it did. -/
def quadformProductsUptoRow : OpenClaim := { program := "ytajlkcnlfiikeaa", sum := "84eb7c252ce4f59fb1131019ebd8f138a8dd491adbe7933a96b656ddc61ce163", func := "halfplane/halfplanelaw27.QuadformProducts", spec := "quadformProducts", named := ["math/bits.overflowError"], plainKeys := false, apart := false, narrowed := true }
def QuadformProductsUptoSaid : Prop := quadformProductsUptoRow.holds Try.pinned (OpenSpec.upto quadformProductsSpec)

/-- 'halfplanelaw27.QuadformGroup', WHERE WHAT IT READS IS OF BULK AT MOST 1048576: true; the input reads as it did. -/
def quadformGroupUptoRow : OpenClaim := { program := "ytajlkcnlfiikeaa", sum := "84eb7c252ce4f59fb1131019ebd8f138a8dd491adbe7933a96b656ddc61ce163", func := "halfplane/halfplanelaw27.QuadformGroup", spec := "quadformGroup", named := ["math/bits.overflowError"], plainKeys := false, apart := false, narrowed := true }
def QuadformGroupUptoSaid : Prop := quadformGroupUptoRow.holds Try.pinned (OpenSpec.upto quadformGroupSpec)

/-- 'halfplanelaw27.QuadformChecks', WHERE WHAT IT READS IS OF BULK AT MOST 1048576: true; the input reads as it did. -/
def quadformChecksUptoRow : OpenClaim := { program := "ytajlkcnlfiikeaa", sum := "84eb7c252ce4f59fb1131019ebd8f138a8dd491adbe7933a96b656ddc61ce163", func := "halfplane/halfplanelaw27.QuadformChecks", spec := "quadformChecks", named := ["math/bits.overflowError"], plainKeys := false, apart := false, narrowed := true }
def QuadformChecksUptoSaid : Prop := quadformChecksUptoRow.holds Try.pinned (OpenSpec.upto quadformChecksSpec)

/-- 'halfplanelaw27.QuadformClasses', WHERE WHAT IT READS IS OF BULK AT MOST 1048576: true; the input reads as it did. -/
def quadformClassesUptoRow : OpenClaim := { program := "ytajlkcnlfiikeaa", sum := "84eb7c252ce4f59fb1131019ebd8f138a8dd491adbe7933a96b656ddc61ce163", func := "halfplane/halfplanelaw27.QuadformClasses", spec := "quadformClasses", named := ["math/bits.overflowError"], plainKeys := false, apart := false, narrowed := true }
def QuadformClassesUptoSaid : Prop := quadformClassesUptoRow.holds Try.pinned (OpenSpec.upto quadformClassesSpec)

/-- 'halfplanelaw27.QuadformReduces', WHERE WHAT IT READS IS OF BULK AT MOST 1048576: true; the input reads as it did. -/
def quadformReducesUptoRow : OpenClaim := { program := "ytajlkcnlfiikeaa", sum := "84eb7c252ce4f59fb1131019ebd8f138a8dd491adbe7933a96b656ddc61ce163", func := "halfplane/halfplanelaw27.QuadformReduces", spec := "quadformReduces", named := ["math/bits.overflowError"], plainKeys := false, apart := false, narrowed := true }
def QuadformReducesUptoSaid : Prop := quadformReducesUptoRow.holds Try.pinned (OpenSpec.upto quadformReducesSpec)

/-- 'halfplanelaw27.QuadformEquivalent', WHERE WHAT IT READS IS OF BULK AT MOST 1048576: true; the input reads as it did. -/
def quadformEquivalentUptoRow : OpenClaim := { program := "ytajlkcnlfiikeaa", sum := "84eb7c252ce4f59fb1131019ebd8f138a8dd491adbe7933a96b656ddc61ce163", func := "halfplane/halfplanelaw27.QuadformEquivalent", spec := "quadformEquivalent", named := ["math/bits.overflowError"], plainKeys := false, apart := false, narrowed := true }
def QuadformEquivalentUptoSaid : Prop := quadformEquivalentUptoRow.holds Try.pinned (OpenSpec.upto quadformEquivalentSpec)

/-- 'halfplanelaw27.QuadformPowers', WHERE WHAT IT READS IS OF BULK AT MOST 1048576: true; the input reads as it did. -/
def quadformPowersUptoRow : OpenClaim := { program := "ytajlkcnlfiikeaa", sum := "84eb7c252ce4f59fb1131019ebd8f138a8dd491adbe7933a96b656ddc61ce163", func := "halfplane/halfplanelaw27.QuadformPowers", spec := "quadformPowers", named := ["math/bits.overflowError"], plainKeys := false, apart := false, narrowed := true }
def QuadformPowersUptoSaid : Prop := quadformPowersUptoRow.holds Try.pinned (OpenSpec.upto quadformPowersSpec)

/-- 'halfplanelaw27.QuadformGenera', WHERE WHAT IT READS IS OF BULK AT MOST 1048576: true; the input reads as it did. -/
def quadformGeneraUptoRow : OpenClaim := { program := "ytajlkcnlfiikeaa", sum := "84eb7c252ce4f59fb1131019ebd8f138a8dd491adbe7933a96b656ddc61ce163", func := "halfplane/halfplanelaw27.QuadformGenera", spec := "quadformGenera", unfollowed := true, recurses := true, named := ["math/bits.overflowError"], plainKeys := false, apart := false, narrowed := true }
def QuadformGeneraUptoSaid : Prop := quadformGeneraUptoRow.holds Try.pinned (OpenSpec.upto quadformGeneraSpec)

end Rows
end Go.Proofs.Ytajlkcnlfiikeaa
