/- Lists of whole fractions, small series, the example of the chapter; in abstract values. The helpers of the statements on series, in abstract values. The gate of the statements on series, in abstract values. -/
import Derived.Test.YtmohfcpjgcgogaaGreatDoorIB
import Derived.KernelRfl
set_option linter.all false
namespace Ab
open Go Go.RowKit Go.Proofs Hp
set_option maxRecDepth 100000
def qsL (xs : List Int) : List Rat := xs.map fun (x : Int) => (x : Rat)
theorem small4 {xs : List Int} (h : ∀ x, x ∈ xs → x.natAbs < 4294967296) : ∀ q, q ∈ qsL xs → Ht q 1 := fun q hq => by
 obtain ⟨x, hx, rfl⟩ := List.mem_map.1 hq
 exact Zd0 (h x hx)
end Ab
namespace Ab
open Go Go.RowKit Go.Proofs Hp
set_option maxRecDepth 100000
theorem Zca {xs : List AV} {n : Nat} (h : (xs.all fun a => a.cells.length == n && a.cells.all AV.one) = true) : ∀ x, x ∈ xs → x.cells.length = n ∧ x.cells.all AV.one = true := fun x hx => by
 have := List.all_eq_true.1 h x hx
 simpa using this
theorem int_ok {xs : List Int} (h : (xs.all fun x => decide (x.natAbs < 1000)) = true) : ∀ x, x ∈ xs → x.natAbs < 1000 := fun x hx => by
 have := List.all_eq_true.1 h x hx
 simpa using this
theorem sm {xs : List Int} (h : (xs.all fun x => decide (x.natAbs < 1000)) = true) : ∀ q, q ∈ qsL xs → Ht q 1 := small4 fun x hx => by have := int_ok h x hx; omega
def agr (s : Int) (l : List Rat) (t : Int) (m : List Rat) : Bool := !(difR s l t m).2.1 && (difR s l t m).2.2 == 0
def big : AV → Bool
 | .agg [_, .sl ds, _, .sl ds'] => decide ((ds.length : Int) > 4) || decide ((ds'.length : Int) > 4)
 | _ => false
def longB (n : Nat) (es : List AV) : Bool := decide (n < es.length) || es.any big
end Ab
namespace Ab
open Go Go.RowKit Go.Proofs Hp
set_option maxRecDepth 100000
def inn (x : Int × List AV) : Bool := Zav x.1 x.2.length && !longB 12 x.2 && decide (-8 ≤ x.1) && decide (x.1 ≤ 40)
end Ab
