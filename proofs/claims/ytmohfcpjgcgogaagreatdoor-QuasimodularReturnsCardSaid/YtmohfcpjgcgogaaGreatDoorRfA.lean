/- Package ref01: normal forms of integers, in abstract values. Package ref01: Norm, signed, Neg, Abs, Sign, in abstract values. Package ref01: Sign, Of, in abstract values. Digits: sums, differences, order, binary digits; plain. -/
import Derived.Test.YtmohfcpjgcgogaaGreatDoorSerC
import Derived.Test.YtmohfcpjgcgogaaGreatDoorIB
import Derived.Test.YtmohfcpjgcgogaaGreatDoorWo
set_option linter.all false
namespace Ab
open Go Go.RowKit Go.Proofs Hp
set_option maxRecDepth 100000
def nd (ds : List Int) : List Int := dgs (vl ds).toNat
end Ab
namespace Ab
open Go Go.RowKit Go.Proofs Hp
set_option maxRecDepth 100000
theorem zof_not (g : Bool) (x : Int) : zof (!g) x = -(zof g x) := by cases g <;> simp [zof]
end Ab
namespace Ab
open Go Go.RowKit Go.Proofs Hp
set_option maxRecDepth 100000
end Ab
namespace Ab
open Hp
theorem dig0 : Za0 0 := ⟨by decide, by decide⟩
theorem gd_dig {ds : List Int} (hd : ∀ d, d ∈ ds → Za0 d) (i : Nat) : Za0 (ds.getD i 0) := by
 rw [List.getD_eq_getElem?_getD]
 cases h : ds[i]? with
 | none => exact dig0
 | some d => exact hd d (List.mem_of_getElem? h)
theorem gd_b {ds : List Int} (hd : ∀ d, d ∈ ds → Za0 d) (i : Nat) : 0 ≤ ds.getD i 0 ∧ ds.getD i 0 < 4294967296 := gd_dig hd i
theorem vl_def (ds : List Int) : vl ds = val (fun i => ds.getD i 0) ds.length := rfl
theorem vl_map {n : Nat} {f : Nat → Int} : vl ((List.range n).map f) = val f n := by
 rw [vl_def]
 simp only [List.length_map, List.length_range]
 exact Zea fun i hi => by simp [hi]
theorem vl_lt {ds : List Int} (hd : ∀ d, d ∈ ds → Za0 d) : vl ds < pw ds.length := Zcn (Zex hd)
theorem pw_succ (n : Nat) : pw (n + 1) = pw n * 4294967296 := rfl
theorem Zgo (f : Nat → Int) (n : Nat) : val f (n + 1) = val f n + f n * pw n := rfl
end Ab
