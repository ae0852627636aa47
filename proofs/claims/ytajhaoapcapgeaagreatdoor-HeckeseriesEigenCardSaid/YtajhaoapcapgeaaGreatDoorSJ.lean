/- Strides and ceilings of package series, in abstract values. Contract of package series, in abstract values. Sieve of package series, in abstract values. Expand of package series, in abstract values. -/
import Derived.Test.YtajhaoapcapgeaaGreatDoorRJ
set_option linter.all false
namespace Ab
open Go Go.RowKit Go.Proofs Hp
set_option maxRecDepth 100000

end Ab
namespace Ab
open Go Go.RowKit Go.Proofs Hp
set_option maxRecDepth 100000

end Ab
namespace Ab
open Go Go.RowKit Go.Proofs Hp
set_option maxRecDepth 100000

theorem rep_range {α : Type} (n : Nat) (x : α) {g : Nat → α} (h : ∀ k, k < n → g k = x) : List.replicate n x = (List.range n).map g := by
  apply List.ext_getElem
  · simp
  · intro i h1 h2
    have : i < n := by simpa using h1
    simp [h i this]
theorem range_set {α : Type} (n i : Nat) (x : α) {g g' : Nat → α} (h0 : g' i = x) (h : ∀ k, k < n → k ≠ i → g' k = g k) : ((List.range n).map g).set i x = (List.range n).map g' := by
  apply List.ext_getElem
  · simp
  · intro k h1 h2
    have hk : k < n := by simpa using h1
    rw [List.getElem_set]
    split
    · rename_i e; subst e; simp [h0]
    · rename_i e; simp [h k hk (fun e2 => e e2.symm)]
theorem range_congr {α : Type} (n : Nat) {g g' : Nat → α} (h : ∀ k, k < n → g k = g' k) : (List.range n).map g = (List.range n).map g' := by
  apply List.ext_getElem
  · simp
  · intro k h1 h2
    have hk : k < n := by simpa using h1
    simp [h k hk]
end Ab
namespace Ab
open Go Go.RowKit Go.Proofs Hp
set_option maxRecDepth 100000

end Ab
