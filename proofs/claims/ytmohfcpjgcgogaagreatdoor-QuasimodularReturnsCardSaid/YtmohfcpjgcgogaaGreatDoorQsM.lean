/- Iterated derivatives and products of series, as brackets want them. Plain arithmetic. -/
import Derived.Test.YtmohfcpjgcgogaaGreatDoorLa
set_option linter.all false
namespace Ab
open Go Go.RowKit Go.Proofs Hp
set_option maxRecDepth 100000
theorem tdy_v {s : Int} {l : List Rat} (hv : Zav s l.length = true) : Zav (tdy s l).1 (tdy s l).2.length = true := by
 obtain ⟨a0, a1, a2⟩ := Zbd.1 hv
 have := Zcm l
 unfold tdy
 exact Zbd.2 ⟨by omega, by omega, by rw [List.length_drop]; omega⟩
abbrev Sr := Int × List Rat
structure SOK (x : Sr) (p b : Int) (K : Nat) : Prop where
 v : Zav x.1 x.2.length = true
 p : x.1 + x.2.length = p
 b : b ≤ x.1
 h : ∀ q, q ∈ x.2 → Ht q K
theorem tdy_ok {x : Sr} {p b : Int} {K : Nat} (h : SOK x p b K) : SOK (tdy x.1 x.2) p b K := by
 obtain ⟨h1, h2, h3, h4⟩ := h
 have := Zcm x.2
 refine ⟨tdy_v h1, ?_, ?_, fun q hq => h4 q (List.mem_of_mem_drop hq)⟩
 ·unfold tdy
  rw [List.length_drop]
  omega
 ·unfold tdy
  show b ≤ x.1 + _
  omega
theorem SOK.mono {x : Sr} {p b : Int} {K L : Nat} (h : SOK x p b K) (hk : K ≤ L) : SOK x p b L := ⟨h.v, h.p, h.b, fun q hq => (h.h q hq).mono hk⟩
end Ab
