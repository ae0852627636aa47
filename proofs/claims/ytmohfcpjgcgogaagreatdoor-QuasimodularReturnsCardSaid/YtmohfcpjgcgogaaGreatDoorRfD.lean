/- Package ref01: Same, Of, Divided; fields of structs; in abstract values. Package ref02: Over, Of, Normal, Mul, in abstract values. -/
import Derived.Test.YtmohfcpjgcgogaaGreatDoorRfC
set_option linter.all false
namespace Ab
open Go Go.RowKit Go.Proofs Hp
set_option maxRecDepth 100000
section
variable {dm : Bool} {P : Program} {ops : Array Oper} {s : AS} {dst : Option Tmp} {ty : TypeId} {pos : String} {after : Array Edge} {g : Option (Nat × Bool)}
end
end Ab
namespace Ab
open Go Go.RowKit Go.Proofs Hp
set_option maxRecDepth 100000
abbrev varQ : Blk := .var [.v (.p (.bool false)), .v (.p nilV), .v (.p (.bool false)), .v (.p nilV)]
def gsg (n d : Int) : Int := if d < 0 then -((Int.gcd n d : Nat) : Int) else ((Int.gcd n d : Nat) : Int)
theorem gcdZ_def (n d : Int) : gcdZ n d = ((Int.gcd n d : Nat) : Int) := rfl
theorem gsg_parts {n d : Int} (hd : d ≠ 0) : (Rat.divInt n d).num = n / gsg n d ∧ ((Rat.divInt n d).den : Int) = d / gsg n d := by
 by_cases h : d < 0
 ·have e : Rat.divInt n d = Rat.divInt (-n) (-d) := (Rat.neg_divInt_neg n d).symm
  have hp := Zcx (n := -n) (d := -d) (by omega)
  rw [e, hp.1, hp.2, gcdZ_def, Int.gcd_neg, Int.neg_gcd]
  unfold gsg
  rw [if_pos h, Int.ediv_neg, Int.ediv_neg, Int.neg_ediv_of_dvd (Int.gcd_dvd_left n d), Int.neg_ediv_of_dvd (Int.gcd_dvd_right n d)]
  exact ⟨rfl, rfl⟩
 ·have hp := Zcx (n := n) (d := d) (by omega)
  unfold gsg
  rw [if_neg h]
  exact hp
end Ab
