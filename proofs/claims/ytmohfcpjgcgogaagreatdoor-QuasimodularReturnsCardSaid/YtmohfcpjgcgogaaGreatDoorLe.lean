/- Delta, the invariant j and tau, of the program and of the document: walked. The invariant j and tau, of the program and of the document: walked; the example of the chapter. Tau and the dimension, of the program and of the document; the example of the chapter; the statement LeveloneDelta: walked. -/
import Derived.Test.YtmohfcpjgcgogaaGreatDoorLd
set_option linter.all false
namespace Ab
open Go Go.RowKit Go.Proofs Hp
set_option maxRecDepth 100000
end Ab
namespace Ab
open Go Go.RowKit Go.Proofs Hp
set_option maxRecDepth 100000
theorem inR_tk {s : Int} {f : Nat → Rat} {n : Nat} (h0 : -1000 ≤ s) (h1 : s ≤ 1000) (h2 : n ≤ 1000) : InR s ((tk f n).map encQ).length := ⟨by omega, by omega, by simp; omega⟩
end Ab
namespace Ab
open Go Go.RowKit Go.Proofs Hp
set_option maxRecDepth 100000
end Ab
