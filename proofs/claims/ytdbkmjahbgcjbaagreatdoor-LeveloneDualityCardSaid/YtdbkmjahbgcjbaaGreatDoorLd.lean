import Derived.Test.YtdbkmjahbgcjbaaGreatDoorLc
set_option linter.all false
namespace Ab
open Go Go.RowKit Go.Proofs Hp
set_option maxRecDepth 100000
def fr (a b : Int) : Rat := Rat.divInt a b
end Ab
namespace Ab
open Go Go.RowKit Go.Proofs Hp
set_option maxRecDepth 100000
end Ab
