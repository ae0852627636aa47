/- The inverse of a series: the walk, in abstract values. -/
import Derived.Test.YtkbccidalhefaaaInvA
set_option linter.all false
namespace Ab
open Go Go.RowKit Go.Proofs Hp
set_option maxRecDepth 100000
end Ab
