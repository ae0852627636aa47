/- Package ref33: zero, Prec, Ord, Result, in abstract values. Package ref33: Result, in abstract values. -/
import Derived.Test.YtmohfcpjgcgogaaGreatDoorRfD
import Derived.Test.YtmohfcpjgcgogaaGreatDoorSerC
set_option linter.all false
namespace Ab
open Go Go.RowKit Go.Proofs Hp
set_option maxRecDepth 100000
end Ab
namespace Ab
open Go Go.RowKit Go.Proofs Hp
set_option maxRecDepth 100000
end Ab
