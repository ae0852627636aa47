/- What the statement on series looks at; Serre's derivative of a series, in the program and in the document: walked. -/
import Derived.Test.YtmohfcpjgcgogaaGreatDoorQD
import Derived.Test.YtmohfcpjgcgogaaGreatDoorLx
import Derived.Test.YtmohfcpjgcgogaaGreatDoorQsM
set_option linter.all false
namespace Ab
open Go Go.RowKit Go.Proofs Hp
set_option maxRecDepth 100000
end Ab
