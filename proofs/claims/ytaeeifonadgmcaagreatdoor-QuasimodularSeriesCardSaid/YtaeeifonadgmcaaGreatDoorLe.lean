/- Delta, the invariant j and tau, of the program and of the document: walked. The invariant j and tau, of the program and of the document: walked; the example of the chapter. Tau and the dimension, of the program and of the document; the example of the chapter; the statement LeveloneDelta: walked. -/
import Derived.Test.YtaeeifonadgmcaaGreatDoorLd
set_option linter.all false
namespace Ab
open Go Go.RowKit Go.Proofs Hp
set_option maxRecDepth 100000
end Ab
namespace Ab
open Go Go.RowKit Go.Proofs Hp
set_option maxRecDepth 100000
end Ab
namespace Ab
open Go Go.RowKit Go.Proofs Hp
set_option maxRecDepth 100000
end Ab
