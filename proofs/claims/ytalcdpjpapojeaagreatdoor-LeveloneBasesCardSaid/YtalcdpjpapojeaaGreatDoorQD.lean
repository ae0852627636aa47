/- Multiples and derivatives of lists of terms, binomials. -/
import Derived.Test.YtalcdpjpapojeaaGreatDoorQC
import Derived.Test.YtalcdpjpapojeaaGreatDoorLd
set_option linter.all false
namespace Ab
open Go Go.RowKit Go.Proofs Hp
set_option maxRecDepth 100000
theorem av_idx {l : List QT} {A B : List QT} {t : QT} (h : l = A ++ t :: B) : (PL l)[((A.length : Nat) : Int).toNat]? = some (qe t).av := by
 subst h
 unfold PL
 rw [List.map_append, List.map_cons]
 exact av_get (by rw [List.length_map]; omega)
end Ab
