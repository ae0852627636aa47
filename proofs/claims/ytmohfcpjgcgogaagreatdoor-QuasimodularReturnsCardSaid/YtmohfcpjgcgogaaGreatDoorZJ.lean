/- Package ref02: Add, Neg, Sub, Same, in abstract values. Package ref33: two, Coef, Add, Scale, Sub, Differ, in abstract values. Package ref33: Differ; the comparison of results. -/
import Derived.Test.YtmohfcpjgcgogaaGreatDoorRPJ
import Derived.Test.YtmohfcpjgcgogaaGreatDoorIB
import Derived.Test.YtmohfcpjgcgogaaGreatDoorRJ
set_option linter.all false
namespace Ab
open Go Go.RowKit Go.Proofs Hp
set_option maxRecDepth 100000
end Ab
namespace Ab
open Go Go.RowKit Go.Proofs Hp
set_option maxRecDepth 100000
def sclR (c : Rat) (s : Int) (l : List Rat) : Option (Int × List Rat) := if Zav s l.length then nrm s (tk (fun i => c * l.getD i 0) l.length) else none
theorem Out.eq {x y : Option (Int × List Rat)} {p b b' : Int} {f : Int → Rat} {K K' : Nat} (h : Out x p f b K) (h' : Out y p f b' K') : x = y := by
 obtain ⟨s, l, e1, -, e3, -, -, e6, -, e8⟩ := h
 obtain ⟨t, m, k1, -, k3, -, -, k6, -, k8⟩ := h'
 obtain ⟨rfl, rfl⟩ := norm_eq (s := s) (t := t) (l := l) (m := m) e8 k8 (by omega) (fun n hn => by rw [e6 n (by omega), k6 n (by omega)])
 rw [e1, k1]
end Ab
namespace Ab
open Go Go.RowKit Go.Proofs Hp
set_option maxRecDepth 100000
end Ab
