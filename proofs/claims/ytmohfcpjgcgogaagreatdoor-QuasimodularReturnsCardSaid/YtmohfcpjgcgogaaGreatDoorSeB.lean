/- Serre's derivative of a series: both sides answer the same. -/
import Derived.Test.YtmohfcpjgcgogaaGreatDoorSeA
set_option linter.all false
namespace Ab
open Go Go.RowKit Go.Proofs Hp
set_option maxRecDepth 100000
structure SIn (s : Int) (es : List AV) (l : List Rat) : Prop where
 L : IsL es 8 l
 v : Zav s l.length = true
 n : l.length ≤ 10
theorem SIn.ht {s : Int} {es : List AV} {l : List Rat} (h : SIn s es l) : ∀ q, q ∈ l → Ht q 8 := isL_ht h.L (by decide)
theorem SIn.len {s : Int} {es : List AV} {l : List Rat} (h : SIn s es l) : es.length = l.length := h.L.get.1
theorem SIn.r {s : Int} {es : List AV} {l : List Rat} (h : SIn s es l) : InR s es.length := by
 obtain ⟨a0, a1, a2⟩ := Zbd.1 h.v
 rw [h.len]
 exact ⟨by omega, by omega, by omega⟩
theorem SIn.ok {s : Int} {es : List AV} {l : List Rat} (h : SIn s es l) : SOK (s, l) (s + l.length) (-100) 8 := ⟨h.v, rfl, (Zbd.1 h.v).1, h.ht⟩
end Ab
