import Derived.Test.YtdbkmjahbgcjbaaGreatDoorOpen
import Derived.Test.YtdbkmjahbgcjbaaGreatDoorCf
set_option linter.all false
namespace Ab
open Go Go.RowKit Go.Proofs Hp
set_option maxRecDepth 100000
theorem big_raw {r : RQ} (h : big (rawA r) = false) : r.1.2.length ≤ 4 ∧ r.2.2.length ≤ 4 := by
 simp [big, rawA] at h
 omega
structure GoodS (a : Ser) (l : List Rat) : Prop where
 isL : IsL (a.coef.map rawA) 4 l
 len : (a.coef.map rawA).length = l.length
 v : ValidP a.from' l.length = true
 lo : -8 ≤ a.from'
 hi : a.from' ≤ 40
 n : l.length ≤ 12
 ht : ∀ q, q ∈ l → Ht q 4
 r : InR a.from' (a.coef.map rawA).length
theorem both_mk {s t : Int} {es fs : List AV} {l m : List Rat} {K : Nat} (h1 : IsL es K l) (h2 : IsL fs K m) (h3 : InR s es.length) (h4 : InR t fs.length) : Both s es t fs K l m := ⟨fun _ _ => ⟨h1, h2⟩, h1.get.1, h2.get.1, h3, h4⟩
theorem Out.v {s : Int} {l : List Rat} {p : Int} (h3 : -100 ≤ s) (h4 : s + l.length = p) (h5 : p ≤ 1000) : ValidP s l.length = true := valid_iff.2 ⟨h3, by omega, by omega⟩
theorem inR_enc {s : Int} {l : List Rat} (hv : ValidP s l.length = true) : InR s (l.map encQ).length := by
 obtain ⟨a0, a1, a2⟩ := valid_iff.1 hv
 rw [List.length_map]
 exact ⟨by omega, by omega, by omega⟩
end Ab
