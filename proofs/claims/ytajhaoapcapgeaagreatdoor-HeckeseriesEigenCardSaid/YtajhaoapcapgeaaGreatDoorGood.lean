/- What the gate lets in, as fractions; comparison by coefficients. -/
import Derived.Test.YtajhaoapcapgeaaGreatDoorOpen
import Derived.Test.YtajhaoapcapgeaaGreatDoorCf
set_option linter.all false
namespace Ab
open Go Go.RowKit Go.Proofs Hp
set_option maxRecDepth 100000

def ratO (r : RQ) : Rat := Rat.divInt (zof r.1.1 (vl r.1.2)) (zof r.2.1 (vl r.2.2))
theorem isV_raw {r : RQ} {k : Nat} (h : DigR r) (h1 : r.1.2.length ≤ k) (h2 : r.2.2.length ≤ k) : IsV (rawA r) k (ratO r) :=
  ⟨_, _, _, _, rfl, ⟨r.1.1, r.1.2, rfl, h.1.1, h1, rfl⟩, ⟨r.2.1, r.2.2, rfl, h.2.1, h2, rfl⟩, rfl⟩
theorem c4_raw (r : RQ) : C4 (rawA r) := ⟨_, _, _, _, rfl⟩
theorem big_raw {r : RQ} (h : big (rawA r) = false) : r.1.2.length ≤ 4 ∧ r.2.2.length ≤ 4 := by
  simp [big, rawA] at h
  omega
theorem isL_raw {k : Nat} : ∀ {R : List RQ}, (∀ r, r ∈ R → DigR r ∧ r.1.2.length ≤ k ∧ r.2.2.length ≤ k) → IsL (R.map rawA) k (R.map ratO)
  | [], _ => trivial
  | r :: R, h => ⟨isV_raw (h r (by simp)).1 (h r (by simp)).2.1 (h r (by simp)).2.2, isL_raw fun q hq => h q (by simp [hq])⟩
theorem isL_long {n : Nat} {R : List RQ} (hd : ∀ r, r ∈ R → DigR r) (h : longB n (R.map rawA) = false) : IsL (R.map rawA) 4 (R.map ratO) ∧ R.length ≤ n := by
  unfold longB at h
  rw [Bool.or_eq_false_iff] at h
  obtain ⟨h1, h2⟩ := h
  refine ⟨isL_raw fun r hr => ⟨hd r hr, big_raw ?_⟩, by simpa using h1⟩
  have := List.any_eq_false.1 h2 (rawA r) (List.mem_map.2 ⟨r, hr, rfl⟩)
  simpa using this
def pr (a : Ser) : Int × List AV := (a.from', a.coef.map rawA)
theorem inR_ser {a : Ser} (h : SerOK a) : InR a.from' (a.coef.map rawA).length := ⟨h.lo, h.hi, by rw [List.length_map]; exact h.len⟩
/-- what the gate lets in -/
structure GoodS (a : Ser) (l : List Rat) : Prop where
  isL : IsL (a.coef.map rawA) 4 l
  len : (a.coef.map rawA).length = l.length
  v : ValidP a.from' l.length = true
  lo : -8 ≤ a.from'
  hi : a.from' ≤ 40
  n : l.length ≤ 12
  ht : ∀ q, q ∈ l → Ht q 4
  r : InR a.from' (a.coef.map rawA).length
theorem good {a : Ser} (h : SerOK a) (hi : inn (pr a) = true) : GoodS a (a.coef.map ratO) := by
  unfold inn pr at hi
  simp only [Bool.and_eq_true, decide_eq_true_eq, Bool.not_eq_true'] at hi
  obtain ⟨⟨⟨h1, h2⟩, h3⟩, h4⟩ := hi
  obtain ⟨h5, h6⟩ := isL_long h.dig h2
  exact ⟨h5, by simp, by simpa using h1, h3, h4, by simpa using h6, isL_ht h5 (by decide), inR_ser h⟩
theorem agr_true {s t : Int} {l m : List Rat} (hv : ValidP s l.length = true) (hw : ValidP t m.length = true) (h : ∀ n, n < s + l.length → n < t + m.length → cf s l n = cf t m n) : agr s l t m = true := by
  have e : difR s l t m = (min (s + l.length) (t + m.length), false, 0) := by
    unfold difR
    rw [hv, hw]
    have : fst (difP s l t m) (difN s l.length t m.length) 0 = none := fst_none _ _ fun i _ hi => by
      unfold difN at hi
      unfold difP
      rw [h _ (by omega) (by omega)]
      simp
    rw [this]
    rfl
  unfold agr
  rw [e]
  rfl
theorem Out.v {s : Int} {l : List Rat} {p : Int} (h3 : -100 ≤ s) (h4 : s + l.length = p) (h5 : p ≤ 1000) : ValidP s l.length = true := valid_iff.2 ⟨h3, by omega, by omega⟩
end Ab
