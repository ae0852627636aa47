/- Package ref02: Add, Neg, Sub, Same, in abstract values. Package ref33: two, Coef, Add, Scale, Sub, Differ, in abstract values. Package ref33: Differ; the comparison of results. -/
import Derived.Test.YtgkhcpppdadicaaGreatDoorRPJ
import Derived.Test.YtgkhcpppdadicaaGreatDoorIB
import Derived.Test.YtgkhcpppdadicaaGreatDoorRJ
set_option linter.all false
namespace Ab
open Go Go.RowKit Go.Proofs Hp
set_option maxRecDepth 100000
end Ab
namespace Ab
open Go Go.RowKit Go.Proofs Hp
set_option maxRecDepth 100000
def sclR (c : Rat) (s : Int) (l : List Rat) : Option (Int × List Rat) := if ValidP s l.length then nrm s (tk (fun i => c * l.getD i 0) l.length) else none
theorem Out.eq {x y : Option (Int × List Rat)} {p b b' : Int} {f : Int → Rat} {K K' : Nat} (h : Out x p f b K) (h' : Out y p f b' K') : x = y := by
 obtain ⟨s, l, e1, -, e3, -, -, e6, -, e8⟩ := h
 obtain ⟨t, m, k1, -, k3, -, -, k6, -, k8⟩ := h'
 obtain ⟨rfl, rfl⟩ := norm_eq (s := s) (t := t) (l := l) (m := m) e8 k8 (by omega) (fun n hn => by rw [e6 n (by omega), k6 n (by omega)])
 rw [e1, k1]
theorem scl_out {c : Rat} {s : Int} {l : List Rat} {k K : Nat} (hv : ValidP s l.length = true) (hc : Ht c k) (hk : 1 ≤ k) (hK : 1 ≤ K) (hl : ∀ q, q ∈ l → Ht q K) : Out (sclR c s l) (s + l.length) (fun n => c * cf s l n) s (k + K) := by
 obtain ⟨a0, a1, a2⟩ := valid_iff.1 hv
 have e : sclR c s l = nrm s (tk (fun i => c * l.getD i 0) l.length) := by unfold sclR; rw [hv]; rfl
 rw [e]
 have := nrm_out (s := s) (l := tk (fun i => c * l.getD i 0) l.length) (K := k + K) a0 (by rw [tk_len]; omega) (fun q hq => by
  obtain ⟨i, -, rfl⟩ := tk_mem hq
  exact ht_mul hc (ht_getD hK hl i) hk)
 refine this.congr (by rw [tk_len]) (fun n hn => ?_) (Int.le_refl _) (Nat.le_refl _)
 by_cases h2 : n < s
 ·rw [cf_lt h2, cf_lt h2, Rat.mul_zero]
 ·rw [cf_tk (by omega) (by omega)]
  unfold cf
  rw [if_neg h2]
end Ab
namespace Ab
open Go Go.RowKit Go.Proofs Hp
set_option maxRecDepth 100000
end Ab
