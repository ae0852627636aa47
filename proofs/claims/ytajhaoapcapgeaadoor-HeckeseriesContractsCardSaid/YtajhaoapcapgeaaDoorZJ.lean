/- Package ref02: Add, Neg, Sub, Same, in abstract values. Package ref33: two, Coef, Add, Scale, Sub, Differ, in abstract values. Package ref33: Differ; the comparison of results. -/
import Derived.Test.YtajhaoapcapgeaaDoorRPJ
import Derived.Test.YtajhaoapcapgeaaDoorBase
import Derived.Test.YtajhaoapcapgeaaDoorRJ
set_option linter.all false
namespace Ab
open Go Go.RowKit Go.Proofs Hp
set_option maxRecDepth 100000

theorem lt_add {x y : Int} {k : Nat} (hx : x.natAbs < pw k) (hy : y.natAbs < pw k) : (x + y).natAbs < pw (k + 1) := by
  have h1 := pw_pos k
  have h2 : pw (k + 1) = pw k * 4294967296 := rfl
  omega
theorem rat_add_eq (p q : Rat) : p + q = Rat.divInt (p.num * q.den + q.num * p.den) (p.den * q.den) := by
  conv => lhs; rw [← Rat.num_divInt_den p, ← Rat.num_divInt_den q]
  rw [Rat.divInt_add_divInt _ _ (by have := p.den_nz; omega) (by have := q.den_nz; omega)]
end Ab
namespace Ab
open Go Go.RowKit Go.Proofs Hp
set_option maxRecDepth 100000

theorem comb_one {s t : Int} {l m : List Rat} (i : Nat) : comb s l t m 1 i = cf s l (cfr s l.length t m.length + i) + cf t m (cfr s l.length t m.length + i) := by
  unfold comb
  have : ((1 : Int) : Rat) = 1 := rfl
  rw [this, Rat.one_mul]
/-- a multiple -/
def sclR (c : Rat) (s : Int) (l : List Rat) : Option (Int × List Rat) := if ValidP s l.length then nrm s (tk (fun i => c * l.getD i 0) l.length) else none
theorem Out.eq {x y : Option (Int × List Rat)} {p b b' : Int} {f : Int → Rat} {K K' : Nat} (h : Out x p f b K) (h' : Out y p f b' K') : x = y := by
  obtain ⟨s, l, e1, -, e3, -, -, e6, -, e8⟩ := h
  obtain ⟨t, m, k1, -, k3, -, -, k6, -, k8⟩ := h'
  obtain ⟨rfl, rfl⟩ := norm_eq (s := s) (t := t) (l := l) (m := m) e8 k8 (by omega) (fun n hn => by rw [e6 n (by omega), k6 n (by omega)])
  rw [e1, k1]
theorem scl_out {c : Rat} {s : Int} {l : List Rat} {k K : Nat} (hv : ValidP s l.length = true) (hc : Ht c k) (hk : 1 ≤ k) (hK : 1 ≤ K) (hl : ∀ q, q ∈ l → Ht q K) : Out (sclR c s l) (s + l.length) (fun n => c * cf s l n) s (k + K) := by
  obtain ⟨a0, a1, a2⟩ := valid_iff.1 hv
  have e : sclR c s l = nrm s (tk (fun i => c * l.getD i 0) l.length) := by unfold sclR; rw [hv]; rfl
  rw [e]
  have := nrm_out (s := s) (l := tk (fun i => c * l.getD i 0) l.length) (K := k + K) a0 (by rw [tk_len]; omega) (fun q hq => by
    obtain ⟨i, -, rfl⟩ := tk_mem hq
    exact ht_mul hc (ht_getD hK hl i) hk)
  refine this.congr (by rw [tk_len]) (fun n hn => ?_) (Int.le_refl _) (Nat.le_refl _)
  by_cases h2 : n < s
  · rw [cf_lt h2, cf_lt h2, Rat.mul_zero]
  · rw [cf_tk (by omega) (by omega)]
    unfold cf
    rw [if_neg h2]
/-- subtracting is adding the multiple by -1 -/
theorem sub_eq {s t u : Int} {l m c : List Rat} {K : Nat} (hv : ValidP s l.length = true) (hw : ValidP t m.length = true) (hK : 1 ≤ K) (hl : ∀ q, q ∈ l → Ht q K) (hm : ∀ q, q ∈ m → Ht q K) (he : sclR ((-1 : Int) : Rat) t m = some (u, c)) : ValidP u c.length = true ∧ (∀ q, q ∈ c → Ht q (1 + K)) ∧ combR s l u c 1 = combR s l t m (-1) := by
  obtain ⟨u', c', e1, e2, e3, e4, e5, e6, e7, e8⟩ := scl_out hw (ht_int (c := -1) (by decide)) (Nat.le_refl 1) hK hm
  rw [he] at e1
  injection e1 with e1
  injection e1 with h1 h2
  subst h1 h2
  have vc := Out.v e2 e3 e4
  refine ⟨vc, e7, ?_⟩
  have o1 := comb_out (c := 1) (K := 1 + K) hv vc (by decide) (by omega) (fun q hq => (hl q hq).mono (by omega)) e7
  have o2 := comb_out (c := -1) hv hw (by decide) hK hl hm
  refine Out.eq (o1.congr (p' := min (s + (l.length : Int)) (t + (m.length : Int))) (f' := fun n => cf s l n + ((-1 : Int) : Rat) * cf t m n) (by rw [e3]) (fun n hn => ?_) (Int.le_refl _) (Nat.le_refl _)) o2
  show cf s l n + ((1 : Int) : Rat) * cf u c n = cf s l n + ((-1 : Int) : Rat) * cf t m n
  rw [e6 n (by omega), show ((1 : Int) : Rat) = 1 from rfl, Rat.one_mul]
end Ab
namespace Ab
open Go Go.RowKit Go.Proofs Hp
set_option maxRecDepth 100000

theorem out_ht {R : Option (Int × List Rat)} {p b : Int} {f : Int → Rat} {K : Nat} (h : Out R p f b K) : (∀ q, q ∈ sL R → Ht q K) ∧ (sL R).length ≤ 1000000 := by
  obtain ⟨s, l, rfl, h2, h3, h4, -, -, h7, -⟩ := h
  exact ⟨h7, by show l.length ≤ _; omega⟩
theorem none_ht {K : Nat} : (∀ q, q ∈ sL none → Ht q K) ∧ (sL none).length ≤ 1000000 := ⟨fun q h => by simp [sL] at h, Nat.zero_le _⟩
theorem comb_ht {s t c : Int} {l m : List Rat} {K : Nat} (hc : c.natAbs < 4294967296) (hK : 1 ≤ K) (h : ValidP s l.length = true → ValidP t m.length = true → (∀ q, q ∈ l → Ht q K) ∧ (∀ q, q ∈ m → Ht q K)) : (∀ q, q ∈ sL (combR s l t m c) → Ht q (2 * K + 2)) ∧ (sL (combR s l t m c)).length ≤ 1000000 := by
  cases h1 : ValidP s l.length && ValidP t m.length with
  | false => unfold combR; rw [h1]; exact none_ht
  | true =>
    simp only [Bool.and_eq_true] at h1
    obtain ⟨h2, h3⟩ := h h1.1 h1.2
    exact out_ht (comb_out h1.1 h1.2 hc hK h2 h3)
end Ab
