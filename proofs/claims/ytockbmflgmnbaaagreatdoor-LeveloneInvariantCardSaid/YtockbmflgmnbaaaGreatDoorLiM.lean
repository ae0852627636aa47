/- Peeling a series by powers of j: what is left after each step, told by coefficients. Plain arithmetic. -/
import Derived.Test.YtockbmflgmnbaaaGreatDoorLx
set_option linter.all false
namespace Ab
open Go Go.RowKit Go.Proofs Hp
set_option maxRecDepth 100000
def jpw (i : Nat) (n : Int) : Rat := if n + i < 0 then 0 else pq jV i (n + i).toNat
def jPL : Nat → List Rat
 | 0 => tk one' 40
 | i + 1 => tk (conv (jPL i) jL) 40
theorem jPL_eq : ∀ i, jPL i = tk (pq jV i) 40
  | 0 => rfl
  | i + 1 => by
    rw [jPL, jPL_eq i, ← jV_eq]
    exact Zey fun k hk => conv_tk hk hk
theorem jPL_hb : ((List.range 21).all fun i => (jPL i).all (htB 32)) = true := by decide +kernel
theorem jp_ht {i n : Nat} (hi : i ≤ 20) (hn : n < 40) : Ht (pq jV i n) 32 := by
 have h := List.all_eq_true.1 jPL_hb i (List.mem_range.2 (by omega))
 rw [jPL_eq] at h
 exact Zeo h _ (List.mem_map.2 ⟨n, List.mem_range.2 hn, rfl⟩)
def mkO (p b : Int) (f : Int → Rat) : Option (Int × List Rat) := nrm b (tk (fun i => f (b + i)) (p - b).toNat)
theorem mkO_out {p b : Int} {f : Int → Rat} {K : Nat} (h0 : -100 ≤ b) (h1 : b ≤ p) (h2 : p ≤ 1000) (hf : ∀ n, n < b → f n = 0) (hK : ∀ n, b ≤ n → n < p → Ht (f n) K) : Out (mkO p b f) p f b K := by
 have := nrm_out (s := b) (l := tk (fun i => f (b + i)) (p - b).toNat) (K := K) h0 (by rw [tk_len]; omega) (fun q hq => by
  obtain ⟨i, hi, rfl⟩ := Zfc hq
  exact hK _ (by omega) (by omega))
 refine this.congr (by rw [tk_len]; omega) (fun n hn => ?_) (Int.le_refl _) (Nat.le_refl _)
 by_cases h : n < b
 ·rw [Zc9 h, hf n h]
 ·rw [cf_tk (by omega) (by omega)]
  congr 1
  omega
theorem out_mkO {x : Option (Int × List Rat)} {p b b' : Int} {f : Int → Rat} {K : Nat} (h : Out x p f b K) (h0 : -100 ≤ b') (h1 : b' ≤ p) (hb : b' ≤ b) : x = mkO p b' f := by
 have h' := h.congr rfl (fun _ _ => rfl) hb (Nat.le_refl _)
 obtain ⟨s, l, e1, e2, e3, e4, e5, e6, e7, e8⟩ := id h'
 have hz : ∀ n, n < s → n < p → f n = 0 := fun n hn hp => by rw [← e6 n hp, Zc9 hn]
 have hk : ∀ n, b' ≤ n → n < p → Ht (f n) (K + 1) := fun n _ hp => by
  rw [← e6 n hp]
  exact ht_cf (by omega) (fun q hq => (e7 q hq).mono (by omega)) n
 have m1 : Out (mkO p b' f) p f b' (K + 1) := by
  have := nrm_out (s := b') (l := tk (fun i => f (b' + i)) (p - b').toNat) (K := K + 1) h0 (by rw [tk_len]; omega) (fun q hq => by
   obtain ⟨i, hi, rfl⟩ := Zfc hq
   exact hk _ (by omega) (by omega))
  refine this.congr (by rw [tk_len]; omega) (fun n hn => ?_) (Int.le_refl _) (Nat.le_refl _)
  by_cases c : n < b'
  ·rw [Zc9 c, hz n (by omega) hn]
  ·rw [cf_tk (by omega) (by omega)]
   congr 1
   omega
 exact Out.eq h' m1
def rk (α : Int → Rat) (m : Nat) : Nat → Int → Rat
 | 0 => α
 | k + 1 => fun n => rk α m k n - rk α m k (-((m : Int) - k)) * jpw (m - k) n
def ck (α : Int → Rat) (m k : Nat) : Rat := rk α m k (-((m : Int) - k))
def rkH (k : Nat) : Nat := 50 * 2 ^ k - 35
theorem rkH_succ (k : Nat) : rkH k + (rkH k + 32) + 1 ≤ rkH (k + 1) := by
 unfold rkH
 have : 1 ≤ 2 ^ k := Nat.one_le_two_pow
 rw [Nat.pow_succ]
 omega
theorem rkH_le {k : Nat} (h : k ≤ 21) : rkH k ≤ 104857600 := by
 unfold rkH
 have : 2 ^ k ≤ 2 ^ 21 := Nat.pow_le_pow_right (by decide) h
 omega
theorem Zc8 (k : Nat) : 12 ≤ rkH k := by
 unfold rkH
 have : 1 ≤ 2 ^ k := Nat.one_le_two_pow
 omega
theorem jpw_ht {i : Nat} {n : Int} (hi : i ≤ 20) (hn : n + i < 40) : Ht (jpw i n) 32 := by
 unfold jpw
 split
 ·exact ht0 (by decide)
 ·exact jp_ht hi (by omega)
theorem rk_ht {α : Int → Rat} {m : Nat} {p : Int} (hm : m ≤ 20) (hp : p + m ≤ 40) (hp0 : 1 ≤ p) (hα : ∀ n, n < p → Ht (α n) 12) : ∀ k, k ≤ m + 1 → ∀ n, n < p → Ht (rk α m k n) (rkH k)
  | 0, _, n, hn => (hα n hn).mono (Zc8 0)
  | k + 1, hk, n, hn => by
    have h1 := rk_ht hm hp hp0 hα k (by omega) n hn
    have h2 := rk_ht hm hp hp0 hα k (by omega) (-((m : Int) - k)) (by omega)
    have h3 := jpw_ht (i := m - k) (n := n) (by omega) (by omega)
    have h4 := ht_neg (Zbl h2 h3 (by have := Zc8 k; omega))
    show Ht (rk α m k n - rk α m k (-((m : Int) - k)) * jpw (m - k) n) _
    rw [Rat.sub_eq_add_neg]
    exact (Zg4 h1 h4).mono (by have := rkH_succ k; omega)
theorem ck_ht {α : Int → Rat} {m : Nat} {p : Int} (hm : m ≤ 20) (hp : p + m ≤ 40) (hp0 : 1 ≤ p) (hα : ∀ n, n < p → Ht (α n) 12) {k : Nat} (hk : k ≤ m) : Ht (ck α m k) (rkH k) := rk_ht hm hp hp0 hα k (by omega) _ (by omega)
theorem rk_low {α : Int → Rat} {m : Nat} (hα : ∀ n, n < -(m : Int) → α n = 0) : ∀ k, k ≤ m + 1 → ∀ n, n < -(m : Int) → rk α m k n = 0
  | 0, _, n, hn => hα n hn
  | k + 1, hk, n, hn => by
    show rk α m k n - rk α m k (-((m : Int) - k)) * jpw (m - k) n = 0
    rw [rk_low hα k (by omega) n hn]
    have : jpw (m - k) n = 0 := by
      unfold jpw
      rw [if_pos (by omega)]
    rw [this, Rat.mul_zero]
    grind
def xk (α : Int → Rat) (m : Nat) (p : Int) (k : Nat) : Option (Int × List Rat) := mkO p (-(m : Int)) (rk α m k)
theorem xk_out {α : Int → Rat} {m : Nat} {p : Int} (hm : m ≤ 20) (hp : p + m ≤ 40) (hp0 : 1 ≤ p) (hα : ∀ n, n < p → Ht (α n) 12) (h0 : ∀ n, n < -(m : Int) → α n = 0) {k : Nat} (hk : k ≤ m + 1) : Out (xk α m p k) p (rk α m k) (-(m : Int)) (rkH k) :=
 mkO_out (by omega) (by omega) (by omega) (rk_low h0 k hk) fun n _ hn => rk_ht hm hp hp0 hα k hk n hn
theorem xk_zero {α : Int → Rat} {m k : Nat} {p : Int} (h : ck α m k = 0) : xk α m p (k + 1) = xk α m p k := by
 unfold xk
 congr 1
 funext n
 have h : rk α m k (-((m : Int) - k)) = 0 := h
 show rk α m k n - rk α m k (-((m : Int) - k)) * jpw (m - k) n = _
 rw [h, Rat.zero_mul]
 grind
end Ab
