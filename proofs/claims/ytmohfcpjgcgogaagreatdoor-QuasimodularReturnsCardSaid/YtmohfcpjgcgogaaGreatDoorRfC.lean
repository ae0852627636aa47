/- Package ref01: divided, in abstract values. Package ref01: divided, in abstract values: its walk. Package ref01: Add, Sub, Euclid, in abstract values. Package ref01: Gcd, in abstract values. Package ref01: Mul, in abstract values. -/
import Derived.Test.YtmohfcpjgcgogaaGreatDoorRfB
set_option linter.all false
namespace Ab
open Go Go.RowKit Go.Proofs Hp
set_option maxRecDepth 100000
def pad (L n : Nat) : List Int := (List.range L).map fun i => ((n / 4294967296 ^ i % 4294967296 : Nat) : Int)
theorem pw_nat (q : Nat) : pw q = ((4294967296 ^ q : Nat) : Int) := by
 induction q with
 | zero => rfl
 | succ q ih => rw [pw_succ, ih, Nat.pow_succ, Int.natCast_mul]; rfl
theorem pad_dig {L n : Nat} : ∀ d, d ∈ pad L n → Za0 d := fun d h => by
 obtain ⟨i, -, rfl⟩ := List.mem_map.1 h
 unfold Za0 B
 omega
theorem pad_len (L n : Nat) : (pad L n).length = L := by simp [pad]
theorem pad_vl {L n : Nat} (h : (n : Int) < pw L) : vl (pad L n) = n := by
  unfold pad
  rw [vl_map]
  have key : ∀ L : Nat, val (fun i => ((n / 4294967296 ^ i % 4294967296 : Nat) : Int)) L = ((n % 4294967296 ^ L : Nat) : Int) := by
    intro L
    induction L with
    | zero => simp [val, Nat.mod_one]
    | succ L ih =>
      rw [Zgo, ih, pw_nat, Nat.pow_succ, Nat.mod_mul, ← Int.natCast_mul, ← Int.natCast_add, Nat.mul_comm (4294967296 ^ L)]
  rw [key, Nat.mod_eq_of_lt]
  rw [pw_nat] at h
  omega
theorem pad_of {qs : List Int} {n : Nat} (hd : ∀ d, d ∈ qs → Za0 d) (hv : vl qs = n) : qs = pad qs.length n := by
 have hlt : (n : Int) < pw qs.length := by rw [← hv]; exact vl_lt hd
 have e := pad_vl hlt
 apply List.ext_getElem
 ·rw [pad_len]
 ·intro i h1 h2
  have hD2 := Zex (pad_dig (L := qs.length) (n := n))
  rw [pad_len] at hD2
  have e2 : val (fun i => qs.getD i 0) qs.length = val (fun i => (pad qs.length n).getD i 0) qs.length := by
   rw [← vl_def, hv, ← e, vl_def, pad_len]
  have := val_inj (Zex hd) hD2 e2 i h1
  simpa [h1, h2] using this
theorem getD_set_eq {qs : List Int} {i : Nat} (h : i < qs.length) (e : Int) : (qs.set i e).getD i 0 = e := by simp [List.getD_eq_getElem?_getD, h]
theorem Zd1 {qs : List Int} {i j : Nat} (h : i ≠ j) (e : Int) : (qs.set i e).getD j 0 = qs.getD j 0 := by simp [List.getD_eq_getElem?_getD, List.getElem?_set_ne h]
theorem vl_set {qs : List Int} {i : Nat} (h : i < qs.length) (e : Int) : vl (qs.set i (qs.getD i 0 + e)) = vl qs + e * pw i := by
  rw [vl_def, vl_def, List.length_set]
  have key : ∀ n, val (fun j => (qs.set i (qs.getD i 0 + e)).getD j 0) n = val (fun j => qs.getD j 0) n + if i < n then e * pw i else 0 := by
    intro n
    induction n with
    | zero => simp [val]
    | succ n ih =>
      rw [Zgo, ih, Zgo (fun j => qs.getD j 0)]
      by_cases h1 : i = n
      · subst h1
        rw [getD_set_eq h, if_neg (Nat.lt_irrefl i), if_pos (Nat.lt_succ_self i), Int.add_mul]
        omega
      · rw [Zd1 h1]
        by_cases h2 : i < n
        · rw [if_pos h2, if_pos (by omega)]; omega
        · rw [if_neg h2, if_neg (by omega)]; omega
  rw [key, if_pos h]
theorem set_dig {qs : List Int} {i : Nat} {e : Int} (hd : ∀ d, d ∈ qs → Za0 d) (he : Za0 e) : ∀ d, d ∈ qs.set i e → Za0 d := fun d h => by
 rcases List.mem_or_eq_of_mem_set h with h | rfl
 ·exact hd d h
 ·exact he
theorem dig_room {d : Int} {r : Nat} (hr : r < 32) (hd : Za0 d) (h : (2 : Int) ^ (r + 1) ∣ d) : 0 ≤ d + 2 ^ r ∧ d + 2 ^ r < 4294967296 := by
 obtain ⟨c, rfl⟩ := h
 have h1 := two_pos r
 have hB : (4294967296 : Int) = 2 ^ (r + 1) * 2 ^ (31 - r) := by rw [← Int.pow_add, show r + 1 + (31 - r) = 32 by omega]; rfl
 have hd2 : 2 ^ (r + 1) * c < 2 ^ (r + 1) * 2 ^ (31 - r) := by rw [← hB]; exact hd.2
 have hc := Int.lt_of_mul_lt_mul_left hd2 (Int.le_of_lt (two_pos _))
 have h2 : (2 : Int) ^ (r + 1) * (c + 1) ≤ 2 ^ (r + 1) * 2 ^ (31 - r) := Int.mul_le_mul_of_nonneg_left (by omega) (Int.le_of_lt (two_pos _))
 rw [← hB, Int.mul_add, Int.mul_one] at h2
 have h3 : (2 : Int) ^ (r + 1) = 2 ^ r * 2 := by rw [Int.pow_succ]
 have := hd.1
 omega
structure DivI (x y L k : Nat) (qs : List Int) (v rv : Nat) : Prop where
 len : qs.length = L
 dig : ∀ d, d ∈ qs → Za0 d
 vv : vl qs = (v : Int)
 e : x = y * v + rv
 lt : rv < y * 2 ^ k
 z : ∀ i, i < k / 32 → qs.getD i 0 = 0
 dv : (2 : Int) ^ (k % 32) ∣ qs.getD (k / 32) 0
theorem DivI.low {x y L k : Nat} {qs : List Int} {v rv : Nat} (h : DivI x y L (k + 1) qs v rv) : (∀ i, i < k / 32 → qs.getD i 0 = 0) ∧ (2 : Int) ^ (k % 32 + 1) ∣ qs.getD (k / 32) 0 := by
 refine ⟨fun i hi => h.z i (by omega), ?_⟩
 by_cases h1 : (k + 1) % 32 = 0
 ·rw [h.z (k / 32) (by omega)]; exact Int.dvd_zero _
 ·have := h.dv
  rw [show (k + 1) / 32 = k / 32 by omega, show (k + 1) % 32 = k % 32 + 1 by omega] at this
  exact this
theorem DivI.skip {x y L k : Nat} {qs : List Int} {v rv : Nat} (h : DivI x y L (k + 1) qs v rv) (hlt : rv < y * 2 ^ k) : DivI x y L k qs v rv := by
 obtain ⟨h1, h2⟩ := h.low
 refine ⟨h.len, h.dig, h.vv, h.e, hlt, h1, ?_⟩
 rw [Int.pow_succ] at h2
 exact Int.dvd_trans (Int.dvd_mul_right _ 2) h2
theorem DivI.step {x y L k : Nat} {qs : List Int} {v rv : Nat} (h : DivI x y L (k + 1) qs v rv) (hk : k / 32 < L) (hge : y * 2 ^ k ≤ rv) : DivI x y L k (qs.set (k / 32) (qs.getD (k / 32) 0 + 2 ^ (k % 32))) (v + 2 ^ k) (rv - y * 2 ^ k) := by
 obtain ⟨h1, h2⟩ := h.low
 have hi : k / 32 < qs.length := by rw [h.len]; exact hk
 have hr := dig_room (Nat.mod_lt k (by decide)) (gd_dig h.dig (k / 32)) h2
 have h2p : y * 2 ^ (k + 1) = y * 2 ^ k + y * 2 ^ k := by rw [Nat.pow_succ, ← Nat.mul_assoc]; omega
 have hlt := h.lt
 refine ⟨by rw [List.length_set]; exact h.len, set_dig h.dig ⟨hr.1, by unfold B; exact hr.2⟩, ?_, ?_, by omega, fun i hi => ?_, ?_⟩
 ·rw [vl_set hi, h.vv, ← two_split, Int.natCast_add, Int.natCast_pow]; rfl
 ·rw [Nat.mul_add]; have := h.e; omega
 ·rw [Zd1 (by omega)]; exact h1 i hi
 ·rw [getD_set_eq hi]
  rw [Int.pow_succ] at h2
  exact Int.dvd_add (Int.dvd_trans (Int.dvd_mul_right _ 2) h2) (Int.dvd_refl _)
theorem DivI.fin {x y L : Nat} {qs : List Int} {v rv : Nat} (h : DivI x y L 0 qs v rv) : qs = pad L (x / y) ∧ rv = x % y := by
 have hlt := h.lt
 rw [Nat.pow_zero, Nat.mul_one] at hlt
 have e := h.e
 have h1 : x / y = v := by rw [e, Nat.mul_add_div (by omega), Nat.div_eq_of_lt hlt, Nat.add_zero]
 have h2 : x % y = rv := by rw [e, Nat.mul_add_mod, Nat.mod_eq_of_lt hlt]
 rw [h1, h2, ← h.len]
 exact ⟨pad_of h.dig h.vv, rfl⟩
end Ab
namespace Ab
open Go Go.RowKit Go.Proofs Hp
set_option maxRecDepth 100000
end Ab
namespace Ab
open Go Go.RowKit Go.Proofs Hp
set_option maxRecDepth 100000
end Ab
namespace Ab
open Go Go.RowKit Go.Proofs Hp
set_option maxRecDepth 100000
abbrev varI : Blk := .var [.v (.p (.bool false)), .v (.p nilV)]
abbrev varN (n : Nat) : Blk := .var [.v (.p (.bool false)), .v (.sl ((dgs n).map u32))]
end Ab
namespace Ab
open Go Go.RowKit Go.Proofs Hp
set_option maxRecDepth 100000
theorem vl_put {os : List Int} {i : Nat} (h : i < os.length) (e : Int) : vl (os.set i e) = vl os + (e - os.getD i 0) * pw i := by
 have := vl_set h (e - os.getD i 0)
 rw [show os.getD i 0 + (e - os.getD i 0) = e by omega] at this
 exact this
structure MulI (xs ys : List Int) (n m i k : Nat) (os : List Int) (c : Int) : Prop where
 len : os.length = n + m
 dig : ∀ d, d ∈ os → Za0 d
 c0 : 0 ≤ c
 c1 : c < 4294967296
 v : vl os + c * pw (i + k) = val (fun j => xs.getD j 0) i * vl ys + xs.getD i 0 * pw i * val (fun j => ys.getD j 0) k
 z : ∀ j, i + m ≤ j → os.getD j 0 = 0
theorem sq_b {a b : Int} (ha : 0 ≤ a ∧ a < 4294967296) (hb : 0 ≤ b ∧ b < 4294967296) : 0 ≤ a * b ∧ a * b ≤ 18446744065119617025 := by
 have h1 : 0 ≤ a * b := Int.mul_nonneg ha.1 hb.1
 have h2 : a * b ≤ 4294967295 * b := Int.mul_le_mul_of_nonneg_right (by omega) hb.1
 omega
theorem MulI.s_b {xs ys : List Int} {n m i k : Nat} {os : List Int} {c : Int} (h : MulI xs ys n m i k os c) (hx : ∀ d, d ∈ xs → Za0 d) (hy : ∀ d, d ∈ ys → Za0 d) : 0 ≤ xs.getD i 0 * ys.getD k 0 ∧ xs.getD i 0 * ys.getD k 0 ≤ 18446744065119617025 ∧ 0 ≤ os.getD (i + k) 0 ∧ os.getD (i + k) 0 < 4294967296 := by
 have h1 := sq_b (gd_b hx i) (gd_b hy k)
 have h2 := gd_b h.dig (i + k)
 exact ⟨h1.1, h1.2, h2.1, h2.2⟩
theorem MulI.step {xs ys : List Int} {n m i k : Nat} {os : List Int} {c : Int} (h : MulI xs ys n m i k os c) (hx : ∀ d, d ∈ xs → Za0 d) (hy : ∀ d, d ∈ ys → Za0 d) (hi : i < n) (hk : k < m) {s : Int} (hs : s = xs.getD i 0 * ys.getD k 0 + os.getD (i + k) 0 + c) : MulI xs ys n m i (k + 1) (os.set (i + k) (s % 4294967296)) (s / 4294967296) := by
 obtain ⟨b1, b2, b3, b4⟩ := h.s_b hx hy
 have c0 := h.c0
 have c1 := h.c1
 have hlt : i + k < os.length := by rw [h.len]; omega
 refine ⟨by rw [List.length_set]; exact h.len, set_dig h.dig (Zcg s), by omega, by omega, ?_, fun j hj => ?_⟩
 ·rw [vl_put hlt, ← Nat.add_assoc, pw_succ, Zgo]
  have hv := h.v
  have e1 : s % 4294967296 * pw (i + k) + s / 4294967296 * (pw (i + k) * 4294967296) = s * pw (i + k) := by
   have := Int.mul_ediv_add_emod s 4294967296
   rw [Int.mul_comm (pw (i + k)), ← Int.mul_assoc, ← Int.add_mul]
   congr 1
   omega
  have e2 : s * pw (i + k) = xs.getD i 0 * ys.getD k 0 * pw (i + k) + os.getD (i + k) 0 * pw (i + k) + c * pw (i + k) := by rw [hs, Int.add_mul, Int.add_mul]
  have e3 : xs.getD i 0 * ys.getD k 0 * pw (i + k) = xs.getD i 0 * pw i * (ys.getD k 0 * pw k) := by
   rw [pw_add]
   simp only [Int.mul_assoc, Int.mul_comm, Int.mul_left_comm]
  rw [Int.sub_mul, Int.mul_add]
  omega
 ·rw [Zd1 (by omega)]; exact h.z j hj
theorem MulI.out {xs ys : List Int} {n m i : Nat} {os : List Int} {c : Int} (h : MulI xs ys n m i m os c) (hm : ys.length = m) (hi : i < n) : MulI xs ys n m (i + 1) 0 (os.set (i + m) c) 0 := by
 have hlt : i + m < os.length := by rw [h.len]; omega
 refine ⟨by rw [List.length_set]; exact h.len, set_dig h.dig ⟨h.c0, by unfold B; exact h.c1⟩, Int.le_refl _, by decide, ?_, fun j hj => ?_⟩
 ·rw [vl_put hlt, h.z (i + m) (Nat.le_refl _), Int.sub_zero, h.v, Zgo]
  have : val (fun j => ys.getD j 0) m = vl ys := by rw [vl_def, hm]
  rw [this, show val (fun j => ys.getD j 0) 0 = 0 from rfl, Int.add_mul]
  simp
 ·rw [Zd1 (by omega)]; exact h.z j (by omega)
theorem zof_mul (g g' : Bool) (x y : Int) : zof (g != g') (x * y) = zof g x * zof g' y := by
 cases g <;> cases g' <;> simp [zof, Int.neg_mul, Int.mul_neg]
end Ab
