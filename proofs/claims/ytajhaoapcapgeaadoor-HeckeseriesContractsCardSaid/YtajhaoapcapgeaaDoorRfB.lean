/- Package ref01: word, below, plus, minus, in abstract values. Package ref01: plus, minus, in abstract values. Package ref01: split, shifted, Bits, in abstract values. -/
import Derived.Test.YtajhaoapcapgeaaDoorRfA
set_option linter.all false
namespace Ab
open Go Go.RowKit Go.Proofs Hp
set_option maxRecDepth 100000

theorem vl_nil : vl [] = 0 := rfl
theorem drop_step {ds : List Int} {j : Nat} (h : j < ds.length) : ds.drop j = ds[j] :: ds.drop (j + 1) := List.drop_eq_getElem_cons h
theorem u32_get {ds : List Int} {j : Nat} (h : j < ds.length) : (ds.map u32)[((j : Nat) : Int).toNat]? = some (.p (.int .u32 ds[j])) := u32_at (by rw [Int.toNat_natCast]; exact List.getElem?_eq_getElem h)
/-- comparison of digits of numbers -/
theorem dgs_lt_len {x y : Nat} (h : (dgs x).length < (dgs y).length) : x < y := by
  by_cases h1 : x < y
  · exact h1
  · exfalso
    have hx := digs_of (dgs_dig (n := x))
    have hy := digs_of (dgs_dig (n := y))
    have := canon_len hy hx (canon_of (dgs_last y)) (by
      show vl (dgs y) ≤ vl (dgs x)
      rw [dgs_vl, dgs_vl]; omega)
    omega
theorem dgs_mono {x y : Nat} (h : x ≤ y) : (dgs x).length ≤ (dgs y).length := by
  by_cases h1 : (dgs y).length < (dgs x).length
  · have := dgs_lt_len h1; omega
  · omega
end Ab
namespace Ab
open Go Go.RowKit Go.Proofs Hp
set_option maxRecDepth 100000

theorem shr32 {x : Int} (h : 0 ≤ x) : x.fdiv (2 ^ (min (32 : Int).toNat IntKind.u64.bits)) = x / 4294967296 := by
  rw [show ((2 : Int) ^ (min (32 : Int).toNat IntKind.u64.bits)) = 4294967296 from by decide, Int.fdiv_eq_ediv_of_nonneg _ (by decide)]
theorem range_snoc (f : Nat → Int) (i : Nat) : (List.range (i + 1)).map f = (List.range i).map f ++ [f i] := by simp [List.range_succ]
theorem u32_one {d : Int} : ∀ a, a ∈ [AV.p (.int .u32 d)] → a.cells.length = 1 := fun a ha => by rw [List.mem_singleton] at ha; subst ha; rfl
end Ab
namespace Ab
open Go Go.RowKit Go.Proofs Hp
set_option maxRecDepth 100000

/-- powers of 2 by digits -/
theorem pw_two (q : Nat) : pw q = 2 ^ (32 * q) := by
  induction q with
  | zero => rfl
  | succ q ih => rw [pw_succ, ih, show 32 * (q + 1) = 32 * q + 32 by omega, Int.pow_add]; rfl
theorem two_split (n : Nat) : (2 : Int) ^ n = 2 ^ (n % 32) * pw (n / 32) := by
  rw [pw_two, ← Int.pow_add]
  congr 1
  omega
theorem two_pos (n : Nat) : (0 : Int) < 2 ^ n := Int.pow_pos (by decide)
theorem two_le {m n : Nat} (h : m ≤ n) : (2 : Int) ^ m ≤ 2 ^ n := by
  obtain ⟨k, rfl⟩ := Nat.exists_eq_add_of_le h
  rw [Int.pow_add]
  have h1 := two_pos m
  have h2 := two_pos k
  have := Int.mul_le_mul_of_nonneg_left (show (1 : Int) ≤ 2 ^ k by omega) (show (0 : Int) ≤ 2 ^ m by omega)
  omega
theorem digs_snoc {os : List Int} {x : Int} (h : ∀ d, d ∈ os → isDig d) (hx : isDig x) : ∀ d, d ∈ os ++ [x] → isDig d := fun d hd => by
  rcases List.mem_append.1 hd with hd | hd
  · exact h d hd
  · rw [List.mem_singleton] at hd; subst hd; exact hx
theorem digs_rep {n : Nat} : ∀ d, d ∈ List.replicate n (0 : Int) → isDig d := fun d hd => by rw [List.eq_of_mem_replicate hd]; exact dig0
theorem vl_rep (n : Nat) : vl (List.replicate n (0 : Int)) = 0 := by
  induction n with
  | zero => rfl
  | succ n ih => rw [List.replicate_succ, vl_cons, ih]; rfl
theorem bit_top {ds : List Int} (hd : ∀ d, d ∈ ds → isDig d) {m : Nat} (hm : ds.length = m + 1) (h0 : ds.getD m 0 ≠ 0) : bit' (vl ds).toNat = 32 * m + bit' (ds.getD m 0).toNat := by
  obtain ⟨h1, h2⟩ := gd_b hd m
  obtain ⟨t, ht⟩ : ∃ t : Nat, ds.getD m 0 = t := ⟨(ds.getD m 0).toNat, by omega⟩
  rw [ht] at h0 h2 ⊢
  obtain ⟨b, k1, k2, k3⟩ := bit_spec (z := t) (by omega)
  rw [Int.toNat_natCast, k1]
  have hv : vl ds = val (fun i => ds.getD i 0) m + t * pw m := by rw [vl_def, hm, val_succ, ← ht]
  have hD : Digs (fun i => ds.getD i 0) m := fun i _ => gd_dig hd i
  have v0 := val_nonneg hD
  have v1 := val_lt hD
  have p0 := pw_pos m
  have e1 : ((2 ^ (32 * m + b) : Nat) : Int) = 2 ^ b * pw m := by rw [pw_two, Int.natCast_pow, ← Int.pow_add, Nat.add_comm b]; rfl
  have e2 : ((2 ^ (32 * m + b + 1) : Nat) : Int) = 2 ^ (b + 1) * pw m := by rw [pw_two, Int.natCast_pow, ← Int.pow_add]; congr 1; omega
  have k2' : (2 : Int) ^ b ≤ t := by have : ((2 ^ b : Nat) : Int) ≤ t := by omega
                                     rw [Int.natCast_pow] at this; exact this
  have k3' : (t : Int) + 1 ≤ 2 ^ (b + 1) := by have : (t : Int) + 1 ≤ ((2 ^ (b + 1) : Nat) : Int) := by omega
                                               rw [Int.natCast_pow] at this; exact this
  have f1 := Int.mul_le_mul_of_nonneg_right k2' (show 0 ≤ pw m by omega)
  have f2 := Int.mul_le_mul_of_nonneg_right k3' (show 0 ≤ pw m by omega)
  rw [Int.add_mul, Int.one_mul] at f2
  rw [← Nat.add_assoc]
  exact bit_eq (by omega) (by omega)
theorem bit_le (z : Nat) : bit' z ≤ z := by
  by_cases h : z = 0
  · subst h; exact Nat.le_refl _
  · obtain ⟨b, h1, h2, -⟩ := bit_spec h
    have := @Nat.lt_two_pow_self b
    omega
end Ab
