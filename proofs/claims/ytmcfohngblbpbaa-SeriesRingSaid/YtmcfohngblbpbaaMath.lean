/- Plain arithmetic of digit lists to base 2^32: the value of a list, its bounds, and what the loops of the digit functions compute; no condition. -/
import Derived.WalkKit
namespace Hp
open Go

/-- the base -/
def B : Int := 4294967296
theorem B_pos : 0 < B := by unfold B; omega
theorem B_def : B = 4294967296 := rfl

def pw : Nat → Int
  | 0 => 1
  | n + 1 => pw n * B
theorem pw_pos : ∀ n, 0 < pw n
  | 0 => by simp [pw]
  | n + 1 => Int.mul_pos (pw_pos n) B_pos
theorem pw_add (m : Nat) : ∀ n, pw (m + n) = pw m * pw n
  | 0 => by simp [pw]
  | n + 1 => by show pw (m + n) * B = pw m * (pw n * B); rw [pw_add m n, Int.mul_assoc]
theorem pw_le (m n : Nat) (h : m ≤ n) : pw m ≤ pw n := by
  obtain ⟨k, rfl⟩ := Nat.exists_eq_add_of_le h
  rw [pw_add]
  have h1 := pw_pos m
  have h2 := pw_pos k
  have : pw m * 1 ≤ pw m * pw k := Int.mul_le_mul_of_nonneg_left (by omega) (by omega)
  omega
theorem pw_lt (m n : Nat) (h : m < n) : pw m < pw n := by
  have h1 : pw (m + 1) ≤ pw n := pw_le _ _ h
  have h2 := pw_pos m
  have h3 : pw (m + 1) = pw m * B := rfl
  have h4 : pw m * 2 ≤ pw m * B := Int.mul_le_mul_of_nonneg_left (by unfold B; omega) (by omega)
  omega

/-- a digit -/
def isDig (x : Int) : Prop := 0 ≤ x ∧ x < B
def Digs (f : Nat → Int) (n : Nat) : Prop := ∀ i, i < n → isDig (f i)

/-- the value of the first n digits -/
def val (f : Nat → Int) : Nat → Int
  | 0 => 0
  | n + 1 => val f n + f n * pw n

theorem val_nonneg {f : Nat → Int} : ∀ {n}, Digs f n → 0 ≤ val f n
  | 0, _ => by simp [val]
  | n + 1, h => by
    have h1 := val_nonneg (n := n) (fun i hi => h i (by omega))
    have h2 : 0 ≤ f n * pw n := Int.mul_nonneg (h n (by omega)).1 (by have := pw_pos n; omega)
    simp only [val]; omega
theorem val_lt {f : Nat → Int} : ∀ {n}, Digs f n → val f n < pw n
  | 0, _ => by simp [val, pw]
  | n + 1, h => by
    have h1 := val_lt (n := n) (fun i hi => h i (by omega))
    have h2 := (h n (by omega)).2
    have h3 := pw_pos n
    have h4 : f n * pw n ≤ (B - 1) * pw n := Int.mul_le_mul_of_nonneg_right (by omega) (by omega)
    simp only [val, pw]
    rw [Int.sub_mul, Int.one_mul, Int.mul_comm B] at h4
    omega
theorem val_congr {f g : Nat → Int} : ∀ {n}, (∀ i, i < n → f i = g i) → val f n = val g n
  | 0, _ => rfl
  | n + 1, h => by simp only [val]; rw [val_congr (n := n) (fun i hi => h i (by omega)), h n (by omega)]
/-- leading zeros do not count -/
theorem val_trim {f : Nat → Int} {k : Nat} : ∀ {n}, k ≤ n → (∀ i, k ≤ i → i < n → f i = 0) → val f n = val f k
  | 0, h, _ => by obtain rfl : k = 0 := by omega
                  rfl
  | n + 1, h, h0 => by
    by_cases hk : k = n + 1
    · rw [hk]
    · simp only [val]; rw [h0 n (by omega) (by omega), val_trim (n := n) (by omega) (fun i a b => h0 i a (by omega))]; omega

/-- no leading zero -/
def Canon (f : Nat → Int) (n : Nat) : Prop := n = 0 ∨ f (n - 1) ≠ 0
theorem canon_le {f : Nat → Int} {n : Nat} (h : Digs f (n + 1)) (hc : Canon f (n + 1)) : pw n ≤ val f (n + 1) := by
  have h1 := val_nonneg (n := n) (fun i hi => h i (by omega))
  have h2 := (h n (by omega)).1
  have h3 : f n ≠ 0 := by rcases hc with h | h; (omega); simpa using h
  have h4 := pw_pos n
  have h5 : 1 * pw n ≤ f n * pw n := Int.mul_le_mul_of_nonneg_right (by omega) (by omega)
  simp only [val]; omega
theorem canon_zero {f : Nat → Int} {n : Nat} (h : Digs f n) (hc : Canon f n) : val f n = 0 ↔ n = 0 := by
  constructor
  · intro h0
    rcases n with _ | n
    · rfl
    · have := canon_le h hc; have := pw_pos n; omega
  · rintro rfl; rfl
theorem canon_len {f g : Nat → Int} {n m : Nat} (hf : Digs f n) (hg : Digs g m) (cf : Canon f n) (h : val f n ≤ val g m) : n ≤ m := by
  rcases n with _ | n
  · omega
  · have h1 := canon_le hf cf
    have h2 := val_lt hg
    by_cases hm : n + 1 ≤ m
    · exact hm
    · have := pw_le m n (by omega); omega
theorem canon_len_eq {f g : Nat → Int} {n m : Nat} (hf : Digs f n) (hg : Digs g m) (cf : Canon f n) (cg : Canon g m) (h : val f n = val g m) : n = m := by
  have := canon_len hf hg cf (by omega)
  have := canon_len hg hf cg (by omega)
  omega
theorem val_inj {f g : Nat → Int} : ∀ {n}, Digs f n → Digs g n → val f n = val g n → ∀ i, i < n → f i = g i
  | 0, _, _, _, i, hi => by omega
  | n + 1, hf, hg, h, i, hi => by
    have f1 := val_lt (n := n) (fun i hi => hf i (by omega))
    have g1 := val_lt (n := n) (fun i hi => hg i (by omega))
    have f0 := val_nonneg (n := n) (fun i hi => hf i (by omega))
    have g0 := val_nonneg (n := n) (fun i hi => hg i (by omega))
    have hp := pw_pos n
    simp only [val] at h
    have e : f n = g n := by
      have k1 : (f n - g n) * pw n = val g n - val f n := by rw [Int.sub_mul]; omega
      by_cases hc : f n = g n
      · exact hc
      · exfalso
        rcases Int.lt_or_gt_of_ne hc with hl | hl
        · have : (f n - g n) * pw n ≤ (-1) * pw n := Int.mul_le_mul_of_nonneg_right (by omega) (by omega)
          omega
        · have : 1 * pw n ≤ (f n - g n) * pw n := Int.mul_le_mul_of_nonneg_right (by omega) (by omega)
          omega
    by_cases hin : i = n
    · rw [hin]; exact e
    · refine val_inj (n := n) (fun i hi => hf i (by omega)) (fun i hi => hg i (by omega)) ?_ i (by omega)
      rw [e] at h; omega
/-- compared from the top -/
theorem val_lt_of {f g : Nat → Int} {j : Nat} : ∀ {n}, Digs f n → Digs g n → j < n → (∀ i, j < i → i < n → f i = g i) → f j < g j → val f n < val g n
  | 0, _, _, h, _, _ => by omega
  | n + 1, hf, hg, hj, he, hl => by
    have f1 := val_lt (n := n) (fun i hi => hf i (by omega))
    have g0 := val_nonneg (n := n) (fun i hi => hg i (by omega))
    have hp := pw_pos n
    simp only [val]
    by_cases hjn : j = n
    · subst hjn
      have : 1 * pw j ≤ (g j - f j) * pw j := Int.mul_le_mul_of_nonneg_right (by omega) (by omega)
      rw [Int.sub_mul] at this; omega
    · have := val_lt_of (n := n) (fun i hi => hf i (by omega)) (fun i hi => hg i (by omega)) (by omega) (fun i a b => he i a (by omega)) hl
      rw [he n (by omega) (by omega)]; omega

/-- a digit or 0 behind the end -/
def ext (f : Nat → Int) (n : Nat) : Nat → Int := fun i => if i < n then f i else 0
theorem ext_dig {f : Nat → Int} {n : Nat} (h : Digs f n) (i : Nat) : isDig (ext f n i) := by
  unfold ext; split
  · exact h i ‹_›
  · exact ⟨Int.le_refl _, B_pos⟩
theorem val_ext {f : Nat → Int} {n m : Nat} (h : n ≤ m) : val (ext f n) m = val f n := by
  rw [val_trim (k := n) h (fun i a _ => by simp [ext]; omega)]
  exact val_congr (fun i hi => by simp [ext, hi])

/-- f with one digit set -/
def set (f : Nat → Int) (k : Nat) (x : Int) : Nat → Int := fun i => if i = k then x else f i
theorem set_eq (f : Nat → Int) (k : Nat) (x : Int) : set f k x k = x := by simp [set]
theorem set_ne (f : Nat → Int) {k i : Nat} (x : Int) (h : i ≠ k) : set f k x i = f i := by simp [set, h]
theorem val_set_ge (f : Nat → Int) {k n : Nat} (x : Int) (h : n ≤ k) : val (set f k x) n = val f n := val_congr fun i hi => set_ne f x (by omega)
theorem digs_set {f : Nat → Int} {n k : Nat} {x : Int} (h : Digs f n) (hx : isDig x) : Digs (set f k x) n := fun i hi => by
  unfold set; split
  · exact hx
  · exact h i hi

theorem div_mod_B (s : Int) : s / B * B + s % B = s := Int.mul_comm B _ ▸ Int.mul_ediv_add_emod s B
theorem mod_dig (s : Int) : isDig (s % B) := ⟨Int.emod_nonneg _ (by unfold B; omega), Int.emod_lt_of_pos _ B_pos⟩

theorem plus_step {O A C c x y P s : Int} (h : O + c * P = A + C) (hs : s = x + y + c) : (O + s % B * P) + s / B * (P * B) = (A + x * P) + (C + y * P) := by
  have e := div_mod_B s
  subst hs
  grind
theorem minus_step {O A C c x y P s : Int} (h : O - c * P = A - C) (hs : s = x - y - c) : (O + s % B * P) - (-(s / B)) * (P * B) = (A + x * P) - (C + y * P) := by
  have e := div_mod_B s
  subst hs
  grind
end Hp
