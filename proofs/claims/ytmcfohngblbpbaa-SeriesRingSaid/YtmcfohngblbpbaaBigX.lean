/- What the program's division of lists of digits computes: quotient and remainder; lists are not longer than 2^44. -/
import Derived.Test.YtmcfohngblbpbaaBigW
namespace Hp
open Go Go.RowKit Go.Proofs

theorem val_split (f : Nat → Int) (a : Nat) : ∀ b, val f (a + b) = val f a + pw a * val (sh f a) b
  | 0 => by simp [val]
  | b + 1 => by
    show val f (a + b) + f (a + b) * pw (a + b) = _
    rw [val_split f a b, pw_add]
    simp only [val, sh]
    grind
theorem val_shift (f : Nat → Int) (j m : Nat) : val (sh f j) (m + 1) = f j + B * val (sh f (j + 1)) m := by
  have := val_split (sh f j) 1 m
  rw [Nat.add_comm 1 m] at this
  rw [this]
  have e : sh (sh f j) 1 = sh f (j + 1) := by funext i; simp only [sh]; congr 1; omega
  rw [e]
  simp [val, pw, sh]
/-- the divisor, moved -/
theorem divisor_len {g h : Nat → Int} {m k s : Nat} (hg : Digs g (m + 1)) (hh : Digs h k) (hc : Canon h k) (hs0 : 2147483648 ≤ g m * 2 ^ s) (hs1 : g m * 2 ^ s < 4294967296) (hv : val h k = val g (m + 1) * 2 ^ s) :
    k = m + 1 ∧ B ≤ 2 * h m ∧ val g (m + 1) * 2 ^ s < pw (m + 1) ∧ 2147483648 * pw m ≤ val g (m + 1) * 2 ^ s := by
  have hP : (0 : Int) < 2 ^ s := Int.pow_pos (by omega)
  have hp := pw_pos m
  have l0 := val_nonneg (n := m) (fun i hi => hg i (by omega))
  have l1 := val_lt (n := m) (fun i hi => hg i (by omega))
  have hlo : 2147483648 * pw m ≤ val g (m + 1) * 2 ^ s := by
    have h1 : 2147483648 * pw m ≤ (g m * 2 ^ s) * pw m := Int.mul_le_mul_of_nonneg_right hs0 (by omega)
    have h2 : 0 ≤ val g m * 2 ^ s := Int.mul_nonneg l0 (by omega)
    have e : val g (m + 1) * 2 ^ s = val g m * 2 ^ s + g m * 2 ^ s * pw m := by simp only [val]; grind
    omega
  have hhi : val g (m + 1) * 2 ^ s < pw (m + 1) := by
    have hd : (4294967296 : Int) = 2 ^ s * 2 ^ (32 - s) ∨ 32 < s := by
      by_cases hs : s ≤ 32
      · left; rw [← Int.pow_add, show s + (32 - s) = 32 from by omega]; rfl
      · right; omega
    rcases hd with hd | hd
    · have h3 : (g m + 1) * 2 ^ s ≤ 4294967296 := by
        have h4 : g m * 2 ^ s < 2 ^ (32 - s) * 2 ^ s := by rw [Int.mul_comm (2 ^ (32 - s))]; omega
        have h5 := Int.lt_of_mul_lt_mul_right h4 (by omega)
        have h6 : (g m + 1) * 2 ^ s ≤ 2 ^ (32 - s) * 2 ^ s := Int.mul_le_mul_of_nonneg_right (by omega) (by omega)
        rw [Int.mul_comm (2 ^ (32 - s))] at h6; omega
      have h7 : val g (m + 1) * 2 ^ s < ((g m + 1) * pw m) * 2 ^ s := by
        refine Int.mul_lt_mul_of_pos_right ?_ hP
        simp only [val]; rw [Int.add_mul]; omega
      have e : ((g m + 1) * pw m) * 2 ^ s = ((g m + 1) * 2 ^ s) * pw m := by grind
      have h8 : ((g m + 1) * 2 ^ s) * pw m ≤ 4294967296 * pw m := Int.mul_le_mul_of_nonneg_right h3 (by omega)
      have e2 : pw (m + 1) = 4294967296 * pw m := by show pw m * B = _; rw [Int.mul_comm]; rfl
      omega
    · exfalso
      have h9 : (2 : Int) ^ 33 ≤ 2 ^ s := by
        have := Nat.pow_le_pow_right (n := 2) (by omega) (show 33 ≤ s by omega)
        have e : ((2 ^ s : Nat) : Int) = (2 : Int) ^ s := by simp
        have e' : ((2 ^ 33 : Nat) : Int) = (2 : Int) ^ 33 := by simp
        omega
      have h10 : 1 ≤ g m := by
        have := (hg m (by omega)).1
        by_cases hz : g m = 0
        · rw [hz] at hs0; omega
        · omega
      have h11 : 1 * 2 ^ s ≤ g m * 2 ^ s := Int.mul_le_mul_of_nonneg_right h10 (by omega)
      have e33 : (2 : Int) ^ 33 = 8589934592 := by decide
      omega
  have hk : k = m + 1 := by
    have a1 : k ≤ m + 1 := by
      rcases k with _ | k
      · omega
      · have := canon_le hh hc
        by_cases hc2 : k + 1 ≤ m + 1
        · exact hc2
        · have := pw_le (m + 1) k (by omega); omega
    have a2 : m + 1 ≤ k := by
      have := val_lt hh
      by_cases hc2 : m + 1 ≤ k
      · exact hc2
      · have := pw_le k m (by omega); omega
    omega
  subst hk
  refine ⟨rfl, ?_, hhi, hlo⟩
  have l2 := val_lt (n := m) (fun i hi => hh i (by omega))
  have h12 : (2147483648 - 1) * pw m < h m * pw m := by
    simp only [val] at hv
    simp only [val] at hlo
    rw [Int.sub_mul]; omega
  have := Int.lt_of_mul_lt_mul_right h12 (by omega)
  unfold B; omega
/-- the digits of the quotient from k on are known -/
structure DivI (U V : Int) (c m k : Nat) (q u : Nat → Int) : Prop where
  qd : Digs q (c + 1)
  ud : Digs u (m + c + 1)
  qz : ∀ t, t < k → q t = 0
  eq : val q (c + 1) * V + (val u k + pw k * val (sh u k) m) = U
  lt : val (sh u k) m < V
theorem divI_start {u : Nat → Int} {c m : Nat} {U V : Int} (hu : Digs u (m + c + 1)) (hU : val u (m + c + 1) = U) (h1 : U < pw (m + c) * 2147483648) (h2 : 2147483648 * pw m ≤ V * B) :
    DivI U V c m (c + 1) (fun _ => 0) u := by
  have hs := val_split u (c + 1) m
  rw [show c + 1 + m = m + c + 1 from by omega, hU] at hs
  refine ⟨fun _ _ => zero_dig, hu, fun _ _ => rfl, by rw [val_const0]; omega, ?_⟩
  have h0 := val_nonneg (n := c + 1) (fun i hi => hu i (by omega))
  have hp := pw_pos (c + 1)
  have h3 : pw (c + 1) * val (sh u (c + 1)) m < pw (c + 1) * V := by
    have e1 : pw (m + c) * 2147483648 = (2147483648 * pw m) * pw c := by rw [pw_add]; grind
    have e2 : (2147483648 * pw m) * pw c ≤ (V * B) * pw c := Int.mul_le_mul_of_nonneg_right h2 (by have := pw_pos c; omega)
    have e3 : (V * B) * pw c = pw (c + 1) * V := by simp only [pw]; grind
    omega
  exact Int.lt_of_mul_lt_mul_left h3 (by omega)
theorem divI_pre {u q : Nat → Int} {c m j : Nat} {U V : Int} (hj : j ≤ c) (H : DivI U V c m (j + 1) q u) : val (sh u j) (m + 1) < V * B := by
  rw [val_shift]
  have h1 := H.lt
  have h2 := (H.ud j (by omega)).2
  have h3 : B * val (sh u (j + 1)) m ≤ B * (V - 1) := Int.mul_le_mul_of_nonneg_left (by omega) (by have := B_pos; omega)
  rw [Int.mul_sub, Int.mul_one, Int.mul_comm B V] at h3
  omega
theorem divI_step {u u' q : Nat → Int} {c m j : Nat} {U V d : Int} (hj : j ≤ c) (hV : V < pw m) (H : DivI U V c m (j + 1) q u) (hd : isDig d) (hu' : Digs u' (m + c + 1)) (hsame : ∀ i, i < j ∨ j + m + 1 ≤ i → u' i = u i)
    (he : val (sh u' j) (m + 1) = val (sh u j) (m + 1) - d * V) (hl : val (sh u' j) (m + 1) < V) : DivI U V c m j (set q j d) u' := by
  have h0 := sh_dig (o := j) (n := m + 1) hu' (by omega)
  have l0 := val_nonneg (n := m) (fun i hi => h0 i (by omega))
  have htop : sh u' j m = 0 := by
    have t0 := (h0 m (by omega)).1
    by_cases hz : sh u' j m = 0
    · exact hz
    · exfalso
      have : 1 * pw m ≤ sh u' j m * pw m := Int.mul_le_mul_of_nonneg_right (by omega) (by have := pw_pos m; omega)
      simp only [val] at hl
      omega
  have e1 : val (sh u' j) (m + 1) = val (sh u' j) m := by simp only [val]; rw [htop]; omega
  refine ⟨digs_set H.qd hd, hu', fun t ht => by rw [set_ne _ _ (by omega)]; exact H.qz t (by omega), ?_, by omega⟩
  have e2 := H.eq
  have e3 : val u' j = val u j := val_congr fun i hi => hsame i (.inl hi)
  rw [val_set _ (by omega), H.qz j (by omega), e3, ← e1, he, val_shift]
  have e4 : pw (j + 1) = pw j * B := rfl
  rw [e4] at e2
  simp only [val] at e2 ⊢
  grind
/-- what is left at the end -/
theorem div_end {F G q R V U : Int} {s : Nat} (hU : U = F * 2 ^ s) (hV : V = G * 2 ^ s) (he : q * V + R = U) {r : Int} (hr : 2 ^ s * r = R - R % 2 ^ s) (h0 : 0 ≤ R) (h1 : R < V) : q * G + r = F ∧ 0 ≤ r ∧ r < G := by
  have hP : (0 : Int) < 2 ^ s := Int.pow_pos (by omega)
  generalize (2 : Int) ^ s = P at *
  have e1 : R = P * (F - q * G) := by subst hU hV; grind
  have e2 : R % P = 0 := by rw [e1]; exact Int.mul_emod_right _ _
  rw [e2, Int.sub_zero] at hr
  have e3 : r = F - q * G := Int.eq_of_mul_eq_mul_left (by omega) (hr.trans e1)
  refine ⟨by omega, ?_, ?_⟩
  · by_cases hc : 0 ≤ r
    · exact hc
    · have : P * r ≤ P * (-1) := Int.mul_le_mul_of_nonneg_left (by omega) (by omega)
      omega
  · by_cases hc : r < G
    · exact hc
    · have : P * G ≤ P * r := Int.mul_le_mul_of_nonneg_left (by omega) (by omega)
      rw [Int.mul_comm P G] at this; omega
/-- quotient and remainder, without leading zeros -/
def DivideR (n m : Nat) (f g : Nat → Int) (w' : World) (u : Value) : Prop :=
  ∃ sq sr nq nr q r, u = .tuple #[sq, sr] ∧ Dg w' sq nq q ∧ Dg w' sr nr r ∧ Canon q nq ∧ Canon r nr ∧ nq ≤ n + 1 ∧ nr ≤ n + m + 2 ∧ val q nq * val g m + val r nr = val f n ∧ val r nr < val g m
end Hp
