/- Plain arithmetic of the division of lists of digits: the estimate of a digit of the quotient, the subtraction of a multiple, and its undoing; no program in sight. -/
import Derived.Test.YtmcfohngblbpbaaBigS
namespace Hp
open Go

def sh (h : Nat → Int) (o : Nat) : Nat → Int := fun i => h (o + i)
theorem sh_set (h : Nat → Int) (o i : Nat) (x : Int) : sh (set h (o + i) x) o = set (sh h o) i x := by
  funext j
  unfold sh set
  by_cases e : j = i
  · subst e; simp
  · rw [if_neg (by omega), if_neg e]
theorem sh_dig {h : Nat → Int} {N o n : Nat} (hd : Digs h N) (ho : o + n ≤ N) : Digs (sh h o) n := fun i hi => hd (o + i) (by omega)

theorem est_lo {q U V r T s W P : Int} (hP : 0 < P) (hU : U = r + T * P) (hr : r < P) (hV : V = s + W * P) (hs : 0 ≤ s) (hq : 0 ≤ q) (h : q * V ≤ U) : q * W ≤ T := by
  have h1 : 0 ≤ q * s := Int.mul_nonneg hq hs
  have h2 : (q * W) * P < (T + 1) * P := by
    have e : q * V = q * s + q * W * P := by subst hV; grind
    have e2 : (T + 1) * P = T * P + P := by grind
    omega
  have := Int.lt_of_mul_lt_mul_right h2 (by omega)
  omega
theorem est_hi {g U V r T s W P : Int} (hP : 0 < P) (hU : U = r + T * P) (hr : 0 ≤ r) (hV : V = s + W * P) (hs : 0 ≤ s) (hs1 : s < P) (hg : 0 ≤ g) (hg1 : g < B) (hW : g * W ≤ T) (hVB : B * P ≤ V) : g * V < U + V := by
  have h1 : g * s ≤ B * s := Int.mul_le_mul_of_nonneg_right (by omega) hs
  have h2 : B * s < B * P := Int.mul_lt_mul_of_pos_left hs1 B_pos
  have h3 : (g * W) * P ≤ T * P := Int.mul_le_mul_of_nonneg_right hW (by omega)
  have e : g * V = g * s + g * W * P := by subst hV; grind
  omega

/-- what is known of the guess: d: the digit sought; t: the first two digits of u, a: the first digit of v -/
structure Est (d t a guess rest : Int) : Prop where
  lo : d ≤ guess
  eq : guess * a + rest = t
  r0 : 0 ≤ rest
  r1 : rest < B
  g1 : guess ≤ B + 1
theorem est_start {d t a : Int} (ha : B ≤ 2 * a) (ha1 : a < B) (ht0 : 0 ≤ t) (ht : t < (a + 1) * B) (hd : d * a ≤ t) : Est d t a (t / a) (t % a) := by
  have hp := B_pos
  have ha0 : 0 < a := by omega
  have h1 := Int.emod_nonneg t (b := a) (by omega)
  have h2 := Int.emod_lt_of_pos t ha0
  have h3 := Int.mul_ediv_add_emod t a
  refine ⟨?_, by rw [Int.mul_comm]; exact h3, h1, by omega, ?_⟩
  · exact (Int.le_ediv_iff_mul_le ha0).2 hd
  · have : t / a < B + 2 := Int.ediv_lt_of_lt_mul ha0 (by rw [Int.add_mul, Int.one_mul, Int.mul_comm a B] at ht; rw [Int.add_mul]; omega)
    omega
/-- a round of the loop that goes on -/
theorem est_step {d t a guess rest : Int} (ha0 : 0 < a) (h : Est d t a guess rest) (hd : d ≤ guess - 1) (hr : rest + a < B) : Est d t a (guess - 1) (rest + a) := by
  have := h.r0; have := h.g1
  refine ⟨hd, ?_, by omega, hr, by omega⟩
  have := h.eq
  rw [Int.sub_mul]; omega
theorem est_break {d t a guess rest : Int} (ht : t < (a + 1) * B) (h : Est d t a guess rest) (hr : B ≤ rest + a) : guess - 1 < B := by
  by_cases hc : guess - 1 < B
  · exact hc
  · exfalso
    have h1 : B * a ≤ (guess - 1) * a := by
      by_cases ha : 0 ≤ a
      · exact Int.mul_le_mul_of_nonneg_right (by omega) ha
      · exfalso; have := h.r1; omega
    have := h.eq
    rw [Int.sub_mul, Int.one_mul] at h1
    rw [Int.add_mul, Int.one_mul, Int.mul_comm a B] at ht
    omega

/-- u less the guess times v, so far -/
structure SubI (u g : Nat → Int) (n : Nat) (gs : Int) (i : Nat) (u' : Nat → Int) (c b : Int) : Prop where
  dig : Digs u' (n + 1)
  same : ∀ t, i ≤ t → u' t = u t
  car : isDig c
  b0 : 0 ≤ b
  b1 : b ≤ 1
  eq : val u' i = val u i - gs * val g i + (c + b) * pw i
theorem subI_zero {u g : Nat → Int} {n : Nat} {gs : Int} (hu : Digs u (n + 1)) : SubI u g n gs 0 u 0 0 :=
  ⟨hu, fun _ _ => rfl, zero_dig, by omega, by omega, by simp [val]⟩
theorem bor_bounds {x y c : Int} (hx : isDig x) (hy : isDig y) (h0 : 0 ≤ c) (h1 : c ≤ 1) : 0 ≤ -((x - y - c) / 4294967296) ∧ -((x - y - c) / 4294967296) ≤ 1 := by
  obtain ⟨a, b⟩ := hx; obtain ⟨c, d⟩ := hy; unfold B at *; omega
theorem subI_step {u g u' : Nat → Int} {n i : Nat} {gs c b : Int} (hg : Digs g n) (hi : i < n) (hgs : isDig gs) (H : SubI u g n gs i u' c b) :
    SubI u g n gs (i + 1) (set u' i ((u' i - (gs * g i + c) % 4294967296 - b) % 4294967296)) ((gs * g i + c) / 4294967296) (-((u' i - (gs * g i + c) % 4294967296 - b) / 4294967296)) := by
  have hm := mul_dig hgs (hg i hi)
  have hc := H.car
  obtain ⟨hc0, hc1⟩ := hc
  have hb := bor_bounds (H.dig i (by omega)) (mod_dig (gs * g i + c)) H.b0 H.b1
  refine ⟨digs_set H.dig (mod_dig _), fun t ht => by rw [set_ne _ _ (by omega)]; exact H.same t (by omega), ?_, hb.1, hb.2, ?_⟩
  · unfold isDig B at *; omega
  · have e := H.eq
    have es := H.same i (Nat.le_refl i)
    have e1 := div_mod_B (gs * g i + c)
    have e2 := div_mod_B (u' i - (gs * g i + c) % B - b)
    simp only [val]
    rw [val_set_ge _ _ (Nat.le_refl i), set_eq]
    rw [← es]
    have e3 : pw (i + 1) = pw i * B := rfl
    rw [e3]
    unfold B at e1 e2 ⊢
    generalize (gs * g i + c) / 4294967296 = p at *
    generalize (gs * g i + c) % 4294967296 = r at *
    generalize (u' i - r - b) / 4294967296 = x at *
    generalize (u' i - r - b) % 4294967296 = y at *
    grind
/-- the last digit -/
theorem subI_end {u g u' : Nat → Int} {n : Nat} {gs c b : Int} (H : SubI u g n gs n u' c b) :
    Digs (set u' n ((u' n - c - b) % 4294967296)) (n + 1) ∧ 0 ≤ -((u' n - c - b) / 4294967296) ∧ -((u' n - c - b) / 4294967296) ≤ 1 ∧
      val (set u' n ((u' n - c - b) % 4294967296)) (n + 1) = val u (n + 1) - gs * val g n + -((u' n - c - b) / 4294967296) * pw (n + 1) := by
  have hb := bor_bounds (H.dig n (by omega)) H.car H.b0 H.b1
  refine ⟨digs_set H.dig (mod_dig _), hb.1, hb.2, ?_⟩
  have e := H.eq
  have es := H.same n (Nat.le_refl n)
  have e2 := div_mod_B (u' n - c - b)
  simp only [val]
  rw [val_set_ge _ _ (Nat.le_refl n), set_eq, ← es]
  have e3 : pw (n + 1) = pw n * B := rfl
  rw [e3]
  unfold B at e2 ⊢
  generalize (u' n - c - b) / 4294967296 = x at *
  generalize (u' n - c - b) % 4294967296 = y at *
  grind
/-- v added back, so far -/
structure BackI (u g : Nat → Int) (n i : Nat) (u' : Nat → Int) (c : Int) : Prop where
  dig : Digs u' (n + 1)
  same : ∀ t, i ≤ t → u' t = u t
  c0 : 0 ≤ c
  c1 : c ≤ 1
  eq : val u' i + c * pw i = val u i + val g i
theorem backI_zero {u g : Nat → Int} {n : Nat} (hu : Digs u (n + 1)) : BackI u g n 0 u 0 := ⟨hu, fun _ _ => rfl, by omega, by omega, by simp [val]⟩
theorem backI_step {u g u' : Nat → Int} {n i : Nat} {c : Int} (hg : Digs g n) (hi : i < n) (H : BackI u g n i u' c) :
    BackI u g n (i + 1) (set u' i ((u' i + g i + c) % 4294967296)) ((u' i + g i + c) / 4294967296) := by
  have hx := H.dig i (by omega)
  have hy := hg i hi
  have := H.c0; have := H.c1
  refine ⟨digs_set H.dig (mod_dig _), fun t ht => by rw [set_ne _ _ (by omega)]; exact H.same t (by omega), ?_, ?_, ?_⟩
  · have := hx.1; have := hy.1; omega
  · have := hx.2; have := hy.2; unfold B at *; omega
  · simp only [val]
    rw [val_set_ge _ _ (Nat.le_refl i), set_eq, ← H.same i (Nat.le_refl i)]
    exact plus_step H.eq rfl
theorem backI_end {u g u' : Nat → Int} {n : Nat} {c : Int} (H : BackI u g n n u' c) :
    Digs (set u' n ((u' n + c) % 4294967296)) (n + 1) ∧ ∃ o : Int, 0 ≤ o ∧ o ≤ 1 ∧ val (set u' n ((u' n + c) % 4294967296)) (n + 1) = val u (n + 1) + val g n - o * pw (n + 1) := by
  have hx := H.dig n (by omega)
  have := H.c0; have := H.c1
  refine ⟨digs_set H.dig (mod_dig _), (u' n + c) / 4294967296, ?_, ?_, ?_⟩
  · have := hx.1; omega
  · have := hx.2; unfold B at *; omega
  · have e := H.eq
    have es := H.same n (Nat.le_refl n)
    have e2 := div_mod_B (u' n + c)
    simp only [val]
    rw [val_set_ge _ _ (Nat.le_refl n), set_eq, ← es]
    have e3 : pw (n + 1) = pw n * B := rfl
    rw [e3]
    unfold B at e2 ⊢
    generalize (u' n + c) / 4294967296 = x at *
    generalize (u' n + c) % 4294967296 = y at *
    grind
/-- the digit d of the quotient, and what is left -/
theorem digit_fin {U V gs X b W : Int} (hV : V ≤ W) (hX0 : 0 ≤ X) (hX1 : X < W) (hX : X = U - gs * V + b * W) (hb0 : 0 ≤ b) (hb1 : b ≤ 1) (hlo : U < gs * V + V) (hhi : gs * V < U + V) (hV0 : 0 < V) :
    (b = 0 → 0 ≤ U - gs * V) ∧ (b = 1 → X = U - gs * V + W ∧ U - gs * V < 0) := by
  constructor
  · rintro rfl; omega
  · rintro rfl; constructor <;> omega
end Hp
