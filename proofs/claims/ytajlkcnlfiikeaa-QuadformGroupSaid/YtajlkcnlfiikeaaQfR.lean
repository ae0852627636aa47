/- Reduction of positive definite forms: the reduced form, its matrix, bounds; plain, no condition. -/
import Derived.Test.YtajlkcnlfiikeaaQfM
set_option linter.all false
namespace Qf

def F.kk (f : F) : Int := (f.a - f.b) / (2 * f.a)
def F.go (f : F) : F := f.by (.T f.kk)
def F.fin (f : F) : Bool := decide (f.a < f.c) || (decide (f.a = f.c) && decide (0 ≤ f.b))
def rdm : Nat → F → M → F × M
  | 0, f, m => (f.go, m.mul (.T f.kk))
  | n + 1, f, m => if f.go.fin then (f.go, m.mul (.T f.kk)) else rdm n (f.go.by .S) ((m.mul (.T f.kk)).mul .S)
theorem go_eq (f : F) : f.go = ⟨f.a, f.b + 2 * f.a * f.kk, f.c + f.kk * (f.a * f.kk + f.b)⟩ := by
  simp only [F.go, F.by, F.val, M.T, F.mk.injEq]
  refine ⟨?_, ?_, ?_⟩ <;> grind
theorem byS (f : F) : f.by .S = ⟨f.c, -f.b, f.a⟩ := by
  simp only [F.by, F.val, M.S, F.mk.injEq]
  refine ⟨?_, ?_, ?_⟩ <;> grind
theorem mulT (m : M) (k : Int) : m.mul (.T k) = ⟨m.a, m.a * k + m.b, m.c, m.c * k + m.d⟩ := by
  simp only [M.mul, M.T, M.mk.injEq]
  refine ⟨?_, ?_, ?_, ?_⟩ <;> grind
theorem mulS (m : M) : m.mul .S = ⟨m.b, -m.a, m.d, -m.c⟩ := by
  simp only [M.mul, M.S, M.mk.injEq]
  refine ⟨?_, ?_, ?_, ?_⟩ <;> grind
theorem detT (k : Int) : (M.T k).det = 1 := by simp [M.det, M.T]
theorem detS : M.S.det = 1 := by decide
theorem go_b {f : F} (h : 0 < f.a) : -f.a < f.go.b ∧ f.go.b ≤ f.a := by
  rw [go_eq]
  show -f.a < f.b + 2 * f.a * ((f.a - f.b) / (2 * f.a)) ∧ f.b + 2 * f.a * ((f.a - f.b) / (2 * f.a)) ≤ f.a
  have h1 := Int.mul_ediv_add_emod (f.a - f.b) (2 * f.a)
  have h2 := Int.emod_nonneg (f.a - f.b) (show 2 * f.a ≠ 0 by omega)
  have h3 := Int.emod_lt_of_pos (f.a - f.b) (show 0 < 2 * f.a by omega)
  omega
theorem fin_red {f : F} (h : 0 < f.a) (hf : f.go.fin = true) : f.go.Red := by
  have ⟨h1, h2⟩ := go_b h
  have e : f.go.a = f.a := by rw [go_eq]
  simp only [F.fin, Bool.or_eq_true, Bool.and_eq_true, decide_eq_true_eq] at hf
  exact ⟨by omega, by omega, by omega, by omega⟩
theorem kk_red {f : F} (h : f.Red) : f.kk = 0 := by
  have := h.b1
  have := h.b2
  refine Int.ediv_eq_zero_of_lt (by omega) (by omega)
theorem go_red {f : F} (h : f.Red) : f.go = f := by rw [go_eq, kk_red h]; simp
theorem red_fin {f : F} (h : f.Red) : f.fin = true := by
  simp only [F.fin, Bool.or_eq_true, Bool.and_eq_true, decide_eq_true_eq]
  rcases Int.lt_or_eq_of_le h.ac with h1 | h1
  · exact .inl h1
  · exact .inr ⟨h1, h.e h1⟩
instance (f : F) : Decidable f.Red := decidable_of_iff (-f.a < f.b ∧ f.b ≤ f.a ∧ f.a ≤ f.c ∧ (f.a = f.c → 0 ≤ f.b)) ⟨fun h => ⟨h.1, h.2.1, h.2.2.1, h.2.2.2⟩, fun h => ⟨h.b1, h.b2, h.ac, h.e⟩⟩
/-- how many rounds are left -/
def F.mes (f : F) : Nat := if f.Red then 0 else f.a.toNat
theorem mes_lt {f : F} (h : f.Pos) (hf : f.go.fin = false) : (f.go.by .S).mes < f.mes := by
  have ha := h.a
  have hn : ¬ f.Red := fun hr => by rw [go_red hr, red_fin hr] at hf; cases hf
  have ⟨h1, h2⟩ := go_b ha
  have e : f.go.a = f.a := by rw [go_eq]
  have hp : f.go.Pos := h.by (detT _)
  simp only [F.fin, Bool.or_eq_false_iff, decide_eq_false_iff_not, Bool.and_eq_false_imp, decide_eq_true_eq] at hf
  rw [byS]
  unfold F.mes
  rw [if_neg hn]
  by_cases hr : F.Red ⟨f.go.c, -f.go.b, f.go.a⟩
  · rw [if_pos hr]; omega
  · rw [if_neg hr]
    show f.go.c.toNat < f.a.toNat
    have hc := hp.c
    rcases Int.lt_or_le f.go.c f.a with h3 | h3
    · omega
    · exfalso
      have h4 : f.go.a = f.go.c := by omega
      have h5 := hf.2 h4
      exact hr ⟨by simp only; omega, by simp only; omega, by simp only; omega, fun _ => by simp only; omega⟩
theorem mes_le {f : F} (h : f.Pos) : f.mes ≤ f.a.toNat := by unfold F.mes; split <;> omega
theorem rdm_spec : ∀ (n : Nat) (f : F) (m : M), f.Pos → f.mes ≤ n → m.det = 1 → (rdm n f m).1.Red ∧ ∃ q : M, q.det = 1 ∧ (rdm n f m).1 = f.by q ∧ (rdm n f m).2 = m.mul q
  | 0, f, m, hp, hn, hm => by
    have hr : f.Red := by
      unfold F.mes at hn
      split at hn
      · assumption
      · have := hp.a; omega
    refine ⟨?_, .T f.kk, detT _, rfl, rfl⟩
    show f.go.Red
    rw [go_red hr]
    exact hr
  | n + 1, f, m, hp, hn, hm => by
    rw [rdm]
    by_cases hf : f.go.fin = true
    · rw [if_pos hf]
      exact ⟨fin_red hp.a hf, .T f.kk, detT _, rfl, rfl⟩
    · rw [if_neg hf]
      simp only [Bool.not_eq_true] at hf
      have hlt := mes_lt hp hf
      obtain ⟨h1, q, h2, h3, h4⟩ := rdm_spec n (f.go.by .S) ((m.mul (.T f.kk)).mul .S) ((hp.by (detT _)).by detS) (by omega) (by rw [det_mul, det_mul, hm, detT, detS]; rfl)
      refine ⟨h1, (M.T f.kk).mul (M.S.mul q), by rw [det_mul, det_mul, detT, detS, h2]; rfl, ?_, ?_⟩
      · rw [h3, F.go, by_mul, by_mul]
      · rw [h4]
        simp only [M.mul, M.mk.injEq]
        refine ⟨?_, ?_, ?_, ?_⟩ <;> grind
def F.rd (f : F) : F := (rdm f.mes f .one).1
def F.rm (f : F) : M := (rdm f.mes f .one).2
theorem one_mul (m : M) : M.one.mul m = m := by
  cases m
  simp [M.mul, M.one]
theorem rd_spec {f : F} (h : f.Pos) : f.rd.Red ∧ f.rm.det = 1 ∧ f.rd = f.by f.rm := by
  obtain ⟨h1, q, h2, h3, h4⟩ := rdm_spec f.mes f .one h (Nat.le_refl _) (by decide)
  rw [one_mul] at h4
  exact ⟨h1, by unfold F.rm; rw [h4]; exact h2, by unfold F.rd F.rm; rw [h4]; exact h3⟩
theorem rd_eq {f g : F} {m : M} (h : f.Pos) (hm : m.det = 1) (hg : g.Red) (e : g = f.by m) : g = f.rd := by
  obtain ⟨h1, h2, h3⟩ := rd_spec h
  refine (red_unique (m := f.rm.inv.mul m) h1 hg (by rw [det_mul, det_inv, h2, hm]; rfl) ?_).symm
  rw [h3, ← by_mul, by_inv h2, e]
/-- equivalent forms have one reduced form -/
theorem rd_by {f : F} {m : M} (h : f.Pos) (hm : m.det = 1) : (f.by m).rd = f.rd := by
  obtain ⟨h1, h2, h3⟩ := rd_spec (h.by hm)
  exact rd_eq (m := m.mul (f.by m).rm) h (by rw [det_mul, hm, h2]; rfl) h1 (by rw [← by_mul]; exact h3)
/-- small entries -/
theorem abs_le_of_sq {x N : Int} (hN : 0 ≤ N) (h : x * x ≤ N * N) : -N ≤ x ∧ x ≤ N := by
  constructor
  · refine Classical.byContradiction fun hn => ?_
    have := Int.mul_pos (show 0 < -x - N by omega) (show 0 < -x + N by omega)
    have e : (-x - N) * (-x + N) = x * x - N * N := by grind
    omega
  · refine Classical.byContradiction fun hn => ?_
    have := Int.mul_pos (show 0 < x - N by omega) (show 0 < x + N by omega)
    have e : (x - N) * (x + N) = x * x - N * N := by grind
    omega
theorem disc_le {f : F} (h : f.Pos) : 3 ≤ -f.disc := by
  have h1 := h.d
  have e : f.disc = f.b * f.b - 4 * (f.a * f.c) := by simp only [F.disc]; grind
  have h2 : (f.b * f.b) % 4 = 0 ∨ (f.b * f.b) % 4 = 1 := by
    rw [Int.mul_emod]
    have h3 := Int.emod_nonneg f.b (show (4 : Int) ≠ 0 by decide)
    have h4 := Int.emod_lt_of_pos f.b (show (0 : Int) < 4 by decide)
    generalize f.b % 4 = r at *
    have : r = 0 ∨ r = 1 ∨ r = 2 ∨ r = 3 := by omega
    rcases this with h | h | h | h <;> subst h <;> decide
  generalize f.b * f.b = B at *
  generalize f.a * f.c = C at *
  omega
theorem val_small {f : F} (h : f.Pos) (ha : f.a ≤ 10000) (hc : f.c ≤ 10000) {x y : Int} (hv : f.val x y ≤ 10000) : (-11548 ≤ x ∧ x ≤ 11548) ∧ -11548 ≤ y ∧ y ≤ 11548 := by
  have hd := disc_le h
  have h0 : 0 ≤ f.val x y := by
    rcases Classical.em (x = 0 ∧ y = 0) with ⟨rfl, rfl⟩ | hn
    · simp [F.val]
    · have := h.val (x := x) (y := y) (by
        rcases Classical.em (x = 0) with h1 | h1
        · exact .inr fun h2 => hn ⟨h1, h2⟩
        · exact .inl h1)
      omega
  have hav : ∀ a : Int, 0 < a → a ≤ 10000 → 4 * a * f.val x y ≤ 400000000 := fun a h1 h2 => by
    have := Int.mul_le_mul (show 4 * a ≤ 40000 by omega) hv h0 (by decide)
    omega
  have hsq : ∀ z : Int, -f.disc * (z * z) ≤ 400000000 → -11548 ≤ z ∧ z ≤ 11548 := fun z hz => by
    refine abs_le_of_sq (by decide) ?_
    have := Int.mul_le_mul_of_nonneg_right hd (sq_nonneg z)
    omega
  constructor
  · refine hsq x ?_
    have := four_val_c f x y
    have := hav f.c h.c hc
    have := sq_nonneg (2 * f.c * y + f.b * x)
    omega
  · refine hsq y ?_
    have := four_val f x y
    have := hav f.a h.a ha
    have := sq_nonneg (2 * f.a * x + f.b * y)
    omega
/-- the matrix that leads to the reduced form is small -/
theorem rm_small {f : F} (h : f.Pos) (ha : f.a ≤ 10000) (hc : f.c ≤ 10000) {m : M} (hm : m.det = 1) (hr : (f.by m).Red) : (-100000 ≤ m.a ∧ m.a ≤ 100000) ∧ (-100000 ≤ m.b ∧ m.b ≤ 100000) ∧ (-100000 ≤ m.c ∧ m.c ≤ 100000) ∧ -100000 ≤ m.d ∧ m.d ≤ 100000 := by
  have hd : (f.by m).disc = f.disc := by rw [disc_by, hm]; simp
  have hd3 := disc_le h
  have hp := hr.pos
  have hpc := hp.c
  have hb2 : (f.by m).b * (f.by m).b ≤ (f.by m).a * (f.by m).a := by
    have e : (f.by m).a * (f.by m).a - (f.by m).b * (f.by m).b = ((f.by m).a - (f.by m).b) * ((f.by m).a + (f.by m).b) := by grind
    have := Int.mul_nonneg (show 0 ≤ (f.by m).a - (f.by m).b by have := hr.b2; omega) (show 0 ≤ (f.by m).a + (f.by m).b by have := hr.b1; omega)
    omega
  have hac : (f.by m).a * (f.by m).a ≤ (f.by m).a * (f.by m).c := Int.mul_le_mul_of_nonneg_left hr.ac (by have := hp.a; omega)
  have h3c : 3 * (f.by m).c ≤ -f.disc := by
    have e : (f.by m).disc = (f.by m).b * (f.by m).b - 4 * ((f.by m).a * (f.by m).c) := by simp only [F.disc]; grind
    have : 1 * (f.by m).c ≤ (f.by m).a * (f.by m).c := Int.mul_le_mul_of_nonneg_right (show 1 ≤ (f.by m).a by have := hp.a; omega) (by omega)
    omega
  have h3a : 3 * (f.by m).a ≤ -f.disc := by have := hr.ac; omega
  have key : ∀ (u z v : Int), 0 < u → u ≤ 10000 → 3 * v ≤ -f.disc → 0 ≤ v → -f.disc * (z * z) ≤ 4 * u * v → -100000 ≤ z ∧ z ≤ 100000 := by
    intro u z v hu0 hu hv hv0 hz
    refine abs_le_of_sq (by decide) ?_
    have h1 : 4 * u * v ≤ 40000 * v := Int.mul_le_mul_of_nonneg_right (by omega) hv0
    have h2 : -f.disc * (z * z) ≤ -f.disc * 40000 := by omega
    have := le_of_mul (show 0 < -f.disc by omega) h2
    omega
  have ea : (f.by m).a = f.val m.a m.c := rfl
  have ec : (f.by m).c = f.val m.b m.d := rfl
  rw [ea] at h3a
  rw [ec] at h3c
  have pa : 0 ≤ f.val m.a m.c := by have := hp.a; omega
  have pc : 0 ≤ f.val m.b m.d := by omega
  refine ⟨key f.c m.a _ h.c hc h3a pa ?_, key f.c m.b _ h.c hc h3c pc ?_, key f.a m.c _ h.a ha h3a pa ?_, key f.a m.d _ h.a ha h3c pc ?_⟩
  · have := four_val_c f m.a m.c
    have := sq_nonneg (2 * f.c * m.c + f.b * m.a)
    omega
  · have := four_val_c f m.b m.d
    have := sq_nonneg (2 * f.c * m.d + f.b * m.b)
    omega
  · have := four_val f m.a m.c
    have := sq_nonneg (2 * f.a * m.a + f.b * m.c)
    omega
  · have := four_val f m.b m.d
    have := sq_nonneg (2 * f.a * m.b + f.b * m.d)
    omega
end Qf
