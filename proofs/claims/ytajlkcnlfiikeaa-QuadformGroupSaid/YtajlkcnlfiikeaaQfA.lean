/- Automorphs of positive definite forms, counted; plain, no condition. -/
import Derived.Test.YtajlkcnlfiikeaaQfS
set_option linter.all false
namespace Qf

def M.nth (i : Nat) : M := ⟨((i % 3 : Nat) : Int) - 1, ((i / 3 % 3 : Nat) : Int) - 1, ((i / 9 % 3 : Nat) : Int) - 1, ((i / 27 : Nat) : Int) - 1⟩
/-- the document's count -/
def aut (f : F) : Nat → Int
  | 0 => 0
  | n + 1 => aut f n + ind ((M.nth n).det = 1 ∧ f.by (.nth n) = f)
def auts (f : F) : List M → Int
  | [] => 0
  | m :: l => ind (f.by m = f) + auts f l
def ms (n : Nat) : List M := ((List.range n).map M.nth).filter fun m => decide (m.det = 1)
theorem auts_app (f : F) : ∀ l k, auts f (l ++ k) = auts f l + auts f k
  | [], k => by simp [auts]
  | m :: l, k => by rw [List.cons_append, auts, auts, auts_app f l k]; omega
theorem aut_eq (f : F) : ∀ n, aut f n = auts f (ms n)
  | 0 => rfl
  | n + 1 => by
    have e : ms (n + 1) = ms n ++ if (M.nth n).det = 1 then [M.nth n] else [] := by
      unfold ms
      rw [List.range_succ, List.map_append, List.filter_append]
      congr 1
      by_cases h : (M.nth n).det = 1 <;> simp [h]
    rw [e, auts_app, aut, aut_eq f n]
    congr 1
    by_cases h : (M.nth n).det = 1
    · rw [if_pos h]; simp [ind, auts, h]
    · rw [if_neg h]; simp [ind, auts, h]
def ms20 : List M := [⟨-1, 0, -1, -1⟩, ⟨0, 1, -1, -1⟩, ⟨-1, -1, 0, -1⟩, ⟨-1, 0, 0, -1⟩, ⟨-1, 1, 0, -1⟩, ⟨0, -1, 1, -1⟩, ⟨-1, 0, 1, -1⟩, ⟨-1, 1, -1, 0⟩, ⟨0, 1, -1, 0⟩, ⟨1, 1, -1, 0⟩, ⟨-1, -1, 1, 0⟩, ⟨0, -1, 1, 0⟩, ⟨1, -1, 1, 0⟩, ⟨1, 0, -1, 1⟩, ⟨0, 1, -1, 1⟩, ⟨1, -1, 0, 1⟩, ⟨1, 0, 0, 1⟩, ⟨1, 1, 0, 1⟩, ⟨0, -1, 1, 1⟩, ⟨1, 0, 1, 1⟩]
theorem ms_81 : ms 81 = ms20 := by decide
theorem indT {p : Prop} [Decidable p] (h : p) : ind p = 1 := by unfold ind; rw [if_pos h]
theorem indF {p : Prop} [Decidable p] (h : ¬ p) : ind p = 0 := by unfold ind; rw [if_neg h]
theorem by_iff (a b c p q r s : Int) : F.by ⟨a, b, c⟩ ⟨p, q, r, s⟩ = ⟨a, b, c⟩ ↔ a * p * p + b * p * r + c * r * r = a ∧ 2 * a * p * q + b * (p * s + q * r) + 2 * c * r * s = b ∧ a * q * q + b * q * s + c * s * s = c := by
  simp only [F.by, F.val, F.mk.injEq]
theorem aut_six {a b c : Int} (h1 : a = b) (h2 : b = c) (h3 : 0 < a) : aut ⟨a, b, c⟩ 81 = 6 := by
  rw [aut_eq, ms_81]
  simp only [ms20, auts]
  rw [indF (fun h => by have := (by_iff a b c (-1) (0) (-1) (-1)).1 h; omega),
    indT ((by_iff a b c (0) (1) (-1) (-1)).2 (by omega)),
    indF (fun h => by have := (by_iff a b c (-1) (-1) (0) (-1)).1 h; omega),
    indT ((by_iff a b c (-1) (0) (0) (-1)).2 (by omega)),
    indF (fun h => by have := (by_iff a b c (-1) (1) (0) (-1)).1 h; omega),
    indF (fun h => by have := (by_iff a b c (0) (-1) (1) (-1)).1 h; omega),
    indF (fun h => by have := (by_iff a b c (-1) (0) (1) (-1)).1 h; omega),
    indF (fun h => by have := (by_iff a b c (-1) (1) (-1) (0)).1 h; omega),
    indF (fun h => by have := (by_iff a b c (0) (1) (-1) (0)).1 h; omega),
    indT ((by_iff a b c (1) (1) (-1) (0)).2 (by omega)),
    indT ((by_iff a b c (-1) (-1) (1) (0)).2 (by omega)),
    indF (fun h => by have := (by_iff a b c (0) (-1) (1) (0)).1 h; omega),
    indF (fun h => by have := (by_iff a b c (1) (-1) (1) (0)).1 h; omega),
    indF (fun h => by have := (by_iff a b c (1) (0) (-1) (1)).1 h; omega),
    indF (fun h => by have := (by_iff a b c (0) (1) (-1) (1)).1 h; omega),
    indF (fun h => by have := (by_iff a b c (1) (-1) (0) (1)).1 h; omega),
    indT ((by_iff a b c (1) (0) (0) (1)).2 (by omega)),
    indF (fun h => by have := (by_iff a b c (1) (1) (0) (1)).1 h; omega),
    indT ((by_iff a b c (0) (-1) (1) (1)).2 (by omega)),
    indF (fun h => by have := (by_iff a b c (1) (0) (1) (1)).1 h; omega)]
  rfl
theorem aut_four {a b c : Int} (h1 : a = c) (h2 : b = 0) (h3 : 0 < a) : aut ⟨a, b, c⟩ 81 = 4 := by
  rw [aut_eq, ms_81]
  simp only [ms20, auts]
  rw [indF (fun h => by have := (by_iff a b c (-1) (0) (-1) (-1)).1 h; omega),
    indF (fun h => by have := (by_iff a b c (0) (1) (-1) (-1)).1 h; omega),
    indF (fun h => by have := (by_iff a b c (-1) (-1) (0) (-1)).1 h; omega),
    indT ((by_iff a b c (-1) (0) (0) (-1)).2 (by omega)),
    indF (fun h => by have := (by_iff a b c (-1) (1) (0) (-1)).1 h; omega),
    indF (fun h => by have := (by_iff a b c (0) (-1) (1) (-1)).1 h; omega),
    indF (fun h => by have := (by_iff a b c (-1) (0) (1) (-1)).1 h; omega),
    indF (fun h => by have := (by_iff a b c (-1) (1) (-1) (0)).1 h; omega),
    indT ((by_iff a b c (0) (1) (-1) (0)).2 (by omega)),
    indF (fun h => by have := (by_iff a b c (1) (1) (-1) (0)).1 h; omega),
    indF (fun h => by have := (by_iff a b c (-1) (-1) (1) (0)).1 h; omega),
    indT ((by_iff a b c (0) (-1) (1) (0)).2 (by omega)),
    indF (fun h => by have := (by_iff a b c (1) (-1) (1) (0)).1 h; omega),
    indF (fun h => by have := (by_iff a b c (1) (0) (-1) (1)).1 h; omega),
    indF (fun h => by have := (by_iff a b c (0) (1) (-1) (1)).1 h; omega),
    indF (fun h => by have := (by_iff a b c (1) (-1) (0) (1)).1 h; omega),
    indT ((by_iff a b c (1) (0) (0) (1)).2 (by omega)),
    indF (fun h => by have := (by_iff a b c (1) (1) (0) (1)).1 h; omega),
    indF (fun h => by have := (by_iff a b c (0) (-1) (1) (1)).1 h; omega),
    indF (fun h => by have := (by_iff a b c (1) (0) (1) (1)).1 h; omega)]
  rfl
theorem aut_two {a b c : Int} (h1 : -a < b) (h2 : b ≤ a) (h3 : a ≤ c) (h4 : a = c → 0 ≤ b) (h5 : ¬ (a = b ∧ b = c)) (h6 : ¬ (a = c ∧ b = 0)) : aut ⟨a, b, c⟩ 81 = 2 := by
  rw [aut_eq, ms_81]
  simp only [ms20, auts]
  rw [indF (fun h => by have := (by_iff a b c (-1) (0) (-1) (-1)).1 h; omega),
    indF (fun h => by have := (by_iff a b c (0) (1) (-1) (-1)).1 h; omega),
    indF (fun h => by have := (by_iff a b c (-1) (-1) (0) (-1)).1 h; omega),
    indT ((by_iff a b c (-1) (0) (0) (-1)).2 (by omega)),
    indF (fun h => by have := (by_iff a b c (-1) (1) (0) (-1)).1 h; omega),
    indF (fun h => by have := (by_iff a b c (0) (-1) (1) (-1)).1 h; omega),
    indF (fun h => by have := (by_iff a b c (-1) (0) (1) (-1)).1 h; omega),
    indF (fun h => by have := (by_iff a b c (-1) (1) (-1) (0)).1 h; omega),
    indF (fun h => by have := (by_iff a b c (0) (1) (-1) (0)).1 h; omega),
    indF (fun h => by have := (by_iff a b c (1) (1) (-1) (0)).1 h; omega),
    indF (fun h => by have := (by_iff a b c (-1) (-1) (1) (0)).1 h; omega),
    indF (fun h => by have := (by_iff a b c (0) (-1) (1) (0)).1 h; omega),
    indF (fun h => by have := (by_iff a b c (1) (-1) (1) (0)).1 h; omega),
    indF (fun h => by have := (by_iff a b c (1) (0) (-1) (1)).1 h; omega),
    indF (fun h => by have := (by_iff a b c (0) (1) (-1) (1)).1 h; omega),
    indF (fun h => by have := (by_iff a b c (1) (-1) (0) (1)).1 h; omega),
    indT ((by_iff a b c (1) (0) (0) (1)).2 (by omega)),
    indF (fun h => by have := (by_iff a b c (1) (1) (0) (1)).1 h; omega),
    indF (fun h => by have := (by_iff a b c (0) (-1) (1) (1)).1 h; omega),
    indF (fun h => by have := (by_iff a b c (1) (0) (1) (1)).1 h; omega)]
  rfl
theorem aut_red {f : F} (h : f.Red) : aut f 81 = if f.a = f.b ∧ f.b = f.c then 6 else if f.a = f.c ∧ f.b = 0 then 4 else 2 := by
  have ha := h.pos.a
  obtain ⟨a, b, c⟩ := f
  by_cases h1 : a = b ∧ b = c
  · rw [if_pos h1]; exact aut_six h1.1 h1.2 ha
  · rw [if_neg h1]
    by_cases h2 : a = c ∧ b = 0
    · rw [if_pos h2]; exact aut_four h2.1 h2.2 ha
    · rw [if_neg h2]; exact aut_two h.b1 h.b2 h.ac h.e h1 h2
/-- the content -/
def F.ct (f : F) : Nat := Nat.gcd (Nat.gcd f.a.natAbs f.b.natAbs) f.c.natAbs
theorem dvd_by {f : F} {e : Int} (m : M) (ha : e ∣ f.a) (hb : e ∣ f.b) (hc : e ∣ f.c) : e ∣ (f.by m).a ∧ e ∣ (f.by m).b ∧ e ∣ (f.by m).c := by
  obtain ⟨a, ha⟩ := ha
  obtain ⟨b, hb⟩ := hb
  obtain ⟨c, hc⟩ := hc
  simp only [F.by, F.val, ha, hb, hc]
  exact ⟨⟨a * m.a * m.a + b * m.a * m.c + c * m.c * m.c, by grind⟩, ⟨2 * a * m.a * m.b + b * (m.a * m.d + m.b * m.c) + 2 * c * m.c * m.d, by grind⟩, ⟨a * m.b * m.b + b * m.b * m.d + c * m.d * m.d, by grind⟩⟩
theorem ct_dvd (f : F) : (f.ct : Int) ∣ f.a ∧ (f.ct : Int) ∣ f.b ∧ (f.ct : Int) ∣ f.c := by
  refine ⟨?_, ?_, ?_⟩ <;> rw [Int.ofNat_dvd_left]
  · exact Nat.dvd_trans (Nat.gcd_dvd_left _ _) (Nat.gcd_dvd_left _ _)
  · exact Nat.dvd_trans (Nat.gcd_dvd_left _ _) (Nat.gcd_dvd_right _ _)
  · exact Nat.gcd_dvd_right _ _
theorem dvd_ct {f : F} {e : Nat} (ha : (e : Int) ∣ f.a) (hb : (e : Int) ∣ f.b) (hc : (e : Int) ∣ f.c) : e ∣ f.ct := by
  rw [Int.ofNat_dvd_left] at ha hb hc
  exact Nat.dvd_gcd (Nat.dvd_gcd ha hb) hc
theorem ct_by {f : F} {m : M} (hm : m.det = 1) : (f.by m).ct = f.ct := by
  refine Nat.dvd_antisymm ?_ ?_
  · obtain ⟨h1, h2, h3⟩ := ct_dvd (f.by m)
    obtain ⟨k1, k2, k3⟩ := dvd_by m.inv h1 h2 h3
    rw [by_inv hm] at k1 k2 k3
    exact dvd_ct k1 k2 k3
  · obtain ⟨h1, h2, h3⟩ := ct_dvd f
    obtain ⟨k1, k2, k3⟩ := dvd_by m h1 h2 h3
    exact dvd_ct k1 k2 k3
theorem ct_pos {f : F} (h : f.Pos) : 0 < f.ct := by
  have ha := h.a
  refine Nat.gcd_pos_of_pos_left _ (Nat.gcd_pos_of_pos_left _ (by omega))
/-- the program's number -/
def units (d : Int) : Int := if d = -3 then 6 else if d = -4 then 4 else 2
theorem units_red {g : F} (h : g.Red) : units (Int.tdiv g.disc ((g.ct : Int) * g.ct)) = if g.a = g.b ∧ g.b = g.c then 6 else if g.a = g.c ∧ g.b = 0 then 4 else 2 := by
  have hp := h.pos
  have ha := hp.a
  have he := ct_pos hp
  obtain ⟨⟨a, h1⟩, ⟨b, h2⟩, ⟨c, h3⟩⟩ := ct_dvd g
  have hb1 := h.b1
  have hb2 := h.b2
  have hac := h.ac
  generalize hE : (g.ct : Int) = E at *
  have hE0 : 0 < E := by omega
  have hd : g.disc = E * E * (b * b - 4 * a * c) := by simp only [F.disc]; rw [h1, h2, h3]; grind
  have hdiv : Int.tdiv g.disc (E * E) = b * b - 4 * a * c := by
    rw [hd]
    exact Int.mul_tdiv_cancel_left _ (by have := Int.mul_pos hE0 hE0; omega)
  rw [hdiv]
  have a0 : 0 < a := pos_of_mul hE0 (by omega)
  have k2 : b ≤ a := le_of_mul hE0 (by omega)
  have k3 : a ≤ c := le_of_mul hE0 (by omega)
  have k1 : -a ≤ b := le_of_mul hE0 (by have : E * -a = -(E * a) := by grind
                                        omega)
  have hbb : b * b ≤ a * a := by
    have e : a * a - b * b = (a - b) * (a + b) := by grind
    have := Int.mul_nonneg (show 0 ≤ a - b by omega) (show 0 ≤ a + b by omega)
    omega
  have hmm : a * a ≤ a * c := Int.mul_le_mul_of_nonneg_left k3 (by omega)
  have hmc : a ≤ a * a := (sq_abs a).1
  have hmd : 1 * c ≤ a * c := Int.mul_le_mul_of_nonneg_right (by omega) (by omega)
  have e4 : 4 * a * c = 4 * (a * c) := by grind
  have sixI : (g.a = g.b ∧ g.b = g.c) ↔ (a = b ∧ b = c) := by
    rw [h1, h2, h3]
    constructor
    · rintro ⟨x, y⟩
      exact ⟨Int.eq_of_mul_eq_mul_left (by omega) x, Int.eq_of_mul_eq_mul_left (by omega) y⟩
    · rintro ⟨rfl, rfl⟩; exact ⟨rfl, rfl⟩
  have fourI : (g.a = g.c ∧ g.b = 0) ↔ (a = c ∧ b = 0) := by
    rw [h1, h2, h3]
    constructor
    · rintro ⟨x, y⟩
      exact ⟨Int.eq_of_mul_eq_mul_left (by omega) x, by
        rcases Int.mul_eq_zero.1 y with y | y
        · omega
        · exact y⟩
    · rintro ⟨rfl, rfl⟩; exact ⟨rfl, by simp⟩
  have hone : a = b ∧ b = c ∨ a = c ∧ b = 0 → a = 1 := by
    intro hx
    have hdv : (a.natAbs * g.ct : Nat) ∣ g.ct := by
      have hcast : ((a.natAbs * g.ct : Nat) : Int) = a * E := by rw [Int.natCast_mul, hE]; congr 1; omega
      refine dvd_ct ?_ ?_ ?_
      · rw [hcast, h1]; exact ⟨1, by grind⟩
      · rw [hcast, h2]
        rcases hx with ⟨rfl, -⟩ | ⟨-, rfl⟩
        · exact ⟨1, by grind⟩
        · exact ⟨0, by simp⟩
      · rw [hcast, h3]
        rcases hx with ⟨rfl, rfl⟩ | ⟨rfl, -⟩ <;> exact ⟨1, by grind⟩
    have := Nat.le_of_dvd he hdv
    have h7 : a.natAbs * g.ct ≤ 1 * g.ct := by omega
    have := Nat.le_of_mul_le_mul_right h7 he
    omega
  unfold units
  by_cases c1 : g.a = g.b ∧ g.b = g.c
  · have c1' := sixI.1 c1
    have := hone (.inl c1')
    rw [if_pos c1, if_pos]
    obtain ⟨rfl, rfl⟩ := c1'
    subst this
    rfl
  · rw [if_neg c1]
    have c1' := fun h => c1 (sixI.2 h)
    by_cases c2 : g.a = g.c ∧ g.b = 0
    · have c2' := fourI.1 c2
      have := hone (.inr c2')
      obtain ⟨rfl, rfl⟩ := c2'
      subst this
      rw [if_pos c2, if_neg (by decide), if_pos (by decide)]
    · rw [if_neg c2]
      have c2' := fun h => c2 (fourI.2 h)
      have hbs := sq_abs b
      rw [if_neg, if_neg]
      · intro hx
        have hac1 : a * c ≤ 1 := by omega
        have : a = 1 := by omega
        subst this
        have : c = 1 := by omega
        subst this
        have : b = 0 ∨ b = 1 ∨ b = -1 := by omega
        rcases this with h | h | h
        · exact c2' ⟨rfl, h⟩
        · rw [h] at hx; revert hx; decide
        · rw [h] at hx; revert hx; decide
      · intro hx
        have hac1 : a * c ≤ 1 := by omega
        have : a = 1 := by omega
        subst this
        have : c = 1 := by omega
        subst this
        have : b = 0 ∨ b = 1 ∨ b = -1 := by omega
        rcases this with h | h | h
        · rw [h] at hx; revert hx; decide
        · exact c1' ⟨h.symm, h⟩
        · rw [h] at h2
          omega
theorem units_eq {f : F} (h : f.Pos) : units (Int.tdiv f.disc ((f.ct : Int) * f.ct)) = aut f.rd 81 := by
  obtain ⟨h1, h2, h3⟩ := rd_spec h
  have e1 : f.rd.disc = f.disc := by rw [h3, disc_by, h2]; simp
  have e2 : f.rd.ct = f.ct := by rw [h3, ct_by h2]
  rw [aut_red h1, ← units_red h1, e1, e2]
end Qf
