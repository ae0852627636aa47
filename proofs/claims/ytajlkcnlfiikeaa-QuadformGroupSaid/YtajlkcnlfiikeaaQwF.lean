/- Greatest common divisors and roots, walked. -/
import Derived.Test.YtajlkcnlfiikeaaQwE
set_option linter.all false
namespace Ab
open Go Go.RowKit Go.Proofs Qf
set_option maxRecDepth 100000

theorem ss_max3 {dm : Bool} {P : Program} {ops : Array Oper} {s : AS} {dst : Option Tmp} {ty : TypeId} {pos : String} {after : Array Edge} {g : Option (Nat × Bool)} {ts : Array TypeId} {k : IntKind} {y z t : Operand} {p q r : Int} (hin : InB s dst) (hy : s.ev y = some (.v (.p (.int k p)))) (hz : s.ev z = some (.v (.p (.int k q)))) (ht : s.ev t = some (.v (.p (.int k r)))) : SStep dm P ops ⟨dst, .call ⟨.builtin .max, #[y, z, t], ts⟩, ty, pos, after, g⟩ s (.v (.p (.int k (max (max p q) r)))) .none :=
  ss_pure hin fun s' hag w0 M0 ρ a w _ hr => by
    have h1 := Rep.p_inv (hr.ev ((hag.ev (by simp [Op.operands, Call.operands])).trans hy))
    have h2 := Rep.p_inv (hr.ev ((hag.ev (by simp [Op.operands, Call.operands])).trans hz))
    have h3 := Rep.p_inv (hr.ev ((hag.ev (by simp [Op.operands, Call.operands])).trans ht))
    refine ⟨.int k (max (max p q) r), ?_, .p _ rfl⟩
    have e : (if q > p then q else p) = max p q := by omega
    have e2 : (if r > max p q then r else max p q) = max (max p q) r := by omega
    simp [execOp, resolve, invoke, builtin, h1, h2, h3, Builtin.max_, Builtin.max2, e, e2]
/-- the greatest common divisor -/
def gI (a b : Int) : Int := (Nat.gcd a.natAbs b.natAbs : Nat)
theorem gI_zero (a : Int) : gI a 0 = max a (0 - a) := by
  unfold gI
  simp only [Int.natAbs_zero, Nat.gcd_zero_right]
  omega
theorem gI_step (a b : Int) : gI b (a.tmod b) = gI a b := by
  unfold gI
  rw [Int.natAbs_tmod, Nat.gcd_comm b.natAbs, ← Nat.gcd_rec, Nat.gcd_comm]
theorem tmod_lt {a b : Int} (h : b ≠ 0) : (a.tmod b).natAbs < b.natAbs := by
  rw [Int.natAbs_tmod]
  exact Nat.mod_lt _ (by omega)
theorem gI_nonneg (a b : Int) : 0 ≤ gI a b := by unfold gI; omega
theorem gcd_p {a b : Int} (ha : Bd 4000000000000000000 a) (hb : Bd 4000000000000000000 b) : PC Try.prog 84 [iV a, iV b] (iV (gI a b)) := by
  refine pc_body1 true Try.func84 rfl rfl rfl (Nat.le_of_ble_eq_true rfl) CellT.tmp ?_
  refine goA ?_
  refine T.loop (fun n s1 => ∃ x y : Int, Bd 4000000000000000000 x ∧ Bd 4000000000000000000 y ∧ gI x y = gI a b ∧ y.natAbs ≤ n ∧ s1 = mkS [(0, .v (iV x)), (1, .v (iV y)), (4, .v (iV 0))] [] 15 true) b.natAbs
    (s' := mkS [(0, .v (iV a)), (1, .v (iV b)), (4, .v (iV 0))] [] 15 true) (by exact entA) ⟨a, b, ha, hb, rfl, Nat.le_refl _, rfl⟩ ?_
  rintro n _ ⟨x, y, hx, hy, hg, hn, rfl⟩
  by_cases c : y = 0
  · subst c
    have hb : ((0 : Int) != 0) = false := rfl
    unfold Bd at hx
    rw [← hg, gI_zero]
    have e : max x (0 - x) = max (max x (0 - x)) 0 := by omega
    rw [e]
    refine goA ?_
    refine evG ggA (ss_max3 (InB_of rfl) rfl rfl rfl) ?_
    refine goA ?_
    exact rfl
  · have hb : (y != 0) = true := by simpa using c
    have hl := tmod_lt (a := x) c
    refine goA ?_
    refine evG ggA (ss_div (op := .rem) (InB_of rfl) rfl rfl (by omega) rfl) ?_
    refine goA ?_
    exact loopQ_intro (k := (x.tmod y).natAbs) (s' := mkS [(0, .v (iV y)), (1, .v (iV (x.tmod y))), (4, .v (iV 0))] [] 15 true) (by omega) (by exact entA) ⟨y, x.tmod y, hy, by unfold Bd at *; omega, by rw [gI_step, hg], Nat.le_refl _, rfl⟩
theorem rgcd_p {a b : Int} (ha : Bd 4000000000000000000 a) (hb : Bd 4000000000000000000 b) : PC Try.prog 21 [iV a, iV b] (iV (gI a b)) := by
  refine pc_body1 true Try.func21 rfl rfl rfl (Nat.le_of_ble_eq_true rfl) CellT.tmp ?_
  refine goA ?_
  refine T.loop (fun n s1 => ∃ x y : Int, Bd 4000000000000000000 x ∧ Bd 4000000000000000000 y ∧ gI x y = gI a b ∧ y.natAbs ≤ n ∧ s1 = mkS [(0, .v (iV x)), (1, .v (iV y)), (4, .v (iV 0))] [] 15 true) b.natAbs
    (s' := mkS [(0, .v (iV a)), (1, .v (iV b)), (4, .v (iV 0))] [] 15 true) (by exact entA) ⟨a, b, ha, hb, rfl, Nat.le_refl _, rfl⟩ ?_
  rintro n _ ⟨x, y, hx, hy, hg, hn, rfl⟩
  by_cases c : y = 0
  · subst c
    have hb : ((0 : Int) != 0) = false := rfl
    unfold Bd at hx
    rw [← hg, gI_zero]
    refine goA ?_
    exact rfl
  · have hb : (y != 0) = true := by simpa using c
    have hl := tmod_lt (a := x) c
    refine goA ?_
    refine evG ggA (ss_div (op := .rem) (InB_of rfl) rfl rfl (by omega) rfl) ?_
    refine goA ?_
    exact loopQ_intro (k := (x.tmod y).natAbs) (s' := mkS [(0, .v (iV y)), (1, .v (iV (x.tmod y))), (4, .v (iV 0))] [] 15 true) (by omega) (by exact entA) ⟨y, x.tmod y, hy, by unfold Bd at *; omega, by rw [gI_step, hg], Nat.le_refl _, rfl⟩
/-- integer roots -/
def isqF (n : Nat) : Nat → Nat
  | 0 => 0
  | k + 1 => if (k + 1) * (k + 1) ≤ n then k + 1 else isqF n k
theorem isqF_spec (n : Nat) : ∀ k, n < (k + 1) * (k + 1) → isqF n k * isqF n k ≤ n ∧ n < (isqF n k + 1) * (isqF n k + 1)
  | 0, h => ⟨Nat.zero_le _, h⟩
  | k + 1, h => by
    rw [isqF]
    by_cases c : (k + 1) * (k + 1) ≤ n
    · rw [if_pos c]; exact ⟨c, h⟩
    · rw [if_neg c]; exact isqF_spec n k (by omega)
def isq (n : Int) : Int := (isqF n.toNat n.toNat : Nat)
theorem isq_rt {n : Int} (h : 0 ≤ n) : Rt n (isq n) := by
  obtain ⟨h1, h2⟩ := isqF_spec n.toNat n.toNat (by
    have : (n.toNat + 1) * 1 ≤ (n.toNat + 1) * (n.toNat + 1) := Nat.mul_le_mul_left _ (by omega)
    omega)
  unfold isq
  generalize isqF n.toNat n.toNat = r at *
  have e1 : ((r * r : Nat) : Int) = (r : Int) * r := Int.natCast_mul r r
  have e2 : (((r + 1) * (r + 1) : Nat) : Int) = ((r : Int) + 1) * (r + 1) := by rw [Int.natCast_mul]; rfl
  exact ⟨by omega, by omega, by omega⟩
theorem rt_unique {n r q : Int} (h : Rt n r) (k : Rt n q) : r = q := by
  have h1 := h.le k.1 k.2.1
  have h2 := k.le h.1 h.2.1
  omega
def bitv : Nat → Int
  | 0 => 0
  | j + 1 => 2 ^ j
theorem bitv_half : ∀ j, (bitv (j + 1)).fdiv (2 ^ (min (1 : Int).toNat IntKind.i64.bits)) = bitv j
  | 0 => by decide
  | j + 1 => by
    show ((2 : Int) ^ (j + 1)).fdiv (2 ^ 1) = 2 ^ j
    rw [Int.fdiv_eq_ediv_of_nonneg _ (by decide), Int.pow_succ]
    omega
theorem pow_mono' {j k : Nat} (h : j ≤ k) : (2 : Int) ^ j ≤ 2 ^ k := by
  have := Nat.pow_le_pow_right (show 0 < 2 by decide) h
  exact_mod_cast this
theorem root_p {n : Int} (h0 : 0 ≤ n) (h1 : n < 4611686018427387904) : PC Try.prog 56 [iV n] (iV (isq n)) := by
  refine pc_body1 true Try.func56 rfl rfl rfl (Nat.le_of_ble_eq_true rfl) CellT.tmp ?_
  refine goA ?_
  refine T.loop (fun j s1 => ∃ r : Int, 0 ≤ r ∧ r * r ≤ n ∧ n < (r + 2 ^ j) * (r + 2 ^ j) ∧ r + 2 ^ j ≤ 2147483648 ∧ s1 = mkS [(0, .v (iV n)), (2, .v (iV 0)), (3, .v (iV r)), (4, .v (iV (bitv j)))] [] 22 true) 31
    (s' := mkS [(0, .v (iV n)), (2, .v (iV 0)), (3, .v (iV 0)), (4, .v (iV (bitv 31)))] [] 22 true) (by exact entA) ⟨0, by decide, by omega, by rw [show ((0 : Int) + 2 ^ 31) * (0 + 2 ^ 31) = 4611686018427387904 by decide]; exact h1, by decide, rfl⟩ ?_
  rintro j _ ⟨r, r0, r1, r2, r3, rfl⟩
  cases j with
  | zero =>
    have e : isq n = r := rt_unique (isq_rt h0) ⟨r0, r1, by simpa using r2⟩
    rw [e]
    have hb : decide (bitv 0 > 0) = false := rfl
    refine goA ?_
    exact rfl
  | succ j =>
    have hp : (0 : Int) < 2 ^ j := Int.pow_pos (by decide)
    have e1 : (2 : Int) ^ (j + 1) = 2 ^ j + 2 ^ j := by rw [Int.pow_succ]; omega
    have eb : bitv (j + 1) = 2 ^ j := rfl
    have hh := bitv_half j
    have hb : decide (bitv (j + 1) > 0) = true := by rw [eb]; simpa using hp
    rw [← eb] at hp e1
    have hq : (r + bitv (j + 1)) * (r + bitv (j + 1)) ≤ 2147483648 * 2147483648 := Int.mul_le_mul (by omega) (by omega) (by omega) (by decide)
    have hq0 := sq_nonneg (r + bitv (j + 1))
    rw [e1] at r2 r3
    have e2 : (2 : Int) ^ j = bitv (j + 1) := rfl
    generalize bitv (j + 1) = B at *
    by_cases c : (r + B) * (r + B) ≤ n
    · have hc : decide ((r + B) * (r + B) ≤ n) = true := by simpa using c
      refine goA ?_
      refine evG ggA (ss_shr (InB_of rfl) rfl rfl (by decide) hh) ?_
      refine goA ?_
      exact loopQ_intro (k := j) (s' := mkS [(0, .v (iV n)), (2, .v (iV 0)), (3, .v (iV (r + B))), (4, .v (iV (bitv j)))] [] 22 true) (by omega) (by exact entA) ⟨r + B, by omega, c, by rw [e2, Int.add_assoc]; exact r2, by rw [e2]; omega, rfl⟩
    · have hc : decide ((r + B) * (r + B) ≤ n) = false := by simpa using c
      refine goA ?_
      refine evG ggA (ss_shr (InB_of rfl) rfl rfl (by decide) hh) ?_
      refine goA ?_
      exact loopQ_intro (k := j) (s' := mkS [(0, .v (iV n)), (2, .v (iV 0)), (3, .v (iV r)), (4, .v (iV (bitv j)))] [] 22 true) (by omega) (by exact entA) ⟨r, r0, r1, by rw [e2]; omega, by rw [e2]; omega, rfl⟩
end Ab
