/- Forms of one discriminant and ideals of the quadratic order: what composition yields does not depend on the choices; plain, no condition. -/
import Derived.Test.YtajlkcnlfiikeaaQfA
set_option linter.all false
namespace Qf

/-- numbers u + v t with t t = s t + n -/
structure Z where
  u : Int
  v : Int
deriving DecidableEq
structure O where
  s : Int
  n : Int
def O.mul (o : O) (x y : Z) : Z := ⟨x.u * y.u + o.n * x.v * y.v, x.u * y.v + x.v * y.u + o.s * x.v * y.v⟩
def Z.add (x y : Z) : Z := ⟨x.u + y.u, x.v + y.v⟩
def Z.sc (k : Int) (x : Z) : Z := ⟨k * x.u, k * x.v⟩
def O.nm (o : O) (x : Z) : Int := x.u * x.u + o.s * x.u * x.v - o.n * x.v * x.v
def O.cj (o : O) (x : Z) : Z := ⟨x.u + o.s * x.v, -x.v⟩
def Z.cr (x y : Z) : Int := x.u * y.v - x.v * y.u
def Z.of (k : Int) : Z := ⟨k, 0⟩
variable (o : O)
theorem Z.ext {x y : Z} (h : x.u = y.u) (k : x.v = y.v) : x = y := by cases x; cases y; simp only at h k; rw [h, k]
theorem mul_comm (x y : Z) : o.mul x y = o.mul y x := by apply Z.ext <;> simp only [O.mul] <;> grind
theorem mul_assoc (x y z : Z) : o.mul (o.mul x y) z = o.mul x (o.mul y z) := by apply Z.ext <;> simp only [O.mul] <;> grind
theorem mul_add (x y z : Z) : o.mul x (y.add z) = (o.mul x y).add (o.mul x z) := by apply Z.ext <;> simp only [O.mul, Z.add] <;> grind
theorem mul_sc (k : Int) (x y : Z) : o.mul x (y.sc k) = (o.mul x y).sc k := by apply Z.ext <;> simp only [O.mul, Z.sc] <;> grind
theorem mul_of (k : Int) (x : Z) : o.mul (.of k) x = x.sc k := by apply Z.ext <;> simp [O.mul, Z.sc, Z.of]
theorem nm_mul (x y : Z) : o.nm (o.mul x y) = o.nm x * o.nm y := by simp only [O.nm, O.mul]; grind
theorem cr_mul (z x y : Z) : (o.mul z x).cr (o.mul z y) = o.nm z * x.cr y := by simp only [O.nm, O.mul, Z.cr]; grind
/-- a group of numbers -/
structure Grp (I : Z → Prop) : Prop where
  zero : I ⟨0, 0⟩
  add : ∀ x y, I x → I y → I (x.add y)
  sc : ∀ k x, I x → I (x.sc k)
/-- the lattice of two numbers -/
def lat (x y : Z) : Z → Prop := fun z => ∃ i j : Int, z = (x.sc i).add (y.sc j)
theorem lat_grp (x y : Z) : Grp (lat x y) := by
  refine ⟨⟨0, 0, by simp [Z.sc, Z.add]⟩, ?_, ?_⟩
  · rintro _ _ ⟨i, j, rfl⟩ ⟨k, l, rfl⟩
    exact ⟨i + k, j + l, by apply Z.ext <;> simp only [Z.sc, Z.add] <;> grind⟩
  · rintro c _ ⟨i, j, rfl⟩
    exact ⟨c * i, c * j, by apply Z.ext <;> simp only [Z.sc, Z.add] <;> grind⟩
theorem lat_l (x y : Z) : lat x y x := ⟨1, 0, by apply Z.ext <;> simp [Z.sc, Z.add]⟩
theorem lat_r (x y : Z) : lat x y y := ⟨0, 1, by apply Z.ext <;> simp [Z.sc, Z.add]⟩
theorem lat_sub {x y : Z} {J : Z → Prop} (hJ : Grp J) (hx : J x) (hy : J y) : ∀ z, lat x y z → J z := by
  rintro _ ⟨i, j, rfl⟩
  exact hJ.add _ _ (hJ.sc _ _ hx) (hJ.sc _ _ hy)
/-- a multiple of a lattice -/
def ml (a : Z) (I : Z → Prop) : Z → Prop := fun z => ∃ x, I x ∧ z = o.mul a x
theorem ml_grp (a : Z) {I : Z → Prop} (h : Grp I) : Grp (ml o a I) := by
  refine ⟨⟨_, h.zero, by apply Z.ext <;> simp [O.mul]⟩, ?_, ?_⟩
  · rintro _ _ ⟨x, hx, rfl⟩ ⟨y, hy, rfl⟩
    exact ⟨_, h.add _ _ hx hy, (mul_add o _ _ _).symm⟩
  · rintro k _ ⟨x, hx, rfl⟩
    exact ⟨_, h.sc k _ hx, (mul_sc o _ _ _).symm⟩
/-- sums of products -/
inductive Pr (I J : Z → Prop) : Z → Prop where
  | zero : Pr I J ⟨0, 0⟩
  | step (x y z : Z) (hx : I x) (hy : J y) (hz : Pr I J z) : Pr I J ((o.mul x y).add z)
theorem add_zero (x : Z) : x.add ⟨0, 0⟩ = x := by apply Z.ext <;> simp [Z.add]
theorem zero_add (x : Z) : Z.add ⟨0, 0⟩ x = x := by apply Z.ext <;> simp [Z.add]
theorem add_assoc (x y z : Z) : (x.add y).add z = x.add (y.add z) := by apply Z.ext <;> simp only [Z.add] <;> grind
theorem add_comm (x y : Z) : x.add y = y.add x := by apply Z.ext <;> simp only [Z.add] <;> grind
theorem sc_add (k : Int) (x y : Z) : (x.add y).sc k = (x.sc k).add (y.sc k) := by apply Z.ext <;> simp only [Z.add, Z.sc] <;> grind
variable {o}
theorem Pr.one {I J : Z → Prop} {x y : Z} (hx : I x) (hy : J y) : Pr o I J (o.mul x y) := by
  have := Pr.step (o := o) x y _ hx hy .zero
  rwa [add_zero] at this
theorem Pr.add {I J : Z → Prop} {x y : Z} (hx : Pr o I J x) (hy : Pr o I J y) : Pr o I J (x.add y) := by
  induction hx with
  | zero => rw [zero_add]; exact hy
  | step a b c ha hb hc ih => rw [add_assoc]; exact .step a b _ ha hb ih
theorem Pr.sc {I J : Z → Prop} (hI : Grp I) {x : Z} (k : Int) (hx : Pr o I J x) : Pr o I J (x.sc k) := by
  induction hx with
  | zero => have : Z.sc k ⟨0, 0⟩ = ⟨0, 0⟩ := by simp [Z.sc]
            rw [this]; exact .zero
  | step a b c ha hb hc ih =>
    rw [sc_add]
    have : (o.mul a b).sc k = o.mul (a.sc k) b := by apply Z.ext <;> simp only [O.mul, Z.sc] <;> grind
    rw [this]
    exact .step _ _ _ (hI.sc k _ ha) hb ih
theorem Pr.grp {I J : Z → Prop} (hI : Grp I) : Grp (Pr o I J) := ⟨.zero, fun _ _ hx hy => hx.add hy, fun k _ hx => hx.sc hI k⟩
theorem Pr.sub {I J K : Z → Prop} (hK : Grp K) (h : ∀ x y, I x → J y → K (o.mul x y)) {z : Z} (hz : Pr o I J z) : K z := by
  induction hz with
  | zero => exact hK.zero
  | step a b c ha hb hc ih => exact hK.add _ _ (h a b ha hb) ih
theorem Pr.mono {I J I' J' : Z → Prop} (h : ∀ x, I x → I' x) (k : ∀ x, J x → J' x) {z : Z} (hz : Pr o I J z) : Pr o I' J' z := by
  induction hz with
  | zero => exact .zero
  | step a b c ha hb hc ih => exact .step a b c (h a ha) (k b hb) ih
theorem Pr.swap {I J : Z → Prop} {z : Z} (hz : Pr o I J z) : Pr o J I z := by
  induction hz with
  | zero => exact .zero
  | step a b c ha hb hc ih => rw [mul_comm]; exact .step b a c hb ha ih
/-- lattices that differ by a number -/
def Eqv (o : O) (I J : Z → Prop) : Prop := ∃ a b : Z, o.nm a ≠ 0 ∧ o.nm b ≠ 0 ∧ ∀ z, ml o a I z ↔ ml o b J z
theorem ml_ml {a b : Z} {I : Z → Prop} {z : Z} : ml o a (ml o b I) z ↔ ml o (o.mul a b) I z := by
  constructor
  · rintro ⟨_, ⟨x, hx, rfl⟩, rfl⟩; exact ⟨x, hx, (mul_assoc o _ _ _).symm⟩
  · rintro ⟨x, hx, rfl⟩; exact ⟨_, ⟨x, hx, rfl⟩, mul_assoc o _ _ _⟩
theorem ml_congr {a : Z} {I J : Z → Prop} (h : ∀ z, I z ↔ J z) {z : Z} : ml o a I z ↔ ml o a J z := by
  constructor
  · rintro ⟨x, hx, rfl⟩; exact ⟨x, (h x).1 hx, rfl⟩
  · rintro ⟨x, hx, rfl⟩; exact ⟨x, (h x).2 hx, rfl⟩
theorem nm_one : o.nm (.of 1) = 1 := by simp [O.nm, Z.of]
theorem Eqv.refl (I : Z → Prop) : Eqv o I I := ⟨.of 1, .of 1, by rw [nm_one]; decide, by rw [nm_one]; decide, fun _ => Iff.rfl⟩
theorem Eqv.of_eq {I J : Z → Prop} (h : ∀ z, I z ↔ J z) : Eqv o I J := ⟨.of 1, .of 1, by rw [nm_one]; decide, by rw [nm_one]; decide, fun _ => ml_congr h⟩
theorem Eqv.symm {I J : Z → Prop} (h : Eqv o I J) : Eqv o J I := by
  obtain ⟨a, b, ha, hb, h⟩ := h
  exact ⟨b, a, hb, ha, fun z => (h z).symm⟩
theorem nm_ne {a b : Z} (ha : o.nm a ≠ 0) (hb : o.nm b ≠ 0) : o.nm (o.mul a b) ≠ 0 := by
  rw [nm_mul]
  intro h
  rcases Int.mul_eq_zero.1 h with h | h
  · exact ha h
  · exact hb h
theorem Eqv.trans {I J K : Z → Prop} (h : Eqv o I J) (k : Eqv o J K) : Eqv o I K := by
  obtain ⟨a, b, ha, hb, h⟩ := h
  obtain ⟨c, d, hc, hd, k⟩ := k
  refine ⟨o.mul c a, o.mul b d, nm_ne hc ha, nm_ne hb hd, fun z => ?_⟩
  rw [← ml_ml, ml_congr h, ml_ml, mul_comm o c b, ← ml_ml, ml_congr k, ml_ml]
theorem pr_ml {a b : Z} {I J : Z → Prop} {z : Z} : Pr o (ml o a I) (ml o b J) z ↔ ml o (o.mul a b) (Pr o I J) z := by
  constructor
  · intro h
    induction h with
    | zero => exact ⟨_, .zero, by apply Z.ext <;> simp [O.mul]⟩
    | step x y w hx hy hw ih =>
      obtain ⟨x, hx, rfl⟩ := hx
      obtain ⟨y, hy, rfl⟩ := hy
      obtain ⟨w', hw', rfl⟩ := ih
      refine ⟨_, .step x y w' hx hy hw', ?_⟩
      rw [mul_add]
      congr 1
      apply Z.ext <;> simp only [O.mul] <;> grind
  · rintro ⟨x, hx, rfl⟩
    induction hx with
    | zero =>
      have : o.mul (o.mul a b) ⟨0, 0⟩ = ⟨0, 0⟩ := by apply Z.ext <;> simp [O.mul]
      rw [this]; exact .zero
    | step x y w hx hy hw ih =>
      rw [mul_add]
      have : o.mul (o.mul a b) (o.mul x y) = o.mul (o.mul a x) (o.mul b y) := by apply Z.ext <;> simp only [O.mul] <;> grind
      rw [this]
      exact .step _ _ _ ⟨x, hx, rfl⟩ ⟨y, hy, rfl⟩ ih
theorem Pr.congr {I J I' J' : Z → Prop} (h : ∀ z, I z ↔ I' z) (k : ∀ z, J z ↔ J' z) {z : Z} : Pr o I J z ↔ Pr o I' J' z :=
  ⟨Pr.mono (fun x => (h x).1) (fun x => (k x).1), Pr.mono (fun x => (h x).2) (fun x => (k x).2)⟩
/-- products of lattices, up to numbers -/
theorem Eqv.pr {I J I' J' : Z → Prop} (h : Eqv o I I') (k : Eqv o J J') : Eqv o (Pr o I J) (Pr o I' J') := by
  obtain ⟨a, b, ha, hb, h⟩ := h
  obtain ⟨c, d, hc, hd, k⟩ := k
  exact ⟨o.mul a c, o.mul b d, nm_ne ha hc, nm_ne hb hd, fun z => by rw [← pr_ml, ← pr_ml]; exact Pr.congr h k⟩
theorem Pr.assoc {I J K : Z → Prop} {z : Z} (h : Pr o (Pr o I J) K z) (hI : Grp I) : Pr o I (Pr o J K) z := by
  induction h with
  | zero => exact .zero
  | step x y w hx hy hw ih =>
    refine Pr.add ?_ ih
    clear hw ih
    induction hx with
    | zero =>
      have : o.mul ⟨0, 0⟩ y = ⟨0, 0⟩ := by apply Z.ext <;> simp [O.mul]
      rw [this]; exact .zero
    | step a b c ha hb hc ih2 =>
      have : o.mul ((o.mul a b).add c) y = (o.mul a (o.mul b y)).add (o.mul c y) := by apply Z.ext <;> simp only [O.mul, Z.add] <;> grind
      rw [this]
      exact Pr.add (Pr.one ha (Pr.one hb hy)) ih2
theorem Pr.assoc_iff {I J K : Z → Prop} (hI : Grp I) (hK : Grp K) {z : Z} : Pr o (Pr o I J) K z ↔ Pr o I (Pr o J K) z :=
  ⟨fun h => h.assoc hI, fun h => by
    have h1 : Pr o (Pr o K J) I z := (Pr.mono (fun _ h => h) (fun _ h => Pr.swap h) h).swap
    exact Pr.mono (fun _ h => Pr.swap h) (fun _ h => h) (h1.assoc hK).swap⟩
end Qf
