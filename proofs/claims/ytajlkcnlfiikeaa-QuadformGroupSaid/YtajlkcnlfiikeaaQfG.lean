/- Finite commutative groups given as lists: orders divide the number; composites represent products; plain, no condition. -/
import Derived.Test.YtajlkcnlfiikeaaQfN
set_option linter.all false
namespace Qf

structure Gp (L : List F) (m : F → F → F) (e : F) : Prop where
  nd : L.Nodup
  e0 : e ∈ L
  cl : ∀ x y, x ∈ L → y ∈ L → m x y ∈ L
  comm : ∀ x y, x ∈ L → y ∈ L → m x y = m y x
  assoc : ∀ x y z, x ∈ L → y ∈ L → z ∈ L → m (m x y) z = m x (m y z)
  one : ∀ x, x ∈ L → m e x = x
  inv : ∀ x, x ∈ L → ∃ y, y ∈ L ∧ m x y = e
/-- powers -/
def pwr (m : F → F → F) (e f : F) : Nat → F
  | 0 => e
  | n + 1 => m (pwr m e f n) f
def prd (m : F → F → F) (e : F) : List F → F
  | [] => e
  | x :: l => m x (prd m e l)
namespace Gp
variable {L : List F} {m : F → F → F} {e f g x y z : F}
theorem pm (G : Gp L m e) (hf : f ∈ L) : ∀ n, pwr m e f n ∈ L
  | 0 => G.e0
  | n + 1 => G.cl _ _ (G.pm hf n) hf
theorem one' (G : Gp L m e) (hx : x ∈ L) : m x e = x := by rw [G.comm _ _ hx G.e0, G.one _ hx]
theorem cancel (G : Gp L m e) (hx : x ∈ L) (hy : y ∈ L) (hz : z ∈ L) (h : m x z = m y z) : x = y := by
  obtain ⟨w, hw, e1⟩ := G.inv z hz
  have h1 : m (m x z) w = m (m y z) w := by rw [h]
  rw [G.assoc _ _ _ hx hz hw, G.assoc _ _ _ hy hz hw, e1, G.one' hx, G.one' hy] at h1
  exact h1
theorem pwr_add (G : Gp L m e) (hf : f ∈ L) (a : Nat) : ∀ b, pwr m e f (a + b) = m (pwr m e f a) (pwr m e f b)
  | 0 => (G.one' (G.pm hf a)).symm
  | b + 1 => by
    show m (pwr m e f (a + b)) f = m _ (m _ f)
    rw [G.pwr_add hf a b, G.assoc _ _ _ (G.pm hf a) (G.pm hf b) hf]
theorem pwr_per (G : Gp L m e) (hf : f ∈ L) {k : Nat} (hk : pwr m e f k = e) (r : Nat) : ∀ q, pwr m e f (k * q + r) = pwr m e f r
  | 0 => by rw [Nat.mul_zero, Nat.zero_add]
  | q + 1 => by
    rw [show k * (q + 1) + r = k + (k * q + r) by rw [Nat.mul_add, Nat.mul_one]; omega, G.pwr_add hf, hk, G.one _ (G.pm hf _), G.pwr_per hf hk r q]
theorem pwr_mod (G : Gp L m e) (hf : f ∈ L) {k : Nat} (hk : pwr m e f k = e) (n : Nat) : pwr m e f n = pwr m e f (n % k) := by
  have h := Nat.div_add_mod n k
  have := G.pwr_per hf hk (n % k) (n / k)
  rw [h] at this
  exact this
theorem prm (G : Gp L m e) : ∀ l, (∀ x, x ∈ l → x ∈ L) → prd m e l ∈ L
  | [], _ => G.e0
  | x :: l, h => G.cl _ _ (h x (List.mem_cons_self ..)) (G.prm l fun y hy => h y (List.mem_cons_of_mem _ hy))
theorem prd_perm (G : Gp L m e) {l k : List F} (p : l.Perm k) : (∀ x, x ∈ l → x ∈ L) → prd m e l = prd m e k := by
  induction p with
  | nil => exact fun _ => rfl
  | cons x p ih => exact fun h => by rw [prd, prd, ih fun y hy => h y (List.mem_cons_of_mem _ hy)]
  | swap x y l =>
    intro h
    have hx := h x (by simp)
    have hy := h y (by simp)
    have hl := G.prm l fun z hz => h z (by simp [hz])
    simp only [prd]
    rw [← G.assoc _ _ _ hy hx hl, ← G.assoc _ _ _ hx hy hl, G.comm _ _ hx hy]
  | trans p q ih1 ih2 => exact fun h => by rw [ih1 h, ih2 fun x hx => h x (p.mem_iff.2 hx)]
theorem prd_map (G : Gp L m e) (hf : f ∈ L) : ∀ l, (∀ x, x ∈ l → x ∈ L) → prd m e (l.map fun x => m x f) = m (prd m e l) (pwr m e f l.length)
  | [], _ => (G.one' G.e0).symm
  | x :: l, h => by
    have hx := h x (List.mem_cons_self ..)
    have hl := fun y hy => h y (List.mem_cons_of_mem x hy)
    have h1 := G.prm l hl
    have h2 := G.pm hf l.length
    rw [List.map_cons, prd, prd, G.prd_map hf l hl, List.length_cons, pwr, G.assoc _ _ _ hx hf (G.cl _ _ h1 h2), G.comm _ _ hf (G.cl _ _ h1 h2), G.assoc _ _ _ h1 h2 hf, ← G.assoc _ _ _ hx h1 (G.cl _ _ h2 hf)]
theorem map_perm (G : Gp L m e) (hf : f ∈ L) : (L.map fun x => m x f).Perm L := by
  refine (List.perm_ext_iff_of_nodup ?_ G.nd).2 fun y => ?_
  · refine List.pairwise_map.2 (G.nd.imp_of_mem fun {x y} hx hy hne he => hne (G.cancel hx hy hf he))
  · rw [List.mem_map]
    constructor
    · rintro ⟨x, hx, rfl⟩
      exact G.cl _ _ hx hf
    · intro hy
      obtain ⟨w, hw, e1⟩ := G.inv f hf
      exact ⟨m y w, G.cl _ _ hy hw, by rw [G.assoc _ _ _ hy hw hf, G.comm _ _ hw hf, e1, G.one' hy]⟩
theorem pwr_len (G : Gp L m e) (hf : f ∈ L) : pwr m e f L.length = e := by
  have h1 := G.prd_map hf L fun _ h => h
  rw [G.prd_perm (G.map_perm hf) fun x hx => by
    obtain ⟨y, hy, rfl⟩ := List.mem_map.1 hx
    exact G.cl _ _ hy hf] at h1
  have hp := G.prm L fun _ h => h
  have h2 : m e (prd m e L) = m (pwr m e f L.length) (prd m e L) := by rw [G.one _ hp, G.comm _ _ (G.pm hf _) hp]; exact h1
  exact (G.cancel G.e0 (G.pm hf _) hp h2).symm
theorem len_pos (G : Gp L m e) : 0 < L.length := List.length_pos_of_mem G.e0
/-- the order -/
theorem ord (G : Gp L m e) (hf : f ∈ L) : ∃ k, 1 ≤ k ∧ k ≤ L.length ∧ L.length % k = 0 ∧ pwr m e f k = e ∧ ∀ j, 1 ≤ j → j < k → pwr m e f j ≠ e := by
  have key : ∀ n, 1 ≤ n → pwr m e f n = e → ∃ k, 1 ≤ k ∧ pwr m e f k = e ∧ ∀ j, 1 ≤ j → j < k → pwr m e f j ≠ e := by
    intro n
    induction n using Nat.strongRecOn with
    | _ n ih =>
      intro h1 h2
      by_cases h : ∃ j, 1 ≤ j ∧ j < n ∧ pwr m e f j = e
      · obtain ⟨j, j1, j2, j3⟩ := h
        exact ih j j2 j1 j3
      · exact ⟨n, h1, h2, fun j j1 j2 j3 => h ⟨j, j1, j2, j3⟩⟩
  obtain ⟨k, k1, k2, k3⟩ := key _ G.len_pos (G.pwr_len hf)
  have h0 : L.length % k = 0 := by
    refine Classical.byContradiction fun hn => k3 (L.length % k) (by omega) (Nat.mod_lt _ (by omega)) ?_
    rw [← G.pwr_mod hf k2, G.pwr_len hf]
  exact ⟨k, k1, Nat.le_of_dvd G.len_pos (Nat.dvd_of_mod_eq_zero h0), h0, k2, k3⟩
theorem pwr_inv (G : Gp L m e) (hf : f ∈ L) (hg : g ∈ L) (h : m g f = e) : ∀ n, m (pwr m e g n) (pwr m e f n) = e
  | 0 => G.one _ G.e0
  | n + 1 => by
    have h1 := G.pm hf n
    have h2 := G.pm hg n
    show m (m _ g) (m _ f) = e
    rw [G.assoc _ _ _ h2 hg (G.cl _ _ h1 hf), G.comm _ _ h1 hf, ← G.assoc _ _ _ hg hf h1, h, G.one _ h1, G.pwr_inv hf hg h n]
/-- a negative power -/
theorem pwr_neg (G : Gp L m e) (hf : f ∈ L) (hg : g ∈ L) (h : m g f = e) {k : Nat} (hk : pwr m e f k = e) {n r : Nat} (hr : (r + n) % k = 0) : pwr m e g n = pwr m e f r := by
  refine G.cancel (G.pm hg n) (G.pm hf r) (G.pm hf n) ?_
  rw [G.pwr_inv hf hg h, ← G.pwr_add hf, G.pwr_mod hf hk, hr]
  rfl
end Gp
theorem val_by (f : F) (m : M) (x y : Int) : (f.by m).val x y = f.val (m.a * x + m.b * y) (m.c * x + m.d * y) := by simp only [F.val, F.by]; grind
theorem Sim.val {f g : F} (h : Sim f g) (x y : Int) : ∃ u v, g.val u v = f.val x y := by
  obtain ⟨m, -, e⟩ := h.symm
  exact ⟨m.a * x + m.b * y, m.c * x + m.d * y, by rw [e, val_by]⟩
theorem Co.val {f g h : F} (c : Co f g h) (x y z w : Int) : ∃ u v, h.val u v = f.val x y * g.val z w := by
  have hh := on_ord (f := h) c.d2
  have hf := on_ord (f := f) rfl
  have hg := on_ord (f := g) c.d1
  have hp : Pr (ord f.disc) f.I g.I ((ord f.disc).mul ((Z.of f.a |>.sc x).add (Z.sc y ⟨(f.b - f.disc % 2) / 2, 1⟩)) ((Z.of g.a |>.sc z).add (Z.sc w ⟨(g.b - f.disc % 2) / 2, 1⟩))) := by
    refine Pr.one ?_ ?_
    · exact ⟨x, y, rfl⟩
    · unfold F.I
      rw [c.d1]
      exact ⟨z, w, rfl⟩
  rw [← c.eqv] at hp
  unfold F.I at hp
  rw [c.d2] at hp
  obtain ⟨u, v, e⟩ := hp
  have e1 := nm_mul (o := ord f.disc) ((Z.of f.a |>.sc x).add (Z.sc y ⟨(f.b - f.disc % 2) / 2, 1⟩)) ((Z.of g.a |>.sc z).add (Z.sc w ⟨(g.b - f.disc % 2) / 2, 1⟩))
  rw [e, hh.nm, hf.nm, hg.nm, c.a] at e1
  refine ⟨u, v, ?_⟩
  have hpos := Int.mul_pos c.pf.a c.pg.a
  refine Int.eq_of_mul_eq_mul_left (a := f.a * g.a) (by omega) ?_
  rw [e1]
  grind
theorem Cmp.val {f g r : F} (c : Cmp f g r) (x y z w : Int) : ∃ u v, r.val u v = f.val x y * g.val z w := by
  obtain ⟨f', g', h, sf, sg, co, rfl⟩ := c
  obtain ⟨x', y', e1⟩ := sf.val x y
  obtain ⟨z', w', e2⟩ := sg.val z w
  obtain ⟨u, v, e3⟩ := co.val x' y' z' w'
  obtain ⟨u', v', e4⟩ := (Sim.rd co.pos).val u v
  exact ⟨u', v', by rw [e4, e3, e1, e2]⟩
theorem Cmp.ct {f g r : F} (c : Cmp f g r) (hf : f.ct = 1) (hg : g.ct = 1) : r.ct = 1 := by
  obtain ⟨f', g', h, sf, sg, co, rfl⟩ := c
  rw [(Sim.rd co.pos).ct]
  exact co.prim (by rw [sf.ct]; exact hf) (by rw [sg.ct]; exact hg)
/-- the composite, where there is one -/
noncomputable def cmpF (f g : F) : F := open Classical in if h : ∃ r, Cmp f g r then choose h else ⟨0, 0, 0⟩
theorem cmpF_eq {f g r : F} (c : Cmp f g r) : cmpF f g = r := by
  unfold cmpF
  rw [dif_pos ⟨r, c⟩]
  exact (Classical.choose_spec (⟨r, c⟩ : ∃ r, Cmp f g r)).unique c (Sim.refl f) (Sim.refl g)
theorem cmpF_spec {f g r : F} (c : Cmp f g r) : Cmp f g (cmpF f g) := by rw [cmpF_eq c]; exact c
end Qf
