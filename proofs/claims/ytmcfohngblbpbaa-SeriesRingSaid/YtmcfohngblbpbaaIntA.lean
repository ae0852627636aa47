/- What the program's integers do: negation, product, greatest common divisor; conditions on lengths alone. Printed by gen.py. -/
import Derived.Test.YtmcfohngblbpbaaGcd
namespace Hp
open Go Go.RowKit Go.Proofs
theorem zof_mul (a b : Bool) (x y : Int) : zof (!(a == b)) (x * y) = zof a x * zof b y := by
  cases a <;> cases b <;> simp [zof, Int.neg_mul, Int.mul_neg]
theorem zof_not (a : Bool) (x : Int) : zof (!a) x = -zof a x := by cases a <;> simp [zof]
theorem zof_abs (a : Bool) {x : Int} (h : 0 ≤ x) : (zof a x).natAbs = x.natAbs := by cases a <;> simp [zof]

set_option maxHeartbeats 2000000 in
theorem neg_c {w : World} {u0 : Value} {z0 : Int} {K0 : Nat} (h0 : IntR w u0 K0 z0) (hk0 : K0 ≤ 17592186044416) : Calls Try.prog 95 #[u0] w (Ret w (SignedR (-z0))) := by
  obtain ⟨ng0, s0, n0, f0, rfl, hd0, hn0, hz0⟩ := h0
  have HD0 := Lib.hid hd0
  have HN0 := Lib.hid hn0
  have HZ0 := Lib.hid hz0
  clear hd0 hn0 hz0
  go_enter Try.func95, Try.ntmps95
  go_wp2_with fail
  generalize hW0 : World.alloc _ _ = W0
  have hsize : W0.heap.size = w.heap.size + 2 := by rw [← hW0]; simp
  have hB : Hid (Below w.heap.size w W0) := by
    rw [← hW0]
    exact ((Below.refl _ _).alloc (by (try simp only [World.size_alloc]); omega) _).alloc (by (try simp only [World.size_alloc]); omega) _
  have hc00 : ∀ W, Hid (Below (w.heap.size + 1) W0 W) → W.cell? ⟨w.heap.size, 0, none⟩ = some (Value.bool ng0) := fun W h => (h.out.cell (p := ⟨_, _, _⟩) (by simp)).trans (by rw [← hW0]; (repeat rw [cell_old (by simp only [World.size_alloc]; omega)]); rw [cell_new (by (try simp only [World.size_alloc]))]; rfl)
  have hc01 : ∀ W, Hid (Below (w.heap.size + 1) W0 W) → W.cell? ⟨w.heap.size, 1, none⟩ = some s0 := fun W h => (h.out.cell (p := ⟨_, _, _⟩) (by simp)).trans (by rw [← hW0]; (repeat rw [cell_old (by simp only [World.size_alloc]; omega)]); rw [cell_new (by (try simp only [World.size_alloc]))]; rfl)
  have hr : Slot2 W0 (w.heap.size + 1) (Value.bool false) (Value.slice none 0 0) := by rw [← hW0]; exact ⟨35, by (repeat rw [heap_old (by simp only [World.size_alloc]; omega)]); rw [heap_new (by (try simp only [World.size_alloc]))]⟩
  clear hW0
  have hr := hr.drew
  have hs := Lib.hid ((Below.refl (w.heap.size + 1) W0).drew)
  go_region_held3 (fun W => Hid (Below (w.heap.size + 1) W0 W)) (first | assumption | (exact kset2 (by assumption) _ _) | (exact kstep (by assumption) hb (by omega)))
    (first
      | (go_at_call 86; (with_reducible refine (trimmed_c (HD0.out.below ?_) (Nat.le_trans HN0.out ?_)).mono ?_); (exact now hB (by assumption) (by omega)); (unfold L; omega); rintro e w' ⟨u0, rfl, rfl, a0, cap0, k0, hv, rfl, hk', hcap, hc, hx⟩; have HT0 := Lib.hid (And.intro hv (And.intro hc (And.intro hx (Nat.le_trans hk' HN0.out)))); have HP0 : Hid (∀ W, Below w.heap.size w W → Dg W (.slice a0 k0 cap0) k0 f0) := (fun W hb => (HD0.out.below hb).front hv hk'); clear hv hc hx hk' hcap)
      | (go_at_call 109; (with_reducible refine (clone_c (HP0.out _ (now hB (by assumption) (by omega))) (Nat.le_trans HT0.out.2.2.2 ?_)).mono ?_); (unfold L; omega); rintro e w1 ⟨v1, rfl, hb, h1⟩; have hr := hr.below hb; have H1 := Lib.hid h1.dg; clear h1)
      | (go_at_call 82; (with_reducible refine (signed_c (!ng0) H1.out ?_).mono ?_); (exact Nat.le_trans HT0.out.2.2.2 hk0); rintro e w9 ⟨v9, rfl, hb, h9⟩; have hr := hr.below hb; have H2 : Hid (IntC w9 v9 (-z0)) := (by rw [HZ0.out, ← HT0.out.2.2.1, ← zof_not]; exact h9); clear h9; obtain ⟨a', n', cap', rfl⟩ := H2.out.agg; obtain ⟨q0, q1, q2, q3, q4, q5⟩ := hr.two)
    )
  have HB := Lib.hid (now hB (by assumption) (by omega) : Below w.heap.size w _)
  clear hs hc00 hc01
  go_wp2
  exact bodyPost_ret (v := .agg #[.bool (decide (-z0 < 0)), .slice a' n' cap']) (by simp [results, Try.results95, go_sem, q4, q5]) rfl
    (.mk rfl HB.out (H2.out.far hr (noDigInt _ _ _ _) far_set2))

set_option maxHeartbeats 2000000 in
theorem mul_c {w : World} {u0 : Value} {z0 : Int} {K0 : Nat} (h0 : IntR w u0 K0 z0) {u1 : Value} {z1 : Int} {K1 : Nat} (h1 : IntR w u1 K1 z1) (hk0 : K0 ≤ 8796093022208) (hk1 : K1 ≤ 8796093022208) : Calls Try.prog 59 #[u0, u1] w (Ret w (SignedR (z0 * z1))) := by
  obtain ⟨ng0, s0, n0, f0, rfl, hd0, hn0, hz0⟩ := h0
  have HD0 := Lib.hid hd0
  have HN0 := Lib.hid hn0
  have HZ0 := Lib.hid hz0
  clear hd0 hn0 hz0
  obtain ⟨ng1, s1, n1, f1, rfl, hd1, hn1, hz1⟩ := h1
  have HD1 := Lib.hid hd1
  have HN1 := Lib.hid hn1
  have HZ1 := Lib.hid hz1
  clear hd1 hn1 hz1
  go_enter Try.func59, Try.ntmps59
  go_wp2_with fail
  generalize hW0 : World.alloc _ _ = W0
  have hsize : W0.heap.size = w.heap.size + 3 := by rw [← hW0]; simp
  have hB : Hid (Below w.heap.size w W0) := by
    rw [← hW0]
    exact (((Below.refl _ _).alloc (by (try simp only [World.size_alloc]); omega) _).alloc (by (try simp only [World.size_alloc]); omega) _).alloc (by (try simp only [World.size_alloc]); omega) _
  have hc00 : ∀ W, Hid (Below (w.heap.size + 2) W0 W) → W.cell? ⟨w.heap.size, 0, none⟩ = some (Value.bool ng0) := fun W h => (h.out.cell (p := ⟨_, _, _⟩) (by simp)).trans (by rw [← hW0]; (repeat rw [cell_old (by simp only [World.size_alloc]; omega)]); rw [cell_new (by (try simp only [World.size_alloc]))]; rfl)
  have hc01 : ∀ W, Hid (Below (w.heap.size + 2) W0 W) → W.cell? ⟨w.heap.size, 1, none⟩ = some s0 := fun W h => (h.out.cell (p := ⟨_, _, _⟩) (by simp)).trans (by rw [← hW0]; (repeat rw [cell_old (by simp only [World.size_alloc]; omega)]); rw [cell_new (by (try simp only [World.size_alloc]))]; rfl)
  have hc10 : ∀ W, Hid (Below (w.heap.size + 2) W0 W) → W.cell? ⟨(w.heap.size + 1), 0, none⟩ = some (Value.bool ng1) := fun W h => (h.out.cell (p := ⟨_, _, _⟩) (by simp)).trans (by rw [← hW0]; (repeat rw [cell_old (by simp only [World.size_alloc]; omega)]); rw [cell_new (by (try simp only [World.size_alloc]))]; rfl)
  have hc11 : ∀ W, Hid (Below (w.heap.size + 2) W0 W) → W.cell? ⟨(w.heap.size + 1), 1, none⟩ = some s1 := fun W h => (h.out.cell (p := ⟨_, _, _⟩) (by simp)).trans (by rw [← hW0]; (repeat rw [cell_old (by simp only [World.size_alloc]; omega)]); rw [cell_new (by (try simp only [World.size_alloc]))]; rfl)
  have hr : Slot2 W0 (w.heap.size + 2) (Value.bool false) (Value.slice none 0 0) := by rw [← hW0]; exact ⟨35, by (repeat rw [heap_old (by simp only [World.size_alloc]; omega)]); rw [heap_new (by (try simp only [World.size_alloc]))]⟩
  clear hW0
  have hr := hr.drew
  have hs := Lib.hid ((Below.refl (w.heap.size + 2) W0).drew)
  go_region_held3 (fun W => Hid (Below (w.heap.size + 2) W0 W)) (first | assumption | (exact kset2 (by assumption) _ _) | (exact kstep (by assumption) hb (by omega)))
    (first
      | (go_at_call 86; (with_reducible refine (trimmed_c (HD0.out.below ?_) (Nat.le_trans HN0.out ?_)).mono ?_); (exact now hB (by assumption) (by omega)); (unfold L; omega); rintro e w' ⟨u0, rfl, rfl, a0, cap0, k0, hv, rfl, hk', hcap, hc, hx⟩; have HT0 := Lib.hid (And.intro hv (And.intro hc (And.intro hx (Nat.le_trans hk' HN0.out)))); have HP0 : Hid (∀ W, Below w.heap.size w W → Dg W (.slice a0 k0 cap0) k0 f0) := (fun W hb => (HD0.out.below hb).front hv hk'); clear hv hc hx hk' hcap)
      | (go_at_call 86; (with_reducible refine (trimmed_c (HD1.out.below ?_) (Nat.le_trans HN1.out ?_)).mono ?_); (exact now hB (by assumption) (by omega)); (unfold L; omega); rintro e w' ⟨u1, rfl, rfl, a1, cap1, k1, hv, rfl, hk', hcap, hc, hx⟩; have HT1 := Lib.hid (And.intro hv (And.intro hc (And.intro hx (Nat.le_trans hk' HN1.out)))); have HP1 : Hid (∀ W, Below w.heap.size w W → Dg W (.slice a1 k1 cap1) k1 f1) := (fun W hb => (HD1.out.below hb).front hv hk'); clear hv hc hx hk' hcap)
      | (go_at_call 87; (with_reducible refine (times_c (HP0.out _ (now hB (by assumption) (by omega))) (HP1.out _ (now hB (by assumption) (by omega))) (Nat.le_trans HT0.out.2.2.2 ?_) (Nat.le_trans HT1.out.2.2.2 ?_)).mono ?_); (unfold L; omega); (unfold L; omega); rintro e w1 ⟨v1, rfl, hb, kk, hh, h1, h2, h3⟩; have hr := hr.below hb; have H1 := Lib.hid (And.intro h1 (And.intro h2 h3)); clear h1 h2 h3)
      | (go_at_call 82; (with_reducible refine (signed_c (!(ng0 == ng1)) H1.out.1 ?_).mono ?_); (exact Nat.le_trans H1.out.2.1 (by have h1 := HT0.out.2.2.2; have h2 := HT1.out.2.2.2; unfold L; omega)); rintro e w9 ⟨v9, rfl, hb, h9⟩; have hr := hr.below hb; have H2 : Hid (IntC w9 v9 (z0 * z1)) := (by rw [HZ0.out, HZ1.out, ← HT0.out.2.2.1, ← HT1.out.2.2.1, ← zof_mul, ← H1.out.2.2]; exact h9); clear h9; obtain ⟨a', n', cap', rfl⟩ := H2.out.agg; obtain ⟨q0, q1, q2, q3, q4, q5⟩ := hr.two)
    )
  have HB := Lib.hid (now hB (by assumption) (by omega) : Below w.heap.size w _)
  clear hs hc00 hc01 hc10 hc11
  go_wp2
  exact bodyPost_ret (v := .agg #[.bool (decide (z0 * z1 < 0)), .slice a' n' cap']) (by simp [results, Try.results59, go_sem, q4, q5]) rfl
    (.mk rfl HB.out (H2.out.far hr (noDigInt _ _ _ _) far_set2))

set_option maxHeartbeats 2000000 in
theorem gcd_c {w : World} {u0 : Value} {z0 : Int} {K0 : Nat} (h0 : IntR w u0 K0 z0) {u1 : Value} {z1 : Int} {K1 : Nat} (h1 : IntR w u1 K1 z1) (hk0 : K0 ≤ 8796093022208) (hk1 : K1 ≤ 8796093022208) : Calls Try.prog 58 #[u0, u1] w (Ret w (SignedR (gcdZ z0 z1))) := by
  obtain ⟨ng0, s0, n0, f0, rfl, hd0, hn0, hz0⟩ := h0
  have HD0 := Lib.hid hd0
  have HN0 := Lib.hid hn0
  have HZ0 := Lib.hid hz0
  clear hd0 hn0 hz0
  obtain ⟨ng1, s1, n1, f1, rfl, hd1, hn1, hz1⟩ := h1
  have HD1 := Lib.hid hd1
  have HN1 := Lib.hid hn1
  have HZ1 := Lib.hid hz1
  clear hd1 hn1 hz1
  go_enter Try.func58, Try.ntmps58
  go_wp2_with fail
  generalize hW0 : World.alloc _ _ = W0
  have hsize : W0.heap.size = w.heap.size + 3 := by rw [← hW0]; simp
  have hB : Hid (Below w.heap.size w W0) := by
    rw [← hW0]
    exact (((Below.refl _ _).alloc (by (try simp only [World.size_alloc]); omega) _).alloc (by (try simp only [World.size_alloc]); omega) _).alloc (by (try simp only [World.size_alloc]); omega) _
  have hc00 : ∀ W, Hid (Below (w.heap.size + 2) W0 W) → W.cell? ⟨w.heap.size, 0, none⟩ = some (Value.bool ng0) := fun W h => (h.out.cell (p := ⟨_, _, _⟩) (by simp)).trans (by rw [← hW0]; (repeat rw [cell_old (by simp only [World.size_alloc]; omega)]); rw [cell_new (by (try simp only [World.size_alloc]))]; rfl)
  have hc01 : ∀ W, Hid (Below (w.heap.size + 2) W0 W) → W.cell? ⟨w.heap.size, 1, none⟩ = some s0 := fun W h => (h.out.cell (p := ⟨_, _, _⟩) (by simp)).trans (by rw [← hW0]; (repeat rw [cell_old (by simp only [World.size_alloc]; omega)]); rw [cell_new (by (try simp only [World.size_alloc]))]; rfl)
  have hc10 : ∀ W, Hid (Below (w.heap.size + 2) W0 W) → W.cell? ⟨(w.heap.size + 1), 0, none⟩ = some (Value.bool ng1) := fun W h => (h.out.cell (p := ⟨_, _, _⟩) (by simp)).trans (by rw [← hW0]; (repeat rw [cell_old (by simp only [World.size_alloc]; omega)]); rw [cell_new (by (try simp only [World.size_alloc]))]; rfl)
  have hc11 : ∀ W, Hid (Below (w.heap.size + 2) W0 W) → W.cell? ⟨(w.heap.size + 1), 1, none⟩ = some s1 := fun W h => (h.out.cell (p := ⟨_, _, _⟩) (by simp)).trans (by rw [← hW0]; (repeat rw [cell_old (by simp only [World.size_alloc]; omega)]); rw [cell_new (by (try simp only [World.size_alloc]))]; rfl)
  have hr : Slot2 W0 (w.heap.size + 2) (Value.bool false) (Value.slice none 0 0) := by rw [← hW0]; exact ⟨35, by (repeat rw [heap_old (by simp only [World.size_alloc]; omega)]); rw [heap_new (by (try simp only [World.size_alloc]))]⟩
  clear hW0
  have hr := hr.drew
  have hs := Lib.hid ((Below.refl (w.heap.size + 2) W0).drew)
  go_region_held3 (fun W => Hid (Below (w.heap.size + 2) W0 W)) (first | assumption | (exact kset2 (by assumption) _ _) | (exact kstep (by assumption) hb (by omega)))
    (first
      | (go_at_call 86; (with_reducible refine (trimmed_c (HD0.out.below ?_) (Nat.le_trans HN0.out ?_)).mono ?_); (exact now hB (by assumption) (by omega)); (unfold L; omega); rintro e w' ⟨u0, rfl, rfl, a0, cap0, k0, hv, rfl, hk', hcap, hc, hx⟩; have HT0 := Lib.hid (And.intro hv (And.intro hc (And.intro hx (Nat.le_trans hk' HN0.out)))); have HP0 : Hid (∀ W, Below w.heap.size w W → Dg W (.slice a0 k0 cap0) k0 f0) := (fun W hb => (HD0.out.below hb).front hv hk'); clear hv hc hx hk' hcap)
      | (go_at_call 86; (with_reducible refine (trimmed_c (HD1.out.below ?_) (Nat.le_trans HN1.out ?_)).mono ?_); (exact now hB (by assumption) (by omega)); (unfold L; omega); rintro e w' ⟨u1, rfl, rfl, a1, cap1, k1, hv, rfl, hk', hcap, hc, hx⟩; have HT1 := Lib.hid (And.intro hv (And.intro hc (And.intro hx (Nat.le_trans hk' HN1.out)))); have HP1 : Hid (∀ W, Below w.heap.size w W → Dg W (.slice a1 k1 cap1) k1 f1) := (fun W hb => (HD1.out.below hb).front hv hk'); clear hv hc hx hk' hcap)
      | (go_at_call 85; (with_reducible refine (common_c (HP0.out _ (now hB (by assumption) (by omega))) (HP1.out _ (now hB (by assumption) (by omega))) HT0.out.2.1 HT1.out.2.1 (Nat.le_trans HT0.out.2.2.2 ?_) (Nat.le_trans HT1.out.2.2.2 ?_)).mono ?_); (unfold L; omega); (unfold L; omega); rintro e w1 ⟨v1, rfl, hb, kk, hh, h1, h2, h3, h4⟩; have hr := hr.below hb; have H1 := Lib.hid (And.intro h1 (And.intro h3 h4)); clear h1 h2 h3 h4)
      | (go_at_call 82; (with_reducible refine (signed_c false H1.out.1 ?_).mono ?_); (exact H1.out.2.1); rintro e w9 ⟨v9, rfl, hb, h9⟩; have hr := hr.below hb; have H2 : Hid (IntC w9 v9 (gcdZ z0 z1)) := (by rw [H1.out.2.2, HT0.out.2.2.1, HT1.out.2.2.1] at h9; rw [HZ0.out, HZ1.out]; have e : gcdZ (zof ng0 (val f0 n0)) (zof ng1 (val f1 n1)) = gcdZ (val f0 n0) (val f1 n1) := (by unfold gcdZ; rw [zof_abs _ (val_nonneg HD0.out.dig), zof_abs _ (val_nonneg HD1.out.dig)]); rw [e]; exact h9); clear h9; obtain ⟨a', n', cap', rfl⟩ := H2.out.agg; obtain ⟨q0, q1, q2, q3, q4, q5⟩ := hr.two)
    )
  have HB := Lib.hid (now hB (by assumption) (by omega) : Below w.heap.size w _)
  clear hs hc00 hc01 hc10 hc11
  go_wp2
  exact bodyPost_ret (v := .agg #[.bool (decide (gcdZ z0 z1 < 0)), .slice a' n' cap']) (by simp [results, Try.results58, go_sem, q4, q5]) rfl
    (.mk rfl HB.out (H2.out.far hr (noDigInt _ _ _ _) far_set2))

end Hp
