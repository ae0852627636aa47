/- What the program's sum of two integers is; conditions on lengths alone. Printed by a program. -/
import Derived.Test.YtmcfohngblbpbaaIntC
namespace Hp
open Go Go.RowKit Go.Proofs
set_option maxHeartbeats 2000000 in
theorem iadd_c {w : World} {u0 : Value} {z0 : Int} {K0 : Nat} (h0 : IntR w u0 K0 z0) {u1 : Value} {z1 : Int} {K1 : Nat} (h1 : IntR w u1 K1 z1) (hk0 : K0 ≤ 8796093022208) (hk1 : K1 ≤ 8796093022208) : Calls Try.prog 77 #[u0, u1] w (Ret w (SignedR (z0 + z1))) := by
  have HI0 := Lib.hid h0
  obtain ⟨ng0, s0, n0, f0, rfl, hd0, hn0, hz0⟩ := h0
  have HD0 := Lib.hid hd0
  have HN0 := Lib.hid hn0
  have HZ0 := Lib.hid hz0
  clear hd0 hn0 hz0
  have HI1 := Lib.hid h1
  obtain ⟨ng1, s1, n1, f1, rfl, hd1, hn1, hz1⟩ := h1
  have HD1 := Lib.hid hd1
  have HN1 := Lib.hid hn1
  have HZ1 := Lib.hid hz1
  clear hd1 hn1 hz1
  go_enter Try.func77, Try.ntmps77
  go_wp2_with fail
  generalize hW0 : World.alloc _ _ = W0
  have hsize : W0.heap.size = w.heap.size + 3 := by rw [← hW0]; simp
  have hB : Hid (Below w.heap.size w W0) := by
    rw [← hW0]
    exact (((Below.refl _ _).alloc (by (try simp only [World.size_alloc]); omega) _).alloc (by (try simp only [World.size_alloc]); omega) _).alloc (by (try simp only [World.size_alloc]); omega) _
  have hc00 : ∀ W, Hid (Below (w.heap.size + 2) W0 W) → W.cell? ⟨w.heap.size, 0, none⟩ = some (Value.bool ng0) := fun W h => (h.out.cell (p := ⟨_, _, _⟩) (by simp)).trans (by rw [← hW0]; (repeat rw [cell_old (by simp only [World.size_alloc]; omega)]); rw [cell_new (by (try simp only [World.size_alloc]))]; rfl)
  have hc01 : ∀ W, Hid (Below (w.heap.size + 2) W0 W) → W.cell? ⟨w.heap.size, 1, none⟩ = some s0 := fun W h => (h.out.cell (p := ⟨_, _, _⟩) (by simp)).trans (by rw [← hW0]; (repeat rw [cell_old (by simp only [World.size_alloc]; omega)]); rw [cell_new (by (try simp only [World.size_alloc]))]; rfl)
  have hc10 : ∀ W, Hid (Below (w.heap.size + 2) W0 W) → W.cell? ⟨(w.heap.size + 1), 0, none⟩ = some (Value.bool ng1) := fun W h => (h.out.cell (p := ⟨_, _, _⟩) (by simp)).trans (by rw [← hW0]; (repeat rw [cell_old (by simp only [World.size_alloc]; omega)]); rw [cell_new (by (try simp only [World.size_alloc]))]; rfl)
  have hc11 : ∀ W, Hid (Below (w.heap.size + 2) W0 W) → W.cell? ⟨(w.heap.size + 1), 1, none⟩ = some s1 := fun W h => (h.out.cell (p := ⟨_, _, _⟩) (by simp)).trans (by rw [← hW0]; (repeat rw [cell_old (by simp only [World.size_alloc]; omega)]); rw [cell_new (by (try simp only [World.size_alloc]))]; rfl)
  have hr : Slot2 W0 (w.heap.size + 2) (Value.bool false) (Value.slice none 0 0) := by rw [← hW0]; exact ⟨35, by (repeat rw [heap_old (by simp only [World.size_alloc]; omega)]); rw [heap_new (by (try simp only [World.size_alloc]))]⟩
  clear hW0
  have hr := hr.drew
  have hs := Lib.hid ((Below.refl (w.heap.size + 2) W0).drew)
  go_region_held3 (fun W => Hid (Below (w.heap.size + 2) W0 W)) (first | assumption | (exact kset2 (by assumption) _ _) | (exact kstep (by assumption) hb (by omega)))
    (first
      | (go_at_call 86; (with_reducible refine (trimmed_c (HD1.out.below ?_) (Nat.le_trans HN1.out ?_)).mono ?_); (exact now hB (by assumption) (by omega)); (unfold L; omega); rintro e w' ⟨u1, rfl, rfl, a1, cap1, k1, hv, rfl, hk', hcap, hc, hx⟩; have HT1 := Lib.hid (And.intro hv (And.intro hc (And.intro hx (Nat.le_trans hk' HN1.out)))); have HP1 : Hid (∀ W, Below w.heap.size w W → Dg W (.slice a1 k1 cap1) k1 f1) := (fun W hb => (HD1.out.below hb).front hv hk'); clear hv hc hx hk' hcap)
      | (go_at_call 96; (with_reducible refine (add_c ng1 (HI0.out.below (now hB (by assumption) (by omega))) (HP1.out _ (now hB (by assumption) (by omega))) HT1.out.2.1 hk0 (Nat.le_trans HT1.out.2.2.2 hk1)).mono ?_); rintro e w9 ⟨v9, rfl, hb, h9⟩; have hr := hr.below hb; have H2 : Hid (IntC w9 v9 (z0 + z1)) := (by rw [HZ1.out, ← HT1.out.2.2.1]; exact h9); clear h9; obtain ⟨a', n', cap', rfl⟩ := H2.out.agg; obtain ⟨q0, q1, q2, q3, q4, q5⟩ := hr.two)
    )
  have HB := Lib.hid (now hB (by assumption) (by omega) : Below w.heap.size w _)
  clear hs hc00 hc01 hc10 hc11
  go_wp2
  exact bodyPost_ret (v := .agg #[.bool (decide (z0 + z1 < 0)), .slice a' n' cap']) (by simp [results, Try.results77, go_sem, q4, q5]) rfl
    (.mk rfl HB.out (H2.out.far hr (noDigInt _ _ _ _) far_set2))
end Hp
