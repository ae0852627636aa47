/- What the program's functions on integers return that handle one or two lists of digits; no condition but lengths. -/
import Derived.Test.YtmcfohngblbpbaaBigE
namespace Hp
open Go Go.RowKit Go.Proofs

set_option maxHeartbeats 1000000 in
theorem normal_c {w : World} {u : Value} {z : Int} (h : IntR w u L z) : Calls Try.prog 97 #[u] w (Ret w (SignedR z)) := by
  obtain ⟨neg, s, n, f, rfl, hd, hn, hz⟩ := h
  have HZ := Lib.hid hz
  clear hz
  have HD := Lib.hid hd
  have HN := Lib.hid hn
  clear hd hn
  go_enter Try.func97, Try.ntmps97
  go_wp2_with fail
  obtain ⟨W0, hW0⟩ : ∃ W0, W0 = (w.alloc (Obj.cells #[Value.bool neg, s] 35)).alloc (Obj.cells #[Value.bool false, Value.slice none 0 0] 35) := ⟨_, rfl⟩
  have hsize : W0.heap.size = w.heap.size + 2 := by subst hW0; simp
  have hr : Slot2 W0 (w.heap.size + 1) (Value.bool false) (Value.slice none 0 0) := by subst hW0; rw [show w.heap.size + 1 = (w.alloc (Obj.cells #[Value.bool neg, s] 35)).heap.size from by simp]; exact Slot2.new _ _ _ _
  have hB : Hid (Below w.heap.size w W0) := by subst hW0; exact (below_new _).alloc (by simp) _
  have hc0 : ∀ W, Hid (Below (w.heap.size + 1) W0 W) → W.cell? ⟨w.heap.size, 0, none⟩ = some (.bool neg) := fun W h => (h.out.cell (p := ⟨_, _, _⟩) (by simp)).trans (by subst hW0; simp [World.cell?_alloc_lt])
  have hc1 : ∀ W, Hid (Below (w.heap.size + 1) W0 W) → W.cell? ⟨w.heap.size, 1, none⟩ = some s := fun W h => (h.out.cell (p := ⟨_, _, _⟩) (by simp)).trans (by subst hW0; simp [World.cell?_alloc_lt])
  rw [← hW0]
  have HW0 := Lib.hid hW0
  clear hW0
  have hr := hr.drew
  have hs := Lib.hid ((Below.refl (w.heap.size + 1) W0).drew)
  go_region_held3 (fun W => Hid (Below (w.heap.size + 1) W0 W)) (first | assumption | (exact kset2 (by assumption) _ _) | (exact kstep (by assumption) hb (by omega)))
    (first
      | (go_at_call 86; refine (trimmed_c (HD.out.below (now hB (by assumption) (by omega))) HN.out).mono ?_; rintro e w1 ⟨u, rfl, rfl, a, cap, k, hv, rfl, hk, hcap, hc, hx⟩; have HT := Lib.hid (And.intro hv (And.intro hc hx)); have HK := Lib.hid (Nat.le_trans hk HN.out); clear hv hc hx)
      | (go_at_call 109; refine (clone_c ((HD.out.below (now hB (by assumption) (by omega))).front HT.out.1 hk) HK.out).mono ?_; rintro e w1 ⟨v1, rfl, hb, h1⟩; have hr := hr.below hb; have H1 := Lib.hid h1; clear h1)
      | (go_at_call 82; refine (signed_c neg H1.out HK.out).mono ?_; rintro e w2 ⟨v2, rfl, hb, h2⟩; have hr := hr.below hb; have H2 : Hid (IntC w2 v2 z) := (by rw [HZ.out, ← HT.out.2.2]; exact h2); clear h2; obtain ⟨a', n', cap', rfl⟩ := H2.out.agg; obtain ⟨q0, q1, q2, q3, q4, q5⟩ := hr.two))
  have HB := Lib.hid (now hB (by assumption) (by omega) : Below w.heap.size w _)
  clear hc0 hc1 hs
  go_wp2
  exact bodyPost_ret (v := .agg #[.bool (decide (z < 0)), .slice a' n' cap']) (by simp [results, Try.results97, go_sem, q4, q5]) rfl
    (.mk rfl HB.out (H2.out.far hr (noDigInt _ _ _ _) far_set2))
end Hp
