/- What the program's exact division of integers is, where the divisor is not 0 and divides. Printed by a program, in part. -/
import Derived.Test.YtmcfohngblbpbaaIntE
namespace Hp
open Go Go.RowKit Go.Proofs

def ExactR (z : Int) (w' : World) (u : Value) : Prop := ∃ uq, u = .tuple #[uq, .int .i64 0] ∧ IntC w' uq z
theorem IntC.zero {w : World} {u : Value} (h : IntC w u 0) : ∃ a cap, u = .agg #[.bool false, .slice a 0 cap] := by
  obtain ⟨s, n, f, rfl, hd, hc, hv⟩ := h
  have e := (canon_zero hd.dig hc).1 (by simpa using hv)
  subst e
  obtain ⟨a, cap, rfl, _⟩ := hd
  exact ⟨a, cap, rfl⟩
set_option maxRecDepth 100000 in
set_option maxHeartbeats 4000000 in
theorem exact_c {w : World} {u0 u1 : Value} {z0 z1 : Int} {K0 K1 : Nat} (h0 : IntR w u0 K0 z0) (h1 : IntR w u1 K1 z1) (hk0' : K0 ≤ 8796093022208) (hk1' : K1 ≤ 8796093022208) (hz : z1 ≠ 0) (hdvd : z0 % z1 = 0) :
    Calls Try.prog 57 #[u0, u1] w (Ret w (ExactR (z0 / z1))) := by
  have HI0 := Lib.hid h0
  obtain ⟨ng0, s0, n0, f0, rfl, hd0, hn0, hz0⟩ := h0
  clear hd0 hn0 hz0
  have HI1 := Lib.hid h1
  obtain ⟨ng1, s1, n1, f1, rfl, hd1, hn1, hz1⟩ := h1
  clear hd1 hn1 hz1
  have HZ := Lib.hid (And.intro hz hdvd)
  clear hz hdvd
  go_enter Try.func57, Try.ntmps57
  go_wp2_with fail
  generalize hW0 : World.alloc _ _ = W0
  have hsize : W0.heap.size = w.heap.size + 3 := by rw [← hW0]; simp
  have hB : Hid (Below w.heap.size w W0) := by
    rw [← hW0]
    exact (((Below.refl _ _).alloc (by (try simp only [World.size_alloc]); omega) _).alloc (by (try simp only [World.size_alloc]); omega) _).alloc (by (try simp only [World.size_alloc]); omega) _
  have hc00 : ∀ W, Hid (Below (w.heap.size + 2) W0 W) → W.cell? ⟨w.heap.size, 0, none⟩ = some (Value.bool ng0) := fun W h => (h.out.cell (p := ⟨_, _, _⟩) (by simp)).trans (by rw [← hW0]; (repeat rw [cell_old (by simp only [World.size_alloc]; omega)]); rw [cell_new (by (try simp only [World.size_alloc]))]; rfl)
  have hc01 : ∀ W, Hid (Below (w.heap.size + 2) W0 W) → W.cell? ⟨w.heap.size, 1, none⟩ = some s0 := fun W h => (h.out.cell (p := ⟨_, _, _⟩) (by simp)).trans (by rw [← hW0]; (repeat rw [cell_old (by simp only [World.size_alloc]; omega)]); rw [cell_new (by (try simp only [World.size_alloc]))]; rfl)
  have hc10 : ∀ W, Hid (Below (w.heap.size + 2) W0 W) → W.cell? ⟨(w.heap.size + 1), 0, none⟩ = some (Value.bool ng1) := fun W h => (h.out.cell (p := ⟨_, _, _⟩) (by simp)).trans (by rw [← hW0]; (repeat rw [cell_old (by simp only [World.size_alloc]; omega)]); rw [cell_new (by (try simp only [World.size_alloc]))]; rfl)
  have hc11 : ∀ W, Hid (Below (w.heap.size + 2) W0 W) → W.cell? ⟨(w.heap.size + 1), 1, none⟩ = some s1 := fun W h => (h.out.cell (p := ⟨_, _, _⟩) (by simp)).trans (by rw [← hW0]; (repeat rw [cell_old (by simp only [World.size_alloc]; omega)]); rw [cell_new (by (try simp only [World.size_alloc]))]; rfl)
  have hr : Slot2 W0 (w.heap.size + 2) (Value.bool false) (Value.slice none 0 0) := by rw [← hW0]; exact ⟨35, by (repeat rw [heap_old (by simp only [World.size_alloc]; omega)]); rw [heap_new (by (try simp only [World.size_alloc]))]⟩
  clear hW0
  have hk := Lib.hid (Below.refl (w.heap.size + 2) W0)
  go_wp2_with fail
  with_reducible refine (divmod_c (HI0.out.below hB.out) (HI1.out.below hB.out) hk0' hk1' HZ.out.1).mono ?_
  rintro e w1 ⟨v, rfl, hb, uq, ur, rfl, d1, d2⟩
  have hk := kstep hk hb (by omega)
  have hr := hr.below hb
  rw [HZ.out.2] at d2
  obtain ⟨ar, cr, rfl⟩ := d2.zero
  have H1 := Lib.hid d1
  clear hb d1 d2
  obtain ⟨aq, nq, cq, rfl⟩ := H1.out.agg
  generalize hg : decide (z0 / z1 < 0) = dq at *
  have HGG := Lib.hid hg
  clear hg
  have hsz : w.heap.size + 2 < w1.heap.size := Slot.lt hr
  go_upto_if 17 with fail
  generalize hW2 : World.alloc (World.alloc _ _) _ = W2
  have hb : Below w1.heap.size w1 W2 := by rw [← hW2]; exact ((Below.refl _ _).alloc (Nat.le_refl _) _).alloc (by simp) _
  have e0 : W2.cell? ⟨w1.heap.size, 0, none⟩ = some (.bool dq) := by rw [← hW2, cell_old (by simp), cell_new rfl]; rfl
  have e1 : W2.cell? ⟨w1.heap.size, 1, none⟩ = some (.slice aq nq cq) := by rw [← hW2, cell_old (by simp), cell_new rfl]; rfl
  have e2 : W2.cell? ⟨w1.heap.size + 1, 1, none⟩ = some (.slice ar 0 cr) := by rw [← hW2, cell_new (by simp)]; rfl
  clear hW2
  have hk := kstep hk hb (by omega)
  have hr := hr.below hb
  have H2 := Lib.hid (H1.out.below hb)
  have HBF := Lib.hid (now hB (kset2 hk (.bool dq) (.slice aq nq cq)) (by omega))
  obtain ⟨q0, q1, q2, q3, q4, q5⟩ := hr.two
  clear hb
  go_wp2
  exact bodyPost_ret (v := .tuple #[.agg #[.bool dq, .slice aq nq cq], .int .i64 0]) (by simp [results, Try.results57, go_sem, q4, q5]) rfl
    (.mk rfl HBF.out ⟨_, rfl, H2.out.far hr (noDigInt _ _ _ _) far_set2⟩)
end Hp
