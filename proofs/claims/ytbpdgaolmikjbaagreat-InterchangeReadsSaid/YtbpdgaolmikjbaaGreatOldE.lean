/- What the program's fractions do: normal form, machine integers, the sign; conditions on lengths alone. Printed by gen_rat2.py. What the program's fractions do: quotient, sum, difference, comparison; conditions on lengths alone. Printed by gen_rat3.py. -/
import Derived.Test.YtbpdgaolmikjbaaGreatOldD
set_option linter.all false
namespace Hp
open Go Go.RowKit Go.Proofs
set_option maxHeartbeats 4000000 in
theorem rnormal_c {w : World} {u0 : Value} {q0 : Rat} {K0 : Nat} (h0 : RatV w u0 K0 q0) (hk0 : K0 ≤ 2199023255552) : Calls Tryz.prog 126 #[u0] w (Ret w (RatP q0)) := by
 have HV0 := Lib.hid h0
 obtain ⟨xa0, aa0, na0, ca0, xb0, ab0, nb0, cb0, p0, d0, rfl, hp0, hd0, hq0⟩ := h0.open
 have HP0 := Lib.hid hp0
 have HD0 := Lib.hid hd0
 have HQ0 := Lib.hid hq0
 clear hp0 hd0 hq0 h0
 go_enter Tryz.func126, Tryz.ntmps126
 go_wp2_with fail
 generalize hW0 : World.alloc _ _ = W0
 have hsize : W0.heap.size = w.heap.size + 2 := by rw [← hW0]; simp
 have hB : Hid (Below w.heap.size w W0) := by
  rw [← hW0]
  exact ((Below.refl _ _).alloc (by (try simp only [World.size_alloc]); omega) _).alloc (by (try simp only [World.size_alloc]); omega) _
 have hc00 : ∀ W, Hid (Below (w.heap.size + 1) W0 W) → W.cell? ⟨w.heap.size, 0, none⟩ = some (Value.bool xa0) := fun W h => (h.out.cell (p := ⟨_, _, _⟩) (by simp)).trans (by rw [← hW0]; (repeat rw [Zb2 (by simp only [World.size_alloc]; omega)]); rw [Zb3 (by (try simp only [World.size_alloc]))]; rfl)
 have hc01 : ∀ W, Hid (Below (w.heap.size + 1) W0 W) → W.cell? ⟨w.heap.size, 1, none⟩ = some (Value.slice aa0 na0 ca0) := fun W h => (h.out.cell (p := ⟨_, _, _⟩) (by simp)).trans (by rw [← hW0]; (repeat rw [Zb2 (by simp only [World.size_alloc]; omega)]); rw [Zb3 (by (try simp only [World.size_alloc]))]; rfl)
 have hc02 : ∀ W, Hid (Below (w.heap.size + 1) W0 W) → W.cell? ⟨w.heap.size, 2, none⟩ = some (Value.bool xb0) := fun W h => (h.out.cell (p := ⟨_, _, _⟩) (by simp)).trans (by rw [← hW0]; (repeat rw [Zb2 (by simp only [World.size_alloc]; omega)]); rw [Zb3 (by (try simp only [World.size_alloc]))]; rfl)
 have hc03 : ∀ W, Hid (Below (w.heap.size + 1) W0 W) → W.cell? ⟨w.heap.size, 3, none⟩ = some (Value.slice ab0 nb0 cb0) := fun W h => (h.out.cell (p := ⟨_, _, _⟩) (by simp)).trans (by rw [← hW0]; (repeat rw [Zb2 (by simp only [World.size_alloc]; omega)]); rw [Zb3 (by (try simp only [World.size_alloc]))]; rfl)
 have hr : Slot W0 (w.heap.size + 1) #[.bool false, .slice none 0 0, .bool false, .slice none 0 0] := by rw [← hW0]; exact ⟨_, by (repeat rw [Zdx (by simp only [World.size_alloc]; omega)]); rw [Zdy (by (try simp only [World.size_alloc]))]⟩
 clear hW0
 have hk := Lib.hid (Below.refl (w.heap.size + 1) W0)
 go_wp2_with fail
 with_reducible refine (over_c (HP0.out.below hB.out) (HD0.out.below hB.out) ?_ ?_).mono ?_
 ·omega
 ·omega
 rintro e w9 ⟨v9, rfl, hb, h9⟩
 have hk := Zfz hk hb (by omega)
 have hr := hr.below hb
 have HF : Hid (RatC w9 v9 q0) := by rw [HQ0.out]; exact h9
 clear hb h9
 obtain ⟨y0, y1, y2, y3, y4, y5, y6, y7, rfl⟩ := HF.out.agg
 obtain ⟨t0, t1, t2, t3, t4, t5, t6, t7, r0, r1, r2, r3⟩ := hr.four
 have HB := Lib.hid (now hB (kset4 hk (.bool y0) (.slice y1 y2 y3) (.bool y4) (.slice y5 y6 y7)) (by omega))
 clear hc00 hc01 hc02 hc03
 go_wp2
 exact bodyPost_ret (v := .agg #[.bool y0, .slice y1 y2 y3, .bool y4, .slice y5 y6 y7]) (by simp [results, Tryz.results126, go_sem, r0, r1, r2, r3]) rfl
  (.mk rfl HB.out (RatC.far (w' := put4 _ _ (.bool y0) (.slice y1 y2 y3) (.bool y4) (.slice y5 y6 y7)) HF.out hr (Zg1 _ _ _ _ _ _ _ _) Zg4))
end Hp
namespace Hp
open Go Go.RowKit Go.Proofs
theorem RatV.ht' {w : World} {u : Value} {k : Nat} {q : Rat} (h : RatV w u k q) : Ht q (k + 1) := by
 obtain ⟨p, d, ⟨a0, a1, b0, b1, _, h1, h2⟩, rfl⟩ := h
 exact divInt_ht (Int.lt_of_lt_of_le h1.lt (Zfc _ _ (by omega))) (Int.lt_of_lt_of_le h2.lt (Zfc _ _ (by omega))) (by omega)
end Hp
