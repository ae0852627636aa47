/- What the program's fractions do: normal form, negation, product; conditions on lengths alone. Printed by gen_rat.py. -/
import Derived.Test.YtmcfohngblbpbaaRatC
namespace Hp
open Go Go.RowKit Go.Proofs
theorem kset4 {r : Nat} {W0 W : World} (h : Hid (Below r W0 W)) (u0 u1 u2 u3 : Value) : Hid (Below r W0 ((((W.setCell ⟨r, 0, none⟩ u0).setCell ⟨r, 1, none⟩ u1).setCell ⟨r, 2, none⟩ u2).setCell ⟨r, 3, none⟩ u3)) :=
  below_put4 h.out (Nat.le_refl r) u0 u1 u2 u3
theorem mul_big {a b : Int} {k l : Nat} (ha : a.natAbs < pw k) (hb : b.natAbs < pw l) (hk : k ≤ 2199023255552) (hl : l ≤ 2199023255552) : (a * b).natAbs < BIG := big_of (mul_lt_pw ha hb) (by omega)

set_option maxHeartbeats 4000000 in
theorem rmul_c {w : World} {u0 : Value} {q0 : Rat} {K0 : Nat} (h0 : RatV w u0 K0 q0) (hk0 : K0 ≤ 2199023255552) {u1 : Value} {q1 : Rat} {K1 : Nat} (h1 : RatV w u1 K1 q1) (hk1 : K1 ≤ 2199023255552) : Calls Try.prog 47 #[u0, u1] w (Ret w (RatP (q0 * q1))) := by
  have HV0 := Lib.hid h0
  obtain ⟨xa0, aa0, na0, ca0, xb0, ab0, nb0, cb0, p0, d0, rfl, hp0, hd0, hq0⟩ := h0.open
  have HP0 := Lib.hid hp0
  have HD0 := Lib.hid hd0
  have HQ0 := Lib.hid hq0
  clear hp0 hd0 hq0 h0
  have HV1 := Lib.hid h1
  obtain ⟨xa1, aa1, na1, ca1, xb1, ab1, nb1, cb1, p1, d1, rfl, hp1, hd1, hq1⟩ := h1.open
  have HP1 := Lib.hid hp1
  have HD1 := Lib.hid hd1
  have HQ1 := Lib.hid hq1
  clear hp1 hd1 hq1 h1
  go_enter Try.func47, Try.ntmps47
  go_wp2_with fail
  generalize hW0 : World.alloc _ _ = W0
  have hsize : W0.heap.size = w.heap.size + 3 := by rw [← hW0]; simp
  have hB : Hid (Below w.heap.size w W0) := by
    rw [← hW0]
    exact (((Below.refl _ _).alloc (by (try simp only [World.size_alloc]); omega) _).alloc (by (try simp only [World.size_alloc]); omega) _).alloc (by (try simp only [World.size_alloc]); omega) _
  have hc00 : ∀ W, Hid (Below (w.heap.size + 2) W0 W) → W.cell? ⟨w.heap.size, 0, none⟩ = some (Value.bool xa0) := fun W h => (h.out.cell (p := ⟨_, _, _⟩) (by simp)).trans (by rw [← hW0]; (repeat rw [cell_old (by simp only [World.size_alloc]; omega)]); rw [cell_new (by (try simp only [World.size_alloc]))]; rfl)
  have hc01 : ∀ W, Hid (Below (w.heap.size + 2) W0 W) → W.cell? ⟨w.heap.size, 1, none⟩ = some (Value.slice aa0 na0 ca0) := fun W h => (h.out.cell (p := ⟨_, _, _⟩) (by simp)).trans (by rw [← hW0]; (repeat rw [cell_old (by simp only [World.size_alloc]; omega)]); rw [cell_new (by (try simp only [World.size_alloc]))]; rfl)
  have hc02 : ∀ W, Hid (Below (w.heap.size + 2) W0 W) → W.cell? ⟨w.heap.size, 2, none⟩ = some (Value.bool xb0) := fun W h => (h.out.cell (p := ⟨_, _, _⟩) (by simp)).trans (by rw [← hW0]; (repeat rw [cell_old (by simp only [World.size_alloc]; omega)]); rw [cell_new (by (try simp only [World.size_alloc]))]; rfl)
  have hc03 : ∀ W, Hid (Below (w.heap.size + 2) W0 W) → W.cell? ⟨w.heap.size, 3, none⟩ = some (Value.slice ab0 nb0 cb0) := fun W h => (h.out.cell (p := ⟨_, _, _⟩) (by simp)).trans (by rw [← hW0]; (repeat rw [cell_old (by simp only [World.size_alloc]; omega)]); rw [cell_new (by (try simp only [World.size_alloc]))]; rfl)
  have hc10 : ∀ W, Hid (Below (w.heap.size + 2) W0 W) → W.cell? ⟨(w.heap.size + 1), 0, none⟩ = some (Value.bool xa1) := fun W h => (h.out.cell (p := ⟨_, _, _⟩) (by simp)).trans (by rw [← hW0]; (repeat rw [cell_old (by simp only [World.size_alloc]; omega)]); rw [cell_new (by (try simp only [World.size_alloc]))]; rfl)
  have hc11 : ∀ W, Hid (Below (w.heap.size + 2) W0 W) → W.cell? ⟨(w.heap.size + 1), 1, none⟩ = some (Value.slice aa1 na1 ca1) := fun W h => (h.out.cell (p := ⟨_, _, _⟩) (by simp)).trans (by rw [← hW0]; (repeat rw [cell_old (by simp only [World.size_alloc]; omega)]); rw [cell_new (by (try simp only [World.size_alloc]))]; rfl)
  have hc12 : ∀ W, Hid (Below (w.heap.size + 2) W0 W) → W.cell? ⟨(w.heap.size + 1), 2, none⟩ = some (Value.bool xb1) := fun W h => (h.out.cell (p := ⟨_, _, _⟩) (by simp)).trans (by rw [← hW0]; (repeat rw [cell_old (by simp only [World.size_alloc]; omega)]); rw [cell_new (by (try simp only [World.size_alloc]))]; rfl)
  have hc13 : ∀ W, Hid (Below (w.heap.size + 2) W0 W) → W.cell? ⟨(w.heap.size + 1), 3, none⟩ = some (Value.slice ab1 nb1 cb1) := fun W h => (h.out.cell (p := ⟨_, _, _⟩) (by simp)).trans (by rw [← hW0]; (repeat rw [cell_old (by simp only [World.size_alloc]; omega)]); rw [cell_new (by (try simp only [World.size_alloc]))]; rfl)
  have hr : Slot W0 (w.heap.size + 2) #[.bool false, .slice none 0 0, .bool false, .slice none 0 0] := by rw [← hW0]; exact ⟨_, by (repeat rw [heap_old (by simp only [World.size_alloc]; omega)]); rw [heap_new (by (try simp only [World.size_alloc]))]⟩
  clear hW0
  have hr := hr.drew
  have hs := Lib.hid ((Below.refl (w.heap.size + 2) W0).drew)
  go_region_held3 (fun W => Hid (Below (w.heap.size + 2) W0 W)) (first | assumption | (exact kset4 (by assumption) _ _ _ _) | (exact kstep (by assumption) hb (by omega)))
    (first
      | (go_at_call 59; (with_reducible refine (mul_c (HP0.out.below (now hB (by assumption) (by omega))) (HP1.out.below (now hB (by assumption) (by omega))) ?_ ?_).mono ?_); (omega); (omega); rintro e w1 ⟨v1, rfl, hb, h9⟩; have hr := hr.below hb; have H1 := Lib.hid (show IntC w1 v1 (p0 * p1) from h9); clear h9)
      | (go_at_call 59; (with_reducible refine (mul_c (HD0.out.below (now hB (by assumption) (by omega))) (HD1.out.below (now hB (by assumption) (by omega))) ?_ ?_).mono ?_); (omega); (omega); rintro e w2 ⟨v2, rfl, hb, h9⟩; have hr := hr.below hb; have H1 := Lib.hid (H1.out.below hb); have H2 := Lib.hid (show IntC w2 v2 (d0 * d1) from h9); clear h9)
      | (go_at_call 78; (with_reducible refine (over_c (big_raw H1.out ?_) (big_raw H2.out ?_) ?_ ?_).mono ?_); (exact mul_big HP0.out.lt HP1.out.lt hk0 hk1); (exact mul_big HD0.out.lt HD1.out.lt hk0 hk1); (exact Nat.le_refl _); (exact Nat.le_refl _); rintro e w9 ⟨v9, rfl, hb, h9⟩; have hr := hr.below hb; have HF : Hid (RatC w9 v9 (q0 * q1)) := (by rw [HQ0.out, HQ1.out, Rat.divInt_mul_divInt]; exact h9); clear h9; obtain ⟨y0, y1, y2, y3, y4, y5, y6, y7, rfl⟩ := HF.out.agg; obtain ⟨t0, t1, t2, t3, t4, t5, t6, t7, r0, r1, r2, r3⟩ := hr.four)
    )
  have HB := Lib.hid (now hB (by assumption) (by omega) : Below w.heap.size w _)
  clear hs hc00 hc01 hc02 hc03 hc10 hc11 hc12 hc13
  go_wp2
  exact bodyPost_ret (v := .agg #[.bool y0, .slice y1 y2 y3, .bool y4, .slice y5 y6 y7]) (by simp [results, Try.results47, go_sem, r0, r1, r2, r3]) rfl
    (.mk rfl HB.out (RatC.far (w' := put4 _ _ (.bool y0) (.slice y1 y2 y3) (.bool y4) (.slice y5 y6 y7)) HF.out hr (noDigRat _ _ _ _ _ _ _ _) far_put4))

set_option maxHeartbeats 4000000 in
theorem rneg_c {w : World} {u0 : Value} {q0 : Rat} {K0 : Nat} (h0 : RatV w u0 K0 q0) (hk0 : K0 ≤ 2199023255552) : Calls Try.prog 67 #[u0] w (Ret w (RatP (-q0))) := by
  have HV0 := Lib.hid h0
  obtain ⟨xa0, aa0, na0, ca0, xb0, ab0, nb0, cb0, p0, d0, rfl, hp0, hd0, hq0⟩ := h0.open
  have HP0 := Lib.hid hp0
  have HD0 := Lib.hid hd0
  have HQ0 := Lib.hid hq0
  clear hp0 hd0 hq0 h0
  go_enter Try.func67, Try.ntmps67
  go_wp2_with fail
  generalize hW0 : World.alloc _ _ = W0
  have hsize : W0.heap.size = w.heap.size + 2 := by rw [← hW0]; simp
  have hB : Hid (Below w.heap.size w W0) := by
    rw [← hW0]
    exact ((Below.refl _ _).alloc (by (try simp only [World.size_alloc]); omega) _).alloc (by (try simp only [World.size_alloc]); omega) _
  have hc00 : ∀ W, Hid (Below (w.heap.size + 1) W0 W) → W.cell? ⟨w.heap.size, 0, none⟩ = some (Value.bool xa0) := fun W h => (h.out.cell (p := ⟨_, _, _⟩) (by simp)).trans (by rw [← hW0]; (repeat rw [cell_old (by simp only [World.size_alloc]; omega)]); rw [cell_new (by (try simp only [World.size_alloc]))]; rfl)
  have hc01 : ∀ W, Hid (Below (w.heap.size + 1) W0 W) → W.cell? ⟨w.heap.size, 1, none⟩ = some (Value.slice aa0 na0 ca0) := fun W h => (h.out.cell (p := ⟨_, _, _⟩) (by simp)).trans (by rw [← hW0]; (repeat rw [cell_old (by simp only [World.size_alloc]; omega)]); rw [cell_new (by (try simp only [World.size_alloc]))]; rfl)
  have hc02 : ∀ W, Hid (Below (w.heap.size + 1) W0 W) → W.cell? ⟨w.heap.size, 2, none⟩ = some (Value.bool xb0) := fun W h => (h.out.cell (p := ⟨_, _, _⟩) (by simp)).trans (by rw [← hW0]; (repeat rw [cell_old (by simp only [World.size_alloc]; omega)]); rw [cell_new (by (try simp only [World.size_alloc]))]; rfl)
  have hc03 : ∀ W, Hid (Below (w.heap.size + 1) W0 W) → W.cell? ⟨w.heap.size, 3, none⟩ = some (Value.slice ab0 nb0 cb0) := fun W h => (h.out.cell (p := ⟨_, _, _⟩) (by simp)).trans (by rw [← hW0]; (repeat rw [cell_old (by simp only [World.size_alloc]; omega)]); rw [cell_new (by (try simp only [World.size_alloc]))]; rfl)
  have hr : Slot W0 (w.heap.size + 1) #[.bool false, .slice none 0 0, .bool false, .slice none 0 0] := by rw [← hW0]; exact ⟨_, by (repeat rw [heap_old (by simp only [World.size_alloc]; omega)]); rw [heap_new (by (try simp only [World.size_alloc]))]⟩
  clear hW0
  have hr := hr.drew
  have hs := Lib.hid ((Below.refl (w.heap.size + 1) W0).drew)
  go_region_held3 (fun W => Hid (Below (w.heap.size + 1) W0 W)) (first | assumption | (exact kset4 (by assumption) _ _ _ _) | (exact kstep (by assumption) hb (by omega)))
    (first
      | (go_at_call 95; (with_reducible refine (neg_c (HP0.out.below (now hB (by assumption) (by omega))) ?_).mono ?_); (omega); rintro e w1 ⟨v1, rfl, hb, h9⟩; have hr := hr.below hb; have H1 := Lib.hid (show IntC w1 v1 (-p0) from h9); clear h9)
      | (go_at_call 78; (with_reducible refine (over_c (big_raw H1.out ?_) (HD0.out.below (now hB (by assumption) (by omega))) ?_ ?_).mono ?_); (rw [Int.natAbs_neg]; exact big_of HP0.out.lt (by omega)); (exact Nat.le_refl _); (omega); rintro e w9 ⟨v9, rfl, hb, h9⟩; have hr := hr.below hb; have HF : Hid (RatC w9 v9 (-q0)) := (by rw [HQ0.out, Rat.neg_divInt]; exact h9); clear h9; obtain ⟨y0, y1, y2, y3, y4, y5, y6, y7, rfl⟩ := HF.out.agg; obtain ⟨t0, t1, t2, t3, t4, t5, t6, t7, r0, r1, r2, r3⟩ := hr.four)
    )
  have HB := Lib.hid (now hB (by assumption) (by omega) : Below w.heap.size w _)
  clear hs hc00 hc01 hc02 hc03
  go_wp2
  exact bodyPost_ret (v := .agg #[.bool y0, .slice y1 y2 y3, .bool y4, .slice y5 y6 y7]) (by simp [results, Try.results67, go_sem, r0, r1, r2, r3]) rfl
    (.mk rfl HB.out (RatC.far (w' := put4 _ _ (.bool y0) (.slice y1 y2 y3) (.bool y4) (.slice y5 y6 y7)) HF.out hr (noDigRat _ _ _ _ _ _ _ _) far_put4))

end Hp
