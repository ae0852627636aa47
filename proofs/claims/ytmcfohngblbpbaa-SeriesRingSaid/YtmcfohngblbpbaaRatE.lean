/- What the program's fractions do: normal form, machine integers, the sign; conditions on lengths alone. Printed by gen_rat2.py. -/
import Derived.Test.YtmcfohngblbpbaaRatD
namespace Hp
open Go Go.RowKit Go.Proofs
/-- a number from -1 to 1 that is 0 just where q is -/
def SignR (q : Rat) (_ : World) (u : Value) : Prop := ∃ s : Int, u = .int .i64 s ∧ -1 ≤ s ∧ s ≤ 1 ∧ (s = 0 ↔ q = 0)
theorem sgn_range (x : Int) : -1 ≤ sgn x ∧ sgn x ≤ 1 ∧ (sgn x = 0 ↔ x = 0) := by unfold sgn; split; (constructor; omega; constructor; omega; omega); split <;> (constructor; omega; constructor; omega; omega)
theorem sgn_mul_range (x y : Int) : -1 ≤ sgn x * sgn y ∧ sgn x * sgn y ≤ 1 ∧ (sgn x * sgn y = 0 ↔ Rat.divInt x y = 0) := by
  obtain ⟨a1, a2, a3⟩ := sgn_range x
  obtain ⟨b1, b2, b3⟩ := sgn_range y
  have hx : sgn x = -1 ∨ sgn x = 0 ∨ sgn x = 1 := by omega
  have hy : sgn y = -1 ∨ sgn y = 0 ∨ sgn y = 1 := by omega
  have hz : sgn x * sgn y = 0 ↔ (x = 0 ∨ y = 0) := by rw [Int.mul_eq_zero, a3, b3]
  have hq : Rat.divInt x y = 0 ↔ (x = 0 ∨ y = 0) := by
    constructor
    · intro h
      by_cases h1 : x = 0
      · exact .inl h1
      · by_cases h2 : y = 0
        · exact .inr h2
        · exact absurd h (divInt_num_ne h1 h2)
    · rintro (rfl | rfl)
      · exact Rat.zero_divInt _
      · exact Rat.divInt_zero _
  refine ⟨?_, ?_, hz.trans hq.symm⟩ <;> rcases hx with h | h | h <;> rcases hy with h' | h' | h' <;> rw [h, h'] <;> decide

set_option maxHeartbeats 4000000 in
theorem rnormal_c {w : World} {u0 : Value} {q0 : Rat} {K0 : Nat} (h0 : RatV w u0 K0 q0) (hk0 : K0 ≤ 2199023255552) : Calls Try.prog 56 #[u0] w (Ret w (RatP q0)) := by
  have HV0 := Lib.hid h0
  obtain ⟨xa0, aa0, na0, ca0, xb0, ab0, nb0, cb0, p0, d0, rfl, hp0, hd0, hq0⟩ := h0.open
  have HP0 := Lib.hid hp0
  have HD0 := Lib.hid hd0
  have HQ0 := Lib.hid hq0
  clear hp0 hd0 hq0 h0
  go_enter Try.func56, Try.ntmps56
  go_wp2_with fail
  generalize hW0 : World.alloc _ _ = W0
  have hsize : W0.heap.size = w.heap.size + 2 := by rw [← hW0]; simp
  have hB : Hid (Below w.heap.size w W0) := by
    rw [← hW0]
    exact ((Below.refl _ _).alloc (by (try simp only [World.size_alloc]); omega) _).alloc (by (try simp only [World.size_alloc]); omega) _
  have hc00 : ∀ W, Hid (Below (w.heap.size + 1) W0 W) → W.cell? ⟨w.heap.size, 0, none⟩ = some (Value.bool xa0) := fun W h => (h.out.cell (p := ⟨_, _, _⟩) (by simp)).trans (by rw [← hW0]; (repeat rw [cell_old (by simp only [World.size_alloc]; omega)]); rw [cell_new (by (try simp only [World.size_alloc]))]; rfl)
  have hc01 : ∀ W, Hid (Below (w.heap.size + 1) W0 W) → W.cell? ⟨w.heap.size, 1, none⟩ = some (Value.slice aa0 na0 ca0) := fun W h => (h.out.cell (p := ⟨_, _, _⟩) (by simp)).trans (by rw [← hW0]; (repeat rw [cell_old (by simp only [World.size_alloc]; omega)]); rw [cell_new (by (try simp only [World.size_alloc]))]; rfl)
  have hc02 : ∀ W, Hid (Below (w.heap.size + 1) W0 W) → W.cell? ⟨w.heap.size, 2, none⟩ = some (Value.bool xb0) := fun W h => (h.out.cell (p := ⟨_, _, _⟩) (by simp)).trans (by rw [← hW0]; (repeat rw [cell_old (by simp only [World.size_alloc]; omega)]); rw [cell_new (by (try simp only [World.size_alloc]))]; rfl)
  have hc03 : ∀ W, Hid (Below (w.heap.size + 1) W0 W) → W.cell? ⟨w.heap.size, 3, none⟩ = some (Value.slice ab0 nb0 cb0) := fun W h => (h.out.cell (p := ⟨_, _, _⟩) (by simp)).trans (by rw [← hW0]; (repeat rw [cell_old (by simp only [World.size_alloc]; omega)]); rw [cell_new (by (try simp only [World.size_alloc]))]; rfl)
  have hr : Slot W0 (w.heap.size + 1) #[.bool false, .slice none 0 0, .bool false, .slice none 0 0] := by rw [← hW0]; exact ⟨_, by (repeat rw [heap_old (by simp only [World.size_alloc]; omega)]); rw [heap_new (by (try simp only [World.size_alloc]))]⟩
  clear hW0
  have hk := Lib.hid (Below.refl (w.heap.size + 1) W0)
  go_wp2_with fail
  with_reducible refine (over_c (HP0.out.below hB.out) (HD0.out.below hB.out) ?_ ?_).mono ?_
  · omega
  · omega
  rintro e w9 ⟨v9, rfl, hb, h9⟩
  have hk := kstep hk hb (by omega)
  have hr := hr.below hb
  have HF : Hid (RatC w9 v9 q0) := by rw [HQ0.out]; exact h9
  clear hb h9
  obtain ⟨y0, y1, y2, y3, y4, y5, y6, y7, rfl⟩ := HF.out.agg
  obtain ⟨t0, t1, t2, t3, t4, t5, t6, t7, r0, r1, r2, r3⟩ := hr.four
  have HB := Lib.hid (now hB (kset4 hk (.bool y0) (.slice y1 y2 y3) (.bool y4) (.slice y5 y6 y7)) (by omega))
  clear hc00 hc01 hc02 hc03
  go_wp2
  exact bodyPost_ret (v := .agg #[.bool y0, .slice y1 y2 y3, .bool y4, .slice y5 y6 y7]) (by simp [results, Try.results56, go_sem, r0, r1, r2, r3]) rfl
    (.mk rfl HB.out (RatC.far (w' := put4 _ _ (.bool y0) (.slice y1 y2 y3) (.bool y4) (.slice y5 y6 y7)) HF.out hr (noDigRat _ _ _ _ _ _ _ _) far_put4))

set_option maxHeartbeats 4000000 in
theorem rof_c (x : Int) (w : World) (h0 : -9223372036854775808 ≤ x) (h1 : x ≤ 9223372036854775807) : Calls Try.prog 44 #[.int .i64 x] w (Ret w (RatP (x : Rat))) := by
  have hr : Slot (w.alloc (.cells #[.bool false, .slice none 0 0, .bool false, .slice none 0 0] 37)) w.heap.size #[.bool false, .slice none 0 0, .bool false, .slice none 0 0] := Slot.new _ _ _
  have HX := Lib.hid (And.intro h0 h1)
  clear h0 h1
  go_enter Try.func44, Try.ntmps44
  go_wp2_with fail
  with_reducible refine (iof_c x _ HX.out.1 HX.out.2).mono ?_
  rintro e w1 ⟨v1, rfl, hb, h9⟩
  have hr := hr.below hb
  have HB := Lib.hid ((below_new _).trans (hb.mono (by simp)) : Below w.heap.size w w1)
  have H1 := Lib.hid (show IntC w1 v1 x from h9)
  clear hb h9
  go_wp2_with fail
  with_reducible refine (iof_c 1 _ (by decide) (by decide)).mono ?_
  rintro e w2 ⟨v2, rfl, hb, h9⟩
  have hr := hr.below hb
  have H1 := Lib.hid (H1.out.below hb)
  have HB := Lib.hid (below_trans HB.out hb)
  have H2 := Lib.hid (show IntC w2 v2 1 from h9)
  clear hb h9
  obtain ⟨y1, y2, y3, rfl⟩ := H1.out.agg
  obtain ⟨y5, y6, y7, rfl⟩ := H2.out.agg
  rw [show decide ((1 : Int) < 0) = false from by decide] at H2
  rw [show decide ((1 : Int) < 0) = false from by decide]
  have HF : Hid (RatC w2 (.agg #[.bool (decide (x < 0)), .slice y1 y2 y3, .bool false, .slice y5 y6 y7]) (x : Rat)) := ⟨_, _, _, _, rfl, by rw [Rat.num_intCast]; exact H1.out, by rw [Rat.den_intCast]; exact H2.out⟩
  obtain ⟨t0, t1, t2, t3, t4, t5, t6, t7, r0, r1, r2, r3⟩ := hr.four
  have HB := Lib.hid (below_put4 HB.out (Nat.le_refl _) (.bool (decide (x < 0))) (.slice y1 y2 y3) (.bool false) (.slice y5 y6 y7))
  clear H1 H2
  generalize hg : decide (x < 0) = y0 at *
  have HGG := Lib.hid hg
  clear hg
  go_wp2
  exact bodyPost_ret (v := .agg #[.bool y0, .slice y1 y2 y3, .bool false, .slice y5 y6 y7]) (by simp [results, Try.results44, go_sem, r0, r1, r2, r3]) rfl
    (.mk rfl HB.out (RatC.far (w' := put4 _ _ (.bool y0) (.slice y1 y2 y3) (.bool false) (.slice y5 y6 y7)) HF.out hr (noDigRat _ _ _ _ _ _ _ _) far_put4))

set_option maxHeartbeats 4000000 in
theorem rsign_c {w : World} {u0 : Value} {q0 : Rat} {K0 : Nat} (h0 : RatV w u0 K0 q0) (hk0 : K0 ≤ 2199023255552) : Calls Try.prog 45 #[u0] w (Ret w (SignR q0)) := by
  have HV0 := Lib.hid h0
  obtain ⟨xa0, aa0, na0, ca0, xb0, ab0, nb0, cb0, p0, d0, rfl, hp0, hd0, hq0⟩ := h0.open
  have HP0 := Lib.hid hp0
  have HD0 := Lib.hid hd0
  have HQ0 := Lib.hid hq0
  clear hp0 hd0 hq0 h0
  have HS := Lib.hid (sgn_mul_range p0 d0)
  have hw : IntKind.i64.wrap (sgn p0 * sgn d0) = sgn p0 * sgn d0 := IntWalk.i64_in _ (by have := HS.out.1; have := HS.out.2.1; omega)
  go_enter Try.func45, Try.ntmps45
  go_wp2_with fail
  generalize hW0 : World.alloc _ _ = W0
  have hsize : W0.heap.size = w.heap.size + 1 := by rw [← hW0]; simp
  have hB : Hid (Below w.heap.size w W0) := by
    rw [← hW0]
    exact (Below.refl _ _).alloc (by (try simp only [World.size_alloc]); omega) _
  have hc00 : ∀ W, Hid (Below (w.heap.size + 1) W0 W) → W.cell? ⟨w.heap.size, 0, none⟩ = some (Value.bool xa0) := fun W h => (h.out.cell (p := ⟨_, _, _⟩) (by simp)).trans (by rw [← hW0]; (repeat rw [cell_old (by simp only [World.size_alloc]; omega)]); rw [cell_new (by (try simp only [World.size_alloc]))]; rfl)
  have hc01 : ∀ W, Hid (Below (w.heap.size + 1) W0 W) → W.cell? ⟨w.heap.size, 1, none⟩ = some (Value.slice aa0 na0 ca0) := fun W h => (h.out.cell (p := ⟨_, _, _⟩) (by simp)).trans (by rw [← hW0]; (repeat rw [cell_old (by simp only [World.size_alloc]; omega)]); rw [cell_new (by (try simp only [World.size_alloc]))]; rfl)
  have hc02 : ∀ W, Hid (Below (w.heap.size + 1) W0 W) → W.cell? ⟨w.heap.size, 2, none⟩ = some (Value.bool xb0) := fun W h => (h.out.cell (p := ⟨_, _, _⟩) (by simp)).trans (by rw [← hW0]; (repeat rw [cell_old (by simp only [World.size_alloc]; omega)]); rw [cell_new (by (try simp only [World.size_alloc]))]; rfl)
  have hc03 : ∀ W, Hid (Below (w.heap.size + 1) W0 W) → W.cell? ⟨w.heap.size, 3, none⟩ = some (Value.slice ab0 nb0 cb0) := fun W h => (h.out.cell (p := ⟨_, _, _⟩) (by simp)).trans (by rw [← hW0]; (repeat rw [cell_old (by simp only [World.size_alloc]; omega)]); rw [cell_new (by (try simp only [World.size_alloc]))]; rfl)
  clear hW0
  have hs := Lib.hid ((Below.refl (w.heap.size + 1) W0).drew)
  go_region_held3 (fun W => Hid (Below (w.heap.size + 1) W0 W)) (first | assumption | (exact kstep (by assumption) hb (by omega)))
    (first
      | (go_at_call 75; (with_reducible refine (isign_c (HP0.out.below (now hB (by assumption) (by omega))) ?_).mono ?_); (omega); rintro e w1 ⟨v1, rfl, hb, rfl⟩)
      | (go_at_call 75; (with_reducible refine (isign_c (HD0.out.below (now hB (by assumption) (by omega))) ?_).mono ?_); (omega); rintro e w2 ⟨v2, rfl, hb, rfl⟩)
    )
  have HB := Lib.hid (now hB (by assumption) (by omega) : Below w.heap.size w w2)
  clear hs hc00 hc01 hc02 hc03 hw
  go_wp2
  go_ret
  exact .mk rfl HB.out ⟨_, rfl, HS.out.1, HS.out.2.1, by rw [HQ0.out]; exact HS.out.2.2⟩

end Hp
