/- What the program's fractions do. -/
import Derived.Test.YtalcdpjpapojeaaGreatDoorOldD
set_option linter.all false
namespace Hp
open Go Go.RowKit Go.Proofs
def SignR (q : Rat) (_ : World) (u : Value) : Prop := ∃ s : Int, u = .int .i64 s ∧ -1 ≤ s ∧ s ≤ 1 ∧ (s = 0 ↔ q = 0)
theorem Zem (x : Int) : -1 ≤ sgn x ∧ sgn x ≤ 1 ∧ (sgn x = 0 ↔ x = 0) := by unfold sgn; split; (constructor; omega; constructor; omega; omega); split <;> (constructor; omega; constructor; omega; omega)
theorem Zew (x y : Int) : -1 ≤ sgn x * sgn y ∧ sgn x * sgn y ≤ 1 ∧ (sgn x * sgn y = 0 ↔ Rat.divInt x y = 0) := by
 obtain ⟨a1, a2, a3⟩ := Zem x
 obtain ⟨b1, b2, b3⟩ := Zem y
 have hx : sgn x = -1 ∨ sgn x = 0 ∨ sgn x = 1 := oM
 have hy : sgn y = -1 ∨ sgn y = 0 ∨ sgn y = 1 := oM
 have hz : sgn x * sgn y = 0 ↔ (x = 0 ∨ y = 0) := by rw [Int.mul_eq_zero, a3, b3]
 have hq : Rat.divInt x y = 0 ↔ (x = 0 ∨ y = 0) := by
  constructor
  ·intro h
   by_cases h1 : x = 0
   ·exact .inl h1
   ·by_cases h2 : y = 0
    ·exact .inr h2
    ·exact absurd h (divInt_num_ne h1 h2)
  ·rintro (rfl | rfl)
   ·exact Rat.zero_divInt _
   ·exact Rat.divInt_zero _
 refine ⟨?_, ?_, hz.trans hq.symm⟩ <;> rcases hx with h | h | h <;> rcases hy with h' | h' | h' <;> rw [h, h'] <;> decide
set_option maxHeartbeats 4000000 in
theorem rnormal_c {w : World} {u0 : Value} {q0 : Rat} {K0 : Nat} (h0 : RatV w u0 K0 q0) (hk0 : K0 ≤ 2199023255552) : Calls Tryz.prog 55 #[u0] w (Ret w (RatP q0)) := by
 have HV0 := Lib.hid h0
 obtain ⟨xa0, aa0, na0, ca0, xb0, ab0, nb0, cb0, p0, d0, rfl, hp0, hd0, hq0⟩ := h0.open
 have HP0 := Lib.hid hp0
 have HD0 := Lib.hid hd0
 have HQ0 := Lib.hid hq0
 clear hp0 hd0 hq0 h0
 go_enter Tryz.func55, Tryz.ntmps55
 go_wp2_with fail
 generalize hW0 : World.alloc _ _ = W0
 have hsize : W0.heap.size = w.heap.size + 2 := by rw [← hW0]; simp
 have hB : Hid (Below w.heap.size w W0) := by
  rw [← hW0]
  exact ((Below.refl _ _).alloc (by (try simp only [World.size_alloc]); omega) _).alloc (by (try simp only [World.size_alloc]); omega) _
 have hc00 : ∀ W, Hid (Below (w.heap.size + 1) W0 W) → W.cell? ⟨w.heap.size, 0, none⟩ = some (Value.bool xa0) := hcW hW0
 have hc01 : ∀ W, Hid (Below (w.heap.size + 1) W0 W) → W.cell? ⟨w.heap.size, 1, none⟩ = some (Value.slice aa0 na0 ca0) := hcW hW0
 have hc02 : ∀ W, Hid (Below (w.heap.size + 1) W0 W) → W.cell? ⟨w.heap.size, 2, none⟩ = some (Value.bool xb0) := hcW hW0
 have hc03 : ∀ W, Hid (Below (w.heap.size + 1) W0 W) → W.cell? ⟨w.heap.size, 3, none⟩ = some (Value.slice ab0 nb0 cb0) := hcW hW0
 have hr : Slot W0 (w.heap.size + 1) #[.bool false, .slice none 0 0, .bool false, .slice none 0 0] := by rw [← hW0]; exact ⟨_, by (repeat rw [Zbt (by simp only [World.size_alloc]; omega)]); rw [Zbu (by (try simp only [World.size_alloc]))]⟩
 clear hW0
 have hk := Lib.hid (Below.refl (w.heap.size + 1) W0)
 go_wp2_with fail
 with_reducible refine (over_c (HP0.out.below hB.out) (HD0.out.below hB.out) ?_ ?_).mono ?_
 ·omega
 ·omega
 rintro e w9 ⟨v9, rfl, hb, h9⟩
 have hk := Zbr hk hb oM
 have hr := hr.below hb
 have HF : Hid (RatC w9 v9 q0) := by rw [HQ0.out]; exact h9
 clear hb h9
 obtain ⟨y0, y1, y2, y3, y4, y5, y6, y7, rfl⟩ := HF.out.agg
 obtain ⟨t0, t1, t2, t3, t4, t5, t6, t7, r0, r1, r2, r3⟩ := hr.four
 have HB := Lib.hid (now hB (kset4 hk (.bool y0) (.slice y1 y2 y3) (.bool y4) (.slice y5 y6 y7)) oM)
 clear hc00 hc01 hc02 hc03
 go_wp2
 exact bodyPost_ret (v := .agg #[.bool y0, .slice y1 y2 y3, .bool y4, .slice y5 y6 y7]) (by simp [results, Tryz.results55, go_sem, r0, r1, r2, r3]) rfl
  (.mk rfl HB.out (RatC.far (w' := put4 _ _ (.bool y0) (.slice y1 y2 y3) (.bool y4) (.slice y5 y6 y7)) HF.out hr (Zb0 _ _ _ _ _ _ _ _) Zbv))
set_option maxHeartbeats 4000000 in
theorem rof_c (x : Int) (w : World) (h0 : -9223372036854775808 ≤ x) (h1 : x ≤ 9223372036854775807) : Calls Tryz.prog 48 #[.int .i64 x] w (Ret w (RatP (x : Rat))) := by
 have hr : Slot (w.alloc (.cells #[.bool false, .slice none 0 0, .bool false, .slice none 0 0] 39)) w.heap.size #[.bool false, .slice none 0 0, .bool false, .slice none 0 0] := Slot.new _ _ _
 have HX := Lib.hid (And.intro h0 h1)
 clear h0 h1
 go_enter Tryz.func48, Tryz.ntmps48
 go_wp2_with fail
 with_reducible refine (iof_c x _ HX.out.1 HX.out.2).mono ?_
 rintro e w1 ⟨v1, rfl, hb, h9⟩
 have hr := hr.below hb
 have HB := Lib.hid ((Zai _).trans (hb.mono (by simp)) : Below w.heap.size w w1)
 have H1 := Lib.hid (show IntC w1 v1 x from h9)
 clear hb h9
 go_wp2_with fail
 with_reducible refine (iof_c 1 _ dC dC).mono ?_
 rintro e w2 ⟨v2, rfl, hb, h9⟩
 have hr := hr.below hb
 have H1 := Lib.hid (H1.out.below hb)
 have HB := Lib.hid (Zak HB.out hb)
 have H2 := Lib.hid (show IntC w2 v2 1 from h9)
 clear hb h9
 obtain ⟨y1, y2, y3, rfl⟩ := H1.out.agg
 obtain ⟨y5, y6, y7, rfl⟩ := H2.out.agg
 rw [show decide ((1 : Int) < 0) = false from dC] at H2
 rw [show decide ((1 : Int) < 0) = false from dC]
 have HF : Hid (RatC w2 (.agg #[.bool (decide (x < 0)), .slice y1 y2 y3, .bool false, .slice y5 y6 y7]) (x : Rat)) := ⟨_, _, _, _, rfl, by rw [Rat.num_intCast]; exact H1.out, by rw [Rat.den_intCast]; exact H2.out⟩
 obtain ⟨t0, t1, t2, t3, t4, t5, t6, t7, r0, r1, r2, r3⟩ := hr.four
 have HB := Lib.hid (Zcp HB.out (Nat.le_refl _) (.bool (decide (x < 0))) (.slice y1 y2 y3) (.bool false) (.slice y5 y6 y7))
 clear H1 H2
 generalize hg : decide (x < 0) = y0 at *
 have HGG := Lib.hid hg
 clear hg
 go_wp2
 exact bodyPost_ret (v := .agg #[.bool y0, .slice y1 y2 y3, .bool false, .slice y5 y6 y7]) (by simp [results, Tryz.results48, go_sem, r0, r1, r2, r3]) rfl
  (.mk rfl HB.out (RatC.far (w' := put4 _ _ (.bool y0) (.slice y1 y2 y3) (.bool false) (.slice y5 y6 y7)) HF.out hr (Zb0 _ _ _ _ _ _ _ _) Zbv))
set_option maxHeartbeats 4000000 in
theorem rsign_c {w : World} {u0 : Value} {q0 : Rat} {K0 : Nat} (h0 : RatV w u0 K0 q0) (hk0 : K0 ≤ 2199023255552) : Calls Tryz.prog 90 #[u0] w (Ret w (SignR q0)) := by
 have HV0 := Lib.hid h0
 obtain ⟨xa0, aa0, na0, ca0, xb0, ab0, nb0, cb0, p0, d0, rfl, hp0, hd0, hq0⟩ := h0.open
 have HP0 := Lib.hid hp0
 have HD0 := Lib.hid hd0
 have HQ0 := Lib.hid hq0
 clear hp0 hd0 hq0 h0
 have HS := Lib.hid (Zew p0 d0)
 have hw : IntKind.i64.wrap (sgn p0 * sgn d0) = sgn p0 * sgn d0 := IntWalk.i64_in _ (by have := HS.out.1; have := HS.out.2.1; omega)
 go_enter Tryz.func90, Tryz.ntmps90
 go_wp2_with fail
 generalize hW0 : World.alloc _ _ = W0
 have hsize : W0.heap.size = w.heap.size + 1 := by rw [← hW0]; simp
 have hB : Hid (Below w.heap.size w W0) := by
  rw [← hW0]
  exact (Below.refl _ _).alloc (by (try simp only [World.size_alloc]); omega) _
 have hc00 : ∀ W, Hid (Below (w.heap.size + 1) W0 W) → W.cell? ⟨w.heap.size, 0, none⟩ = some (Value.bool xa0) := hcW hW0
 have hc01 : ∀ W, Hid (Below (w.heap.size + 1) W0 W) → W.cell? ⟨w.heap.size, 1, none⟩ = some (Value.slice aa0 na0 ca0) := hcW hW0
 have hc02 : ∀ W, Hid (Below (w.heap.size + 1) W0 W) → W.cell? ⟨w.heap.size, 2, none⟩ = some (Value.bool xb0) := hcW hW0
 have hc03 : ∀ W, Hid (Below (w.heap.size + 1) W0 W) → W.cell? ⟨w.heap.size, 3, none⟩ = some (Value.slice ab0 nb0 cb0) := hcW hW0
 clear hW0
 have hs := Lib.hid ((Below.refl (w.heap.size + 1) W0).drew)
 go_region_held3 (fun W => Hid (Below (w.heap.size + 1) W0 W)) (first | assumption | (exact Zbr (by assumption) hb oM))
  (first
   | (go_at_call 125; (with_reducible refine (isign_c (HP0.out.below (now hB (by assumption) oM)) ?_).mono ?_); (omega); rintro e w1 ⟨v1, rfl, hb, rfl⟩)
   | (go_at_call 125; (with_reducible refine (isign_c (HD0.out.below (now hB (by assumption) oM)) ?_).mono ?_); (omega); rintro e w2 ⟨v2, rfl, hb, rfl⟩)
  )
 have HB := Lib.hid (now hB (by assumption) oM : Below w.heap.size w w2)
 clear hs hc00 hc01 hc02 hc03 hw
 go_wp2
 go_ret
 exact .mk rfl HB.out ⟨_, rfl, HS.out.1, HS.out.2.1, by rw [HQ0.out]; exact HS.out.2.2⟩
def QuoR (q : Rat) (w' : World) (u : Value) : Prop := ∃ r, u = .tuple #[r, .int .i64 0] ∧ RatC w' r q
theorem gstep {r : Nat} {W0 W W1 : World} (h : Hid (W0.grownBy W (some r))) (hb : Below W.heap.size W W1) : Hid (W0.grownBy W1 (some r)) :=
 ⟨hb.os.trans h.out.os, hb.tape.trans h.out.tape, hb.output.trans h.out.output, Nat.le_trans h.out.size hb.size, fun k hk hne => (hb.block k (Nat.lt_of_lt_of_le hk h.out.size)).trans (h.out.block k hk hne)⟩
theorem gset4 {r : Nat} {W0 W : World} (h : Hid (W0.grownBy W (some r))) (u0 u1 u2 u3 : Value) : Hid (W0.grownBy ((((W.setCell ⟨r, 0, none⟩ u0).setCell ⟨r, 1, none⟩ u1).setCell ⟨r, 2, none⟩ u2).setCell ⟨r, 3, none⟩ u3) (some r)) :=
 Zcz (Zcz (Zcz (Zcz h.out)))
theorem gnow {r : Nat} {w W0 W : World} (hB : Hid (Below w.heap.size w W0)) (h : Hid (W0.grownBy W (some r))) (hr : w.heap.size ≤ r) : Below w.heap.size w W :=
 hB.out.grown h.out hB.out.size (fun k e => by simp at e; omega)
theorem sum_big {a b c d : Int} {k l : Nat} (ha : a.natAbs < pw k) (hb : b.natAbs < pw l) (hc : c.natAbs < pw l) (hd : d.natAbs < pw k) (hk : k ≤ 2199023255552) (hl : l ≤ 2199023255552) : (a * b + c * d).natAbs < BIG :=
 big_of (add_lt_pw (Zdd ha hb) (by rw [Nat.add_comm k l]; exact Zdd hc hd)) oM
theorem kalloc {r : Nat} {W0 W : World} (h : Hid (Below r W0 W)) (hr : r ≤ W0.heap.size) (o : Obj) : Hid (Below r W0 (W.alloc o)) := h.out.alloc (Nat.le_trans hr h.out.size) o
set_option maxHeartbeats 4000000 in
theorem rquo_c {w : World} {u0 : Value} {q0 : Rat} {K0 : Nat} (h0 : RatV w u0 K0 q0) (hk0 : K0 ≤ 2199023255552) {u1 : Value} {q1 : Rat} {K1 : Nat} (h1 : RatV w u1 K1 q1) (hk1 : K1 ≤ 2199023255552) (hnz : q1 ≠ 0) : Calls Tryz.prog 85 #[u0, u1] w (Ret w (QuoR (q0 / q1))) := by
 have HV0 := Lib.hid h0
 obtain ⟨xa0, aa0, na0, ca0, xb0, ab0, nb0, cb0, p0, d0, rfl, hp0, hd0, hq0⟩ := h0.open
 have HP0 := Lib.hid hp0
 have HD0 := Lib.hid hd0
 have HQ0 := Lib.hid hq0
 clear hp0 hd0 hq0 h0
 have HV1 := Lib.hid h1
 obtain ⟨xa1, aa1, na1, ca1, xb1, ab1, nb1, cb1, p1, d1, rfl, hp1, hd1, hq1⟩ := h1.open
 have HP1 := Lib.hid hp1
 have HD1 := Lib.hid hd1
 have HQ1 := Lib.hid hq1
 clear hp1 hd1 hq1 h1
 have HNZ := Lib.hid hnz
 clear hnz
 go_enter Tryz.func85, Tryz.ntmps85
 go_wp2_with fail
 generalize hW0 : World.alloc _ _ = W0
 have hsize : W0.heap.size = w.heap.size + 3 := by rw [← hW0]; simp
 have hB : Hid (Below w.heap.size w W0) := by
  rw [← hW0]
  exact (((Below.refl _ _).alloc (by (try simp only [World.size_alloc]); omega) _).alloc (by (try simp only [World.size_alloc]); omega) _).alloc (by (try simp only [World.size_alloc]); omega) _
 have hc00 : ∀ W, Hid (Below (w.heap.size + 2) W0 W) → W.cell? ⟨w.heap.size, 0, none⟩ = some (Value.bool xa0) := hcW hW0
 have hc01 : ∀ W, Hid (Below (w.heap.size + 2) W0 W) → W.cell? ⟨w.heap.size, 1, none⟩ = some (Value.slice aa0 na0 ca0) := hcW hW0
 have hc02 : ∀ W, Hid (Below (w.heap.size + 2) W0 W) → W.cell? ⟨w.heap.size, 2, none⟩ = some (Value.bool xb0) := hcW hW0
 have hc03 : ∀ W, Hid (Below (w.heap.size + 2) W0 W) → W.cell? ⟨w.heap.size, 3, none⟩ = some (Value.slice ab0 nb0 cb0) := hcW hW0
 have hc10 : ∀ W, Hid (Below (w.heap.size + 2) W0 W) → W.cell? ⟨(w.heap.size + 1), 0, none⟩ = some (Value.bool xa1) := hcW hW0
 have hc11 : ∀ W, Hid (Below (w.heap.size + 2) W0 W) → W.cell? ⟨(w.heap.size + 1), 1, none⟩ = some (Value.slice aa1 na1 ca1) := hcW hW0
 have hc12 : ∀ W, Hid (Below (w.heap.size + 2) W0 W) → W.cell? ⟨(w.heap.size + 1), 2, none⟩ = some (Value.bool xb1) := hcW hW0
 have hc13 : ∀ W, Hid (Below (w.heap.size + 2) W0 W) → W.cell? ⟨(w.heap.size + 1), 3, none⟩ = some (Value.slice ab1 nb1 cb1) := hcW hW0
 have hr : Slot W0 (w.heap.size + 2) #[.bool false, .slice none 0 0, .bool false, .slice none 0 0] := by rw [← hW0]; exact ⟨_, by (repeat rw [Zbt (by simp only [World.size_alloc]; omega)]); rw [Zbu (by (try simp only [World.size_alloc]))]⟩
 clear hW0
 have hk := Lib.hid (Below.refl (w.heap.size + 2) W0)
 go_wp2_with fail
 with_reducible refine (rsign_c (HV1.out.below hB.out) hk1).mono ?_
 rintro e w1 ⟨v1, rfl, hb, s, rfl, e1, e2, e3⟩
 have hk := Zbr hk hb oM
 have hr := hr.below hb
 have hsz : (s == 0) = false := by
  have : ¬ s = 0 := fun h => HNZ.out (e3.1 h)
  simp [this]
 clear hb e1 e2 e3
 go_wp2_with fail
 have hr := hr.drew
 have hs := Zbr hk ((Below.refl w1.heap.size w1).drew) oM
 clear hk
 go_region_held3 (fun W => Hid (Below (w.heap.size + 2) W0 W)) (first | assumption | (exact kset4 (by assumption) _ _ _ _) | (exact Zbr (by assumption) hb oM))
  (first
   | (go_at_call 123; (with_reducible refine (mul_c (HP0.out.below (now hB (by assumption) oM)) (HD1.out.below (now hB (by assumption) oM)) ?_ ?_).mono ?_); (omega); (omega); rintro e w2 ⟨v2, rfl, hb, h9⟩; have hr := hr.below hb; have H1 := Lib.hid (show IntC w2 v2 (p0 * d1) from h9); clear h9)
   | (go_at_call 123; (with_reducible refine (mul_c (HD0.out.below (now hB (by assumption) oM)) (HP1.out.below (now hB (by assumption) oM)) ?_ ?_).mono ?_); (omega); (omega); rintro e w3 ⟨v3, rfl, hb, h9⟩; have hr := hr.below hb; have H1 := Lib.hid (H1.out.below hb); have H2 := Lib.hid (show IntC w3 v3 (d0 * p1) from h9); clear h9)
   | (go_at_call 94; (with_reducible refine (over_c (Zbs H1.out ?_) (Zbs H2.out ?_) ?_ ?_).mono ?_); (exact Zeg HP0.out.lt HD1.out.lt hk0 hk1); (exact Zeg HD0.out.lt HP1.out.lt hk0 hk1); (exact Nat.le_refl _); (exact Nat.le_refl _); rintro e w9 ⟨v9, rfl, hb, h9⟩; have hr := hr.below hb; have HF : Hid (RatC w9 v9 (q0 / q1)) := (by rw [HQ0.out, HQ1.out, Rat.div_def, Rat.inv_divInt, Rat.divInt_mul_divInt]; exact h9); clear h9; obtain ⟨y0, y1, y2, y3, y4, y5, y6, y7, rfl⟩ := HF.out.agg; obtain ⟨t0, t1, t2, t3, t4, t5, t6, t7, r0, r1, r2, r3⟩ := hr.four)
  )
 have HB := Lib.hid (now hB (by assumption) oM : Below w.heap.size w _)
 clear hs hc00 hc01 hc02 hc03 hc10 hc11 hc12 hc13
 go_wp2
 exact bodyPost_ret (v := .tuple #[.agg #[.bool y0, .slice y1 y2 y3, .bool y4, .slice y5 y6 y7], .int .i64 0]) (by simp [results, Tryz.results85, go_sem, r0, r1, r2, r3]) rfl
  (.mk rfl HB.out ⟨_, rfl, RatC.far (w' := put4 _ _ (.bool y0) (.slice y1 y2 y3) (.bool y4) (.slice y5 y6 y7)) HF.out hr (Zb0 _ _ _ _ _ _ _ _) Zbv⟩)
set_option maxHeartbeats 4000000 in
theorem radd_c {w : World} {u0 : Value} {q0 : Rat} {K0 : Nat} (h0 : RatV w u0 K0 q0) (hk0 : K0 ≤ 2199023255552) {u1 : Value} {q1 : Rat} {K1 : Nat} (h1 : RatV w u1 K1 q1) (hk1 : K1 ≤ 2199023255552) : Calls Tryz.prog 89 #[u0, u1] w (Ret w (RatP (q0 + q1))) := by
  have HV0 := Lib.hid h0
  obtain ⟨xa0, aa0, na0, ca0, xb0, ab0, nb0, cb0, p0, d0, rfl, hp0, hd0, hq0⟩ := h0.open
  have HP0 := Lib.hid hp0
  have HD0 := Lib.hid hd0
  have HQ0 := Lib.hid hq0
  clear hp0 hd0 hq0 h0
  have HV1 := Lib.hid h1
  obtain ⟨xa1, aa1, na1, ca1, xb1, ab1, nb1, cb1, p1, d1, rfl, hp1, hd1, hq1⟩ := h1.open
  have HP1 := Lib.hid hp1
  have HD1 := Lib.hid hd1
  have HQ1 := Lib.hid hq1
  clear hp1 hd1 hq1 h1
  go_enter Tryz.func89, Tryz.ntmps89
  go_wp2_with fail
  generalize hW0 : World.alloc _ _ = W0
  have hsize : W0.heap.size = w.heap.size + 3 := by rw [← hW0]; simp
  have hB : Hid (Below w.heap.size w W0) := by
    rw [← hW0]
    exact (((Below.refl _ _).alloc (by (try simp only [World.size_alloc]); omega) _).alloc (by (try simp only [World.size_alloc]); omega) _).alloc (by (try simp only [World.size_alloc]); omega) _
  have hc00 : ∀ W, Hid (Below (w.heap.size + 2) W0 W) → W.cell? ⟨w.heap.size, 0, none⟩ = some (Value.bool xa0) := hcW hW0
  have hc01 : ∀ W, Hid (Below (w.heap.size + 2) W0 W) → W.cell? ⟨w.heap.size, 1, none⟩ = some (Value.slice aa0 na0 ca0) := hcW hW0
  have hc02 : ∀ W, Hid (Below (w.heap.size + 2) W0 W) → W.cell? ⟨w.heap.size, 2, none⟩ = some (Value.bool xb0) := hcW hW0
  have hc03 : ∀ W, Hid (Below (w.heap.size + 2) W0 W) → W.cell? ⟨w.heap.size, 3, none⟩ = some (Value.slice ab0 nb0 cb0) := hcW hW0
  have hc10 : ∀ W, Hid (Below (w.heap.size + 2) W0 W) → W.cell? ⟨(w.heap.size + 1), 0, none⟩ = some (Value.bool xa1) := hcW hW0
  have hc11 : ∀ W, Hid (Below (w.heap.size + 2) W0 W) → W.cell? ⟨(w.heap.size + 1), 1, none⟩ = some (Value.slice aa1 na1 ca1) := hcW hW0
  have hc12 : ∀ W, Hid (Below (w.heap.size + 2) W0 W) → W.cell? ⟨(w.heap.size + 1), 2, none⟩ = some (Value.bool xb1) := hcW hW0
  have hc13 : ∀ W, Hid (Below (w.heap.size + 2) W0 W) → W.cell? ⟨(w.heap.size + 1), 3, none⟩ = some (Value.slice ab1 nb1 cb1) := hcW hW0
  have hr : Slot W0 (w.heap.size + 2) #[.bool false, .slice none 0 0, .bool false, .slice none 0 0] := by rw [← hW0]; exact ⟨_, by (repeat rw [Zbt (by simp only [World.size_alloc]; omega)]); rw [Zbu (by (try simp only [World.size_alloc]))]⟩
  clear hW0
  have hk := Lib.hid (Below.refl (w.heap.size + 2) W0)
  go_wp2_with fail
  with_reducible refine (isign_c (HD0.out.below hB.out) ?_).mono ?_
  · omega
  rintro e w1 ⟨v1, rfl, hb, rfl⟩
  have hk := Zbr hk hb oM
  have hr := hr.below hb
  clear hb
  by_cases hz0 : d0 = 0
  · have HZ : Hid (q0 + q1 = q1) := by
      show _ = _
      rw [HQ0.out, hz0, Rat.divInt_zero, Rat.zero_add]
    have hsb : (sgn d0 == 0) = true := by simp [(Zem d0).2.2.2 hz0]
    clear hz0
    generalize sgn d0 = sd at *
    go_wp2_with fail
    with_reducible refine (rnormal_c (HV1.out.below (now hB hk oM)) oM).mono ?_
    rintro e w9 ⟨v9, rfl, hb, h9⟩
    have hk := Zbr hk hb oM
    have hr := hr.below hb
    have HF : Hid (RatC w9 v9 (q0 + q1)) := by rw [HZ.out]; exact h9
    clear hb h9
    obtain ⟨y0, y1, y2, y3, y4, y5, y6, y7, rfl⟩ := HF.out.agg
    obtain ⟨t0, t1, t2, t3, t4, t5, t6, t7, r0, r1, r2, r3⟩ := hr.four
    have HB := Lib.hid (now hB (kset4 hk (.bool y0) (.slice y1 y2 y3) (.bool y4) (.slice y5 y6 y7)) oM)
    clear hc00 hc01 hc02 hc03 hc10 hc11 hc12 hc13
    go_wp2
    exact bodyPost_ret (v := .agg #[.bool y0, .slice y1 y2 y3, .bool y4, .slice y5 y6 y7]) (by simp [results, Tryz.results89, go_sem, r0, r1, r2, r3]) rfl
      (.mk rfl HB.out (RatC.far (w' := put4 _ _ (.bool y0) (.slice y1 y2 y3) (.bool y4) (.slice y5 y6 y7)) HF.out hr (Zb0 _ _ _ _ _ _ _ _) Zbv))
  have hsb : (sgn d0 == 0) = false := by
    have := mt (Zem d0).2.2.1 hz0
    simp [this]
  generalize sgn d0 = sd at *
  have HZ0 := Lib.hid hz0
  clear hz0
  go_wp2_with fail
  with_reducible refine (isign_c (HD1.out.below (now hB hk oM)) ?_).mono ?_
  · omega
  rintro e w2 ⟨v2, rfl, hb, rfl⟩
  have hk := Zbr hk hb oM
  have hr := hr.below hb
  clear hb
  by_cases hz1 : d1 = 0
  · have HZ : Hid (q0 + q1 = q0) := by
      show _ = _
      rw [HQ1.out, hz1, Rat.divInt_zero, Rat.add_zero]
    have hsb1 : (sgn d1 == 0) = true := by simp [(Zem d1).2.2.2 hz1]
    clear hz1
    generalize sgn d1 = sd1 at *
    go_wp2_with fail
    with_reducible refine (rnormal_c (HV0.out.below (now hB hk oM)) oM).mono ?_
    rintro e w9 ⟨v9, rfl, hb, h9⟩
    have hk := Zbr hk hb oM
    have hr := hr.below hb
    have HF : Hid (RatC w9 v9 (q0 + q1)) := by rw [HZ.out]; exact h9
    clear hb h9
    obtain ⟨y0, y1, y2, y3, y4, y5, y6, y7, rfl⟩ := HF.out.agg
    obtain ⟨t0, t1, t2, t3, t4, t5, t6, t7, r0, r1, r2, r3⟩ := hr.four
    have HB := Lib.hid (now hB (kset4 hk (.bool y0) (.slice y1 y2 y3) (.bool y4) (.slice y5 y6 y7)) oM)
    clear hc00 hc01 hc02 hc03 hc10 hc11 hc12 hc13
    go_wp2
    exact bodyPost_ret (v := .agg #[.bool y0, .slice y1 y2 y3, .bool y4, .slice y5 y6 y7]) (by simp [results, Tryz.results89, go_sem, r0, r1, r2, r3]) rfl
      (.mk rfl HB.out (RatC.far (w' := put4 _ _ (.bool y0) (.slice y1 y2 y3) (.bool y4) (.slice y5 y6 y7)) HF.out hr (Zb0 _ _ _ _ _ _ _ _) Zbv))
  have hsb1 : (sgn d1 == 0) = false := by
    have := mt (Zem d1).2.2.1 hz1
    simp [this]
  generalize sgn d1 = sd1 at *
  have HZ1 := Lib.hid hz1
  clear hz1
  go_wp2_with fail
  with_reducible refine (one_r (HD0.out.below (now hB hk oM)) ?_).mono ?_
  · omega
  rintro e w3 ⟨v3, rfl, hb, b0, rfl, hb0⟩
  have hk := Zbr hk hb oM
  have hr := hr.below hb
  have HB0 := Lib.hid hb0
  clear hb hb0
  obtain ⟨W3, rfl⟩ : ∃ W3 : World, W3 = w3 := ⟨_, rfl⟩
  cases b0 with
  | false =>
    go_upto_region 7 with fail
    go_cut [5] (fun s5 wx => ∃ (b : Nat) (x : Bool) (a : Option Addr) (n c : Nat), s5 = .pointer (some ⟨b, 0, none⟩) ∧ w.heap.size + 2 < b ∧ Za8 wx b (.bool x) (.slice a n c) ∧ Hid (IntC wx (.agg #[.bool x, .slice a n c]) (p0 * d1 + p1 * d0)) ∧ Slot wx (w.heap.size + 2) #[.bool false, .slice none 0 0, .bool false, .slice none 0 0] ∧ Hid (Below (w.heap.size + 2) W0 wx))
    case first =>
      have hl3 : w.heap.size + 2 < W3.heap.size := hr.lt
      have hr := hr.drew
      have hs := Zbr hk ((Below.refl W3.heap.size W3).drew) oM
      clear hk
      go_region_held3 (fun W => Hid (Below (w.heap.size + 2) W0 W)) (first | assumption | (exact Zbr (by assumption) hb oM) | (exact kalloc (by assumption) oM _) | (exact kset2' (by assumption) oM _ _))
        (first
          | (go_at_call 123; (with_reducible refine (mul_c (HP0.out.below (now hB (by assumption) oM)) (HD1.out.below (now hB (by assumption) oM)) ?_ ?_).mono ?_); (omega); (omega); rintro e w4 ⟨v4, rfl, hb, h9⟩; have hr : Slot w4 (w.heap.size + 2) #[.bool false, .slice none 0 0, .bool false, .slice none 0 0] := (by first | exact hr.below hb | exact (hr.alloc _).below hb); have hlw4 := hr.lt; (try (have hv5 := Za8.below (Za8.drew (Za8.new _ (.bool false) (.slice none 0 0) 37)) hb; obtain ⟨g0, g1, g2, g3, -, -⟩ := hv5.two)); (try (have hv5 := Za8.below (Za8.new _ (.bool false) (.slice none 0 0) 37) hb; obtain ⟨g0, g1, g2, g3, -, -⟩ := hv5.two)); (try (have hv5 := hv5.below hb; obtain ⟨g0, g1, g2, g3, -, -⟩ := hv5.two)); have H1 := Lib.hid (show IntC w4 v4 (p0 * d1) from h9); clear h9)
          | (go_at_call 123; (with_reducible refine (mul_c (HP1.out.below (now hB (by assumption) oM)) (HD0.out.below (now hB (by assumption) oM)) ?_ ?_).mono ?_); (omega); (omega); rintro e w5 ⟨v5, rfl, hb, h9⟩; have hr : Slot w5 (w.heap.size + 2) #[.bool false, .slice none 0 0, .bool false, .slice none 0 0] := (by first | exact hr.below hb | exact (hr.alloc _).below hb); have hlw5 := hr.lt; (try (have hv5 := Za8.below (Za8.drew (Za8.new _ (.bool false) (.slice none 0 0) 37)) hb; obtain ⟨g0, g1, g2, g3, -, -⟩ := hv5.two)); (try (have hv5 := Za8.below (Za8.new _ (.bool false) (.slice none 0 0) 37) hb; obtain ⟨g0, g1, g2, g3, -, -⟩ := hv5.two)); (try (have hv5 := hv5.below hb; obtain ⟨g0, g1, g2, g3, -, -⟩ := hv5.two)); have H1 := Lib.hid (IntC.below H1.out (by first | exact hb | exact Zak (Zai _) hb)); have H2 := Lib.hid (show IntC w5 v5 (p1 * d0) from h9); clear h9)
          | (go_at_call 127; (with_reducible refine (iadd_c (Zbs (IntC.below H1.out ?_) ?_) (Zbs (IntC.below H2.out ?_) ?_) ?_ ?_).mono ?_); (first | exact Below.refl _ _ | exact Zai _); (exact Zeg HP0.out.lt HD1.out.lt hk0 hk1); (first | exact Below.refl _ _ | exact Zai _); (exact Zeg HP1.out.lt HD0.out.lt hk1 hk0); (exact Nat.le_refl _); (exact Nat.le_refl _); rintro e w6 ⟨v6, rfl, hb, h9⟩; have hk6 := Zbr (r := w.heap.size + 2) (W0 := W0) (by assumption) hb oM; have hr : Slot w6 (w.heap.size + 2) #[.bool false, .slice none 0 0, .bool false, .slice none 0 0] := (by first | exact hr.below hb | exact (hr.alloc _).below hb); have hlw6 := hr.lt; (try (have hv5 := Za8.below (Za8.drew (Za8.new _ (.bool false) (.slice none 0 0) 37)) hb; obtain ⟨g0, g1, g2, g3, -, -⟩ := hv5.two)); (try (have hv5 := Za8.below (Za8.new _ (.bool false) (.slice none 0 0) 37) hb; obtain ⟨g0, g1, g2, g3, -, -⟩ := hv5.two)); (try (have hv5 := hv5.below hb; obtain ⟨g0, g1, g2, g3, -, -⟩ := hv5.two)); have H3 := Lib.hid (show IntC w6 v6 (p0 * d1 + p1 * d0) from h9); clear h9; obtain ⟨j1, j2, j3, rfl⟩ := H3.out.agg)
        )
      all_goals
        go_wp2_with fail
        go_meet
        case rel => first | exact ⟨_, _, j1, j2, j3, rfl, oM, Za8.new _ _ _ _, IntC.below (u := .agg #[.bool (decide (p0 * d1 + p1 * d0 < 0)), .slice j1 j2 j3]) H3.out (Zai _), hr.alloc _, by assumption⟩ | exact ⟨_, _, j1, j2, j3, rfl, oM, hv5.put _ _, IntC.far (u := .agg #[.bool (decide (p0 * d1 + p1 * d0 < 0)), .slice j1 j2 j3]) H3.out hv5 (Zay _ _ _ _) (Zas (i := 0) (j := 1)), hr.other (Zas _ oM), by assumption⟩
    case rest =>
      obtain ⟨bb, x, a, n, c, rfl, hlt, hv, HN, hr, HK⟩ := hcut
      have hx02 : ∀ W, Hid (wc.grownBy W (some (w.heap.size + 2))) → W.cell? ⟨w.heap.size, 2, none⟩ = some (Value.bool xb0) := fun W h => (World.cell?_of_block (w := wc) (h.out.block _ (lt_of_cell (hc02 wc HK)) (by simp))).trans (hc02 wc HK)
      have hx03 : ∀ W, Hid (wc.grownBy W (some (w.heap.size + 2))) → W.cell? ⟨w.heap.size, 3, none⟩ = some (Value.slice ab0 nb0 cb0) := fun W h => (World.cell?_of_block (w := wc) (h.out.block _ (lt_of_cell (hc03 wc HK)) (by simp))).trans (hc03 wc HK)
      have hx12 : ∀ W, Hid (wc.grownBy W (some (w.heap.size + 2))) → W.cell? ⟨(w.heap.size + 1), 2, none⟩ = some (Value.bool xb1) := fun W h => (World.cell?_of_block (w := wc) (h.out.block _ (lt_of_cell (hc12 wc HK)) (by simp))).trans (hc12 wc HK)
      have hx13 : ∀ W, Hid (wc.grownBy W (some (w.heap.size + 2))) → W.cell? ⟨(w.heap.size + 1), 3, none⟩ = some (Value.slice ab1 nb1 cb1) := fun W h => (World.cell?_of_block (w := wc) (h.out.block _ (lt_of_cell (hc13 wc HK)) (by simp))).trans (hc13 wc HK)
      have hx20 : ∀ W, Hid (wc.grownBy W (some (w.heap.size + 2))) → W.cell? ⟨bb, 0, none⟩ = some (.bool x) := fun W h => (World.cell?_of_block (w := wc) (h.out.block _ (lt_of_cell hv.two.c0) (by simp; omega))).trans hv.two.c0
      have hx21 : ∀ W, Hid (wc.grownBy W (some (w.heap.size + 2))) → W.cell? ⟨bb, 1, none⟩ = some (.slice a n c) := fun W h => (World.cell?_of_block (w := wc) (h.out.block _ (lt_of_cell hv.two.c0) (by simp; omega))).trans hv.two.c1
      have HBC := Lib.hid (now hB HK oM : Below w.heap.size w wc)
      have hr := hr.drew
      have hs : Hid (wc.grownBy wc.drew (some (w.heap.size + 2))) := ⟨rfl, rfl, rfl, Nat.le_refl _, fun _ _ _ => rfl⟩
      clear hk hc00 hc01 hc02 hc03 hc10 hc11 hc12 hc13
      go_wp2_with fail
      go_region_held3 (fun W => Hid (wc.grownBy W (some (w.heap.size + 2)))) (first | assumption | (exact gset4 (by assumption) _ _ _ _) | (exact gstep (by assumption) hb))
        (first
          | (go_at_call 123; (with_reducible refine (mul_c (HD0.out.below (gnow HBC (by assumption) oM)) (HD1.out.below (gnow HBC (by assumption) oM)) ?_ ?_).mono ?_); (omega); (omega); rintro e w8 ⟨v8, rfl, hb, h9⟩; have hr := hr.below hb; have H8 := Lib.hid (show IntC w8 v8 (d0 * d1) from h9); have HN := Lib.hid (IntC.below HN.out (Zak (Below.refl wc.heap.size wc).drew hb)); clear h9)
          | (go_at_call 94; (with_reducible refine (over_c (Zbs HN.out ?_) (Zbs H8.out ?_) ?_ ?_).mono ?_); (exact sum_big HP0.out.lt HD1.out.lt HP1.out.lt HD0.out.lt hk0 hk1); (exact Zeg HD0.out.lt HD1.out.lt hk0 hk1); (exact Nat.le_refl _); (exact Nat.le_refl _); rintro e w9 ⟨v9, rfl, hb, h9⟩; have hr := hr.below hb; have HF : Hid (RatC w9 v9 (q0 + q1)) := (by rw [HQ0.out, HQ1.out, Rat.divInt_add_divInt _ _ HZ0.out HZ1.out]; exact h9); clear h9; obtain ⟨y0, y1, y2, y3, y4, y5, y6, y7, rfl⟩ := HF.out.agg; obtain ⟨t0, t1, t2, t3, t4, t5, t6, t7, r0, r1, r2, r3⟩ := hr.four)
        )
      have HB := Lib.hid (gnow HBC (by assumption) oM : Below w.heap.size w _)
      clear hs hx02 hx03 hx12 hx13 hx20 hx21
      go_wp2
      exact bodyPost_ret (v := .agg #[.bool y0, .slice y1 y2 y3, .bool y4, .slice y5 y6 y7]) (by simp [results, Tryz.results89, go_sem, r0, r1, r2, r3]) rfl
        (.mk rfl HB.out (RatC.far (w' := put4 _ _ (.bool y0) (.slice y1 y2 y3) (.bool y4) (.slice y5 y6 y7)) HF.out hr (Zb0 _ _ _ _ _ _ _ _) Zbv))
  | true =>
    go_wp2_with fail
    with_reducible refine (one_r (HD1.out.below (now hB hk oM)) ?_).mono ?_
    · omega
    rintro e w3 ⟨v3, rfl, hb, b1, rfl, hb1⟩
    have hk := Zbr hk hb oM
    have hr := hr.below hb
    have HB1 := Lib.hid hb1
    clear hb hb1
    obtain ⟨W3, rfl⟩ : ∃ W3 : World, W3 = w3 := ⟨_, rfl⟩
    cases b1 with
    | false =>
      go_upto_region 7 with fail
      go_cut [5] (fun s5 wx => ∃ (b : Nat) (x : Bool) (a : Option Addr) (n c : Nat), s5 = .pointer (some ⟨b, 0, none⟩) ∧ w.heap.size + 2 < b ∧ Za8 wx b (.bool x) (.slice a n c) ∧ Hid (IntC wx (.agg #[.bool x, .slice a n c]) (p0 * d1 + p1 * d0)) ∧ Slot wx (w.heap.size + 2) #[.bool false, .slice none 0 0, .bool false, .slice none 0 0] ∧ Hid (Below (w.heap.size + 2) W0 wx))
      case first =>
        have hl3 : w.heap.size + 2 < W3.heap.size := hr.lt
        have hr := hr.drew
        have hs := Zbr hk ((Below.refl W3.heap.size W3).drew) oM
        clear hk
        go_region_held3 (fun W => Hid (Below (w.heap.size + 2) W0 W)) (first | assumption | (exact Zbr (by assumption) hb oM) | (exact kalloc (by assumption) oM _) | (exact kset2' (by assumption) oM _ _))
          (first
            | (go_at_call 123; (with_reducible refine (mul_c (HP0.out.below (now hB (by assumption) oM)) (HD1.out.below (now hB (by assumption) oM)) ?_ ?_).mono ?_); (omega); (omega); rintro e w4 ⟨v4, rfl, hb, h9⟩; have hr : Slot w4 (w.heap.size + 2) #[.bool false, .slice none 0 0, .bool false, .slice none 0 0] := (by first | exact hr.below hb | exact (hr.alloc _).below hb); have hlw4 := hr.lt; (try (have hv5 := Za8.below (Za8.drew (Za8.new _ (.bool false) (.slice none 0 0) 37)) hb; obtain ⟨g0, g1, g2, g3, -, -⟩ := hv5.two)); (try (have hv5 := Za8.below (Za8.new _ (.bool false) (.slice none 0 0) 37) hb; obtain ⟨g0, g1, g2, g3, -, -⟩ := hv5.two)); (try (have hv5 := hv5.below hb; obtain ⟨g0, g1, g2, g3, -, -⟩ := hv5.two)); have H1 := Lib.hid (show IntC w4 v4 (p0 * d1) from h9); clear h9)
            | (go_at_call 123; (with_reducible refine (mul_c (HP1.out.below (now hB (by assumption) oM)) (HD0.out.below (now hB (by assumption) oM)) ?_ ?_).mono ?_); (omega); (omega); rintro e w5 ⟨v5, rfl, hb, h9⟩; have hr : Slot w5 (w.heap.size + 2) #[.bool false, .slice none 0 0, .bool false, .slice none 0 0] := (by first | exact hr.below hb | exact (hr.alloc _).below hb); have hlw5 := hr.lt; (try (have hv5 := Za8.below (Za8.drew (Za8.new _ (.bool false) (.slice none 0 0) 37)) hb; obtain ⟨g0, g1, g2, g3, -, -⟩ := hv5.two)); (try (have hv5 := Za8.below (Za8.new _ (.bool false) (.slice none 0 0) 37) hb; obtain ⟨g0, g1, g2, g3, -, -⟩ := hv5.two)); (try (have hv5 := hv5.below hb; obtain ⟨g0, g1, g2, g3, -, -⟩ := hv5.two)); have H1 := Lib.hid (IntC.below H1.out (by first | exact hb | exact Zak (Zai _) hb)); have H2 := Lib.hid (show IntC w5 v5 (p1 * d0) from h9); clear h9)
            | (go_at_call 127; (with_reducible refine (iadd_c (Zbs (IntC.below H1.out ?_) ?_) (Zbs (IntC.below H2.out ?_) ?_) ?_ ?_).mono ?_); (first | exact Below.refl _ _ | exact Zai _); (exact Zeg HP0.out.lt HD1.out.lt hk0 hk1); (first | exact Below.refl _ _ | exact Zai _); (exact Zeg HP1.out.lt HD0.out.lt hk1 hk0); (exact Nat.le_refl _); (exact Nat.le_refl _); rintro e w6 ⟨v6, rfl, hb, h9⟩; have hk6 := Zbr (r := w.heap.size + 2) (W0 := W0) (by assumption) hb oM; have hr : Slot w6 (w.heap.size + 2) #[.bool false, .slice none 0 0, .bool false, .slice none 0 0] := (by first | exact hr.below hb | exact (hr.alloc _).below hb); have hlw6 := hr.lt; (try (have hv5 := Za8.below (Za8.drew (Za8.new _ (.bool false) (.slice none 0 0) 37)) hb; obtain ⟨g0, g1, g2, g3, -, -⟩ := hv5.two)); (try (have hv5 := Za8.below (Za8.new _ (.bool false) (.slice none 0 0) 37) hb; obtain ⟨g0, g1, g2, g3, -, -⟩ := hv5.two)); (try (have hv5 := hv5.below hb; obtain ⟨g0, g1, g2, g3, -, -⟩ := hv5.two)); have H3 := Lib.hid (show IntC w6 v6 (p0 * d1 + p1 * d0) from h9); clear h9; obtain ⟨j1, j2, j3, rfl⟩ := H3.out.agg)
          )
        all_goals
          go_wp2_with fail
          go_meet
          case rel => first | exact ⟨_, _, j1, j2, j3, rfl, oM, Za8.new _ _ _ _, IntC.below (u := .agg #[.bool (decide (p0 * d1 + p1 * d0 < 0)), .slice j1 j2 j3]) H3.out (Zai _), hr.alloc _, by assumption⟩ | exact ⟨_, _, j1, j2, j3, rfl, oM, hv5.put _ _, IntC.far (u := .agg #[.bool (decide (p0 * d1 + p1 * d0 < 0)), .slice j1 j2 j3]) H3.out hv5 (Zay _ _ _ _) (Zas (i := 0) (j := 1)), hr.other (Zas _ oM), by assumption⟩
      case rest =>
        obtain ⟨bb, x, a, n, c, rfl, hlt, hv, HN, hr, HK⟩ := hcut
        have hx02 : ∀ W, Hid (wc.grownBy W (some (w.heap.size + 2))) → W.cell? ⟨w.heap.size, 2, none⟩ = some (Value.bool xb0) := fun W h => (World.cell?_of_block (w := wc) (h.out.block _ (lt_of_cell (hc02 wc HK)) (by simp))).trans (hc02 wc HK)
        have hx03 : ∀ W, Hid (wc.grownBy W (some (w.heap.size + 2))) → W.cell? ⟨w.heap.size, 3, none⟩ = some (Value.slice ab0 nb0 cb0) := fun W h => (World.cell?_of_block (w := wc) (h.out.block _ (lt_of_cell (hc03 wc HK)) (by simp))).trans (hc03 wc HK)
        have hx12 : ∀ W, Hid (wc.grownBy W (some (w.heap.size + 2))) → W.cell? ⟨(w.heap.size + 1), 2, none⟩ = some (Value.bool xb1) := fun W h => (World.cell?_of_block (w := wc) (h.out.block _ (lt_of_cell (hc12 wc HK)) (by simp))).trans (hc12 wc HK)
        have hx13 : ∀ W, Hid (wc.grownBy W (some (w.heap.size + 2))) → W.cell? ⟨(w.heap.size + 1), 3, none⟩ = some (Value.slice ab1 nb1 cb1) := fun W h => (World.cell?_of_block (w := wc) (h.out.block _ (lt_of_cell (hc13 wc HK)) (by simp))).trans (hc13 wc HK)
        have hx20 : ∀ W, Hid (wc.grownBy W (some (w.heap.size + 2))) → W.cell? ⟨bb, 0, none⟩ = some (.bool x) := fun W h => (World.cell?_of_block (w := wc) (h.out.block _ (lt_of_cell hv.two.c0) (by simp; omega))).trans hv.two.c0
        have hx21 : ∀ W, Hid (wc.grownBy W (some (w.heap.size + 2))) → W.cell? ⟨bb, 1, none⟩ = some (.slice a n c) := fun W h => (World.cell?_of_block (w := wc) (h.out.block _ (lt_of_cell hv.two.c0) (by simp; omega))).trans hv.two.c1
        have HBC := Lib.hid (now hB HK oM : Below w.heap.size w wc)
        have hr := hr.drew
        have hs : Hid (wc.grownBy wc.drew (some (w.heap.size + 2))) := ⟨rfl, rfl, rfl, Nat.le_refl _, fun _ _ _ => rfl⟩
        clear hk hc00 hc01 hc02 hc03 hc10 hc11 hc12 hc13
        go_wp2_with fail
        go_region_held3 (fun W => Hid (wc.grownBy W (some (w.heap.size + 2)))) (first | assumption | (exact gset4 (by assumption) _ _ _ _) | (exact gstep (by assumption) hb))
          (first
            | (go_at_call 123; (with_reducible refine (mul_c (HD0.out.below (gnow HBC (by assumption) oM)) (HD1.out.below (gnow HBC (by assumption) oM)) ?_ ?_).mono ?_); (omega); (omega); rintro e w8 ⟨v8, rfl, hb, h9⟩; have hr := hr.below hb; have H8 := Lib.hid (show IntC w8 v8 (d0 * d1) from h9); have HN := Lib.hid (IntC.below HN.out (Zak (Below.refl wc.heap.size wc).drew hb)); clear h9)
            | (go_at_call 94; (with_reducible refine (over_c (Zbs HN.out ?_) (Zbs H8.out ?_) ?_ ?_).mono ?_); (exact sum_big HP0.out.lt HD1.out.lt HP1.out.lt HD0.out.lt hk0 hk1); (exact Zeg HD0.out.lt HD1.out.lt hk0 hk1); (exact Nat.le_refl _); (exact Nat.le_refl _); rintro e w9 ⟨v9, rfl, hb, h9⟩; have hr := hr.below hb; have HF : Hid (RatC w9 v9 (q0 + q1)) := (by rw [HQ0.out, HQ1.out, Rat.divInt_add_divInt _ _ HZ0.out HZ1.out]; exact h9); clear h9; obtain ⟨y0, y1, y2, y3, y4, y5, y6, y7, rfl⟩ := HF.out.agg; obtain ⟨t0, t1, t2, t3, t4, t5, t6, t7, r0, r1, r2, r3⟩ := hr.four)
          )
        have HB := Lib.hid (gnow HBC (by assumption) oM : Below w.heap.size w _)
        clear hs hx02 hx03 hx12 hx13 hx20 hx21
        go_wp2
        exact bodyPost_ret (v := .agg #[.bool y0, .slice y1 y2 y3, .bool y4, .slice y5 y6 y7]) (by simp [results, Tryz.results89, go_sem, r0, r1, r2, r3]) rfl
          (.mk rfl HB.out (RatC.far (w' := put4 _ _ (.bool y0) (.slice y1 y2 y3) (.bool y4) (.slice y5 y6 y7)) HF.out hr (Zb0 _ _ _ _ _ _ _ _) Zbv))
    | true =>
      have HQS : Hid ((q0 + q1).num = p0 + p1 ∧ ((q0 + q1).den : Int) = 1) := by
        have e : q0 + q1 = Rat.divInt (p0 + p1) 1 := by
          rw [HQ0.out, HQ1.out, HB0.out (by first | trivial | rfl), HB1.out (by first | trivial | rfl), Rat.divInt_add_divInt _ _ dC dC]
          simp
        rw [e]
        obtain ⟨e1, e2⟩ := Zcv (n := p0 + p1) (d := 1) dC
        have e3 : gcdZ (p0 + p1) 1 = 1 := by unfold gcdZ; simp
        rw [e3, Int.ediv_one] at e1 e2
        exact ⟨e1, e2⟩
      go_wp2_with fail
      with_reducible refine (iadd_c (HP0.out.below (now hB hk oM)) (HP1.out.below (now hB hk oM)) ?_ ?_).mono ?_
      · omega
      · omega
      rintro e w4 ⟨v4, rfl, hb, h9⟩
      have hk := Zbr hk hb oM
      have hr := hr.below hb
      have H1 := Lib.hid (show IntC w4 v4 (p0 + p1) from h9)
      clear hb h9
      go_wp2_with fail
      with_reducible refine (iof_c 1 _ dC dC).mono ?_
      rintro e w5 ⟨v5, rfl, hb, h9⟩
      have hk := Zbr hk hb oM
      have hr := hr.below hb
      have H1 := Lib.hid (H1.out.below hb)
      have H2 := Lib.hid (show IntC w5 v5 1 from h9)
      clear hb h9
      obtain ⟨y1, y2, y3, rfl⟩ := H1.out.agg
      obtain ⟨y5, y6, y7, rfl⟩ := H2.out.agg
      rw [show decide ((1 : Int) < 0) = false from dC] at H2
      rw [show decide ((1 : Int) < 0) = false from dC]
      have HF : Hid (RatC w5 (.agg #[.bool (decide (p0 + p1 < 0)), .slice y1 y2 y3, .bool false, .slice y5 y6 y7]) (q0 + q1)) := ⟨_, _, _, _, rfl, by rw [HQS.out.1]; exact H1.out, by rw [HQS.out.2]; exact H2.out⟩
      clear H1 H2
      generalize hg : decide (p0 + p1 < 0) = y0 at *
      have HGG := Lib.hid hg
      clear hg
      obtain ⟨t0, t1, t2, t3, t4, t5, t6, t7, r0, r1, r2, r3⟩ := hr.four
      have HB := Lib.hid (now hB (kset4 hk (.bool y0) (.slice y1 y2 y3) (.bool false) (.slice y5 y6 y7)) oM)
      clear hc00 hc01 hc02 hc03 hc10 hc11 hc12 hc13
      go_wp2
      exact bodyPost_ret (v := .agg #[.bool y0, .slice y1 y2 y3, .bool false, .slice y5 y6 y7]) (by simp [results, Tryz.results89, go_sem, r0, r1, r2, r3]) rfl
        (.mk rfl HB.out (RatC.far (w' := put4 _ _ (.bool y0) (.slice y1 y2 y3) (.bool false) (.slice y5 y6 y7)) HF.out hr (Zb0 _ _ _ _ _ _ _ _) Zbv))
theorem RatV.ht' {w : World} {u : Value} {k : Nat} {q : Rat} (h : RatV w u k q) : Ht q (k + 1) := by
 obtain ⟨p, d, ⟨a0, a1, b0, b1, _, h1, h2⟩, rfl⟩ := h
 exact Zeq (Int.lt_of_lt_of_le h1.lt (Zed _ _ oM)) (Int.lt_of_lt_of_le h2.lt (Zed _ _ oM)) oM
set_option maxHeartbeats 4000000 in
theorem rsub_c {w : World} {u0 : Value} {q0 : Rat} {K0 : Nat} (h0 : RatV w u0 K0 q0) (hk0 : K0 ≤ 2199023255552) {u1 : Value} {q1 : Rat} {K1 : Nat} (h1 : RatV w u1 K1 q1) (hk1 : K1 + 2 ≤ 2199023255552) : Calls Tryz.prog 102 #[u0, u1] w (Ret w (RatP (q0 - q1))) := by
 have HV0 := Lib.hid h0
 obtain ⟨xa0, aa0, na0, ca0, xb0, ab0, nb0, cb0, p0, d0, rfl, hp0, hd0, hq0⟩ := h0.open
 have HP0 := Lib.hid hp0
 have HD0 := Lib.hid hd0
 have HQ0 := Lib.hid hq0
 clear hp0 hd0 hq0 h0
 have HV1 := Lib.hid h1
 obtain ⟨xa1, aa1, na1, ca1, xb1, ab1, nb1, cb1, p1, d1, rfl, hp1, hd1, hq1⟩ := h1.open
 have HP1 := Lib.hid hp1
 have HD1 := Lib.hid hd1
 have HQ1 := Lib.hid hq1
 clear hp1 hd1 hq1 h1
 go_enter Tryz.func102, Tryz.ntmps102
 go_wp2_with fail
 generalize hW0 : World.alloc _ _ = W0
 have hsize : W0.heap.size = w.heap.size + 3 := by rw [← hW0]; simp
 have hB : Hid (Below w.heap.size w W0) := by
  rw [← hW0]
  exact (((Below.refl _ _).alloc (by (try simp only [World.size_alloc]); omega) _).alloc (by (try simp only [World.size_alloc]); omega) _).alloc (by (try simp only [World.size_alloc]); omega) _
 have hc00 : ∀ W, Hid (Below (w.heap.size + 2) W0 W) → W.cell? ⟨w.heap.size, 0, none⟩ = some (Value.bool xa0) := hcW hW0
 have hc01 : ∀ W, Hid (Below (w.heap.size + 2) W0 W) → W.cell? ⟨w.heap.size, 1, none⟩ = some (Value.slice aa0 na0 ca0) := hcW hW0
 have hc02 : ∀ W, Hid (Below (w.heap.size + 2) W0 W) → W.cell? ⟨w.heap.size, 2, none⟩ = some (Value.bool xb0) := hcW hW0
 have hc03 : ∀ W, Hid (Below (w.heap.size + 2) W0 W) → W.cell? ⟨w.heap.size, 3, none⟩ = some (Value.slice ab0 nb0 cb0) := hcW hW0
 have hc10 : ∀ W, Hid (Below (w.heap.size + 2) W0 W) → W.cell? ⟨(w.heap.size + 1), 0, none⟩ = some (Value.bool xa1) := hcW hW0
 have hc11 : ∀ W, Hid (Below (w.heap.size + 2) W0 W) → W.cell? ⟨(w.heap.size + 1), 1, none⟩ = some (Value.slice aa1 na1 ca1) := hcW hW0
 have hc12 : ∀ W, Hid (Below (w.heap.size + 2) W0 W) → W.cell? ⟨(w.heap.size + 1), 2, none⟩ = some (Value.bool xb1) := hcW hW0
 have hc13 : ∀ W, Hid (Below (w.heap.size + 2) W0 W) → W.cell? ⟨(w.heap.size + 1), 3, none⟩ = some (Value.slice ab1 nb1 cb1) := hcW hW0
 have hr : Slot W0 (w.heap.size + 2) #[.bool false, .slice none 0 0, .bool false, .slice none 0 0] := by rw [← hW0]; exact ⟨_, by (repeat rw [Zbt (by simp only [World.size_alloc]; omega)]); rw [Zbu (by (try simp only [World.size_alloc]))]⟩
 clear hW0
 have hr := hr.drew
 have hs := Lib.hid ((Below.refl (w.heap.size + 2) W0).drew)
 go_region_held3 (fun W => Hid (Below (w.heap.size + 2) W0 W)) (first | assumption | (exact kset4 (by assumption) _ _ _ _) | (exact Zbr (by assumption) hb oM))
  (first
   | (go_at_call 113; (with_reducible refine (rneg_c (HV1.out.below (now hB (by assumption) oM)) ?_).mono ?_); (omega); rintro e w1 ⟨v1, rfl, hb, h9⟩; have hr := hr.below hb; have H1 := Lib.hid (show RatC w1 v1 (-q1) from h9); clear h9)
   | (go_at_call 89; (with_reducible refine (radd_c (HV0.out.below (now hB (by assumption) oM)) ?_ (RatC.v (k := K1 + 1) H1.out (ht_neg HV1.out.ht')) ?_).mono ?_); (omega); (omega); rintro e w9 ⟨v9, rfl, hb, h9⟩; have hr := hr.below hb; have HF : Hid (RatC w9 v9 (q0 - q1)) := (by rw [Rat.sub_eq_add_neg]; exact h9); clear h9; obtain ⟨y0, y1, y2, y3, y4, y5, y6, y7, rfl⟩ := HF.out.agg; obtain ⟨t0, t1, t2, t3, t4, t5, t6, t7, r0, r1, r2, r3⟩ := hr.four)
  )
 have HB := Lib.hid (now hB (by assumption) oM : Below w.heap.size w _)
 clear hs hc00 hc01 hc02 hc03 hc10 hc11 hc12 hc13
 go_wp2
 exact bodyPost_ret (v := .agg #[.bool y0, .slice y1 y2 y3, .bool y4, .slice y5 y6 y7]) (by simp [results, Tryz.results102, go_sem, r0, r1, r2, r3]) rfl
  (.mk rfl HB.out (RatC.far (w' := put4 _ _ (.bool y0) (.slice y1 y2 y3) (.bool y4) (.slice y5 y6 y7)) HF.out hr (Zb0 _ _ _ _ _ _ _ _) Zbv))
end Hp
