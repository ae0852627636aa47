/- What the program's fractions do: normal form, machine integers, the sign; conditions on lengths alone. Printed by gen_rat2.py. What the program's fractions do: quotient, sum, difference, comparison; conditions on lengths alone. Printed by gen_rat3.py. -/
import Derived.Test.YtbpdgaolmikjbaaGreatOldD
set_option linter.all false
namespace Hp
open Go Go.RowKit Go.Proofs
def SignR (q : Rat) (_ : World) (u : Value) : Prop := ∃ s : Int, u = .int .i64 s ∧ -1 ≤ s ∧ s ≤ 1 ∧ (s = 0 ↔ q = 0)
theorem sgn_range (x : Int) : -1 ≤ sgn x ∧ sgn x ≤ 1 ∧ (sgn x = 0 ↔ x = 0) := by unfold sgn; split; (constructor; omega; constructor; omega; omega); split <;> (constructor; omega; constructor; omega; omega)
theorem sgn_mul_range (x y : Int) : -1 ≤ sgn x * sgn y ∧ sgn x * sgn y ≤ 1 ∧ (sgn x * sgn y = 0 ↔ Rat.divInt x y = 0) := by
 obtain ⟨a1, a2, a3⟩ := sgn_range x
 obtain ⟨b1, b2, b3⟩ := sgn_range y
 have hx : sgn x = -1 ∨ sgn x = 0 ∨ sgn x = 1 := by omega
 have hy : sgn y = -1 ∨ sgn y = 0 ∨ sgn y = 1 := by omega
 have hz : sgn x * sgn y = 0 ↔ (x = 0 ∨ y = 0) := by rw [Int.mul_eq_zero, a3, b3]
 have hq : Rat.divInt x y = 0 ↔ (x = 0 ∨ y = 0) := by
  constructor
  ·intro h
   by_cases h1 : x = 0
   ·exact .inl h1
   ·by_cases h2 : y = 0
    ·exact .inr h2
    ·exact absurd h (divInt_num_ne h1 h2)
  ·rintro (rfl | rfl)
   ·exact Rat.zero_divInt _
   ·exact Rat.divInt_zero _
 refine ⟨?_, ?_, hz.trans hq.symm⟩ <;> rcases hx with h | h | h <;> rcases hy with h' | h' | h' <;> rw [h, h'] <;> decide
set_option maxHeartbeats 4000000 in
theorem rnormal_c {w : World} {u0 : Value} {q0 : Rat} {K0 : Nat} (h0 : RatV w u0 K0 q0) (hk0 : K0 ≤ 2199023255552) : Calls Tryz.prog 126 #[u0] w (Ret w (RatP q0)) := by
 have HV0 := Lib.hid h0
 obtain ⟨xa0, aa0, na0, ca0, xb0, ab0, nb0, cb0, p0, d0, rfl, hp0, hd0, hq0⟩ := h0.open
 have HP0 := Lib.hid hp0
 have HD0 := Lib.hid hd0
 have HQ0 := Lib.hid hq0
 clear hp0 hd0 hq0 h0
 go_enter Tryz.func126, Tryz.ntmps126
 go_wp2_with fail
 generalize hW0 : World.alloc _ _ = W0
 have hsize : W0.heap.size = w.heap.size + 2 := by rw [← hW0]; simp
 have hB : Hid (Below w.heap.size w W0) := by
  rw [← hW0]
  exact ((Below.refl _ _).alloc (by (try simp only [World.size_alloc]); omega) _).alloc (by (try simp only [World.size_alloc]); omega) _
 have hc00 : ∀ W, Hid (Below (w.heap.size + 1) W0 W) → W.cell? ⟨w.heap.size, 0, none⟩ = some (Value.bool xa0) := fun W h => (h.out.cell (p := ⟨_, _, _⟩) (by simp)).trans (by rw [← hW0]; (repeat rw [cell_old (by simp only [World.size_alloc]; omega)]); rw [cell_new (by (try simp only [World.size_alloc]))]; rfl)
 have hc01 : ∀ W, Hid (Below (w.heap.size + 1) W0 W) → W.cell? ⟨w.heap.size, 1, none⟩ = some (Value.slice aa0 na0 ca0) := fun W h => (h.out.cell (p := ⟨_, _, _⟩) (by simp)).trans (by rw [← hW0]; (repeat rw [cell_old (by simp only [World.size_alloc]; omega)]); rw [cell_new (by (try simp only [World.size_alloc]))]; rfl)
 have hc02 : ∀ W, Hid (Below (w.heap.size + 1) W0 W) → W.cell? ⟨w.heap.size, 2, none⟩ = some (Value.bool xb0) := fun W h => (h.out.cell (p := ⟨_, _, _⟩) (by simp)).trans (by rw [← hW0]; (repeat rw [cell_old (by simp only [World.size_alloc]; omega)]); rw [cell_new (by (try simp only [World.size_alloc]))]; rfl)
 have hc03 : ∀ W, Hid (Below (w.heap.size + 1) W0 W) → W.cell? ⟨w.heap.size, 3, none⟩ = some (Value.slice ab0 nb0 cb0) := fun W h => (h.out.cell (p := ⟨_, _, _⟩) (by simp)).trans (by rw [← hW0]; (repeat rw [cell_old (by simp only [World.size_alloc]; omega)]); rw [cell_new (by (try simp only [World.size_alloc]))]; rfl)
 have hr : Slot W0 (w.heap.size + 1) #[.bool false, .slice none 0 0, .bool false, .slice none 0 0] := by rw [← hW0]; exact ⟨_, by (repeat rw [heap_old (by simp only [World.size_alloc]; omega)]); rw [heap_new (by (try simp only [World.size_alloc]))]⟩
 clear hW0
 have hk := Lib.hid (Below.refl (w.heap.size + 1) W0)
 go_wp2_with fail
 with_reducible refine (over_c (HP0.out.below hB.out) (HD0.out.below hB.out) ?_ ?_).mono ?_
 ·omega
 ·omega
 rintro e w9 ⟨v9, rfl, hb, h9⟩
 have hk := kstep hk hb (by omega)
 have hr := hr.below hb
 have HF : Hid (RatC w9 v9 q0) := by rw [HQ0.out]; exact h9
 clear hb h9
 obtain ⟨y0, y1, y2, y3, y4, y5, y6, y7, rfl⟩ := HF.out.agg
 obtain ⟨t0, t1, t2, t3, t4, t5, t6, t7, r0, r1, r2, r3⟩ := hr.four
 have HB := Lib.hid (now hB (kset4 hk (.bool y0) (.slice y1 y2 y3) (.bool y4) (.slice y5 y6 y7)) (by omega))
 clear hc00 hc01 hc02 hc03
 go_wp2
 exact bodyPost_ret (v := .agg #[.bool y0, .slice y1 y2 y3, .bool y4, .slice y5 y6 y7]) (by simp [results, Tryz.results126, go_sem, r0, r1, r2, r3]) rfl
  (.mk rfl HB.out (RatC.far (w' := put4 _ _ (.bool y0) (.slice y1 y2 y3) (.bool y4) (.slice y5 y6 y7)) HF.out hr (noDigRat _ _ _ _ _ _ _ _) far_put4))
end Hp
namespace Hp
open Go Go.RowKit Go.Proofs
def QuoR (q : Rat) (w' : World) (u : Value) : Prop := ∃ r, u = .tuple #[r, .int .i64 0] ∧ RatC w' r q
theorem gstep {r : Nat} {W0 W W1 : World} (h : Hid (W0.grownBy W (some r))) (hb : Below W.heap.size W W1) : Hid (W0.grownBy W1 (some r)) :=
 ⟨hb.os.trans h.out.os, hb.tape.trans h.out.tape, hb.output.trans h.out.output, Nat.le_trans h.out.size hb.size, fun k hk hne => (hb.block k (Nat.lt_of_lt_of_le hk h.out.size)).trans (h.out.block k hk hne)⟩
theorem gset4 {r : Nat} {W0 W : World} (h : Hid (W0.grownBy W (some r))) (u0 u1 u2 u3 : Value) : Hid (W0.grownBy ((((W.setCell ⟨r, 0, none⟩ u0).setCell ⟨r, 1, none⟩ u1).setCell ⟨r, 2, none⟩ u2).setCell ⟨r, 3, none⟩ u3) (some r)) :=
 grown_set (grown_set (grown_set (grown_set h.out)))
theorem gnow {r : Nat} {w W0 W : World} (hB : Hid (Below w.heap.size w W0)) (h : Hid (W0.grownBy W (some r))) (hr : w.heap.size ≤ r) : Below w.heap.size w W :=
 hB.out.grown h.out hB.out.size (fun k e => by simp at e; omega)
theorem sum_big {a b c d : Int} {k l : Nat} (ha : a.natAbs < pw k) (hb : b.natAbs < pw l) (hc : c.natAbs < pw l) (hd : d.natAbs < pw k) (hk : k ≤ 2199023255552) (hl : l ≤ 2199023255552) : (a * b + c * d).natAbs < BIG :=
 big_of (add_lt_pw (mul_lt_pw ha hb) (by rw [Nat.add_comm k l]; exact mul_lt_pw hc hd)) (by omega)
theorem kalloc {r : Nat} {W0 W : World} (h : Hid (Below r W0 W)) (hr : r ≤ W0.heap.size) (o : Obj) : Hid (Below r W0 (W.alloc o)) := h.out.alloc (Nat.le_trans hr h.out.size) o
theorem RatV.ht' {w : World} {u : Value} {k : Nat} {q : Rat} (h : RatV w u k q) : Ht q (k + 1) := by
 obtain ⟨p, d, ⟨a0, a1, b0, b1, _, h1, h2⟩, rfl⟩ := h
 exact divInt_ht (Int.lt_of_lt_of_le h1.lt (pw_le _ _ (by omega))) (Int.lt_of_lt_of_le h2.lt (pw_le _ _ (by omega))) (by omega)
end Hp
