/- What the program's division of lists of digits computes, where it goes by machine words or by one digit; lists are not longer than 2^43. -/
import Derived.Test.YtmcfohngblbpbaaBigX
namespace Hp
open Go Go.RowKit Go.Proofs

theorem WideR.below {w w' : World} {x : Int} {u : Value} (h : WideR x w u) (hb : Below w.heap.size w w') : WideR x w' u := by
  obtain ⟨n, f, h1, h2⟩ := h
  exact ⟨n, f, h1.below hb, h2⟩
theorem val_lt_64 {f : Nat → Int} {n : Nat} (h : Digs f n) (hn : n ≤ 2) : 0 ≤ val f n ∧ val f n < 18446744073709551616 := by
  have h1 := val_lt h
  have h2 := pw_le n 2 hn
  have h3 : pw 2 = 18446744073709551616 := by decide
  exact ⟨val_nonneg h, by omega⟩

set_option maxHeartbeats 1000000 in
theorem divide_a {w : World} {va vb : Value} {n m : Nat} {f g : Nat → Int} (ha : Dg w va n f) (hb : Dg w vb m g) (cf : Canon f n) (cg : Canon g m) (hn : n ≤ L / 2) (hm : m ≤ L / 2) (hlt : val f n < val g m) :
    Calls Try.prog 105 #[va, vb] w (Ret w (DivideR n m f g)) := by
  have HA := Lib.hid ha
  have HB := Lib.hid hb
  have HN : Hid (n ≤ L ∧ m ≤ L) := ⟨by unfold L at *; omega, by unfold L at *; omega⟩
  have HC := Lib.hid (And.intro cf cg)
  have HL := Lib.hid hlt
  clear ha hb cf cg hn hm hlt
  go_enter Try.func105, Try.ntmps105
  go_wp2_with fail
  refine (compare_c HA.out HB.out HN.out.1 HN.out.2 HC.out.1 HC.out.2).mono ?_
  rintro e w1 ⟨v1, rfl, hb1, rfl⟩
  rw [cmpZ_lt HL.out]
  have HB1 := Lib.hid hb1
  clear hb1
  go_wp2_with fail
  refine (clone_c (HA.out.below HB1.out) HN.out.1).mono ?_
  rintro e w2 ⟨v2, rfl, hb2, h2⟩
  have HB2 := Lib.hid (below_trans HB1.out hb2)
  have H2 := Lib.hid h2
  clear hb2 h2
  go_wp2
  go_ret2
  exact .mk rfl HB2.out ⟨_, _, 0, n, fun _ => 0, f, rfl, Dg.nil _ _, H2.out, .inl rfl, HC.out.1, by omega, by omega, by simp [val], HL.out⟩

set_option maxHeartbeats 2000000 in
theorem divide_b {w : World} {va vb : Value} {n m : Nat} {f g : Nat → Int} (ha : Dg w va n f) (hb : Dg w vb m g) (cf : Canon f n) (cg : Canon g m) (hn : n ≤ 2) (hm : 0 < m) (hle : val g m ≤ val f n) :
    Calls Try.prog 105 #[va, vb] w (Ret w (DivideR n m f g)) := by
  have HA := Lib.hid ha
  have HB := Lib.hid hb
  have HC := Lib.hid (And.intro cf cg)
  have HM : Hid (m ≤ n) := canon_len hb.dig ha.dig cg hle
  have HX := Lib.hid (val_lt_64 ha.dig hn)
  have HY := Lib.hid (val_lt_64 hb.dig (Nat.le_trans HM.out hn))
  have HY0 : Hid (0 < val g m) := by
    have h1 := HY.out.1
    have h2 := (canon_zero hb.dig cg).1
    show 0 < val g m
    by_cases hz : val g m = 0
    · have := h2 hz; omega
    · omega
  have HN : Hid (n ≤ L ∧ m ≤ L) := ⟨by unfold L; omega, by have := HM.out; unfold L; omega⟩
  have HL := Lib.hid hle
  have hnb : decide ((n : Int) ≤ 2) = true := by simp; omega
  obtain ⟨xa, ca, rfl, hca, -⟩ := ha
  clear hb cf cg hle
  go_enter Try.func105, Try.ntmps105
  go_wp2_with fail
  refine (compare_c HA.out HB.out HN.out.1 HN.out.2 HC.out.1 HC.out.2).mono ?_
  rintro e w1 ⟨v1, rfl, hb1, rfl⟩
  have hcz : 0 ≤ cmpZ (val f n) (val g m) := by
    have := HL.out
    unfold cmpZ; rw [if_neg (by omega)]; split <;> omega
  generalize cmpZ (val f n) (val g m) = cz at *
  have HB1 := Lib.hid hb1
  clear hb1
  go_wp2_with fail
  refine (word_c (HA.out.below HB1.out) hn).mono ?_
  rintro e w2 ⟨v2, rfl, hb2, rfl⟩
  have HB2 := Lib.hid (below_trans HB1.out hb2)
  clear hb2 HB1
  go_wp2_with fail
  refine (word_c (HB.out.below HB2.out) (Nat.le_trans HM.out hn)).mono ?_
  rintro e w3 ⟨v3, rfl, hb3, rfl⟩
  have HB3 := Lib.hid (below_trans HB2.out hb3)
  clear hb3 HB2
  have hx0 := HX.out.1
  have hx1 := HX.out.2
  have hy0 := HY0.out
  have hy1 := HY.out.2
  generalize hgx : val f n = x at *
  generalize hgy : val g m = y at *
  have GX := Lib.hid hgx
  have GY := Lib.hid hgy
  clear hgx hgy
  have d0 : (y == 0) = false := by simp; omega
  have HQ : Hid (0 ≤ x / y ∧ x / y < 18446744073709551616 ∧ 0 ≤ x % y ∧ x % y < y) :=
    ⟨Int.ediv_nonneg hx0 (by omega), Int.lt_of_le_of_lt (Int.ediv_le_self _ hx0) hx1, Int.emod_nonneg _ (by omega), Int.emod_lt_of_pos _ hy0⟩
  have q0 := HQ.out.1
  have q1 := HQ.out.2.1
  have e1 := wrap_u64_of q0 q1
  have q2 := HQ.out.2.2.1
  have q3 := HQ.out.2.2.2
  have e2 := wrap_u64_of q2 (Int.lt_trans q3 hy1)
  have t1 : x.tdiv y = x / y := Int.tdiv_eq_ediv_of_nonneg hx0
  have t2 : x.tmod y = x % y := Int.tmod_eq_emod_of_nonneg hx0
  have d1 : y ≠ 0 := by omega
  go_wp2_with fail
  have hk := Lib.hid ((Below.refl w3.heap.size w3).drew)
  go_region_held3 (fun W => Hid (Below w3.heap.size w3 W)) (first | assumption | exact kstep (by assumption) hb (Nat.le_refl _))
    (first
      | (go_at_call_of 83 (Value.int .u64 (x / y)); refine (wide_c _ _ HQ.out.1 HQ.out.2.1).mono ?_; rintro e w4 ⟨v4, rfl, hb, h4⟩; have H4 := Lib.hid h4; clear h4)
      | (go_at_call_of 83 (Value.int .u64 (x % y)); refine (wide_c _ _ HQ.out.2.2.1 (Int.lt_trans HQ.out.2.2.2 hy1)).mono ?_; rintro e w5 ⟨v5, rfl, hb, h5⟩; have H5 := Lib.hid h5; have H4 := Lib.hid (H4.out.below hb); clear h5))
  have HB5 := Lib.hid (below_trans HB3.out (Hid.out (p := Below w3.heap.size w3 w5) (by assumption)))
  clear hk hb e1 e2 t1 t2
  go_wp2
  go_ret2
  obtain ⟨nq, q, a1, a2, a3, a4⟩ := H4.out
  obtain ⟨nr, r, b1, b2, b3, b4⟩ := H5.out
  refine .mk rfl HB5.out ⟨_, _, nq, nr, q, r, rfl, a1, b1, a3, b3, ?_, by omega, ?_, ?_⟩
  · rcases nq with _ | nq
    · omega
    · have h1 := canon_le a1.dig a3
      have h2 := val_lt HA.out.dig
      rw [GX.out] at h2
      have h3 : x / y ≤ x := Int.ediv_le_self _ hx0
      by_cases hc : nq < n
      · omega
      · have := pw_le n nq (by omega); omega
  · rw [a4, b4, GX.out, GY.out]; exact Int.ediv_mul_add_emod x y
  · rw [b4, GY.out]; exact HQ.out.2.2.2

set_option maxHeartbeats 2000000 in
theorem divide_s {w : World} {va vb : Value} {n : Nat} {f g : Nat → Int} (ha : Dg w va n f) (hb : Dg w vb 1 g) (cf : Canon f n) (cg : Canon g 1) (hn2 : 2 < n) (hn : n ≤ L) (hle : val g 1 ≤ val f n) :
    Calls Try.prog 105 #[va, vb] w (Ret w (DivideR n 1 f g)) := by
  have HA := Lib.hid ha
  have HB := Lib.hid hb
  have HC := Lib.hid (And.intro cf cg)
  have HN : Hid (n ≤ L ∧ 1 ≤ L) := ⟨hn, by unfold L; omega⟩
  have HL := Lib.hid hle
  have hnb : decide ((n : Int) ≤ 2) = false := by simp; omega
  have HG : Hid (isDig (g 0) ∧ 0 < g 0) := by
    have h1 := hb.dig 0 (by omega)
    refine ⟨h1, ?_⟩
    rcases cg with h | h
    · omega
    · have := h1.1; simp at h; omega
  have hn' : n ≤ 17592186044416 := hn
  obtain ⟨xa, ca, rfl, hca, -⟩ := ha
  obtain ⟨xb, cb, rfl, hcb, hdb⟩ := hb
  rcases hdb with hdb | ⟨b, off, rfl, hdb⟩
  · omega
  have HQ : Hid (∀ W, Below w.heap.size w W → W.cell? ⟨b, off, none⟩ = some (.int .u32 (g 0))) := fun W h => (hdb.below h).cell 0 (by omega)
  clear hdb cf cg hle
  go_enter Try.func105, Try.ntmps105
  go_wp2_with fail
  refine (compare_c HA.out HB.out HN.out.1 HN.out.2 HC.out.1 HC.out.2).mono ?_
  rintro e w1 ⟨v1, rfl, hb1, rfl⟩
  have hcz : 0 ≤ cmpZ (val f n) (val g 1) := by
    have := HL.out
    unfold cmpZ; rw [if_neg (by omega)]; split <;> omega
  generalize cmpZ (val f n) (val g 1) = cz at *
  have HB1 := Lib.hid hb1
  clear hb1
  have q1 := HQ.out _ HB1.out
  go_wp2_with fail
  refine (short_c (HA.out.below HB1.out) HN.out.1 HG.out.1 HG.out.2).mono ?_
  rintro e w2 ⟨v2, rfl, hb2, s, h, r, rfl, a1, a2, a3, a4⟩
  have HB2 := Lib.hid (below_trans HB1.out hb2)
  have HS := Lib.hid (And.intro a1 (And.intro a2 (And.intro a3 a4)))
  have r0 := a2
  have r1 : r < 4294967296 := Int.lt_trans a3 HG.out.1.2
  clear hb2 HB1 q1 a1 a2 a3 a4
  go_wp2_with fail
  refine (trimmed_c HS.out.1 HN.out.1).mono ?_
  rintro e w3 ⟨v3, rfl, rfl, h3⟩
  obtain ⟨k, c1, c2, c3, c4⟩ := h3.dg HS.out.1
  have HT := Lib.hid (And.intro c1 (And.intro c2 (And.intro c3 c4)))
  clear h3 c1 c2 c3 c4
  go_wp2_with fail
  refine (wide_c _ _ r0 (by omega)).mono ?_
  rintro e w4 ⟨v4, rfl, hb4, h4⟩
  have HB4 := Lib.hid (below_trans HB2.out hb4)
  have H4 := Lib.hid h4
  have HT4 := Lib.hid (HT.out.1.below hb4)
  clear hb4 h4
  go_wp2
  go_ret2
  obtain ⟨nr, q, b1, b2, b3, b4⟩ := H4.out
  obtain ⟨e1, e2, e3, e4⟩ := HS.out
  have eg : val g 1 = g 0 := by simp [val, pw]
  exact .mk rfl HB4.out ⟨_, _, k, nr, h, q, rfl, HT4.out, b1, HT.out.2.2.1, b3, by have := HT.out.2.1; omega, by omega, by rw [HT.out.2.2.2, b4, eg]; exact e4, by rw [b4, eg]; exact e3⟩
end Hp
