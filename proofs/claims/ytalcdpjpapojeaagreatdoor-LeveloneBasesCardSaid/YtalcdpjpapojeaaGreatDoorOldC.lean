/- What the program's integers do. -/
import Derived.Test.YtalcdpjpapojeaaGreatDoorOldF
set_option linter.all false
namespace Hp
open Go Go.RowKit Go.Proofs
theorem zof_mul (a b : Bool) (x y : Int) : zof (!(a == b)) (x * y) = zof a x * zof b y := by
 cases a <;> cases b <;> simp [zof, Int.neg_mul, Int.mul_neg]
theorem zof_not (a : Bool) (x : Int) : zof (!a) x = -zof a x := by cases a <;> simp [zof]
theorem zof_abs (a : Bool) {x : Int} (h : 0 ≤ x) : (zof a x).natAbs = x.natAbs := by cases a <;> simp [zof]
set_option maxHeartbeats 2000000 in
theorem neg_c {w : World} {u0 : Value} {z0 : Int} {K0 : Nat} (h0 : IntR w u0 K0 z0) (hk0 : K0 ≤ 17592186044416) : Calls Tryz.prog 129 #[u0] w (Ret w (Ze9 (-z0))) := by
 obtain ⟨ng0, s0, n0, f0, rfl, hd0, hn0, hz0⟩ := h0
 have HD0 := Lib.hid hd0
 have HN0 := Lib.hid hn0
 have HZ0 := Lib.hid hz0
 clear hd0 hn0 hz0
 go_enter Tryz.func129, Tryz.ntmps129
 go_wp2_with fail
 generalize hW0 : World.alloc _ _ = W0
 have hsize : W0.heap.size = w.heap.size + 2 := by rw [← hW0]; simp
 have hB : Hid (Below w.heap.size w W0) := by
  rw [← hW0]
  exact ((Below.refl _ _).alloc (by (try simp only [World.size_alloc]); omega) _).alloc (by (try simp only [World.size_alloc]); omega) _
 have hc00 : ∀ W, Hid (Below (w.heap.size + 1) W0 W) → W.cell? ⟨w.heap.size, 0, none⟩ = some (Value.bool ng0) := hcW hW0
 have hc01 : ∀ W, Hid (Below (w.heap.size + 1) W0 W) → W.cell? ⟨w.heap.size, 1, none⟩ = some s0 := hcW hW0
 have hr : Za8 W0 (w.heap.size + 1) (Value.bool false) (Value.slice none 0 0) := by rw [← hW0]; exact ⟨37, by (repeat rw [Zbt (by simp only [World.size_alloc]; omega)]); rw [Zbu (by (try simp only [World.size_alloc]))]⟩
 clear hW0
 have hr := hr.drew
 have hs := Lib.hid ((Below.refl (w.heap.size + 1) W0).drew)
 go_region_held3 (fun W => Hid (Below (w.heap.size + 1) W0 W)) (first | assumption | (exact Zgv (by assumption) _ _) | (exact Zbr (by assumption) hb oM))
  (first
   | (go_at_call 147; (with_reducible refine (Zbl (HD0.out.below ?_) (Nat.le_trans HN0.out ?_)).mono ?_); (exact now hB (by assumption) oM); (unfold L; omega); rintro e w' ⟨u0, rfl, rfl, a0, cap0, k0, hv, rfl, hk', hcap, hc, hx⟩; have HT0 := Lib.hid (And.intro hv (And.intro hc (And.intro hx (Nat.le_trans hk' HN0.out)))); have HP0 : Hid (∀ W, Below w.heap.size w W → Dg W (.slice a0 k0 cap0) k0 f0) := (fun W hb => (HD0.out.below hb).front hv hk'); clear hv hc hx hk' hcap)
   | (go_at_call 155; (with_reducible refine (clone_c (HP0.out _ (now hB (by assumption) oM)) (Nat.le_trans HT0.out.2.2.2 ?_)).mono ?_); (unfold L; omega); rintro e w1 ⟨v1, rfl, hb, h1⟩; have hr := hr.below hb; have H1 := Lib.hid h1.dg; clear h1)
   | (go_at_call 119; (with_reducible refine (Zb9 (!ng0) H1.out ?_).mono ?_); (exact Nat.le_trans HT0.out.2.2.2 hk0); rintro e w9 ⟨v9, rfl, hb, h9⟩; have hr := hr.below hb; have H2 : Hid (IntC w9 v9 (-z0)) := (by rw [HZ0.out, ← HT0.out.2.2.1, ← zof_not]; exact h9); clear h9; obtain ⟨a', n', cap', rfl⟩ := H2.out.agg; obtain ⟨q0, q1, q2, q3, q4, q5⟩ := hr.two)
  )
 have HB := Lib.hid (now hB (by assumption) oM : Below w.heap.size w _)
 clear hs hc00 hc01
 go_wp2
 exact bodyPost_ret (v := .agg #[.bool (decide (-z0 < 0)), .slice a' n' cap']) (by simp [results, Tryz.results129, go_sem, q4, q5]) rfl
  (.mk rfl HB.out (H2.out.far hr (Zay _ _ _ _) Zas))
set_option maxHeartbeats 2000000 in
theorem mul_c {w : World} {u0 : Value} {z0 : Int} {K0 : Nat} (h0 : IntR w u0 K0 z0) {u1 : Value} {z1 : Int} {K1 : Nat} (h1 : IntR w u1 K1 z1) (hk0 : K0 ≤ 8796093022208) (hk1 : K1 ≤ 8796093022208) : Calls Tryz.prog 123 #[u0, u1] w (Ret w (Ze9 (z0 * z1))) := by
 obtain ⟨ng0, s0, n0, f0, rfl, hd0, hn0, hz0⟩ := h0
 have HD0 := Lib.hid hd0
 have HN0 := Lib.hid hn0
 have HZ0 := Lib.hid hz0
 clear hd0 hn0 hz0
 obtain ⟨ng1, s1, n1, f1, rfl, hd1, hn1, hz1⟩ := h1
 have HD1 := Lib.hid hd1
 have HN1 := Lib.hid hn1
 have HZ1 := Lib.hid hz1
 clear hd1 hn1 hz1
 go_enter Tryz.func123, Tryz.ntmps123
 go_wp2_with fail
 generalize hW0 : World.alloc _ _ = W0
 have hsize : W0.heap.size = w.heap.size + 3 := by rw [← hW0]; simp
 have hB : Hid (Below w.heap.size w W0) := by
  rw [← hW0]
  exact (((Below.refl _ _).alloc (by (try simp only [World.size_alloc]); omega) _).alloc (by (try simp only [World.size_alloc]); omega) _).alloc (by (try simp only [World.size_alloc]); omega) _
 have hc00 : ∀ W, Hid (Below (w.heap.size + 2) W0 W) → W.cell? ⟨w.heap.size, 0, none⟩ = some (Value.bool ng0) := hcW hW0
 have hc01 : ∀ W, Hid (Below (w.heap.size + 2) W0 W) → W.cell? ⟨w.heap.size, 1, none⟩ = some s0 := hcW hW0
 have hc10 : ∀ W, Hid (Below (w.heap.size + 2) W0 W) → W.cell? ⟨(w.heap.size + 1), 0, none⟩ = some (Value.bool ng1) := hcW hW0
 have hc11 : ∀ W, Hid (Below (w.heap.size + 2) W0 W) → W.cell? ⟨(w.heap.size + 1), 1, none⟩ = some s1 := hcW hW0
 have hr : Za8 W0 (w.heap.size + 2) (Value.bool false) (Value.slice none 0 0) := by rw [← hW0]; exact ⟨37, by (repeat rw [Zbt (by simp only [World.size_alloc]; omega)]); rw [Zbu (by (try simp only [World.size_alloc]))]⟩
 clear hW0
 have hr := hr.drew
 have hs := Lib.hid ((Below.refl (w.heap.size + 2) W0).drew)
 go_region_held3 (fun W => Hid (Below (w.heap.size + 2) W0 W)) (first | assumption | (exact Zgv (by assumption) _ _) | (exact Zbr (by assumption) hb oM))
  (first
   | (go_at_call 147; (with_reducible refine (Zbl (HD0.out.below ?_) (Nat.le_trans HN0.out ?_)).mono ?_); (exact now hB (by assumption) oM); (unfold L; omega); rintro e w' ⟨u0, rfl, rfl, a0, cap0, k0, hv, rfl, hk', hcap, hc, hx⟩; have HT0 := Lib.hid (And.intro hv (And.intro hc (And.intro hx (Nat.le_trans hk' HN0.out)))); have HP0 : Hid (∀ W, Below w.heap.size w W → Dg W (.slice a0 k0 cap0) k0 f0) := (fun W hb => (HD0.out.below hb).front hv hk'); clear hv hc hx hk' hcap)
   | (go_at_call 147; (with_reducible refine (Zbl (HD1.out.below ?_) (Nat.le_trans HN1.out ?_)).mono ?_); (exact now hB (by assumption) oM); (unfold L; omega); rintro e w' ⟨u1, rfl, rfl, a1, cap1, k1, hv, rfl, hk', hcap, hc, hx⟩; have HT1 := Lib.hid (And.intro hv (And.intro hc (And.intro hx (Nat.le_trans hk' HN1.out)))); have HP1 : Hid (∀ W, Below w.heap.size w W → Dg W (.slice a1 k1 cap1) k1 f1) := (fun W hb => (HD1.out.below hb).front hv hk'); clear hv hc hx hk' hcap)
   | (go_at_call 151; (with_reducible refine (times_c (HP0.out _ (now hB (by assumption) oM)) (HP1.out _ (now hB (by assumption) oM)) (Nat.le_trans HT0.out.2.2.2 ?_) (Nat.le_trans HT1.out.2.2.2 ?_)).mono ?_); (unfold L; omega); (unfold L; omega); rintro e w1 ⟨v1, rfl, hb, kk, hh, h1, h2, h3⟩; have hr := hr.below hb; have H1 := Lib.hid (And.intro h1 (And.intro h2 h3)); clear h1 h2 h3)
   | (go_at_call 119; (with_reducible refine (Zb9 (!(ng0 == ng1)) H1.out.1 ?_).mono ?_); (exact Nat.le_trans H1.out.2.1 (by have h1 := HT0.out.2.2.2; have h2 := HT1.out.2.2.2; unfold L; omega)); rintro e w9 ⟨v9, rfl, hb, h9⟩; have hr := hr.below hb; have H2 : Hid (IntC w9 v9 (z0 * z1)) := (by rw [HZ0.out, HZ1.out, ← HT0.out.2.2.1, ← HT1.out.2.2.1, ← zof_mul, ← H1.out.2.2]; exact h9); clear h9; obtain ⟨a', n', cap', rfl⟩ := H2.out.agg; obtain ⟨q0, q1, q2, q3, q4, q5⟩ := hr.two)
  )
 have HB := Lib.hid (now hB (by assumption) oM : Below w.heap.size w _)
 clear hs hc00 hc01 hc10 hc11
 go_wp2
 exact bodyPost_ret (v := .agg #[.bool (decide (z0 * z1 < 0)), .slice a' n' cap']) (by simp [results, Tryz.results123, go_sem, q4, q5]) rfl
  (.mk rfl HB.out (H2.out.far hr (Zay _ _ _ _) Zas))
set_option maxHeartbeats 2000000 in
theorem gcd_c {w : World} {u0 : Value} {z0 : Int} {K0 : Nat} (h0 : IntR w u0 K0 z0) {u1 : Value} {z1 : Int} {K1 : Nat} (h1 : IntR w u1 K1 z1) (hk0 : K0 ≤ 8796093022208) (hk1 : K1 ≤ 8796093022208) : Calls Tryz.prog 130 #[u0, u1] w (Ret w (Ze9 (gcdZ z0 z1))) := by
 obtain ⟨ng0, s0, n0, f0, rfl, hd0, hn0, hz0⟩ := h0
 have HD0 := Lib.hid hd0
 have HN0 := Lib.hid hn0
 have HZ0 := Lib.hid hz0
 clear hd0 hn0 hz0
 obtain ⟨ng1, s1, n1, f1, rfl, hd1, hn1, hz1⟩ := h1
 have HD1 := Lib.hid hd1
 have HN1 := Lib.hid hn1
 have HZ1 := Lib.hid hz1
 clear hd1 hn1 hz1
 go_enter Tryz.func130, Tryz.ntmps130
 go_wp2_with fail
 generalize hW0 : World.alloc _ _ = W0
 have hsize : W0.heap.size = w.heap.size + 3 := by rw [← hW0]; simp
 have hB : Hid (Below w.heap.size w W0) := by
  rw [← hW0]
  exact (((Below.refl _ _).alloc (by (try simp only [World.size_alloc]); omega) _).alloc (by (try simp only [World.size_alloc]); omega) _).alloc (by (try simp only [World.size_alloc]); omega) _
 have hc00 : ∀ W, Hid (Below (w.heap.size + 2) W0 W) → W.cell? ⟨w.heap.size, 0, none⟩ = some (Value.bool ng0) := hcW hW0
 have hc01 : ∀ W, Hid (Below (w.heap.size + 2) W0 W) → W.cell? ⟨w.heap.size, 1, none⟩ = some s0 := hcW hW0
 have hc10 : ∀ W, Hid (Below (w.heap.size + 2) W0 W) → W.cell? ⟨(w.heap.size + 1), 0, none⟩ = some (Value.bool ng1) := hcW hW0
 have hc11 : ∀ W, Hid (Below (w.heap.size + 2) W0 W) → W.cell? ⟨(w.heap.size + 1), 1, none⟩ = some s1 := hcW hW0
 have hr : Za8 W0 (w.heap.size + 2) (Value.bool false) (Value.slice none 0 0) := by rw [← hW0]; exact ⟨37, by (repeat rw [Zbt (by simp only [World.size_alloc]; omega)]); rw [Zbu (by (try simp only [World.size_alloc]))]⟩
 clear hW0
 have hr := hr.drew
 have hs := Lib.hid ((Below.refl (w.heap.size + 2) W0).drew)
 go_region_held3 (fun W => Hid (Below (w.heap.size + 2) W0 W)) (first | assumption | (exact Zgv (by assumption) _ _) | (exact Zbr (by assumption) hb oM))
  (first
   | (go_at_call 147; (with_reducible refine (Zbl (HD0.out.below ?_) (Nat.le_trans HN0.out ?_)).mono ?_); (exact now hB (by assumption) oM); (unfold L; omega); rintro e w' ⟨u0, rfl, rfl, a0, cap0, k0, hv, rfl, hk', hcap, hc, hx⟩; have HT0 := Lib.hid (And.intro hv (And.intro hc (And.intro hx (Nat.le_trans hk' HN0.out)))); have HP0 : Hid (∀ W, Below w.heap.size w W → Dg W (.slice a0 k0 cap0) k0 f0) := (fun W hb => (HD0.out.below hb).front hv hk'); clear hv hc hx hk' hcap)
   | (go_at_call 147; (with_reducible refine (Zbl (HD1.out.below ?_) (Nat.le_trans HN1.out ?_)).mono ?_); (exact now hB (by assumption) oM); (unfold L; omega); rintro e w' ⟨u1, rfl, rfl, a1, cap1, k1, hv, rfl, hk', hcap, hc, hx⟩; have HT1 := Lib.hid (And.intro hv (And.intro hc (And.intro hx (Nat.le_trans hk' HN1.out)))); have HP1 : Hid (∀ W, Below w.heap.size w W → Dg W (.slice a1 k1 cap1) k1 f1) := (fun W hb => (HD1.out.below hb).front hv hk'); clear hv hc hx hk' hcap)
   | (go_at_call 156; (with_reducible refine (common_c (HP0.out _ (now hB (by assumption) oM)) (HP1.out _ (now hB (by assumption) oM)) HT0.out.2.1 HT1.out.2.1 (Nat.le_trans HT0.out.2.2.2 ?_) (Nat.le_trans HT1.out.2.2.2 ?_)).mono ?_); (unfold L; omega); (unfold L; omega); rintro e w1 ⟨v1, rfl, hb, kk, hh, h1, h2, h3, h4⟩; have hr := hr.below hb; have H1 := Lib.hid (And.intro h1 (And.intro h3 h4)); clear h1 h2 h3 h4)
   | (go_at_call 119; (with_reducible refine (Zb9 false H1.out.1 ?_).mono ?_); (exact H1.out.2.1); rintro e w9 ⟨v9, rfl, hb, h9⟩; have hr := hr.below hb; have H2 : Hid (IntC w9 v9 (gcdZ z0 z1)) := (by rw [H1.out.2.2, HT0.out.2.2.1, HT1.out.2.2.1] at h9; rw [HZ0.out, HZ1.out]; have e : gcdZ (zof ng0 (val f0 n0)) (zof ng1 (val f1 n1)) = gcdZ (val f0 n0) (val f1 n1) := (by unfold gcdZ; rw [zof_abs _ (Zam HD0.out.dig), zof_abs _ (Zam HD1.out.dig)]); rw [e]; exact h9); clear h9; obtain ⟨a', n', cap', rfl⟩ := H2.out.agg; obtain ⟨q0, q1, q2, q3, q4, q5⟩ := hr.two)
  )
 have HB := Lib.hid (now hB (by assumption) oM : Below w.heap.size w _)
 clear hs hc00 hc01 hc10 hc11
 go_wp2
 exact bodyPost_ret (v := .agg #[.bool (decide (gcdZ z0 z1 < 0)), .slice a' n' cap']) (by simp [results, Tryz.results130, go_sem, q4, q5]) rfl
  (.mk rfl HB.out (H2.out.far hr (Zay _ _ _ _) Zas))
theorem sgn_zof {neg : Bool} {f : Nat → Int} {k : Nat} (h : Digs f k) (hc : Zb2 f k) : sgn (zof neg (val f k)) = if k = 0 then 0 else if neg then -1 else 1 := by
 have h0 := Zam h
 have h1 := Zc5 h hc
 by_cases hk : k = 0
 ·rw [if_pos hk, h1.2 hk]; cases neg <;> rfl
 ·rw [if_neg hk]
  have : val f k ≠ 0 := fun e => hk (h1.1 e)
  cases neg
  ·simp only [zof]; unfold sgn; simp; omega
  ·simp only [zof]; unfold sgn; simp; omega
set_option maxHeartbeats 2000000 in
theorem isign_c {w : World} {u0 : Value} {z0 : Int} {K0 : Nat} (h0 : IntR w u0 K0 z0) (hk0 : K0 ≤ 17592186044416) : Calls Tryz.prog 125 #[u0] w (Ret w (IsV (.int .i64 (sgn z0)))) := by
 obtain ⟨ng0, s0, n0, f0, rfl, hd0, hn0, hz0⟩ := h0
 have HD0 := Lib.hid hd0
 have HN0 := Lib.hid (Nat.le_trans hn0 hk0)
 have HZ0 := Lib.hid hz0
 clear hd0 hn0 hz0
 go_enter Tryz.func125, Tryz.ntmps125
 go_wp2_with fail
 refine (Zbl (HD0.out.below (Zai _)) HN0.out).mono ?_
 rintro e w' ⟨u, rfl, rfl, a, cap, k, hv, rfl, hk, hcap, hc, hx⟩
 have HS : Hid (sgn z0 = if k = 0 then 0 else if ng0 then -1 else 1) := by
  show sgn z0 = _
  rw [HZ0.out, ← hx]
  exact sgn_zof (fun i hi => HD0.out.dig i oM) hc
 have hk' : k ≤ 17592186044416 := Nat.le_trans hk HN0.out
 clear hv hk hcap hc hx
 by_cases hk0 : k = 0
 ·subst hk0
  go_wp2
  go_ret
  exact .mk rfl (Zai _) (by rw [HS.out]; rfl)
 ·have hb : ((k : Int) == 0) = false := by simp; omega
  have HK := Lib.hid hk0
  clear hk0
  cases ng0
  ·go_wp2
   go_ret
   exact .mk rfl (Zai _) (by rw [HS.out, if_neg HK.out]; rfl)
  ·go_wp2
   go_ret
   exact .mk rfl (Zai _) (by rw [HS.out, if_neg HK.out]; rfl)
theorem u64_wrap (x : Int) : IntKind.u64.wrap x = x % 18446744073709551616 := by simp [IntKind.wrap, IntKind.bits, IntKind.signed]
set_option maxHeartbeats 2000000 in
theorem iof_c (x : Int) (w : World) (h0 : -9223372036854775808 ≤ x) (h1 : x ≤ 9223372036854775807) : Calls Tryz.prog 83 #[.int .i64 x] w (Ret w (Ze9 x)) := by
 have hr : Za8 (w.alloc (.cells #[.bool false, .slice none 0 0] 37)) w.heap.size (.bool false) (.slice none 0 0) := Za8.new _ _ _ _
 by_cases hx : x < 0
 ·have hd : decide (x < 0) = true := by simp [hx]
  have hw : IntKind.u64.wrap (-IntKind.u64.wrap x) = -x := by rw [u64_wrap, u64_wrap]; omega
  have HW := Lib.hid hw
  clear hw
  go_enter Tryz.func83, Tryz.ntmps83
  go_wp2_with fail
  rw [HW.out]
  refine (wide_c _ _ oM oM).mono ?_
  rintro e w1 ⟨v1, rfl, hb, n, f, d1, d2, d3, d4⟩
  have hr := hr.below hb
  have HB1 := Lib.hid ((Zai _).trans (hb.mono (by simp)) : Below w.heap.size w w1)
  have H1 := Lib.hid (And.intro d1 (And.intro d2 d4))
  clear hb d1 d2 d3 d4
  go_wp2_with fail
  refine (Zb9 true H1.out.1 (by have := H1.out.2.1; unfold L; omega)).mono ?_
  rintro e w2 ⟨v2, rfl, hb, h2⟩
  have hr := hr.below hb
  have HB2 := Lib.hid (Zak HB1.out hb)
  have H2 : Hid (IntC w2 v2 x) := by
   have e : zof true (val f n) = x := by simp only [zof]; rw [H1.out.2.2]; simp
   rw [e] at h2; exact h2
  clear hb h2
  obtain ⟨a', n', cap', rfl⟩ := H2.out.agg
  obtain ⟨q0, q1, q2, q3, q4, q5⟩ := hr.two
  clear hd
  generalize hg : decide (x < 0) = dd at *
  have HGG := Lib.hid hg
  clear hg
  go_wp2
  exact bodyPost_ret (v := .agg #[.bool dd, .slice a' n' cap']) (by simp [results, Tryz.results83, go_sem, q4, q5]) rfl
   (.mk rfl (Zgv HB2 _ _).out (H2.out.far hr (Zay _ _ _ _) Zas))
 ·have hd : decide (x < 0) = false := by simp; omega
  have hx0 : 0 ≤ x := oM
  have hw : IntKind.u64.wrap x = x := by rw [u64_wrap]; omega
  go_enter Tryz.func83, Tryz.ntmps83
  go_wp2_with fail
  refine (wide_c _ _ oM oM).mono ?_
  rintro e w1 ⟨v1, rfl, hb, n, f, d1, d2, d3, d4⟩
  have hr := hr.below hb
  have HB1 := Lib.hid ((Zai _).trans (hb.mono (by simp)) : Below w.heap.size w w1)
  have H1 := Lib.hid (And.intro d1 (And.intro d2 d4))
  clear hb d1 d2 d3 d4
  go_wp2_with fail
  refine (Zb9 false H1.out.1 (by have := H1.out.2.1; unfold L; omega)).mono ?_
  rintro e w2 ⟨v2, rfl, hb, h2⟩
  have hr := hr.below hb
  have HB2 := Lib.hid (Zak HB1.out hb)
  have H2 : Hid (IntC w2 v2 x) := by
   have e : zof false (val f n) = x := by simp only [zof]; rw [H1.out.2.2]; simp
   rw [e] at h2; exact h2
  clear hb h2
  obtain ⟨a', n', cap', rfl⟩ := H2.out.agg
  obtain ⟨q0, q1, q2, q3, q4, q5⟩ := hr.two
  clear hd
  generalize hg : decide (x < 0) = dd at *
  have HGG := Lib.hid hg
  clear hg
  go_wp2
  exact bodyPost_ret (v := .agg #[.bool dd, .slice a' n' cap']) (by simp [results, Tryz.results83, go_sem, q4, q5]) rfl
   (.mk rfl (Zgv HB2 _ _).out (H2.out.far hr (Zay _ _ _ _) Zas))
theorem zof_add_eq (a : Bool) (x y : Int) : zof a x + zof a y = zof a (x + y) := by cases a <;> simp [zof] <;> omega
theorem zof_add_ge {a b : Bool} (h : a ≠ b) (x y : Int) : zof a x + zof b y = zof a (x - y) := by cases a <;> cases b <;> simp [zof] at * <;> omega
theorem zof_add_lt {a b : Bool} (h : a ≠ b) (x y : Int) : zof a x + zof b y = zof b (y - x) := by cases a <;> cases b <;> simp [zof] at * <;> omega
set_option maxRecDepth 100000 in
set_option maxHeartbeats 4000000 in
theorem add_c {w : World} {u0 v1 : Value} {z0 : Int} {K0 m : Nat} {g : Nat → Int} (neg : Bool) (h0 : IntR w u0 K0 z0) (hv1 : Dg w v1 m g) (cg : Zb2 g m) (hk0 : K0 ≤ 8796093022208) (hm : m ≤ 8796093022208) :
  Calls Tryz.prog 154 #[u0, .bool neg, v1] w (Ret w (Ze9 (z0 + zof neg (val g m)))) := by
 obtain ⟨ng0, s0, n0, f0, rfl, hd0, hn0, hz0⟩ := h0
 have HD0 := Lib.hid hd0
 have HN0 := Lib.hid hn0
 have HZ0 := Lib.hid hz0
 clear hd0 hn0 hz0
 have HV := Lib.hid (And.intro hv1 cg)
 clear hv1 cg
 obtain ⟨zz, hzz⟩ : ∃ zz, zz = z0 + zof neg (val g m) := ⟨_, rfl⟩
 rw [← hzz]
 have HZZ := Lib.hid hzz
 clear hzz
 go_enter Tryz.func154, Tryz.ntmps154
 go_wp2_with fail
 generalize hW0 : World.alloc _ _ = W0
 have hsize : W0.heap.size = w.heap.size + 2 := by rw [← hW0]; simp
 have hB : Hid (Below w.heap.size w W0) := by
  rw [← hW0]
  exact ((Below.refl _ _).alloc (by (try simp only [World.size_alloc]); omega) _).alloc (by (try simp only [World.size_alloc]); omega) _
 have hc00 : ∀ W, Hid (Below (w.heap.size + 1) W0 W) → W.cell? ⟨w.heap.size, 0, none⟩ = some (Value.bool ng0) := hcW hW0
 have hc01 : ∀ W, Hid (Below (w.heap.size + 1) W0 W) → W.cell? ⟨w.heap.size, 1, none⟩ = some s0 := hcW hW0
 have hr : Za8 W0 (w.heap.size + 1) (Value.bool false) (Value.slice none 0 0) := by rw [← hW0]; exact ⟨37, by (repeat rw [Zbt (by simp only [World.size_alloc]; omega)]); rw [Zbu (by (try simp only [World.size_alloc]))]⟩
 clear hW0
 have hk := Lib.hid (Below.refl (w.heap.size + 1) W0)
 refine (Zbl (HD0.out.below hB.out) (by have := HN0.out; unfold L; omega)).mono ?_
 rintro e w' ⟨u, rfl, rfl, a0, cap0, k0, hv, rfl, hkk, hcap, hc, hx⟩
 have HP : Hid (∀ W, Below w.heap.size w W → Dg W (.slice a0 k0 cap0) k0 f0) := fun W hb => (HD0.out.below hb).front hv hkk
 have HX : Hid (z0 = zof ng0 (val f0 k0) ∧ Zb2 f0 k0 ∧ k0 ≤ 8796093022208) := ⟨by rw [hx]; exact HZ0.out, hc, Nat.le_trans hkk (Nat.le_trans HN0.out hk0)⟩
 clear hv hkk hcap hc hx
 have HX0 := HX
 by_cases hs : ng0 = neg
 ·subst hs
  go_wp2_with fail
  refine (plus_c (HP.out _ hB.out) (HV.out.1.below hB.out) (by have := HX.out.2.2; unfold L; omega) (by unfold L; omega)).mono ?_
  rintro e w2 ⟨v2, rfl, hb, kk, hh, d1, d2, d3⟩
  have hk := Zbr hk hb oM
  have hr := hr.below hb
  have H1 := Lib.hid (And.intro d1 (And.intro d2 d3))
  clear hb d1 d2 d3
  go_wp2_with fail
  refine (Zb9 ng0 H1.out.1 (by have := HX.out.2.2; have := H1.out.2.1; unfold L; omega)).mono ?_
  rintro e w3 ⟨v3, rfl, hb, h3⟩
  have hk := Zbr hk hb oM
  have hr := hr.below hb
  have H2 : Hid (IntC w3 v3 zz) := by
   rw [HZZ.out, HX.out.1, zof_add_eq, ← H1.out.2.2]; exact h3
  clear hb h3
  obtain ⟨a', n', cap', rfl⟩ := H2.out.agg
  obtain ⟨q0, q1, q2, q3, q4, q5⟩ := hr.two
  have HBF := Lib.hid (now hB (Zgv hk (.bool (decide (zz < 0))) (.slice a' n' cap')) oM)
  clear HX
  generalize hg : decide (zz < 0) = dd at *
  have HGG := Lib.hid hg
  clear hg
  go_wp2
  exact bodyPost_ret (v := .agg #[.bool dd, .slice a' n' cap']) (by simp [results, Tryz.results154, go_sem, q4, q5]) rfl
   (.mk rfl HBF.out (H2.out.far hr (Zay _ _ _ _) Zas))
 ·have hsb : (ng0 == neg) = false := by simp [hs]
  have HS := Lib.hid hs
  clear hs
  go_wp2_with fail
  refine (Zfq (HP.out _ hB.out) (HV.out.1.below hB.out) (by have := HX.out.2.2; unfold L; omega) (by unfold L; omega) HX.out.2.1 HV.out.2).mono ?_
  rintro e w2 ⟨v2, rfl, hb, rfl⟩
  have hk := Zbr hk hb oM
  have hr := hr.below hb
  clear hb
  by_cases hge : val g m ≤ val f0 k0
  ·have hcz : 0 ≤ cmpZ (val f0 k0) (val g m) := by unfold cmpZ; rw [if_neg oM]; split <;> omega
   generalize cmpZ (val f0 k0) (val g m) = cz at *
   have HGE : Hid (val g m ≤ val f0 k0 ∧ m ≤ k0) := ⟨hge, Zcm HV.out.1.dig (HP.out _ (Below.refl _ _)).dig HV.out.2 hge⟩
   clear hge
   go_wp2_with fail
   have hr := hr.drew
   have hs := Zbr hk ((Below.refl w2.heap.size w2).drew) oM
   go_region_held3 (fun W => Hid (Below (w.heap.size + 1) W0 W)) (first | assumption | (exact Zgv (by assumption) _ _) | (exact Zbr (by assumption) hb oM))
    (first
     | (go_at_call 179; (with_reducible refine (less_c (HP.out _ (now hB (by assumption) oM)) (HV.out.1.below (now hB (by assumption) oM)) ?_ HGE.out.2 HGE.out.1).mono ?_); (have := HX.out.2.2; unfold L; omega); rintro e w3 ⟨v3, rfl, hb, hh, h1, h2⟩; have hr := hr.below hb; have H1 := Lib.hid (And.intro h1 h2); clear h1 h2)
     | (go_at_call 119; (with_reducible refine (Zb9 ng0 H1.out.1 ?_).mono ?_); (have := HX.out.2.2; unfold L; omega); rintro e w9 ⟨v9, rfl, hb, h9⟩; have hr := hr.below hb; have H2 : Hid (IntC w9 v9 zz) := (by rw [HZZ.out, HX.out.1, zof_add_ge HS.out, ← H1.out.2]; exact h9); clear h9; obtain ⟨a', n', cap', rfl⟩ := H2.out.agg; obtain ⟨q0, q1, q2, q3, q4, q5⟩ := hr.two))
   have HBF := Lib.hid (now hB (by assumption) oM : Below w.heap.size w ((w9.setCell ⟨w.heap.size + 1, 0, none⟩ (.bool (decide (zz < 0)))).setCell ⟨w.heap.size + 1, 1, none⟩ (.slice a' n' cap')))
   clear HX
   generalize hg : decide (zz < 0) = dd at *
   have HGG := Lib.hid hg
   clear hg
   go_wp2
   exact bodyPost_ret (v := .agg #[.bool dd, .slice a' n' cap']) (by simp [results, Tryz.results154, go_sem, q4, q5]) rfl
    (.mk rfl HBF.out (H2.out.far hr (Zay _ _ _ _) Zas))
  ·have hcz : cmpZ (val f0 k0) (val g m) < 0 := by rw [cmpZ_lt oM]; omega
   generalize cmpZ (val f0 k0) (val g m) = cz at *
   have HGE : Hid (val f0 k0 ≤ val g m ∧ k0 ≤ m) := ⟨oM, Zcm (HP.out _ (Below.refl _ _)).dig HV.out.1.dig HX.out.2.1 oM⟩
   clear hge
   go_wp2_with fail
   refine (less_c (HV.out.1.below (now hB hk oM)) (HP.out _ (now hB hk oM)) (by unfold L; omega) HGE.out.2 HGE.out.1).mono ?_
   rintro e w3 ⟨v3, rfl, hb, hh, h1, h2⟩
   have hk := Zbr hk hb oM
   have hr := hr.below hb
   have H1 := Lib.hid (And.intro h1 h2)
   clear hb h1 h2
   go_wp2_with fail
   refine (Zb9 neg H1.out.1 (by unfold L; omega)).mono ?_
   rintro e w4 ⟨v4, rfl, hb, h3⟩
   have hk := Zbr hk hb oM
   have hr := hr.below hb
   have H2 : Hid (IntC w4 v4 zz) := by
    rw [HZZ.out, HX.out.1, zof_add_lt HS.out, ← H1.out.2]; exact h3
   clear hb h3
   obtain ⟨a', n', cap', rfl⟩ := H2.out.agg
   obtain ⟨q0, q1, q2, q3, q4, q5⟩ := hr.two
   have HBF := Lib.hid (now hB (Zgv hk (.bool (decide (zz < 0))) (.slice a' n' cap')) oM)
   clear HX
   generalize hg : decide (zz < 0) = dd at *
   have HGG := Lib.hid hg
   clear hg
   go_wp2
   exact bodyPost_ret (v := .agg #[.bool dd, .slice a' n' cap']) (by simp [results, Tryz.results154, go_sem, q4, q5]) rfl
    (.mk rfl HBF.out (H2.out.far hr (Zay _ _ _ _) Zas))
set_option maxHeartbeats 2000000 in
theorem iadd_c {w : World} {u0 : Value} {z0 : Int} {K0 : Nat} (h0 : IntR w u0 K0 z0) {u1 : Value} {z1 : Int} {K1 : Nat} (h1 : IntR w u1 K1 z1) (hk0 : K0 ≤ 8796093022208) (hk1 : K1 ≤ 8796093022208) : Calls Tryz.prog 127 #[u0, u1] w (Ret w (Ze9 (z0 + z1))) := by
 have HI0 := Lib.hid h0
 obtain ⟨ng0, s0, n0, f0, rfl, hd0, hn0, hz0⟩ := h0
 have HD0 := Lib.hid hd0
 have HN0 := Lib.hid hn0
 have HZ0 := Lib.hid hz0
 clear hd0 hn0 hz0
 have HI1 := Lib.hid h1
 obtain ⟨ng1, s1, n1, f1, rfl, hd1, hn1, hz1⟩ := h1
 have HD1 := Lib.hid hd1
 have HN1 := Lib.hid hn1
 have HZ1 := Lib.hid hz1
 clear hd1 hn1 hz1
 go_enter Tryz.func127, Tryz.ntmps127
 go_wp2_with fail
 generalize hW0 : World.alloc _ _ = W0
 have hsize : W0.heap.size = w.heap.size + 3 := by rw [← hW0]; simp
 have hB : Hid (Below w.heap.size w W0) := by
  rw [← hW0]
  exact (((Below.refl _ _).alloc (by (try simp only [World.size_alloc]); omega) _).alloc (by (try simp only [World.size_alloc]); omega) _).alloc (by (try simp only [World.size_alloc]); omega) _
 have hc00 : ∀ W, Hid (Below (w.heap.size + 2) W0 W) → W.cell? ⟨w.heap.size, 0, none⟩ = some (Value.bool ng0) := hcW hW0
 have hc01 : ∀ W, Hid (Below (w.heap.size + 2) W0 W) → W.cell? ⟨w.heap.size, 1, none⟩ = some s0 := hcW hW0
 have hc10 : ∀ W, Hid (Below (w.heap.size + 2) W0 W) → W.cell? ⟨(w.heap.size + 1), 0, none⟩ = some (Value.bool ng1) := hcW hW0
 have hc11 : ∀ W, Hid (Below (w.heap.size + 2) W0 W) → W.cell? ⟨(w.heap.size + 1), 1, none⟩ = some s1 := hcW hW0
 have hr : Za8 W0 (w.heap.size + 2) (Value.bool false) (Value.slice none 0 0) := by rw [← hW0]; exact ⟨37, by (repeat rw [Zbt (by simp only [World.size_alloc]; omega)]); rw [Zbu (by (try simp only [World.size_alloc]))]⟩
 clear hW0
 have hr := hr.drew
 have hs := Lib.hid ((Below.refl (w.heap.size + 2) W0).drew)
 go_region_held3 (fun W => Hid (Below (w.heap.size + 2) W0 W)) (first | assumption | (exact Zgv (by assumption) _ _) | (exact Zbr (by assumption) hb oM))
  (first
   | (go_at_call 147; (with_reducible refine (Zbl (HD1.out.below ?_) (Nat.le_trans HN1.out ?_)).mono ?_); (exact now hB (by assumption) oM); (unfold L; omega); rintro e w' ⟨u1, rfl, rfl, a1, cap1, k1, hv, rfl, hk', hcap, hc, hx⟩; have HT1 := Lib.hid (And.intro hv (And.intro hc (And.intro hx (Nat.le_trans hk' HN1.out)))); have HP1 : Hid (∀ W, Below w.heap.size w W → Dg W (.slice a1 k1 cap1) k1 f1) := (fun W hb => (HD1.out.below hb).front hv hk'); clear hv hc hx hk' hcap)
   | (go_at_call 154; (with_reducible refine (add_c ng1 (HI0.out.below (now hB (by assumption) oM)) (HP1.out _ (now hB (by assumption) oM)) HT1.out.2.1 hk0 (Nat.le_trans HT1.out.2.2.2 hk1)).mono ?_); rintro e w9 ⟨v9, rfl, hb, h9⟩; have hr := hr.below hb; have H2 : Hid (IntC w9 v9 (z0 + z1)) := (by rw [HZ1.out, ← HT1.out.2.2.1]; exact h9); clear h9; obtain ⟨a', n', cap', rfl⟩ := H2.out.agg; obtain ⟨q0, q1, q2, q3, q4, q5⟩ := hr.two)
  )
 have HB := Lib.hid (now hB (by assumption) oM : Below w.heap.size w _)
 clear hs hc00 hc01 hc10 hc11
 go_wp2
 exact bodyPost_ret (v := .agg #[.bool (decide (z0 + z1 < 0)), .slice a' n' cap']) (by simp [results, Tryz.results127, go_sem, q4, q5]) rfl
  (.mk rfl HB.out (H2.out.far hr (Zay _ _ _ _) Zas))
def DivModR (z0 z1 : Int) (w' : World) (u : Value) : Prop := ∃ uq ur, u = .tuple #[uq, ur, .int .i64 0] ∧ IntC w' uq (z0 / z1) ∧ IntC w' ur (z0 % z1)
theorem div_unique {a b q r : Int} (h : q * b + r = a) (h0 : 0 ≤ r) (h1 : r < b.natAbs) : a / b = q ∧ a % b = r := by
 have hb : b ≠ 0 := by intro e; subst e; simp at h1; omega
 have e2 : a % b = r := by
  rw [← h, Int.add_comm, Int.add_mul_emod_self_right]
  rcases Int.lt_or_gt_of_ne hb with hn | hp
  ·rw [← Int.emod_neg, Int.emod_eq_of_lt h0 oM]
  ·rw [Int.emod_eq_of_lt h0 oM]
 refine ⟨?_, e2⟩
 have := Int.mul_ediv_add_emod a b
 rw [e2] at this
 have e3 : b * (a / b) = b * q := by rw [Int.mul_comm b q]; omega
 exact Int.eq_of_mul_eq_mul_left hb e3
theorem divmod_pos {n0 n1 : Bool} {A V Q R : Int} (hV : 0 < V) (h : Q * V + R = A) (h0 : 0 ≤ R) (h1 : R < V) (hc : n0 = false ∨ R = 0) :
  zof n0 A / zof n1 V = zof (!(n0 == n1)) Q ∧ zof n0 A % zof n1 V = R := by
 refine div_unique ?_ h0 (by rw [zof_abs _ (Int.le_of_lt hV)]; omega)
 cases n0 <;> cases n1 <;> simp [zof] at * <;> grind
theorem divmod_neg {n1 : Bool} {A V Q R : Int} (hV : 0 < V) (h : Q * V + R = A) (h0 : 0 < R) (h1 : R < V) :
  zof true A / zof n1 V = zof (!n1) (Q + 1) ∧ zof true A % zof n1 V = V - R := by
 refine div_unique ?_ oM (by rw [zof_abs _ (Int.le_of_lt hV)]; omega)
 cases n1 <;> simp [zof] at * <;> grind
set_option maxRecDepth 100000 in
set_option maxHeartbeats 8000000 in
theorem divmod_c {w : World} {u0 u1 : Value} {z0 z1 : Int} {K0 K1 : Nat} (h0 : IntR w u0 K0 z0) (h1 : IntR w u1 K1 z1) (hk0' : K0 ≤ 8796093022208) (hk1' : K1 ≤ 8796093022208) (hz : z1 ≠ 0) :
  Calls Tryz.prog 157 #[u0, u1] w (Ret w (DivModR z0 z1)) := by
 have HI0 := Lib.hid h0
 obtain ⟨ng0, s0, n0, f0, rfl, hd0, hn0, hz0⟩ := h0
 have HD0 := Lib.hid hd0
 have HN0 := Lib.hid hn0
 have HZ0 := Lib.hid hz0
 clear hd0 hn0 hz0
 have HI1 := Lib.hid h1
 obtain ⟨ng1, s1, n1, f1, rfl, hd1, hn1, hz1⟩ := h1
 have HD1 := Lib.hid hd1
 have HN1 := Lib.hid hn1
 have HZ1 := Lib.hid hz1
 clear hd1 hn1 hz1
 have HZ := Lib.hid hz
 clear hz
 go_enter Tryz.func157, Tryz.ntmps157
 go_wp2_with fail
 generalize hW0 : World.alloc _ _ = W0
 have hsize : W0.heap.size = w.heap.size + 4 := by rw [← hW0]; simp
 have hB : Hid (Below w.heap.size w W0) := by
  rw [← hW0]
  exact ((((Below.refl _ _).alloc (by (try simp only [World.size_alloc]); omega) _).alloc (by (try simp only [World.size_alloc]); omega) _).alloc (by (try simp only [World.size_alloc]); omega) _).alloc (by (try simp only [World.size_alloc]); omega) _
 have hc00 : ∀ W, Hid (Below (w.heap.size + 2) W0 W) → W.cell? ⟨w.heap.size, 0, none⟩ = some (Value.bool ng0) := hcW hW0
 have hc01 : ∀ W, Hid (Below (w.heap.size + 2) W0 W) → W.cell? ⟨w.heap.size, 1, none⟩ = some s0 := hcW hW0
 have hc10 : ∀ W, Hid (Below (w.heap.size + 2) W0 W) → W.cell? ⟨(w.heap.size + 1), 0, none⟩ = some (Value.bool ng1) := hcW hW0
 have hc11 : ∀ W, Hid (Below (w.heap.size + 2) W0 W) → W.cell? ⟨(w.heap.size + 1), 1, none⟩ = some s1 := hcW hW0
 have hr : Za8 W0 (w.heap.size + 2) (Value.bool false) (Value.slice none 0 0) := by rw [← hW0]; exact ⟨37, by (repeat rw [Zbt (by simp only [World.size_alloc]; omega)]); rw [Zbu (by (try simp only [World.size_alloc]))]⟩
 have hr2 : Za8 W0 (w.heap.size + 3) (Value.bool false) (Value.slice none 0 0) := by rw [← hW0]; exact ⟨37, by (repeat rw [Zbt (by simp only [World.size_alloc]; omega)]); rw [Zbu (by (try simp only [World.size_alloc]))]⟩
 clear hW0
 have hk := Lib.hid (Below.refl (w.heap.size + 2) W0)
 refine (Zbl (HD1.out.below (now hB hk oM)) (by have := HN1.out; unfold L; omega)).mono ?_
 rintro e w' ⟨u1, rfl, rfl, a1, cap1, k1, hv, rfl, hkk, hcap, hc, hx⟩
 have HP1 : Hid (∀ W, Below w.heap.size w W → Dg W (.slice a1 k1 cap1) k1 f1) := fun W hb => (HD1.out.below hb).front hv hkk
 have HX1 : Hid (z1 = zof ng1 (val f1 k1) ∧ Zb2 f1 k1 ∧ k1 ≤ 8796093022208) := ⟨by rw [hx]; exact HZ1.out, hc, Nat.le_trans hkk (Nat.le_trans HN1.out hk1')⟩
 clear hv hkk hcap hc hx
 have hk1p : 0 < k1 := by
  by_cases e : k1 = 0
  ·exfalso; refine HZ.out ?_; rw [HX1.out.1, e]; cases ng1 <;> rfl
  ·omega
 have hkb : ((k1 : Int) == 0) = false := by simp; omega
 have hk1b : k1 ≤ 8796093022208 := HX1.out.2.2
 have HVP : Hid (0 < val f1 k1) := by
  have h1 := (HP1.out _ (Below.refl _ _)).dig
  have h2 := Zam h1
  have h3 := (Zc5 h1 HX1.out.2.1).1
  show 0 < _
  by_cases e : val f1 k1 = 0
  ·have := h3 e; omega
  ·omega
 go_wp2_with fail
 refine (Zbl (HD0.out.below (now hB hk oM)) (by have := HN0.out; unfold L; omega)).mono ?_
 rintro e w' ⟨u0, rfl, rfl, a0, cap0, k0, hv, rfl, hkk, hcap, hc, hx⟩
 have HP0 : Hid (∀ W, Below w.heap.size w W → Dg W (.slice a0 k0 cap0) k0 f0) := fun W hb => (HD0.out.below hb).front hv hkk
 have HX0 : Hid (z0 = zof ng0 (val f0 k0) ∧ Zb2 f0 k0 ∧ k0 ≤ 8796093022208) := ⟨by rw [hx]; exact HZ0.out, hc, Nat.le_trans hkk (Nat.le_trans HN0.out hk0')⟩
 clear hv hkk hcap hc hx
 go_wp2_with fail
 refine (divide_c (HP0.out _ (now hB hk oM)) (HP1.out _ (now hB hk oM)) HX0.out.2.1 HX1.out.2.1 (by have := HX0.out.2.2; unfold L; omega) (by unfold L; omega) hk1p).mono ?_
 rintro e w4 ⟨v4, rfl, hb, sq, sr, nq, nr, q, r, rfl, d1, d2, d3, d4, d5, d6, d7, d8⟩
 have hk := Zbr hk hb oM
 have hr := hr.below hb
 have hr2 := hr2.below hb
 have HQ := Lib.hid (And.intro d1 (And.intro d3 d5))
 have HR := Lib.hid (And.intro d2 (And.intro d4 (Zcm d2.dig (HP1.out _ (Below.refl _ _)).dig d4 (Int.le_of_lt d8))))
 have HE := Lib.hid (And.intro d7 d8)
 clear hb d1 d2 d3 d4 d5 d6 d7 d8
 have hnr : nr ≤ 8796093022208 := Nat.le_trans HR.out.2.2 hk1b
 obtain ⟨ar, cr, hsr, -, -⟩ := HR.out.1
 subst hsr
 by_cases hneg : ng0 = true ∧ 0 < nr
 ·obtain ⟨rfl, hnr0⟩ := hneg
  have HRP : Hid (0 < val r nr) := by
   have h2 := Zam HR.out.1.dig
   have h3 := (Zc5 HR.out.1.dig HR.out.2.1).1
   show 0 < _
   by_cases e : val r nr = 0
   ·have := h3 e; omega
   ·omega
  go_wp2_with fail
  have HONE : Hid (Dg (w4.alloc (.cells #[.int .u32 1] 74)) (.slice (some ⟨w4.heap.size, 0, none⟩) 1 1) 1 (two 1 0)) := by
   refine ⟨_, 1, rfl, oM, .inr ⟨_, 0, rfl, fun i hi => ?_, fun i hi => ?_⟩⟩
   ·obtain rfl : i = 0 := oM
    rw [World.cell?_alloc_new]; rfl
   ·obtain rfl : i = 0 := oM
    exact ⟨dC, dC⟩
  refine (plus_c (HQ.out.1.below (Zai _)) HONE.out (by have := HQ.out.2.2; have := HX0.out.2.2; unfold L; omega) (by unfold L; omega)).mono ?_
  rintro e w5 ⟨v5, rfl, hb, kk, hh, d1, d2, d3⟩
  have hb := Zak (Zai _) hb
  have hk := Zbr hk hb oM
  have hr := hr.below hb
  have hr2 := hr2.below hb
  have HR := Lib.hid (And.intro (HR.out.1.below hb) HR.out.2)
  have H1 := Lib.hid (And.intro d1 (And.intro d2 d3))
  clear hb d1 d2 d3
  go_wp2_with fail
  refine (less_c (HP1.out _ (now hB hk oM)) HR.out.1 (by unfold L; omega) HR.out.2.2 (Int.le_of_lt HE.out.2)).mono ?_
  rintro e w6 ⟨v6, rfl, hb, ll, e1, e2⟩
  have hk := Zbr hk hb oM
  have hr := hr.below hb
  have hr2 := hr2.below hb
  have HF := divmod_neg (n1 := ng1) HVP.out HE.out.1 HRP.out HE.out.2
  have HQF : Hid (Dg w6 v5 kk hh ∧ kk ≤ L ∧ zof (!ng1) (val hh kk) = z0 / z1) := by
   refine ⟨H1.out.1.below hb, ?_, ?_⟩
   ·have := H1.out.2.1; have := HQ.out.2.2; have := HX0.out.2.2; unfold L; omega
   ·rw [HX0.out.1, HX1.out.1, HF.1, H1.out.2.2, val_one]
  have HRF : Hid (Dg w6 v6 k1 ll ∧ k1 ≤ L ∧ zof false (val ll k1) = z0 % z1) := by
   refine ⟨e1, by unfold L; omega, ?_⟩
   rw [HX0.out.1, HX1.out.1, HF.2, e2]; rfl
  clear hb e1 e2 HF
  go_wp2_with fail
  with_reducible refine (Zb9 (!ng1) HQF.out.1 HQF.out.2.1).mono ?_
  rintro e w5 ⟨v5, rfl, hb, h5⟩
  have hk := Zbr hk hb oM
  have hr := hr.below hb
  have hr2 := hr2.below hb
  have H5 : Hid (IntC w5 v5 (z0 / z1)) := by rw [← HQF.out.2.2]; exact h5
  have HRF := Lib.hid (And.intro (HRF.out.1.below hb) HRF.out.2)
  clear hb h5
  go_wp2_with fail
  with_reducible refine (Zb9 false HRF.out.1 HRF.out.2.1).mono ?_
  rintro e w6 ⟨v6, rfl, hb, h6⟩
  have hk := Zbr hk hb oM
  have hr := hr.below hb
  have hr2 := hr2.below hb
  have H6 : Hid (IntC w6 v6 (z0 % z1)) := by rw [← HRF.out.2.2]; exact h6
  have H5 := Lib.hid (H5.out.below hb)
  clear hb h6
  obtain ⟨a5, n5, c5, rfl⟩ := H5.out.agg
  obtain ⟨a6, n6, c6, rfl⟩ := H6.out.agg
  generalize hg : decide (z0 / z1 < 0) = dq at *
  have HGG := Lib.hid hg
  clear hg
  generalize hg : decide (z0 % z1 < 0) = dr at *
  have HGG2 := Lib.hid hg
  clear hg
  have hr' := hr.put (.bool dq) (.slice a5 n5 c5)
  have hr2' := hr2.other (show w.heap.size + 3 ≠ w.heap.size + 2 by omega) (.bool dq) (.slice a5 n5 c5)
  have hr3 := hr'.other (show w.heap.size + 2 ≠ w.heap.size + 3 by omega) (.bool dr) (.slice a6 n6 c6)
  have hr4 := hr2'.put (.bool dr) (.slice a6 n6 c6)
  have HBF := Lib.hid (now hB (kset2' (Zgv hk (.bool dq) (.slice a5 n5 c5)) (show w.heap.size + 2 ≤ w.heap.size + 3 by omega) (.bool dr) (.slice a6 n6 c6)) oM)
  have HF5 := Lib.hid ((H5.out.far hr (Zay _ _ _ _) (Zas (i := 0) (j := 1) (u := .bool dq) (v := .slice a5 n5 c5))).far hr2' (Zay _ _ _ _) (Zas (i := 0) (j := 1) (u := .bool dr) (v := .slice a6 n6 c6)))
  have HF6 := Lib.hid ((H6.out.far hr (Zay _ _ _ _) (Zas (i := 0) (j := 1) (u := .bool dq) (v := .slice a5 n5 c5))).far hr2' (Zay _ _ _ _) (Zas (i := 0) (j := 1) (u := .bool dr) (v := .slice a6 n6 c6)))
  obtain ⟨p0, p1, p2, p3, p4, p5⟩ := hr.two
  obtain ⟨q0, q1, q2, q3, q4, q5⟩ := hr2'.two
  obtain ⟨t0, t1, -, -, -, -⟩ := hr3.two
  obtain ⟨l0, l1, -, -, -, -⟩ := hr4.two
  go_wp2
  exact bodyPost_ret (v := .tuple #[.agg #[.bool dq, .slice a5 n5 c5], .agg #[.bool dr, .slice a6 n6 c6], .int .i64 0]) (by simp [results, Tryz.results157, go_sem, t0, t1, l0, l1]) rfl
   (.mk rfl HBF.out ⟨_, _, rfl, HF5.out, HF6.out⟩)
 ·have HF := divmod_pos (n0 := ng0) (n1 := ng1) HVP.out HE.out.1 (Zam HR.out.1.dig) HE.out.2 (by
   cases ng0
   ·exact .inl rfl
   ·right
    obtain rfl : nr = 0 := by
     by_cases e : nr = 0
     ·exact e
     ·exact absurd ⟨rfl, oM⟩ hneg
    rfl)
  have HQF : Hid (Dg w4 sq nq q ∧ nq ≤ L ∧ zof (!(ng0 == ng1)) (val q nq) = z0 / z1) := by
   refine ⟨HQ.out.1, ?_, ?_⟩
   ·have := HQ.out.2.2; have := HX0.out.2.2; unfold L; omega
   ·rw [HX0.out.1, HX1.out.1, HF.1]
  have HRF : Hid (Dg w4 (.slice ar nr cr) nr r ∧ nr ≤ L ∧ zof false (val r nr) = z0 % z1) := by
   refine ⟨HR.out.1, by unfold L; omega, ?_⟩
   rw [HX0.out.1, HX1.out.1, HF.2]; rfl
  have key : ng0 = false ∨ (ng0 = true ∧ ¬ 0 < nr) := by
   cases ng0
   ·exact .inl rfl
   ·exact .inr ⟨rfl, fun h => hneg ⟨rfl, h⟩⟩
  clear HF hneg
  rcases key with rfl | ⟨rfl, hnr0⟩
  ·have HQF : Hid (Dg w4 sq nq q ∧ nq ≤ L ∧ zof ng1 (val q nq) = z0 / z1) := by
    have e : (!(false == ng1)) = ng1 := by cases ng1 <;> rfl
    have := HQF.out; rw [e] at this; exact this
   go_wp2_with fail
   with_reducible refine (Zb9 ng1 HQF.out.1 HQF.out.2.1).mono ?_
   rintro e w5 ⟨v5, rfl, hb, h5⟩
   have hk := Zbr hk hb oM
   have hr := hr.below hb
   have hr2 := hr2.below hb
   have H5 : Hid (IntC w5 v5 (z0 / z1)) := by rw [← HQF.out.2.2]; exact h5
   have HRF := Lib.hid (And.intro (HRF.out.1.below hb) HRF.out.2)
   clear hb h5
   go_wp2_with fail
   with_reducible refine (Zb9 false HRF.out.1 HRF.out.2.1).mono ?_
   rintro e w6 ⟨v6, rfl, hb, h6⟩
   have hk := Zbr hk hb oM
   have hr := hr.below hb
   have hr2 := hr2.below hb
   have H6 : Hid (IntC w6 v6 (z0 % z1)) := by rw [← HRF.out.2.2]; exact h6
   have H5 := Lib.hid (H5.out.below hb)
   clear hb h6
   obtain ⟨a5, n5, c5, rfl⟩ := H5.out.agg
   obtain ⟨a6, n6, c6, rfl⟩ := H6.out.agg
   generalize hg : decide (z0 / z1 < 0) = dq at *
   have HGG := Lib.hid hg
   clear hg
   generalize hg : decide (z0 % z1 < 0) = dr at *
   have HGG2 := Lib.hid hg
   clear hg
   have hr' := hr.put (.bool dq) (.slice a5 n5 c5)
   have hr2' := hr2.other (show w.heap.size + 3 ≠ w.heap.size + 2 by omega) (.bool dq) (.slice a5 n5 c5)
   have hr3 := hr'.other (show w.heap.size + 2 ≠ w.heap.size + 3 by omega) (.bool dr) (.slice a6 n6 c6)
   have hr4 := hr2'.put (.bool dr) (.slice a6 n6 c6)
   have HBF := Lib.hid (now hB (kset2' (Zgv hk (.bool dq) (.slice a5 n5 c5)) (show w.heap.size + 2 ≤ w.heap.size + 3 by omega) (.bool dr) (.slice a6 n6 c6)) oM)
   have HF5 := Lib.hid ((H5.out.far hr (Zay _ _ _ _) (Zas (i := 0) (j := 1) (u := .bool dq) (v := .slice a5 n5 c5))).far hr2' (Zay _ _ _ _) (Zas (i := 0) (j := 1) (u := .bool dr) (v := .slice a6 n6 c6)))
   have HF6 := Lib.hid ((H6.out.far hr (Zay _ _ _ _) (Zas (i := 0) (j := 1) (u := .bool dq) (v := .slice a5 n5 c5))).far hr2' (Zay _ _ _ _) (Zas (i := 0) (j := 1) (u := .bool dr) (v := .slice a6 n6 c6)))
   obtain ⟨p0, p1, p2, p3, p4, p5⟩ := hr.two
   obtain ⟨q0, q1, q2, q3, q4, q5⟩ := hr2'.two
   obtain ⟨t0, t1, -, -, -, -⟩ := hr3.two
   obtain ⟨l0, l1, -, -, -, -⟩ := hr4.two
   go_wp2
   exact bodyPost_ret (v := .tuple #[.agg #[.bool dq, .slice a5 n5 c5], .agg #[.bool dr, .slice a6 n6 c6], .int .i64 0]) (by simp [results, Tryz.results157, go_sem, t0, t1, l0, l1]) rfl
    (.mk rfl HBF.out ⟨_, _, rfl, HF5.out, HF6.out⟩)
  ·have HQF : Hid (Dg w4 sq nq q ∧ nq ≤ L ∧ zof (!ng1) (val q nq) = z0 / z1) := by
    have e : (!(true == ng1)) = !ng1 := by cases ng1 <;> rfl
    have := HQF.out; rw [e] at this; exact this
   go_wp2_with fail
   with_reducible refine (Zb9 (!ng1) HQF.out.1 HQF.out.2.1).mono ?_
   rintro e w5 ⟨v5, rfl, hb, h5⟩
   have hk := Zbr hk hb oM
   have hr := hr.below hb
   have hr2 := hr2.below hb
   have H5 : Hid (IntC w5 v5 (z0 / z1)) := by rw [← HQF.out.2.2]; exact h5
   have HRF := Lib.hid (And.intro (HRF.out.1.below hb) HRF.out.2)
   clear hb h5
   go_wp2_with fail
   with_reducible refine (Zb9 false HRF.out.1 HRF.out.2.1).mono ?_
   rintro e w6 ⟨v6, rfl, hb, h6⟩
   have hk := Zbr hk hb oM
   have hr := hr.below hb
   have hr2 := hr2.below hb
   have H6 : Hid (IntC w6 v6 (z0 % z1)) := by rw [← HRF.out.2.2]; exact h6
   have H5 := Lib.hid (H5.out.below hb)
   clear hb h6
   obtain ⟨a5, n5, c5, rfl⟩ := H5.out.agg
   obtain ⟨a6, n6, c6, rfl⟩ := H6.out.agg
   generalize hg : decide (z0 / z1 < 0) = dq at *
   have HGG := Lib.hid hg
   clear hg
   generalize hg : decide (z0 % z1 < 0) = dr at *
   have HGG2 := Lib.hid hg
   clear hg
   have hr' := hr.put (.bool dq) (.slice a5 n5 c5)
   have hr2' := hr2.other (show w.heap.size + 3 ≠ w.heap.size + 2 by omega) (.bool dq) (.slice a5 n5 c5)
   have hr3 := hr'.other (show w.heap.size + 2 ≠ w.heap.size + 3 by omega) (.bool dr) (.slice a6 n6 c6)
   have hr4 := hr2'.put (.bool dr) (.slice a6 n6 c6)
   have HBF := Lib.hid (now hB (kset2' (Zgv hk (.bool dq) (.slice a5 n5 c5)) (show w.heap.size + 2 ≤ w.heap.size + 3 by omega) (.bool dr) (.slice a6 n6 c6)) oM)
   have HF5 := Lib.hid ((H5.out.far hr (Zay _ _ _ _) (Zas (i := 0) (j := 1) (u := .bool dq) (v := .slice a5 n5 c5))).far hr2' (Zay _ _ _ _) (Zas (i := 0) (j := 1) (u := .bool dr) (v := .slice a6 n6 c6)))
   have HF6 := Lib.hid ((H6.out.far hr (Zay _ _ _ _) (Zas (i := 0) (j := 1) (u := .bool dq) (v := .slice a5 n5 c5))).far hr2' (Zay _ _ _ _) (Zas (i := 0) (j := 1) (u := .bool dr) (v := .slice a6 n6 c6)))
   obtain ⟨p0, p1, p2, p3, p4, p5⟩ := hr.two
   obtain ⟨q0, q1, q2, q3, q4, q5⟩ := hr2'.two
   obtain ⟨t0, t1, -, -, -, -⟩ := hr3.two
   obtain ⟨l0, l1, -, -, -, -⟩ := hr4.two
   go_wp2
   exact bodyPost_ret (v := .tuple #[.agg #[.bool dq, .slice a5 n5 c5], .agg #[.bool dr, .slice a6 n6 c6], .int .i64 0]) (by simp [results, Tryz.results157, go_sem, t0, t1, l0, l1]) rfl
    (.mk rfl HBF.out ⟨_, _, rfl, HF5.out, HF6.out⟩)
def ExactR (z : Int) (w' : World) (u : Value) : Prop := ∃ uq, u = .tuple #[uq, .int .i64 0] ∧ IntC w' uq z
theorem IntC.zero {w : World} {u : Value} (h : IntC w u 0) : ∃ a cap, u = .agg #[.bool false, .slice a 0 cap] := by
 obtain ⟨s, n, f, rfl, hd, hc, hv⟩ := h
 have e := (Zc5 hd.dig hc).1 (by simpa using hv)
 subst e
 obtain ⟨a, cap, rfl, _⟩ := hd
 exact ⟨a, cap, rfl⟩
set_option maxRecDepth 100000 in
set_option maxHeartbeats 4000000 in
theorem exact_c {w : World} {u0 u1 : Value} {z0 z1 : Int} {K0 K1 : Nat} (h0 : IntR w u0 K0 z0) (h1 : IntR w u1 K1 z1) (hk0' : K0 ≤ 8796093022208) (hk1' : K1 ≤ 8796093022208) (hz : z1 ≠ 0) (hdvd : z0 % z1 = 0) :
  Calls Tryz.prog 131 #[u0, u1] w (Ret w (ExactR (z0 / z1))) := by
 have HI0 := Lib.hid h0
 obtain ⟨ng0, s0, n0, f0, rfl, hd0, hn0, hz0⟩ := h0
 clear hd0 hn0 hz0
 have HI1 := Lib.hid h1
 obtain ⟨ng1, s1, n1, f1, rfl, hd1, hn1, hz1⟩ := h1
 clear hd1 hn1 hz1
 have HZ := Lib.hid (And.intro hz hdvd)
 clear hz hdvd
 go_enter Tryz.func131, Tryz.ntmps131
 go_wp2_with fail
 generalize hW0 : World.alloc _ _ = W0
 have hsize : W0.heap.size = w.heap.size + 3 := by rw [← hW0]; simp
 have hB : Hid (Below w.heap.size w W0) := by
  rw [← hW0]
  exact (((Below.refl _ _).alloc (by (try simp only [World.size_alloc]); omega) _).alloc (by (try simp only [World.size_alloc]); omega) _).alloc (by (try simp only [World.size_alloc]); omega) _
 have hc00 : ∀ W, Hid (Below (w.heap.size + 2) W0 W) → W.cell? ⟨w.heap.size, 0, none⟩ = some (Value.bool ng0) := hcW hW0
 have hc01 : ∀ W, Hid (Below (w.heap.size + 2) W0 W) → W.cell? ⟨w.heap.size, 1, none⟩ = some s0 := hcW hW0
 have hc10 : ∀ W, Hid (Below (w.heap.size + 2) W0 W) → W.cell? ⟨(w.heap.size + 1), 0, none⟩ = some (Value.bool ng1) := hcW hW0
 have hc11 : ∀ W, Hid (Below (w.heap.size + 2) W0 W) → W.cell? ⟨(w.heap.size + 1), 1, none⟩ = some s1 := hcW hW0
 have hr : Za8 W0 (w.heap.size + 2) (Value.bool false) (Value.slice none 0 0) := by rw [← hW0]; exact ⟨37, by (repeat rw [Zbt (by simp only [World.size_alloc]; omega)]); rw [Zbu (by (try simp only [World.size_alloc]))]⟩
 clear hW0
 have hk := Lib.hid (Below.refl (w.heap.size + 2) W0)
 go_wp2_with fail
 with_reducible refine (divmod_c (HI0.out.below hB.out) (HI1.out.below hB.out) hk0' hk1' HZ.out.1).mono ?_
 rintro e w1 ⟨v, rfl, hb, uq, ur, rfl, d1, d2⟩
 have hk := Zbr hk hb oM
 have hr := hr.below hb
 rw [HZ.out.2] at d2
 obtain ⟨ar, cr, rfl⟩ := d2.zero
 have H1 := Lib.hid d1
 clear hb d1 d2
 obtain ⟨aq, nq, cq, rfl⟩ := H1.out.agg
 generalize hg : decide (z0 / z1 < 0) = dq at *
 have HGG := Lib.hid hg
 clear hg
 have hsz : w.heap.size + 2 < w1.heap.size := Slot.lt hr
 go_upto_if 17 with fail
 generalize hW2 : World.alloc (World.alloc _ _) _ = W2
 have hb : Below w1.heap.size w1 W2 := by rw [← hW2]; exact ((Below.refl _ _).alloc (Nat.le_refl _) _).alloc (by simp) _
 have e0 : W2.cell? ⟨w1.heap.size, 0, none⟩ = some (.bool dq) := by rw [← hW2, Zg2 (by simp), cell_new rfl]; rfl
 have e1 : W2.cell? ⟨w1.heap.size, 1, none⟩ = some (.slice aq nq cq) := by rw [← hW2, Zg2 (by simp), cell_new rfl]; rfl
 have e2 : W2.cell? ⟨w1.heap.size + 1, 1, none⟩ = some (.slice ar 0 cr) := by rw [← hW2, cell_new (by simp)]; rfl
 clear hW2
 have hk := Zbr hk hb oM
 have hr := hr.below hb
 have H2 := Lib.hid (H1.out.below hb)
 have HBF := Lib.hid (now hB (Zgv hk (.bool dq) (.slice aq nq cq)) oM)
 obtain ⟨q0, q1, q2, q3, q4, q5⟩ := hr.two
 clear hb
 go_wp2
 exact bodyPost_ret (v := .tuple #[.agg #[.bool dq, .slice aq nq cq], .int .i64 0]) (by simp [results, Tryz.results131, go_sem, q4, q5]) rfl
  (.mk rfl HBF.out ⟨_, rfl, H2.out.far hr (Zay _ _ _ _) Zas⟩)
end Hp
