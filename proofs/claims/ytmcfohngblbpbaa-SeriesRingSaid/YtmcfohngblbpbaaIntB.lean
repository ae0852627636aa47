/- What the program's integers do: the sign, the integer of a machine integer; conditions on lengths alone. -/
import Derived.Test.YtmcfohngblbpbaaIntA
namespace Hp
open Go Go.RowKit Go.Proofs

theorem sgn_zof {neg : Bool} {f : Nat → Int} {k : Nat} (h : Digs f k) (hc : Canon f k) : sgn (zof neg (val f k)) = if k = 0 then 0 else if neg then -1 else 1 := by
  have h0 := val_nonneg h
  have h1 := canon_zero h hc
  by_cases hk : k = 0
  · rw [if_pos hk, h1.2 hk]; cases neg <;> rfl
  · rw [if_neg hk]
    have : val f k ≠ 0 := fun e => hk (h1.1 e)
    cases neg
    · simp only [zof]; unfold sgn; simp; omega
    · simp only [zof]; unfold sgn; simp; omega
set_option maxHeartbeats 2000000 in
theorem isign_c {w : World} {u0 : Value} {z0 : Int} {K0 : Nat} (h0 : IntR w u0 K0 z0) (hk0 : K0 ≤ 17592186044416) : Calls Try.prog 75 #[u0] w (Ret w (IsV (.int .i64 (sgn z0)))) := by
  obtain ⟨ng0, s0, n0, f0, rfl, hd0, hn0, hz0⟩ := h0
  have HD0 := Lib.hid hd0
  have HN0 := Lib.hid (Nat.le_trans hn0 hk0)
  have HZ0 := Lib.hid hz0
  clear hd0 hn0 hz0
  go_enter Try.func75, Try.ntmps75
  go_wp2_with fail
  refine (trimmed_c (HD0.out.below (below_new _)) HN0.out).mono ?_
  rintro e w' ⟨u, rfl, rfl, a, cap, k, hv, rfl, hk, hcap, hc, hx⟩
  have HS : Hid (sgn z0 = if k = 0 then 0 else if ng0 then -1 else 1) := by
    show sgn z0 = _
    rw [HZ0.out, ← hx]
    exact sgn_zof (fun i hi => HD0.out.dig i (by omega)) hc
  have hk' : k ≤ 17592186044416 := Nat.le_trans hk HN0.out
  clear hv hk hcap hc hx
  by_cases hk0 : k = 0
  · subst hk0
    go_wp2
    go_ret
    exact .mk rfl (below_new _) (by rw [HS.out]; rfl)
  · have hb : ((k : Int) == 0) = false := by simp; omega
    have HK := Lib.hid hk0
    clear hk0
    cases ng0
    · go_wp2
      go_ret
      exact .mk rfl (below_new _) (by rw [HS.out, if_neg HK.out]; rfl)
    · go_wp2
      go_ret
      exact .mk rfl (below_new _) (by rw [HS.out, if_neg HK.out]; rfl)

theorem u64_wrap (x : Int) : IntKind.u64.wrap x = x % 18446744073709551616 := by simp [IntKind.wrap, IntKind.bits, IntKind.signed]
set_option maxHeartbeats 2000000 in
theorem iof_c (x : Int) (w : World) (h0 : -9223372036854775808 ≤ x) (h1 : x ≤ 9223372036854775807) : Calls Try.prog 55 #[.int .i64 x] w (Ret w (SignedR x)) := by
  have hr : Slot2 (w.alloc (.cells #[.bool false, .slice none 0 0] 35)) w.heap.size (.bool false) (.slice none 0 0) := Slot2.new _ _ _ _
  by_cases hx : x < 0
  · have hd : decide (x < 0) = true := by simp [hx]
    have hw : IntKind.u64.wrap (-IntKind.u64.wrap x) = -x := by rw [u64_wrap, u64_wrap]; omega
    have HW := Lib.hid hw
    clear hw
    go_enter Try.func55, Try.ntmps55
    go_wp2_with fail
    rw [HW.out]
    refine (wide_c _ _ (by omega) (by omega)).mono ?_
    rintro e w1 ⟨v1, rfl, hb, n, f, d1, d2, d3, d4⟩
    have hr := hr.below hb
    have HB1 := Lib.hid ((below_new _).trans (hb.mono (by simp)) : Below w.heap.size w w1)
    have H1 := Lib.hid (And.intro d1 (And.intro d2 d4))
    clear hb d1 d2 d3 d4
    go_wp2_with fail
    refine (signed_c true H1.out.1 (by have := H1.out.2.1; unfold L; omega)).mono ?_
    rintro e w2 ⟨v2, rfl, hb, h2⟩
    have hr := hr.below hb
    have HB2 := Lib.hid (below_trans HB1.out hb)
    have H2 : Hid (IntC w2 v2 x) := by
      have e : zof true (val f n) = x := by simp only [zof]; rw [H1.out.2.2]; simp
      rw [e] at h2; exact h2
    clear hb h2
    obtain ⟨a', n', cap', rfl⟩ := H2.out.agg
    obtain ⟨q0, q1, q2, q3, q4, q5⟩ := hr.two
    clear hd
    generalize hg : decide (x < 0) = dd at *
    have HGG := Lib.hid hg
    clear hg
    go_wp2
    exact bodyPost_ret (v := .agg #[.bool dd, .slice a' n' cap']) (by simp [results, Try.results55, go_sem, q4, q5]) rfl
      (.mk rfl (kset2 HB2 _ _).out (H2.out.far hr (noDigInt _ _ _ _) far_set2))
  · have hd : decide (x < 0) = false := by simp; omega
    have hx0 : 0 ≤ x := by omega
    have hw : IntKind.u64.wrap x = x := by rw [u64_wrap]; omega
    go_enter Try.func55, Try.ntmps55
    go_wp2_with fail
    refine (wide_c _ _ (by omega) (by omega)).mono ?_
    rintro e w1 ⟨v1, rfl, hb, n, f, d1, d2, d3, d4⟩
    have hr := hr.below hb
    have HB1 := Lib.hid ((below_new _).trans (hb.mono (by simp)) : Below w.heap.size w w1)
    have H1 := Lib.hid (And.intro d1 (And.intro d2 d4))
    clear hb d1 d2 d3 d4
    go_wp2_with fail
    refine (signed_c false H1.out.1 (by have := H1.out.2.1; unfold L; omega)).mono ?_
    rintro e w2 ⟨v2, rfl, hb, h2⟩
    have hr := hr.below hb
    have HB2 := Lib.hid (below_trans HB1.out hb)
    have H2 : Hid (IntC w2 v2 x) := by
      have e : zof false (val f n) = x := by simp only [zof]; rw [H1.out.2.2]; simp
      rw [e] at h2; exact h2
    clear hb h2
    obtain ⟨a', n', cap', rfl⟩ := H2.out.agg
    obtain ⟨q0, q1, q2, q3, q4, q5⟩ := hr.two
    clear hd
    generalize hg : decide (x < 0) = dd at *
    have HGG := Lib.hid hg
    clear hg
    go_wp2
    exact bodyPost_ret (v := .agg #[.bool dd, .slice a' n' cap']) (by simp [results, Try.results55, go_sem, q4, q5]) rfl
      (.mk rfl (kset2 HB2 _ _).out (H2.out.far hr (noDigInt _ _ _ _) far_set2))
end Hp
