/- What the program's sum of integers is; conditions on lengths alone. Printed by a program, in part. -/
import Derived.Test.YtmcfohngblbpbaaIntB
namespace Hp
open Go Go.RowKit Go.Proofs

theorem zof_add_eq (a : Bool) (x y : Int) : zof a x + zof a y = zof a (x + y) := by cases a <;> simp [zof] <;> omega
theorem zof_add_ge {a b : Bool} (h : a ≠ b) (x y : Int) : zof a x + zof b y = zof a (x - y) := by cases a <;> cases b <;> simp [zof] at * <;> omega
theorem zof_add_lt {a b : Bool} (h : a ≠ b) (x y : Int) : zof a x + zof b y = zof b (y - x) := by cases a <;> cases b <;> simp [zof] at * <;> omega

set_option maxRecDepth 100000 in
set_option maxHeartbeats 4000000 in
theorem add_c {w : World} {u0 v1 : Value} {z0 : Int} {K0 m : Nat} {g : Nat → Int} (neg : Bool) (h0 : IntR w u0 K0 z0) (hv1 : Dg w v1 m g) (cg : Canon g m) (hk0 : K0 ≤ 8796093022208) (hm : m ≤ 8796093022208) :
    Calls Try.prog 96 #[u0, .bool neg, v1] w (Ret w (SignedR (z0 + zof neg (val g m)))) := by
  obtain ⟨ng0, s0, n0, f0, rfl, hd0, hn0, hz0⟩ := h0
  have HD0 := Lib.hid hd0
  have HN0 := Lib.hid hn0
  have HZ0 := Lib.hid hz0
  clear hd0 hn0 hz0
  have HV := Lib.hid (And.intro hv1 cg)
  clear hv1 cg
  obtain ⟨zz, hzz⟩ : ∃ zz, zz = z0 + zof neg (val g m) := ⟨_, rfl⟩
  rw [← hzz]
  have HZZ := Lib.hid hzz
  clear hzz
  go_enter Try.func96, Try.ntmps96
  go_wp2_with fail
  generalize hW0 : World.alloc _ _ = W0
  have hsize : W0.heap.size = w.heap.size + 2 := by rw [← hW0]; simp
  have hB : Hid (Below w.heap.size w W0) := by
    rw [← hW0]
    exact ((Below.refl _ _).alloc (by (try simp only [World.size_alloc]); omega) _).alloc (by (try simp only [World.size_alloc]); omega) _
  have hc00 : ∀ W, Hid (Below (w.heap.size + 1) W0 W) → W.cell? ⟨w.heap.size, 0, none⟩ = some (Value.bool ng0) := fun W h => (h.out.cell (p := ⟨_, _, _⟩) (by simp)).trans (by rw [← hW0]; (repeat rw [cell_old (by simp only [World.size_alloc]; omega)]); rw [cell_new (by (try simp only [World.size_alloc]))]; rfl)
  have hc01 : ∀ W, Hid (Below (w.heap.size + 1) W0 W) → W.cell? ⟨w.heap.size, 1, none⟩ = some s0 := fun W h => (h.out.cell (p := ⟨_, _, _⟩) (by simp)).trans (by rw [← hW0]; (repeat rw [cell_old (by simp only [World.size_alloc]; omega)]); rw [cell_new (by (try simp only [World.size_alloc]))]; rfl)
  have hr : Slot2 W0 (w.heap.size + 1) (Value.bool false) (Value.slice none 0 0) := by rw [← hW0]; exact ⟨35, by (repeat rw [heap_old (by simp only [World.size_alloc]; omega)]); rw [heap_new (by (try simp only [World.size_alloc]))]⟩
  clear hW0
  have hk := Lib.hid (Below.refl (w.heap.size + 1) W0)
  refine (trimmed_c (HD0.out.below hB.out) (by have := HN0.out; unfold L; omega)).mono ?_
  rintro e w' ⟨u, rfl, rfl, a0, cap0, k0, hv, rfl, hkk, hcap, hc, hx⟩
  have HP : Hid (∀ W, Below w.heap.size w W → Dg W (.slice a0 k0 cap0) k0 f0) := fun W hb => (HD0.out.below hb).front hv hkk
  have HX : Hid (z0 = zof ng0 (val f0 k0) ∧ Canon f0 k0 ∧ k0 ≤ 8796093022208) := ⟨by rw [hx]; exact HZ0.out, hc, Nat.le_trans hkk (Nat.le_trans HN0.out hk0)⟩
  clear hv hkk hcap hc hx
  have HX0 := HX
  by_cases hs : ng0 = neg
  · subst hs
    go_wp2_with fail
    refine (plus_c (HP.out _ hB.out) (HV.out.1.below hB.out) (by have := HX.out.2.2; unfold L; omega) (by unfold L; omega)).mono ?_
    rintro e w2 ⟨v2, rfl, hb, kk, hh, d1, d2, d3⟩
    have hk := kstep hk hb (by omega)
    have hr := hr.below hb
    have H1 := Lib.hid (And.intro d1 (And.intro d2 d3))
    clear hb d1 d2 d3
    go_wp2_with fail
    refine (signed_c ng0 H1.out.1 (by have := HX.out.2.2; have := H1.out.2.1; unfold L; omega)).mono ?_
    rintro e w3 ⟨v3, rfl, hb, h3⟩
    have hk := kstep hk hb (by omega)
    have hr := hr.below hb
    have H2 : Hid (IntC w3 v3 zz) := by
      rw [HZZ.out, HX.out.1, zof_add_eq, ← H1.out.2.2]; exact h3
    clear hb h3
    obtain ⟨a', n', cap', rfl⟩ := H2.out.agg
    obtain ⟨q0, q1, q2, q3, q4, q5⟩ := hr.two
    have HBF := Lib.hid (now hB (kset2 hk (.bool (decide (zz < 0))) (.slice a' n' cap')) (by omega))
    clear HX
    generalize hg : decide (zz < 0) = dd at *
    have HGG := Lib.hid hg
    clear hg
    go_wp2
    exact bodyPost_ret (v := .agg #[.bool dd, .slice a' n' cap']) (by simp [results, Try.results96, go_sem, q4, q5]) rfl
      (.mk rfl HBF.out (H2.out.far hr (noDigInt _ _ _ _) far_set2))
  · have hsb : (ng0 == neg) = false := by simp [hs]
    have HS := Lib.hid hs
    clear hs
    go_wp2_with fail
    refine (compare_c (HP.out _ hB.out) (HV.out.1.below hB.out) (by have := HX.out.2.2; unfold L; omega) (by unfold L; omega) HX.out.2.1 HV.out.2).mono ?_
    rintro e w2 ⟨v2, rfl, hb, rfl⟩
    have hk := kstep hk hb (by omega)
    have hr := hr.below hb
    clear hb
    by_cases hge : val g m ≤ val f0 k0
    · have hcz : 0 ≤ cmpZ (val f0 k0) (val g m) := by unfold cmpZ; rw [if_neg (by omega)]; split <;> omega
      generalize cmpZ (val f0 k0) (val g m) = cz at *
      have HGE : Hid (val g m ≤ val f0 k0 ∧ m ≤ k0) := ⟨hge, canon_len HV.out.1.dig (HP.out _ (Below.refl _ _)).dig HV.out.2 hge⟩
      clear hge
      go_wp2_with fail
      have hr := hr.drew
      have hs := kstep hk ((Below.refl w2.heap.size w2).drew) (by omega)
      go_region_held3 (fun W => Hid (Below (w.heap.size + 1) W0 W)) (first | assumption | (exact kset2 (by assumption) _ _) | (exact kstep (by assumption) hb (by omega)))
        (first
          | (go_at_call 107; (with_reducible refine (less_c (HP.out _ (now hB (by assumption) (by omega))) (HV.out.1.below (now hB (by assumption) (by omega))) ?_ HGE.out.2 HGE.out.1).mono ?_); (have := HX.out.2.2; unfold L; omega); rintro e w3 ⟨v3, rfl, hb, hh, h1, h2⟩; have hr := hr.below hb; have H1 := Lib.hid (And.intro h1 h2); clear h1 h2)
          | (go_at_call 82; (with_reducible refine (signed_c ng0 H1.out.1 ?_).mono ?_); (have := HX.out.2.2; unfold L; omega); rintro e w9 ⟨v9, rfl, hb, h9⟩; have hr := hr.below hb; have H2 : Hid (IntC w9 v9 zz) := (by rw [HZZ.out, HX.out.1, zof_add_ge HS.out, ← H1.out.2]; exact h9); clear h9; obtain ⟨a', n', cap', rfl⟩ := H2.out.agg; obtain ⟨q0, q1, q2, q3, q4, q5⟩ := hr.two))
      have HBF := Lib.hid (now hB (by assumption) (by omega) : Below w.heap.size w ((w9.setCell ⟨w.heap.size + 1, 0, none⟩ (.bool (decide (zz < 0)))).setCell ⟨w.heap.size + 1, 1, none⟩ (.slice a' n' cap')))
      clear HX
      generalize hg : decide (zz < 0) = dd at *
      have HGG := Lib.hid hg
      clear hg
      go_wp2
      exact bodyPost_ret (v := .agg #[.bool dd, .slice a' n' cap']) (by simp [results, Try.results96, go_sem, q4, q5]) rfl
        (.mk rfl HBF.out (H2.out.far hr (noDigInt _ _ _ _) far_set2))
    · have hcz : cmpZ (val f0 k0) (val g m) < 0 := by rw [cmpZ_lt (by omega)]; omega
      generalize cmpZ (val f0 k0) (val g m) = cz at *
      have HGE : Hid (val f0 k0 ≤ val g m ∧ k0 ≤ m) := ⟨by omega, canon_len (HP.out _ (Below.refl _ _)).dig HV.out.1.dig HX.out.2.1 (by omega)⟩
      clear hge
      go_wp2_with fail
      refine (less_c (HV.out.1.below (now hB hk (by omega))) (HP.out _ (now hB hk (by omega))) (by unfold L; omega) HGE.out.2 HGE.out.1).mono ?_
      rintro e w3 ⟨v3, rfl, hb, hh, h1, h2⟩
      have hk := kstep hk hb (by omega)
      have hr := hr.below hb
      have H1 := Lib.hid (And.intro h1 h2)
      clear hb h1 h2
      go_wp2_with fail
      refine (signed_c neg H1.out.1 (by unfold L; omega)).mono ?_
      rintro e w4 ⟨v4, rfl, hb, h3⟩
      have hk := kstep hk hb (by omega)
      have hr := hr.below hb
      have H2 : Hid (IntC w4 v4 zz) := by
        rw [HZZ.out, HX.out.1, zof_add_lt HS.out, ← H1.out.2]; exact h3
      clear hb h3
      obtain ⟨a', n', cap', rfl⟩ := H2.out.agg
      obtain ⟨q0, q1, q2, q3, q4, q5⟩ := hr.two
      have HBF := Lib.hid (now hB (kset2 hk (.bool (decide (zz < 0))) (.slice a' n' cap')) (by omega))
      clear HX
      generalize hg : decide (zz < 0) = dd at *
      have HGG := Lib.hid hg
      clear hg
      go_wp2
      exact bodyPost_ret (v := .agg #[.bool dd, .slice a' n' cap']) (by simp [results, Try.results96, go_sem, q4, q5]) rfl
        (.mk rfl HBF.out (H2.out.far hr (noDigInt _ _ _ _) far_set2))
end Hp
