/- What the program's greatest common divisor of two lists of digits computes; lists are not longer than 2^43. -/
import Derived.Test.YtmcfohngblbpbaaBigZ
namespace Hp
open Go Go.RowKit Go.Proofs

/-- the greatest common divisor of two numbers that are not negative -/
def gcdZ (a b : Int) : Int := (Nat.gcd a.natAbs b.natAbs : Nat)
theorem gcdZ_zero {a : Int} (h : 0 ≤ a) : gcdZ a 0 = a := by unfold gcdZ; simp; omega
theorem gcdZ_step {a b : Int} (ha : 0 ≤ a) (hb : 0 < b) : gcdZ b (a % b) = gcdZ a b := by
  unfold gcdZ
  obtain ⟨x, rfl⟩ := Int.eq_ofNat_of_zero_le ha
  obtain ⟨y, rfl⟩ := Int.eq_ofNat_of_zero_le (Int.le_of_lt hb)
  have e : ((x : Int) % (y : Int)).natAbs = x % y := by rw [← Int.natCast_emod]; rfl
  rw [e]
  simp only [Int.natAbs_natCast]
  rw [Nat.gcd_comm y, ← Nat.gcd_rec, Nat.gcd_comm]
theorem gcdZ_mod {a b q r : Int} (ha : 0 ≤ a) (hr : 0 ≤ r) (hrb : r < b) (h : q * b + r = a) : gcdZ b r = gcdZ a b := by
  have hb : 0 < b := by omega
  have e : a % b = r := by rw [← h, Int.add_comm, Int.add_mul_emod_self_right, Int.emod_eq_of_lt hr hrb]
  rw [← gcdZ_step ha hb, e]
def CanonR (x : Int) (w' : World) (u : Value) : Prop := ∃ n f, Dg w' u n f ∧ Canon f n ∧ n ≤ L ∧ val f n = x

set_option maxRecDepth 100000 in
set_option maxHeartbeats 4000000 in
theorem common_c {w : World} {va vb : Value} {n m : Nat} {f g : Nat → Int} (ha : Dg w va n f) (hb : Dg w vb m g) (cf : Canon f n) (cg : Canon g m) (hn : n ≤ L / 2) (hm : m ≤ L / 2) :
    Calls Try.prog 85 #[va, vb] w (Ret w (CanonR (gcdZ (val f n) (val g m)))) := by
  have HA := Lib.hid (And.intro ha (And.intro hb (And.intro cf (And.intro cg (And.intro hn hm)))))
  clear cf cg hn hm
  generalize hG : gcdZ (val f n) (val g m) = G
  have HG := Lib.hid hG
  clear hG
  have HV := Lib.hid (val_nonneg hb.dig)
  clear ha hb
  go_enter Try.func85, Try.ntmps85
  go_wp2_with fail
  go_loopg [0, 1] (val g m).toNat (fun q s0 s1 wr => Hid (∃ (n m : Nat) (f g : Nat → Int), Dg wr s0 n f ∧ Dg wr s1 m g ∧ Canon f n ∧ Canon g m ∧ n ≤ L / 2 ∧ m ≤ L / 2 ∧ gcdZ (val f n) (val g m) = G ∧ q = (val g m).toNat) ∧ Hid (Below w.heap.size w wr))
  case atStart => exact ⟨⟨n, m, f, g, HA.out.1, HA.out.2.1, HA.out.2.2.1, HA.out.2.2.2.1, HA.out.2.2.2.2.1, HA.out.2.2.2.2.2, HG.out, rfl⟩, Below.refl _ _⟩
  case round =>
    obtain ⟨hR, HB⟩ := hrel
    clear HA HG HV
    obtain ⟨n, m, f, g, ha, hb, cf, cg, hn, hm, hG, rfl⟩ := hR.out
    clear hR
    have HA := Lib.hid ha
    have HBB := Lib.hid hb
    have HC := Lib.hid (And.intro cf (And.intro cg (And.intro hn hm)))
    have HG := Lib.hid hG
    have hn' : n ≤ 8796093022208 := hn
    have hm' : m ≤ 8796093022208 := hm
    obtain ⟨xa, ca, rfl, hca, -⟩ := ha
    obtain ⟨xb, cb, rfl, hcb, -⟩ := hb
    clear cf cg hn hm hG
    obtain ⟨wo, rfl⟩ : ∃ wo : World, wo = wr := ⟨_, rfl⟩
    by_cases hm0 : 0 < m
    · by_cases h2 : n ≤ 2 ∧ m ≤ 2
      · obtain ⟨hn2, hm2⟩ := h2
        have hnb : decide ((n : Int) ≤ 2) = true := by simp; omega
        have hmb : decide ((m : Int) ≤ 2) = true := by simp; omega
        go_wp2_with fail
        refine (word_c HA.out hn2).mono ?_
        rintro e w2 ⟨v2, rfl, hb2, rfl⟩
        have HB2 := Lib.hid (below_trans HB.out hb2)
        have HBB2 := Lib.hid (HBB.out.below hb2)
        clear hb2
        go_wp2_with fail
        refine (word_c HBB2.out hm2).mono ?_
        rintro e w3 ⟨v3, rfl, hb3, rfl⟩
        have HB3 := Lib.hid (below_trans HB2.out hb3)
        have HX := Lib.hid (val_lt_64 HA.out.dig hn2)
        have HY := Lib.hid (val_lt_64 HBB.out.dig hm2)
        clear hb3 HB2 HBB2
        generalize val f n = x at *
        generalize val g m = y at *
        go_wp2_with fail
        go_loopw [5, 6] (fun s5 s6 wr => ∃ a b : Int, s5 = .int .u64 a ∧ s6 = .int .u64 b ∧ 0 ≤ a ∧ a < 18446744073709551616 ∧ 0 ≤ b ∧ b < 18446744073709551616 ∧ Hid (gcdZ a b = G) ∧ Hid (Below w.heap.size w wr))
          (fun _ s6 _ => (intOf s6).toNat)
        case atStart => exact ⟨_, _, rfl, rfl, HX.out.1, HX.out.2, HY.out.1, HY.out.2, HG, HB3⟩
        case round =>
          obtain ⟨a, b, rfl, rfl, a0, a1, b0, b1, HGG, HBW⟩ := hrel
          by_cases hb0 : b = 0
          · have HZ := Lib.hid hb0
            have hbn : (b != 0) = false := by simp [hb0]
            clear hb0
            go_wp2_with fail
            refine (wide_c _ _ a0 a1).mono ?_
            rintro e w4 ⟨v4, rfl, hb4, h4⟩
            have HB4 := Lib.hid (below_trans HBW.out hb4)
            have H4 := Lib.hid h4
            clear hb4 h4
            go_wp2
            go_ret
            obtain ⟨k, q, d1, d2, d3, d4⟩ := H4.out
            refine .mk rfl HB4.out ⟨k, q, d1, d3, by unfold L; omega, ?_⟩
            rw [d4, ← HGG.out, HZ.out]; exact (gcdZ_zero a0).symm
          · have hbn : (b != 0) = true := by simp [hb0]
            have hbe : (b == 0) = false := by simp [hb0]
            have bp : 0 < b := by omega
            have r0 := Int.emod_nonneg a (b := b) (by omega)
            have r1 := Int.emod_lt_of_pos a bp
            have e2 := wrap_u64_of r0 (Int.lt_trans r1 b1)
            have t2 : a.tmod b = a % b := Int.tmod_eq_emod_of_nonneg a0
            go_wp2_with fail
            go_quiet (fail)
            clear e2 t2
            go_wp2
            go_roundw
            case rel => first | exact ⟨_, _, rfl, rfl, b0, b1, r0, Int.lt_trans r1 b1, (gcdZ_step a0 bp).trans HGG.out, HBW.out.trans ⟨rfl, rfl, rfl, Nat.le_refl _, fun _ _ => rfl⟩⟩ | ((repeat apply Exists.intro); exact ⟨⟨_, _, rfl, rfl, b0, b1, r0, Int.lt_trans r1 b1, (gcdZ_step a0 bp).trans HGG.out, HBW.out.trans ⟨rfl, rfl, rfl, Nat.le_refl _, fun _ _ => rfl⟩⟩, rfl⟩)
            case measure => simp [intOf]; omega
      · have key : (decide ((n : Int) ≤ 2) = true ∧ decide ((m : Int) ≤ 2) = false) ∨ decide ((n : Int) ≤ 2) = false := by
          by_cases hn2 : n ≤ 2
          · left; constructor <;> simp <;> omega
          · right; simp; omega
        clear h2
        rcases key with ⟨k1, k2⟩ | k1
        all_goals
          go_wp2_with fail
          refine (divide_c HA.out HBB.out HC.out.1 HC.out.2.1 HC.out.2.2.1 HC.out.2.2.2 hm0).mono ?_
          rintro e w2 ⟨v2, rfl, hb2, sq, sr, nq, nr, q, r, rfl, d1, d2, d3, d4, d5, d6, d7, d8⟩
          have HB2 := Lib.hid (below_trans HB.out hb2)
          have HBB2 := Lib.hid (HBB.out.below hb2)
          have HR : Hid (Dg w2 sr nr r ∧ Canon r nr ∧ nr ≤ L / 2 ∧ gcdZ (val g m) (val r nr) = G ∧ val r nr < val g m) :=
            ⟨d2, d4, Nat.le_trans (canon_len d2.dig HBB.out.dig d4 (Int.le_of_lt d8)) HC.out.2.2.2, (gcdZ_mod (val_nonneg HA.out.dig) (val_nonneg d2.dig) d8 d7).trans HG.out, d8⟩
          clear hb2 d1 d2 d3 d4 d5 d6 d7 d8
          go_wp2
          go_roundg (val r nr).toNat
          case measure => have h1 := HR.out.2.2.2.2; have h2 := val_nonneg HR.out.1.dig; omega
          case rel => exact ⟨⟨m, nr, g, r, HBB2.out, HR.out.1, HC.out.2.1, HR.out.2.1, HC.out.2.2.2, HR.out.2.2.1, HR.out.2.2.2.1, rfl⟩, HB2.out⟩
    · obtain rfl : m = 0 := by omega
      have HE : Hid (val f n = G) := by
        have := HG.out
        simp only [val] at this
        rw [gcdZ_zero (val_nonneg HA.out.dig)] at this; exact this
      go_wp2_with fail
      refine (clone_c HA.out (by unfold L; omega)).mono ?_
      rintro e w2 ⟨v2, rfl, hb2, h2⟩
      have HB2 := Lib.hid (below_trans HB.out hb2)
      have H2 := Lib.hid h2
      clear hb2 h2
      go_wp2
      go_ret
      exact .mk rfl HB2.out ⟨n, f, H2.out, HC.out.1, by unfold L; omega, HE.out⟩
end Hp
