/- What the program's division of lists of digits computes: quotient and remainder; lists are not longer than 2^43. -/
import Derived.Test.YtmcfohngblbpbaaBigY
namespace Hp
open Go Go.RowKit Go.Proofs

theorem unhid {B : Nat} {w W : World} (h : Hid (Below B w W)) : Below B w W := h
set_option maxRecDepth 100000 in
set_option maxHeartbeats 4000000 in
theorem divide_g {w : World} {va vb : Value} {p c : Nat} {f g : Nat → Int} (ha : Dg w va (p + 2 + c) f) (hb : Dg w vb (p + 2) g) (cf : Canon f (p + 2 + c)) (cg : Canon g (p + 2)) (hn2 : 2 < p + 2 + c) (hn : p + 2 + c ≤ L / 2) (hle : val g (p + 2) ≤ val f (p + 2 + c)) :
    Calls Try.prog 105 #[va, vb] w (Ret w (DivideR (p + 2 + c) (p + 2) f g)) := by
  have HA := Lib.hid ha
  have HB := Lib.hid hb
  have HC := Lib.hid (And.intro cf cg)
  have HN : Hid (p + 2 + c ≤ L ∧ p + 2 ≤ L) := ⟨by unfold L at *; omega, by unfold L at *; omega⟩
  have HL := Lib.hid hle
  have hnb : decide ((p : Int) + 2 + (c : Int) ≤ 2) = false := by simp; omega
  have hnb' : decide (((p + 2 + c : Nat) : Int) ≤ 2) = false := by simp; omega
  have hm1 : ((p : Int) + 2 == 1) = false := by simp; omega
  have hn' : p + 2 + c ≤ 8796093022208 := hn
  obtain ⟨xa, ca, rfl, hca, -⟩ := ha
  obtain ⟨xb, cb, rfl, hcb, hdb⟩ := hb
  rcases hdb with hdb | ⟨b, off, rfl, hdb⟩
  · omega
  obtain ⟨gt, hgt⟩ : ∃ x, x = g (p + 1) := ⟨_, rfl⟩
  have HQ : Hid (∀ W, Below w.heap.size w W → W.cell? ⟨b, off + (p + 1), none⟩ = some (.int .u32 gt)) := fun W h => by rw [hgt]; exact (hdb.below h).cell (p + 1) (by omega)
  have gt0 : 0 ≤ gt := by rw [hgt]; exact (hdb.dig (p + 1) (by omega)).1
  have gt1 : gt < 4294967296 := by rw [hgt]; exact (hdb.dig (p + 1) (by omega)).2
  have gtn : gt ≠ 0 := by
    rw [hgt]
    rcases cg with h | h
    · omega
    · exact h
  have HGT := Lib.hid hgt
  clear hgt hdb cf cg hle
  obtain ⟨s, hs1, hs2, hs3, hs4⟩ := lz_spec gt.toNat (by omega) (by omega)
  have HS : Hid (s ≤ 31 ∧ 2147483648 ≤ gt * 2 ^ s ∧ gt * 2 ^ s < 4294967296) := by
    have e : (gt.toNat : Int) = gt := Int.toNat_of_nonneg gt0
    have e2 : ((gt.toNat * 2 ^ s : Nat) : Int) = gt * 2 ^ s := by simp [e]
    exact ⟨hs2, by omega, by omega⟩
  have HS1 := Lib.hid hs1
  clear hs1 hs3 hs4
  go_enter Try.func105, Try.ntmps105
  go_wp2_with fail
  refine (compare_c HA.out HB.out HN.out.1 HN.out.2 HC.out.1 HC.out.2).mono ?_
  rintro e w1 ⟨v1, rfl, hb1, rfl⟩
  have hcz : 0 ≤ cmpZ (val f (p + 2 + c)) (val g (p + 2)) := by
    have := HL.out
    unfold cmpZ; rw [if_neg (by omega)]; split <;> omega
  generalize cmpZ (val f (p + 2 + c)) (val g (p + 2)) = cz at *
  have HB1 := Lib.hid hb1
  clear hb1
  have q1 := HQ.out _ HB1.out
  go_wp2_with fail
  refine (lz32_lib gt _ gt0 (by omega)).mono ?_
  rintro e w' ⟨rfl, rfl⟩
  rw [HS1.out]
  clear gtn
  go_wp2_with fail
  refine (shifted_c (HA.out.below HB1.out) HN.out.1 hs2).mono ?_
  rintro e w2 ⟨v2, rfl, hb2, bu, hu, rfl, a1, a2, a3, a4, a5⟩
  have HB2 := Lib.hid (below_trans HB1.out hb2)
  have HU := Lib.hid (And.intro a1 (And.intro a2 (And.intro (Nat.le_trans HB1.out.size a3) (And.intro a4 a5))))
  clear hb2 HB1 q1 a1 a2 a3 a4 a5
  go_wp2_with fail
  refine (shifted_c (HB.out.below HB2.out) HN.out.2 hs2).mono ?_
  rintro e w3 ⟨v3, rfl, hb3, bv, hv, rfl, a1, a2, a3, a4, a5⟩
  have HB3 := Lib.hid (below_trans HB2.out hb3)
  have HU3 := Lib.hid (HU.out.1.below HU.out.2.2.2.1 hb3)
  have HV := Lib.hid (And.intro a1 (And.intro a2 (And.intro a3 (And.intro a4 a5))))
  have HBL := Lib.hid (Nat.lt_of_lt_of_le HU.out.2.2.2.1 hb3.size)
  clear hb3 HB2 a1 a2 a3 a4 a5
  go_wp2_with fail
  refine (trimmed_c (HV.out.1.dg HV.out.2.1 (Nat.le_refl _)) (by unfold L; omega)).mono ?_
  rintro e w' ⟨v4, rfl, rfl, a, cap, k, hq, rfl, hk, hcap, hc, hx⟩
  injection hq with hq1 _ hq2
  subst hq1 hq2
  obtain ⟨rfl, htop, hvhi, hvlo⟩ := divisor_len (m := p + 1) (s := s) HB.out.dig (fun i hi => HV.out.2.1 i (by omega)) hc (by have := HS.out.2.1; rw [HGT.out] at this; exact this) (by have := HS.out.2.2; rw [HGT.out] at this; exact this) (hx.trans HV.out.2.2.2.2)
  have HVB : Hid (B ≤ 2 * hv (p + 1) ∧ val hv (p + 2) = val g (p + 2) * 2 ^ s ∧ val g (p + 2) * 2 ^ s < pw (p + 2) ∧ 2147483648 * pw (p + 1) ≤ val g (p + 2) * 2 ^ s ∧ Digs hv (p + 2)) :=
    ⟨htop, hx.trans HV.out.2.2.2.2, hvhi, hvlo, fun i hi => HV.out.2.1 i (by omega)⟩
  have HVD : Hid (DgAt w3 bv 0 (p + 2) hv) := ⟨fun i hi => by rw [Nat.zero_add]; exact HV.out.1.cell i (by omega), HVB.out.2.2.2.2⟩
  clear hc hx htop hvhi hvlo hk hcap
  have hmk := mk_u32 (c + 1) (by unfold L; omega) w3
  rw [show ((c + 1 : Nat) : Int) = (p : Int) + 2 + (c : Int) + 1 - ((p : Int) + 1 + 1) from by omega] at hmk
  have HST : Hid (DivI (val f (p + 2 + c) * 2 ^ s) (val hv (p + 2)) c (p + 2) (c + 1) (fun _ => 0) hu) := by
    obtain ⟨p0, p1⟩ := two_pow_le s hs2
    refine divI_start HU.out.2.1 HU.out.2.2.2.2 ?_ ?_
    · have h1 := val_lt HA.out.dig
      have h2 : val f (p + 2 + c) * 2 ^ s < pw (p + 2 + c) * 2 ^ s := Int.mul_lt_mul_of_pos_right h1 (by omega)
      have h3 : pw (p + 2 + c) * 2 ^ s ≤ pw (p + 2 + c) * 2147483648 := Int.mul_le_mul_of_nonneg_left p1 (by have := pw_pos (p + 2 + c); omega)
      omega
    · rw [HVB.out.2.1]
      have h1 := HVB.out.2.2.2.1
      have e : pw (p + 2) = pw (p + 1) * B := rfl
      rw [e]
      have h2 : (2147483648 * pw (p + 1)) * B ≤ (val g (p + 2) * 2 ^ s) * B := Int.mul_le_mul_of_nonneg_right h1 (by have := B_pos; omega)
      rw [← Int.mul_assoc]; exact h2
  have HBV := HV.out.2.2.1
  have HLV := HV.out.2.2.2.1
  have HBU := HU.out.2.2.1
  have hbl := HBL.out
  have hbu2 : bu < w2.heap.size := HU.out.2.2.2.1
  have hvu : bv ≠ bu := by omega
  have huv := Lib.hid hvu
  clear hvu
  go_wp2_with fail
  clear hmk
  go_loopw [14] (fun si wr => ∃ (k : Nat) (hq h' : Nat → Int), si = .int .i64 ((k : Int) - 1) ∧ k ≤ c + 1 ∧ Hid (Own wr w3.heap.size (c + 1) hq) ∧ Hid (Own wr bu (p + 2 + c + 1) h') ∧ Hid (DgAt wr bv 0 (p + 2) hv) ∧
      Hid (DivI (val f (p + 2 + c) * 2 ^ s) (val hv (p + 2)) c (p + 2) k hq h') ∧ Hid (Below w.heap.size w wr) ∧ Hid (w3.heap.size < wr.heap.size))
    (fun si _ => (intOf si + 1).toNat)
  case atStart => exact ⟨c + 1, _, hu, by go_num, Nat.le_refl _, Own.made w3 _ _, HU3.out.below HBL.out (below_new _), HVD.out.below (below_new _), HST, HB3.out.alloc HB3.out.size _, by simp [Hid]⟩
  case round =>
    obtain ⟨k, hq, h', rfl, hk, HOQ, HOU, HDV, HDI, HBW, HSZ⟩ := hrel
    by_cases h0 : 0 < k
    · obtain ⟨j, rfl⟩ : ∃ j, k = j + 1 := ⟨k - 1, by omega⟩
      rw [show (((j + 1 : Nat) : Int) - 1) = (j : Int) from by omega]
      have hown := HOQ.out.cell j (by omega)
      have hfree := HOQ.out.free j
      have hcj : p + 2 + c + 1 ≠ j := by omega
      go_wp2_with fail
      rw [show j + (p + 1 + 1) + 1 - j = p + 3 from by omega]
      have hpre := divI_pre (show j ≤ c by omega) HDI.out
      refine (digit_c (w := wr) (bu := bu) (ou := j) (N := p + 2 + c + 1) (bv := bv) (ov := 0) (m := p) (h := h') (g := hv) HOU.out (by omega) HDI.out.ud (by omega) HDV.out (by omega) huv.out (by unfold L; omega)
        (World.block_lt_of_cell? _ _ (HOU.out.cell 0 (by omega))) HVB.out.1 hpre).mono ?_
      rintro e w4 ⟨d, h2, rfl, hg4, ho4, hd4, hdd, hsame, heq, hlt⟩
      have HN := Lib.hid (divI_step (show j ≤ c by omega) (by rw [HVB.out.2.1]; exact HVB.out.2.2.1) HDI.out hd4 hdd hsame heq hlt)
      have HOQ4 := Lib.hid (HOQ.out.keep (hg4.block _ HSZ.out (by simp; omega)))
      have HO4 := Lib.hid ho4
      have HDV4 := Lib.hid (HDV.out.grown hg4 huv.out)
      have HB4 := Lib.hid (HBW.out.grown hg4 HBW.out.size (fun k e => by simp at e; omega))
      have HS4 := Lib.hid (Nat.lt_of_lt_of_le HSZ.out hg4.size)
      have hown4 := HOQ4.out.cell j (by omega)
      have hfree4 := HOQ4.out.free j
      clear hown hfree hpre hg4 ho4 hd4 hdd hsame heq hlt HOQ HOU HDV HDI HBW HSZ
      go_wp2
      go_roundw
      case rel =>
        refine ⟨j, _, h2, rfl, by omega, HOQ4.out.set (by omega) _, HO4.out.keep (far_set _ (by omega)), ⟨fun i hi => ?_, HDV4.out.dig⟩, HN.out, HB4.out.setCell (by show w.heap.size ≤ w3.heap.size; exact HB3.out.size) _, by simpa [Hid] using HS4.out⟩
        rw [World.cell?_setCell_other _ _ _ _ (by intro e; injection e with e _; omega)]
        exact HDV4.out.cell i hi
      case measure => first | (simp [intOf]; done) | (simp [intOf]; omega)
    · obtain rfl : k = 0 := by omega
      have hcp : ((p : Int) + 1 + 1) ≤ (p : Int) + 2 + (c : Int) + 1 := by omega
      have hcp0 : (0 : Int) ≤ (p : Int) + 1 + 1 := by omega
      have hcp1 : (p : Int) + 1 ≤ (p : Int) + 2 + (c : Int) := by omega
      have hcp2 : 1 ≤ 2 + (c : Int) := by omega
      have hcp3 : 1 + 1 ≤ 2 + (c : Int) + 1 := by omega
      have esh : sh h' 0 = h' := by funext i; simp [sh]
      have HQD := Lib.hid (HOQ.out.dg HDI.out.qd (Nat.le_refl _))
      have HRD : Hid (Dg wr (.slice (some ⟨bu, 0, none⟩) (p + 1 + 1) (p + 2 + c + 1)) (p + 1 + 1) h') := (HOU.out.dg HDI.out.ud (Nat.le_refl _)).take (by omega)
      have HEQ : Hid (val hq (c + 1) * val hv (p + 2) + val h' (p + 2) = val f (p + 2 + c) * 2 ^ s ∧ val h' (p + 2) < val hv (p + 2)) := by
        have h1 := HDI.out.eq
        have h2 := HDI.out.lt
        rw [esh] at h1 h2
        have e0 : val h' 0 + pw 0 * val h' (p + 2) = val h' (p + 2) := by simp [val, pw]
        rw [e0] at h1
        exact ⟨h1, h2⟩
      clear esh
      go_wp2_with fail
      have hk := Lib.hid ((Below.refl wr.heap.size wr).drew)
      go_region_held3 (fun W => Hid (Below wr.heap.size wr W)) (first | assumption | exact kstep (by assumption) hb (Nat.le_refl _))
        (first
          | (go_at_call 86; (with_reducible refine (trimmed_c (HQD.out.below ?_) ?_).mono ?_); (exact unhid (by assumption)); (unfold L; omega); rintro e w' ⟨v5, rfl, rfl, h5⟩; have H5 := Lib.hid h5; clear h5)
          | (go_at_call 118; refine (unshifted_c (HRD.out.below ?_) ?_ hs2).mono ?_; (exact unhid (by assumption)); (unfold L; omega); rintro e w6 ⟨v6, rfl, hb, r, h6, h7⟩; have H6 := Lib.hid (And.intro h6 h7); clear h6 h7)
          | (go_at_call 86; refine (trimmed_c H6.out.1 ?_).mono ?_; (unfold L; omega); rintro e w' ⟨v7, rfl, rfl, h8⟩; have H8 := Lib.hid h8; clear h8))
      have HBF : Hid (Below wr.heap.size wr w6) := by assumption
      clear hk
      go_wp2
      go_ret2
      obtain ⟨kq, a1, a2, a3, a4⟩ := H5.out.dg (HQD.out.below HBF.out)
      obtain ⟨kr, b1, b2, b3, b4⟩ := H8.out.dg H6.out.1
      have hR : (p + 1 + 1) = p + 2 := rfl
      have hfin := div_end (F := val f (p + 2 + c)) (G := val g (p + 2)) (r := val r (p + 2)) (s := s) rfl HVB.out.2.1 HEQ.out.1 H6.out.2 (val_nonneg (fun i hi => HDI.out.ud i (by omega))) HEQ.out.2
      exact .mk rfl (below_trans HBW.out HBF.out) ⟨_, _, kq, kr, hq, r, rfl, a1, b1, a3, b3, by omega, by omega, by rw [a4, b4]; exact hfin.1, by rw [b4]; exact hfin.2.2⟩

/-- quotient and remainder of any two lists without leading zeros, the second one not empty -/
theorem divide_c {w : World} {va vb : Value} {n m : Nat} {f g : Nat → Int} (ha : Dg w va n f) (hb : Dg w vb m g) (cf : Canon f n) (cg : Canon g m) (hn : n ≤ L / 2) (hm : m ≤ L / 2) (hm0 : 0 < m) :
    Calls Try.prog 105 #[va, vb] w (Ret w (DivideR n m f g)) := by
  by_cases hlt : val f n < val g m
  · exact divide_a ha hb cf cg hn hm hlt
  have hle : val g m ≤ val f n := by omega
  by_cases hn2 : n ≤ 2
  · exact divide_b ha hb cf cg hn2 hm0 hle
  have hmn := canon_len hb.dig ha.dig cg hle
  by_cases hm1 : m = 1
  · subst hm1
    exact divide_s ha hb cf cg (by omega) (by unfold L at *; omega) hle
  obtain ⟨p, rfl⟩ : ∃ p, m = p + 2 := ⟨m - 2, by omega⟩
  obtain ⟨c, rfl⟩ : ∃ c, n = p + 2 + c := ⟨n - (p + 2), by omega⟩
  exact divide_g ha hb cf cg (by omega) hn hle
end Hp
