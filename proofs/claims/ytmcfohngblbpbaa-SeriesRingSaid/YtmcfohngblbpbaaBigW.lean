/- What the program's step of the division of lists of digits computes: one digit of the quotient, the remainder left in place; lists are not longer than 2^44. -/
import Derived.Test.YtmcfohngblbpbaaDiv
import Derived.Deep.CutBlock
namespace Hp
open Go Go.RowKit Go.Proofs

theorem DgAt.grown {w w' : World} {b off n bu : Nat} {f : Nat → Int} (h : DgAt w b off n f) (hg : w.grownBy w' (some bu)) (hne : b ≠ bu) : DgAt w' b off n f :=
  ⟨fun i hi => by
    have := h.cell i hi
    rw [← this]
    exact World.cell?_of_block (w := w) (w' := w') (hg.block b (lt_of_cell this) (by simpa using hne)), h.dig⟩
theorem grown_refl (w : World) (r : Option Nat) : w.grownBy w r := ⟨rfl, rfl, rfl, Nat.le_refl _, fun _ _ _ => rfl⟩
theorem grown_set {w w' : World} {bu i : Nat} {u : Value} (h : w.grownBy w' (some bu)) : w.grownBy (w'.setCell ⟨bu, i, none⟩ u) (some bu) :=
  ⟨h.os, h.tape, h.output, by simpa using h.size, fun k hk hne => (Below.heap_setCell _ _ _ _ (by simpa using hne)).trans (h.block k hk hne)⟩
theorem grown_drawn {w w' : World} {r : Option Nat} {n : Nat} (h : w.grownBy w' r) : w.grownBy (w'.drewN n) r := ⟨h.os, h.tape, h.output, h.size, h.block⟩
theorem Own.drawn {w : World} {b n : Nat} {f : Nat → Int} {k : Nat} (h : Own w b n f) : Own (w.drewN k) b n f := ⟨h.cell, h.free⟩

/-- the block of u behind the call: the digit d, the other digits as they were, and the remainder -/
def DigitR (w : World) (bu N ou n : Nat) (h g : Nat → Int) (e : Ending) (w' : World) : Prop :=
  ∃ (d : Int) (h' : Nat → Int), e = .returned (.int .u32 d) ∧ w.grownBy w' (some bu) ∧ Own w' bu N h' ∧ isDig d ∧ Digs h' N ∧ (∀ i, i < ou ∨ ou + n + 1 ≤ i → h' i = h i) ∧
    val (sh h' ou) (n + 1) = val (sh h ou) (n + 1) - d * val g n ∧ val (sh h' ou) (n + 1) < val g n

/-- u's digits from the top -/
theorem top3 (u : Nat → Int) (m : Nat) : val u (m + 3) = val u m + (u m + u (m + 1) * B + u (m + 2) * B * B) * pw m := by simp only [val, pw]; first | done | grind
theorem top2 (u : Nat → Int) (m : Nat) : val u (m + 3) = (val u m + u m * pw m) + (u (m + 1) + u (m + 2) * B) * (pw m * B) := by simp only [val, pw]; first | done | grind
theorem topv (g : Nat → Int) (m : Nat) : val g (m + 2) = val g m + (g m + g (m + 1) * B) * pw m := by simp only [val, pw]; first | done | grind
theorem topv1 (g : Nat → Int) (m : Nat) : val g (m + 2) = (val g m + g m * pw m) + g (m + 1) * (pw m * B) := by simp only [val, pw]; first | done | grind
theorem low_lt {u : Nat → Int} {m : Nat} (hu : Digs u (m + 1)) : 0 ≤ val u m + u m * pw m ∧ val u m + u m * pw m < pw m * B := by
  have h0 := val_nonneg hu
  have h1 := val_lt hu
  simp only [val, pw] at h0 h1
  exact ⟨h0, h1⟩
/-- the quotient's digit is at most the first guess, and t below (a + 1) B -/
theorem guess_facts {u g : Nat → Int} {m : Nat} (hu : Digs u (m + 3)) (hg : Digs g (m + 2)) (htop : B ≤ 2 * g (m + 1)) (hlt : val u (m + 3) < val g (m + 2) * B) :
    0 ≤ val u (m + 3) / val g (m + 2) ∧ val u (m + 3) / val g (m + 2) < B ∧ 0 < val g (m + 2) ∧
    Est (val u (m + 3) / val g (m + 2)) (u (m + 1) + u (m + 2) * B) (g (m + 1)) ((u (m + 1) + u (m + 2) * B) / g (m + 1)) ((u (m + 1) + u (m + 2) * B) % g (m + 1)) ∧
    u (m + 1) + u (m + 2) * B < (g (m + 1) + 1) * B := by
  have hB := B_pos
  have hp := pw_pos m
  have hpB : 0 < pw m * B := Int.mul_pos hp hB
  have lg := low_lt (m := m) (fun i hi => hg i (by omega))
  have lu := low_lt (m := m) (fun i hi => hu i (by omega))
  have hV : 0 < val g (m + 2) := by
    rw [topv1]
    have : 1 * (pw m * B) ≤ g (m + 1) * (pw m * B) := Int.mul_le_mul_of_nonneg_right (by omega) (by omega)
    omega
  have hq0 : 0 ≤ val u (m + 3) / val g (m + 2) := Int.ediv_nonneg (val_nonneg hu) (by omega)
  have hq1 : val u (m + 3) / val g (m + 2) < B := Int.ediv_lt_of_lt_mul hV (by rw [Int.mul_comm]; exact hlt)
  have hqV : val u (m + 3) / val g (m + 2) * val g (m + 2) ≤ val u (m + 3) := Int.ediv_mul_le _ (by omega)
  have hd := est_lo hpB (top2 u m) lu.2 (topv1 g m) lg.1 hq0 hqV
  have ht : u (m + 1) + u (m + 2) * B < (g (m + 1) + 1) * B := by
    have h1 : (u (m + 1) + u (m + 2) * B) * (pw m * B) < ((g (m + 1) + 1) * B) * (pw m * B) := by
      rw [top2, topv1] at hlt
      have h2 : ((val g m + g m * pw m) + g (m + 1) * (pw m * B)) * B < ((g (m + 1) + 1) * B) * (pw m * B) := by
        have : (val g m + g m * pw m) * B < (pw m * B) * B := Int.mul_lt_mul_of_pos_right lg.2 hB
        have e : ((g (m + 1) + 1) * B) * (pw m * B) = g (m + 1) * (pw m * B) * B + (pw m * B) * B := by grind
        rw [Int.add_mul]; omega
      omega
    exact Int.lt_of_mul_lt_mul_right h1 (by omega)
  have hu1 := hu (m + 1) (by omega)
  have hu2 := hu (m + 2) (by omega)
  have h0 : 0 ≤ u (m + 1) + u (m + 2) * B := by
    have : 0 ≤ u (m + 2) * B := Int.mul_nonneg hu2.1 (by omega)
    have := hu1.1
    omega
  exact ⟨hq0, hq1, hV, est_start htop (hg (m + 1) (by omega)).2 h0 ht hd, ht⟩
/-- a guess that is too great -/
theorem guess_down {u g : Nat → Int} {m : Nat} (hu : Digs u (m + 3)) (hg : Digs g (m + 2)) {gs rs : Int} (hq0 : 0 ≤ val u (m + 3) / val g (m + 2)) (hV : 0 < val g (m + 2))
    (H : Est (val u (m + 3) / val g (m + 2)) (u (m + 1) + u (m + 2) * B) (g (m + 1)) gs rs) (h : rs * B + u m < gs * g m) : val u (m + 3) / val g (m + 2) ≤ gs - 1 := by
  have hp := pw_pos m
  have hqV : val u (m + 3) / val g (m + 2) * val g (m + 2) ≤ val u (m + 3) := Int.ediv_mul_le _ (by omega)
  have hd := est_lo hp (top3 u m) (val_lt (fun i hi => hu i (by omega))) (topv g m) (val_nonneg (fun i hi => hg i (by omega))) hq0 hqV
  have := H.lo
  by_cases e : val u (m + 3) / val g (m + 2) = gs
  · exfalso
    rw [e] at hd
    have := H.eq
    generalize val u (m + 3) = U at *
    have e2 : gs * (g m + g (m + 1) * B) = gs * g m + gs * g (m + 1) * B := by grind
    have e3 : (gs * g (m + 1) + rs) * B = (u (m + 1) + u (m + 2) * B) * B := by rw [H.eq]
    have e4 : (gs * g (m + 1) + rs) * B = gs * g (m + 1) * B + rs * B := by grind
    have e5 : (u (m + 1) + u (m + 2) * B) * B = u (m + 1) * B + u (m + 2) * B * B := by grind
    omega
  · omega
/-- a guess that is good enough -/
theorem guess_good {u g : Nat → Int} {m : Nat} (hu : Digs u (m + 3)) (hg : Digs g (m + 2)) (htop : B ≤ 2 * g (m + 1)) {gs rs : Int} (hg0 : 0 ≤ gs) (hg1 : gs < B)
    (he : gs * g (m + 1) + rs = u (m + 1) + u (m + 2) * B) (h : gs * g m ≤ rs * B + u m) : gs * val g (m + 2) < val u (m + 3) + val g (m + 2) := by
  have hp := pw_pos m
  have hB := B_pos
  have lg := low_lt (m := m) (fun i hi => hg i (by omega))
  refine est_hi hp (top3 u m) (val_nonneg (fun i hi => hu i (by omega))) (topv g m) (val_nonneg (fun i hi => hg i (by omega))) (val_lt (fun i hi => hg i (by omega))) hg0 hg1 ?_ ?_
  · have e2 : gs * (g m + g (m + 1) * B) = gs * g m + gs * g (m + 1) * B := by grind
    have e3 : (gs * g (m + 1) + rs) * B = (u (m + 1) + u (m + 2) * B) * B := by rw [he]
    have e4 : (gs * g (m + 1) + rs) * B = gs * g (m + 1) * B + rs * B := by grind
    have e5 : (u (m + 1) + u (m + 2) * B) * B = u (m + 1) * B + u (m + 2) * B * B := by grind
    omega
  · rw [topv1]
    have : 1 * (pw m * B) ≤ g (m + 1) * (pw m * B) := Int.mul_le_mul_of_nonneg_right (by unfold B at htop; omega) (Int.mul_nonneg (by omega) (by omega))
    rw [Int.mul_comm B]; omega

set_option maxRecDepth 100000 in
set_option maxHeartbeats 4000000 in
theorem digit_c {w : World} {bu ou cu N bv ov cv m : Nat} {h g : Nat → Int} (hu : Own w bu N h) (huN : ou + (m + 3) ≤ N) (hud : Digs h N) (hcu : m + 3 ≤ cu) (hv : DgAt w bv ov (m + 2) g) (hcv : m + 2 ≤ cv) (hne : bv ≠ bu) (hm : m ≤ L) (hlw : bu < w.heap.size)
    (htop : B ≤ 2 * g (m + 1)) (hlt : val (sh h ou) (m + 3) < val g (m + 2) * B) :
    Calls Try.prog 117 #[.slice (some ⟨bu, ou, none⟩) (m + 3) cu, .slice (some ⟨bv, ov, none⟩) (m + 2) cv] w (DigitR w bu N ou (m + 2) h g) := by
  have hU : Digs (sh h ou) (m + 3) := sh_dig hud huN
  have HU := Lib.hid hU
  have HUD := Lib.hid hud
  have HG := Lib.hid hv.dig
  have HV := Lib.hid hv
  have HO := Lib.hid hu
  have HF := Lib.hid (guess_facts hU hv.dig htop hlt)
  have c1 : w.cell? ⟨bu, ou + (m + 2), none⟩ = some (.int .u32 (h (ou + (m + 2)))) := hu.cell _ (by omega)
  have c2 : w.cell? ⟨bu, ou + (m + 1), none⟩ = some (.int .u32 (h (ou + (m + 1)))) := hu.cell _ (by omega)
  have c4 : w.cell? ⟨bv, ov + (m + 1), none⟩ = some (.int .u32 (g (m + 1))) := hv.cell _ (by omega)
  obtain ⟨x0, hx0⟩ : ∃ x, x = h (ou + (m + 2)) := ⟨_, rfl⟩
  obtain ⟨x1, hx1⟩ : ∃ x, x = h (ou + (m + 1)) := ⟨_, rfl⟩
  obtain ⟨a, ha⟩ : ∃ x, x = g (m + 1) := ⟨_, rfl⟩
  rw [← hx0] at c1
  rw [← hx1] at c2
  rw [← ha] at c4
  have b00 : 0 ≤ x0 := by rw [hx0]; exact (hud _ (by omega)).1
  have b01 : x0 < 4294967296 := by rw [hx0]; exact (hud _ (by omega)).2
  have b10 : 0 ≤ x1 := by rw [hx1]; exact (hud _ (by omega)).1
  have b11 : x1 < 4294967296 := by rw [hx1]; exact (hud _ (by omega)).2
  have ba0 : 0 ≤ a := by rw [ha]; exact (hv.dig _ (by omega)).1
  have ba1 : a < 4294967296 := by rw [ha]; exact (hv.dig _ (by omega)).2
  have ba2 : 2147483648 ≤ a := by rw [ha]; unfold B at htop; omega
  have eor := or_join b00 b01 b10 b11
  have w0 := wrap_u64_of (x := x0) b00 (by omega)
  have w1 := wrap_u64_of (x := x0 * 4294967296) (by omega) (by omega)
  have w2 := wrap_u64_of (x := x1) b10 (by omega)
  have w3 := wrap_u64_of (x := a) ba0 (by omega)
  have hm' : m ≤ 17592186044416 := hm
  have im0 : (0 : Int) ≤ (m : Int) + 2 := by omega
  have im1 : (m : Int) + 2 < (m : Int) + 3 := by omega
  have im2 : (0 : Int) ≤ (m : Int) + 1 := by omega
  have im3 : (m : Int) + 1 < (m : Int) + 2 := by omega
  have im4 : (m : Int) + 1 < (m : Int) + 3 := by omega
  have HX0 := Lib.hid hx0
  have HX1 := Lib.hid hx1
  have HA := Lib.hid ha
  clear hx0 hx1 ha hu hud hv hU hlt htop hm
  go_enter Try.func117, Try.ntmps117
  go_wp2_with fail
  go_quiet (fail)
  have t0 : 0 ≤ x0 * 4294967296 + x1 := by omega
  have t1 : x0 * 4294967296 + x1 < 18446744073709551616 := by omega
  have d0 : (a == 0) = false := by simp; omega
  have d1 : 0 < a := by omega
  go_wp2_with fail
  go_quiet (fail)
  clear eor w0 w1 w2 c1 c2
  go_upto_block 0 with fail
  go_cut [7] (fun s7 wx => ∃ gs : Int, s7 = .int .u64 gs ∧ Hid (w.grownBy wx (some bu)) ∧ Hid (Own wx bu N h) ∧ Hid (isDig gs ∧ val (sh h ou) (m + 3) / val g (m + 2) ≤ gs ∧ gs * val g (m + 2) < val (sh h ou) (m + 3) + val g (m + 2)))
  case first =>
    obtain ⟨x2, hx2⟩ : ∃ x, x = h (ou + m) := ⟨_, rfl⟩
    obtain ⟨b, hb⟩ : ∃ x, x = g m := ⟨_, rfl⟩
    have b20 : 0 ≤ x2 := by rw [hx2]; exact (HU.out m (by omega)).1
    have b21 : x2 < 4294967296 := by rw [hx2]; exact (HU.out m (by omega)).2
    have bb0 : 0 ≤ b := by rw [hb]; exact (HG.out _ (by omega)).1
    have bb1 : b < 4294967296 := by rw [hb]; exact (HG.out _ (by omega)).2
    have w4 := wrap_u64_of (x := b) bb0 (by omega)
    have w5 := wrap_u64_of (x := x2) b20 (by omega)
    have HX2 := Lib.hid hx2
    have HB2 := Lib.hid hb
    have im5 : (0 : Int) ≤ (m : Int) := by omega
    have im6 : (m : Int) < (m : Int) + 2 := by omega
    have im7 : (m : Int) < (m : Int) + 3 := by omega
    have HE : Hid (Est (val (sh h ou) (m + 3) / val g (m + 2)) (x1 + x0 * B) a ((x0 * 4294967296 + x1) / a) ((x0 * 4294967296 + x1) % a)) := by
      have := HF.out.2.2.2.1
      rw [HX0.out, HX1.out, HA.out, show h (ou + (m + 2)) * 4294967296 + h (ou + (m + 1)) = sh h ou (m + 1) + sh h ou (m + 2) * B from by unfold B sh; omega]
      exact this
    have HT : Hid (x1 + x0 * B < (a + 1) * B) := by rw [HX0.out, HX1.out, HA.out]; exact HF.out.2.2.2.2
    have FIN : Hid (∀ gs rs : Int, Est (val (sh h ou) (m + 3) / val g (m + 2)) (x1 + x0 * B) a gs rs → gs < 4294967296 → gs * b ≤ rs * 4294967296 + x2 →
        isDig gs ∧ val (sh h ou) (m + 3) / val g (m + 2) ≤ gs ∧ gs * val g (m + 2) < val (sh h ou) (m + 3) + val g (m + 2)) := by
      intro gs rs E hg1 hgs
      have h0 : 0 ≤ gs := Int.le_trans HF.out.1 E.lo
      refine ⟨⟨h0, hg1⟩, E.lo, guess_good (rs := rs) HU.out HG.out (by rw [← HA.out]; unfold B; omega) h0 hg1 ?_ ?_⟩
      · have := E.eq; rw [HX0.out, HX1.out, HA.out] at this; exact this
      · rw [← HB2.out]; show gs * b ≤ rs * B + h (ou + m); rw [← HX2.out]; exact hgs
    have FIN2 : Hid (∀ gs rs : Int, gs * a + rs = x1 + x0 * B → val (sh h ou) (m + 3) / val g (m + 2) ≤ gs → gs < 4294967296 → 4294967296 ≤ rs →
        isDig gs ∧ val (sh h ou) (m + 3) / val g (m + 2) ≤ gs ∧ gs * val g (m + 2) < val (sh h ou) (m + 3) + val g (m + 2)) := by
      intro gs rs heq hlo hg1 hrs
      have h0 : 0 ≤ gs := Int.le_trans HF.out.1 hlo
      refine ⟨⟨h0, hg1⟩, hlo, guess_good (rs := rs) HU.out HG.out (by rw [← HA.out]; unfold B; omega) h0 hg1 ?_ ?_⟩
      · have := heq; rw [HX0.out, HX1.out, HA.out] at this; exact this
      · rw [← HB2.out]
        have h1 := (mul_dig (x := gs) (y := b) ⟨h0, hg1⟩ ⟨bb0, bb1⟩).2
        show gs * b ≤ rs * B + h (ou + m)
        rw [← HX2.out]; unfold B; omega
    have DOWN : Hid (∀ gs rs : Int, Est (val (sh h ou) (m + 3) / val g (m + 2)) (x1 + x0 * B) a gs rs → rs * 4294967296 + x2 < gs * b → val (sh h ou) (m + 3) / val g (m + 2) ≤ gs - 1) := by
      intro gs rs E hgt
      refine guess_down (rs := rs) HU.out HG.out HF.out.1 HF.out.2.2.1 ?_ ?_
      · rw [HX0.out, HX1.out, HA.out] at E; exact E
      · rw [← HB2.out]; show rs * B + h (ou + m) < _; rw [← HX2.out]; exact hgt
    clear hx2 hb t0 t1 d0 c4
    go_wp2_with fail
    go_loopw [7, 8] (fun s7 s8 wr => ∃ gs rs : Int, s7 = .int .u64 gs ∧ s8 = .int .u64 rs ∧ Hid (w.grownBy wr (some bu)) ∧ Hid (Own wr bu N h) ∧ Hid (Est (val (sh h ou) (m + 3) / val g (m + 2)) (x1 + x0 * B) a gs rs))
      (fun s7 _ _ => (intOf s7).toNat)
    case atStart => exact ⟨_, _, rfl, rfl, grown_drawn (grown_drawn (grown_refl _ _)), HO.out.drawn.drawn, HE⟩
    case round =>
      obtain ⟨gs, rs, rfl, rfl, HGR, HOW, HES⟩ := hrel
      have q4 : wr.cell? ⟨bv, ov + (m + 1), none⟩ = some (.int .u32 a) := by rw [HA.out]; exact (HV.out.grown HGR.out hne).cell _ (by omega)
      have q5 : wr.cell? ⟨bv, ov + m, none⟩ = some (.int .u32 b) := by rw [HB2.out]; exact (HV.out.grown HGR.out hne).cell _ (by omega)
      have q6 : wr.cell? ⟨bu, ou + m, none⟩ = some (.int .u32 x2) := by rw [HX2.out]; exact HOW.out.cell _ (by omega)
      have g0 : 0 ≤ gs := Int.le_trans HF.out.1 HES.out.lo
      have g1 : gs ≤ 4294967297 := HES.out.g1
      have r0 : 0 ≤ rs := HES.out.r0
      have r1 : rs < 4294967296 := HES.out.r1
      by_cases hbig : 4294967296 ≤ gs
      · have hd : decide (4294967296 ≤ gs) = true := by simp; exact hbig
        have hdn : Hid (val (sh h ou) (m + 3) / val g (m + 2) ≤ gs - 1) := by have := HF.out.2.1; unfold B at this; show _ ≤ _; omega
        clear q5 q6
        have g2 : 1 ≤ gs := by have h1 := HF.out.1; have h2 := hdn.out; omega
        have HST : Hid (rs + a < 4294967296 → Est (val (sh h ou) (m + 3) / val g (m + 2)) (x1 + x0 * B) a (gs - 1) (rs + a)) := fun h => est_step d1 HES.out hdn.out h
        have HBR : Hid (4294967296 ≤ rs + a → isDig (gs - 1) ∧ val (sh h ou) (m + 3) / val g (m + 2) ≤ gs - 1 ∧ (gs - 1) * val g (m + 2) < val (sh h ou) (m + 3) + val g (m + 2)) := by
          intro h
          refine FIN2.out (gs - 1) (rs + a) ?_ hdn.out (est_break HT.out HES.out h) h
          have := HES.out.eq
          rw [Int.sub_mul, Int.one_mul]; omega
        by_cases hbr : 4294967296 ≤ rs + a
        · have hd2 : decide (4294967296 ≤ rs + a) = true := by simp; exact hbr
          go_wp2_with fail
          go_quiet (fail)
          go_wp2
          go_meet
          case rel => exact ⟨_, rfl, grown_drawn HGR.out, HOW.out.drawn, HBR.out hbr⟩
        · have hd2 : decide (4294967296 ≤ rs + a) = false := by simp; omega
          go_wp2_with fail
          go_quiet (fail)
          go_wp2
          go_roundw
          case rel => first | exact ⟨_, _, rfl, rfl, grown_drawn HGR.out, HOW.out.drawn, HST.out (by omega)⟩ | ((repeat apply Exists.intro); exact ⟨⟨_, _, rfl, rfl, grown_drawn HGR.out, HOW.out.drawn, HST.out (by omega)⟩, rfl⟩)
          case measure => simp [intOf]; omega
      · have hd : decide (4294967296 ≤ gs) = false := by simp; omega
        obtain ⟨p0, p1⟩ := mul_dig (x := gs) (y := b) ⟨g0, by unfold B; omega⟩ ⟨bb0, bb1⟩
        have w6 := wrap_u64_of (x := gs * b) p0 (by omega)
        have w7 := wrap_u64_of (x := rs * 4294967296) (by omega) (by omega)
        have w8 := or_join r0 r1 b20 b21
        by_cases hgt : rs * 4294967296 + x2 < gs * b
        · have hd3 : decide (rs * 4294967296 + x2 < gs * b) = true := by simp; exact hgt
          have hdn : Hid (val (sh h ou) (m + 3) / val g (m + 2) ≤ gs - 1) := DOWN.out gs rs HES.out hgt
          have g2 : 1 ≤ gs := by have h1 := HF.out.1; have h2 := hdn.out; omega
          have HST : Hid (rs + a < 4294967296 → Est (val (sh h ou) (m + 3) / val g (m + 2)) (x1 + x0 * B) a (gs - 1) (rs + a)) := fun h => est_step d1 HES.out hdn.out h
          have HBR : Hid (4294967296 ≤ rs + a → isDig (gs - 1) ∧ val (sh h ou) (m + 3) / val g (m + 2) ≤ gs - 1 ∧ (gs - 1) * val g (m + 2) < val (sh h ou) (m + 3) + val g (m + 2)) := by
            intro h
            refine FIN2.out (gs - 1) (rs + a) ?_ hdn.out (est_break HT.out HES.out h) h
            have := HES.out.eq
            rw [Int.sub_mul, Int.one_mul]; omega
          by_cases hbr : 4294967296 ≤ rs + a
          · have hd2 : decide (4294967296 ≤ rs + a) = true := by simp; exact hbr
            go_wp2_with fail
            go_quiet (fail)
            go_wp2
            go_meet
            case rel => exact ⟨_, rfl, grown_drawn HGR.out, HOW.out.drawn, HBR.out hbr⟩
          · have hd2 : decide (4294967296 ≤ rs + a) = false := by simp; omega
            go_wp2_with fail
            go_quiet (fail)
            go_wp2
            go_roundw
            case rel => first | exact ⟨_, _, rfl, rfl, grown_drawn HGR.out, HOW.out.drawn, HST.out (by omega)⟩ | ((repeat apply Exists.intro); exact ⟨⟨_, _, rfl, rfl, grown_drawn HGR.out, HOW.out.drawn, HST.out (by omega)⟩, rfl⟩)
            case measure => simp [intOf]; omega
        · have hd3 : decide (rs * 4294967296 + x2 < gs * b) = false := by simp; omega
          have HFI := Lib.hid (FIN.out gs rs HES.out (by omega) (by omega))
          go_wp2_with fail
          go_quiet (fail)
          go_wp2
          go_meet
          case rel => exact ⟨_, rfl, grown_drawn HGR.out, HOW.out.drawn, HFI.out⟩
  case rest =>
    obtain ⟨gs, rfl, HGR, HOW, HGS⟩ := hcut
    have g0 := HGS.out.1.1
    have g1 : gs < 4294967296 := HGS.out.1.2
    clear c4 w3 t0 t1 d0 d1 b00 b01 b10 b11 ba0 ba1 ba2
    go_wp2_with fail
    go_loopw [9, 10, 84] (fun s9 s10 si wr => ∃ (k : Nat) (c b : Int) (h' : Nat → Int), si = .int .i64 k ∧ k ≤ m + 2 ∧ s9 = .int .u64 c ∧ s10 = .int .u32 b ∧ Hid (w.grownBy wr (some bu)) ∧ Hid (Own wr bu N h') ∧
        Hid (Digs h' N ∧ (∀ i, i < ou ∨ ou + (m + 2) + 1 ≤ i → h' i = h i) ∧ SubI (sh h ou) g (m + 2) gs k (sh h' ou) c b))
      (fun _ _ si _ => m + 2 - (intOf si).toNat)
    case atStart => exact ⟨0, 0, 0, h, rfl, Nat.zero_le _, rfl, rfl, HGR, HOW, HUD.out, fun _ _ => rfl, subI_zero HU.out⟩
    case round =>
      obtain ⟨k, c, b, h', rfl, hk, rfl, rfl, HGR', HOW', HS⟩ := hrel
      by_cases hlt : k < m + 2
      · have q1 : wr.cell? ⟨bv, ov + k, none⟩ = some (.int .u32 (g k)) := (HV.out.grown HGR'.out hne).cell k hlt
        have q2 : wr.cell? ⟨bu, ou + k, none⟩ = some (.int .u32 (h' (ou + k))) := HOW'.out.cell _ (by omega)
        have q3 := HOW'.out.free (ou + k)
        have y0 := (HG.out k hlt).1
        have y1 : g k < 4294967296 := (HG.out k hlt).2
        have c0 := HS.out.2.2.car.1
        have c1 : c < 4294967296 := HS.out.2.2.car.2
        obtain ⟨p0, p1⟩ := mul_dig HGS.out.1 (HG.out k hlt)
        have HN := Lib.hid (subI_step HG.out hlt HGS.out.1 HS.out.2.2)
        have HC : Hid (isDig (h' (ou + k)) ∧ isDig ((gs * g k + c) % 4294967296) ∧ 0 ≤ b ∧ b ≤ 1) := ⟨HS.out.1 _ (by omega), mod_dig _, HS.out.2.2.b0, HS.out.2.2.b1⟩
        go_wp2_with fail
        refine (sub32_c _ _ _ _ HC.out.1 HC.out.2.1 HC.out.2.2).mono ?_
        rintro e w' ⟨rfl, rfl⟩
        go_wp2
        go_roundw
        case rel =>
          (repeat apply Exists.intro)
          exact ⟨⟨k + 1, _, _, set h' (ou + k) _, by go_num, by omega, rfl, rfl, grown_set HGR'.out, HOW'.out.set (by omega) _, digs_set HS.out.1 (mod_dig _), fun i hi => by rw [set_ne _ _ (by omega)]; exact HS.out.2.1 i hi, by rw [sh_set]; exact HN.out⟩, rfl⟩
        case measure => simp [intOf]; omega
      · obtain rfl : k = m + 2 := by omega
        have q2 : wr.cell? ⟨bu, ou + (m + 2), none⟩ = some (.int .u32 (h' (ou + (m + 2)))) := HOW'.out.cell _ (by omega)
        have q3 := HOW'.out.free (ou + (m + 2))
        have c0 := HS.out.2.2.car.1
        have c1 : c < 4294967296 := HS.out.2.2.car.2
        have HN := Lib.hid (subI_end HS.out.2.2)
        have HC : Hid (isDig (h' (ou + (m + 2))) ∧ isDig c ∧ 0 ≤ b ∧ b ≤ 1) := ⟨HS.out.1 _ (by omega), HS.out.2.2.car, HS.out.2.2.b0, HS.out.2.2.b1⟩
        go_wp2_with fail
        refine (sub32_c _ _ _ _ HC.out.1 HC.out.2.1 HC.out.2.2).mono ?_
        rintro e w' ⟨rfl, rfl⟩
        have HO2 : Hid (Own (wr.setCell ⟨bu, ou + (m + 2), none⟩ (.int .u32 ((h' (ou + (m + 2)) - c - b) % 4294967296))) bu N (set h' (ou + (m + 2)) ((h' (ou + (m + 2)) - c - b) % 4294967296))) := HOW'.out.set (by omega) _
        have HG2 : Hid (w.grownBy (wr.setCell ⟨bu, ou + (m + 2), none⟩ (.int .u32 ((h' (ou + (m + 2)) - c - b) % 4294967296))) (some bu)) := grown_set HGR'.out
        have HN2 : Hid (Digs (sh (set h' (ou + (m + 2)) ((h' (ou + (m + 2)) - c - b) % 4294967296)) ou) (m + 2 + 1) ∧ 0 ≤ -((h' (ou + (m + 2)) - c - b) / 4294967296) ∧ -((h' (ou + (m + 2)) - c - b) / 4294967296) ≤ 1 ∧
            val (sh (set h' (ou + (m + 2)) ((h' (ou + (m + 2)) - c - b) % 4294967296)) ou) (m + 2 + 1) = val (sh h ou) (m + 2 + 1) - gs * val g (m + 2) + -((h' (ou + (m + 2)) - c - b) / 4294967296) * pw (m + 2 + 1)) := by
          rw [sh_set]; exact HN.out
        have HS2 : Hid (Digs (set h' (ou + (m + 2)) ((h' (ou + (m + 2)) - c - b) % 4294967296)) N ∧ ∀ i, i < ou ∨ ou + (m + 2) + 1 ≤ i → set h' (ou + (m + 2)) ((h' (ou + (m + 2)) - c - b) % 4294967296) i = h i) :=
          ⟨digs_set HS.out.1 (mod_dig _), fun i hi => by rw [set_ne _ _ (by omega)]; exact HS.out.2.1 i hi⟩
        clear HN HC HOW' HGR' HS c0 c1
        generalize (h' (ou + (m + 2)) - c - b) % 4294967296 = y at *
        generalize -((h' (ou + (m + 2)) - c - b) / 4294967296) = bb at *
        have HW : Hid (0 ≤ bb ∧ bb ≤ 1 ∧ (bb = 0 → 0 ≤ val (sh h ou) (m + 3) - gs * val g (m + 2)) ∧ (bb = 1 → val (sh (set h' (ou + (m + 2)) y) ou) (m + 3) = val (sh h ou) (m + 3) - gs * val g (m + 2) + pw (m + 3) ∧ val (sh h ou) (m + 3) - gs * val g (m + 2) < 0) ∧
            val (sh h ou) (m + 3) < gs * val g (m + 2) + val g (m + 2) ∧ val g (m + 2) < pw (m + 3)) := by
          obtain ⟨a1, a2, a3, a4⟩ := HN2.out
          have hV := HF.out.2.2.1
          have hVW : val g (m + 2) < pw (m + 3) := Int.lt_trans (val_lt HG.out) (pw_lt _ _ (by omega))
          have hlo : val (sh h ou) (m + 3) < gs * val g (m + 2) + val g (m + 2) := by
            have h1 := Int.lt_ediv_add_one_mul_self (val (sh h ou) (m + 3)) hV
            have h2 : (val (sh h ou) (m + 3) / val g (m + 2) + 1) * val g (m + 2) ≤ (gs + 1) * val g (m + 2) := Int.mul_le_mul_of_nonneg_right (by have := HGS.out.2.1; omega) (by omega)
            rw [Int.add_mul gs, Int.one_mul] at h2
            omega
          have := digit_fin (W := pw (m + 3)) (by omega) (val_nonneg a1) (val_lt a1) a4 a2 a3 hlo HGS.out.2.2 hV
          exact ⟨a2, a3, this.1, this.2, hlo, hVW⟩
        have q4 := HO2.out.cell (ou + (m + 2)) (by omega)
        rw [set_eq] at q4
        rcases (show bb = 0 ∨ bb = 1 by have h1 := HW.out.1; have h2 := HW.out.2.1; omega) with rfl | rfl
        · go_wp2
          go_ret
          have hv := HN2.out.2.2.2
          rw [Int.zero_mul, Int.add_zero] at hv
          exact ⟨gs, _, rfl, HG2.out, HO2.out, HGS.out.1, HS2.out.1, HS2.out.2, hv, by rw [hv]; have := HW.out.2.2.2.2.1; show val (sh h ou) (m + 3) - _ < _; omega⟩
        · have g2 : 1 ≤ gs := by
            have h1 := (HW.out.2.2.2.1 rfl).2
            have h2 := val_nonneg HU.out
            by_cases hc : 1 ≤ gs
            · exact hc
            · obtain rfl : gs = 0 := by omega
              rw [Int.zero_mul] at h1; omega
          have hbk : ((1 : Int) != 0) = true := by decide
          obtain ⟨h3, hh3⟩ : ∃ h3, h3 = set h' (ou + (m + 2)) y := ⟨_, rfl⟩
          rw [← hh3] at HO2 HN2 HS2 HW
          have HH3 := Lib.hid hh3
          clear hh3
          go_wp2_with fail
          clear q2 q3
          go_loopw [14, 132] (fun s14 si wr => ∃ (k : Nat) (c : Int) (h2 : Nat → Int), si = .int .i64 k ∧ k ≤ m + 2 ∧ s14 = .int .u32 c ∧ Hid (w.grownBy wr (some bu)) ∧ Hid (Own wr bu N h2) ∧
              Hid (Digs h2 N ∧ (∀ i, i < ou ∨ ou + (m + 2) + 1 ≤ i → h2 i = h i) ∧ BackI (sh h3 ou) g (m + 2) k (sh h2 ou) c))
            (fun _ si _ => m + 2 - (intOf si).toNat)
          case atStart => exact ⟨0, 0, h3, rfl, Nat.zero_le _, rfl, HG2, HO2, HS2.out.1, HS2.out.2, backI_zero HN2.out.1⟩
          case round =>
            obtain ⟨k, c, h2, rfl, hk, rfl, HGR', HOW', HS⟩ := hrel
            clear q4
            by_cases hlt : k < m + 2
            · have q1 : wr.cell? ⟨bv, ov + k, none⟩ = some (.int .u32 (g k)) := (HV.out.grown HGR'.out hne).cell k hlt
              have q2 : wr.cell? ⟨bu, ou + k, none⟩ = some (.int .u32 (h2 (ou + k))) := HOW'.out.cell _ (by omega)
              have q3 := HOW'.out.free (ou + k)
              have HN := Lib.hid (backI_step HG.out hlt HS.out.2.2)
              have HC : Hid (isDig (h2 (ou + k)) ∧ isDig (g k) ∧ 0 ≤ c ∧ c ≤ 1) := ⟨HS.out.1 _ (by omega), HG.out k hlt, HS.out.2.2.c0, HS.out.2.2.c1⟩
              go_wp2_with fail
              refine (add32_c _ _ _ _ HC.out.1 HC.out.2.1 HC.out.2.2).mono ?_
              rintro e w' ⟨rfl, rfl⟩
              go_wp2
              go_roundw
              case rel =>
                first
                  | exact ⟨k + 1, _, set h2 (ou + k) _, by go_num, by omega, rfl, grown_set HGR'.out, HOW'.out.set (by omega) _, digs_set HS.out.1 (mod_dig _), fun i hi => by rw [set_ne _ _ (by omega)]; exact HS.out.2.1 i hi, by rw [sh_set]; exact HN.out⟩
                  | ((repeat apply Exists.intro); exact ⟨⟨k + 1, _, set h2 (ou + k) _, by go_num, by omega, rfl, grown_set HGR'.out, HOW'.out.set (by omega) _, digs_set HS.out.1 (mod_dig _), fun i hi => by rw [set_ne _ _ (by omega)]; exact HS.out.2.1 i hi, by rw [sh_set]; exact HN.out⟩, rfl⟩)
              case measure => simp [intOf]; omega
            · obtain rfl : k = m + 2 := by omega
              have q2 : wr.cell? ⟨bu, ou + (m + 2), none⟩ = some (.int .u32 (h2 (ou + (m + 2)))) := HOW'.out.cell _ (by omega)
              have q3 := HOW'.out.free (ou + (m + 2))
              have c0 := HS.out.2.2.c0
              have c1 := HS.out.2.2.c1
              have e0 := (HS.out.1 (ou + (m + 2)) (by omega)).1
              have e1 : h2 (ou + (m + 2)) < 4294967296 := (HS.out.1 (ou + (m + 2)) (by omega)).2
              have HN := Lib.hid (backI_end HS.out.2.2)
              go_wp2
              go_ret
              have hd : isDig (gs - 1) := ⟨by omega, by unfold B; omega⟩
              obtain ⟨y0, y1, y2, y3, y4, y5⟩ := HW.out
              obtain ⟨z1, z2⟩ := y3 (by first | trivial | rfl)
              obtain ⟨a1, o, o0, o1, a2⟩ := HN.out
              have b0 := val_nonneg a1
              have b1 := val_lt a1
              have hlo := HGS.out.2.2
              have hfin : val (sh (set h2 (ou + (m + 2)) ((h2 (ou + (m + 2)) + c) % 4294967296)) ou) (m + 2 + 1) = val (sh h ou) (m + 2 + 1) - (gs - 1) * val g (m + 2) := by
                rw [sh_set]
                show val (set (sh h2 ou) (m + 2) ((sh h2 ou (m + 2) + c) % 4294967296)) (m + 2 + 1) = _
                rw [Int.sub_mul, Int.one_mul]
                have e3 : val (sh h3 ou) (m + 2 + 1) = val (sh h ou) (m + 2 + 1) - gs * val g (m + 2) + pw (m + 2 + 1) := z1
                have z2' : val (sh h ou) (m + 2 + 1) - gs * val g (m + 2) < 0 := z2
                have hlo' : gs * val g (m + 2) < val (sh h ou) (m + 2 + 1) + val g (m + 2) := hlo
                have y5' : val g (m + 2) < pw (m + 2 + 1) := y5
                rcases (show o = 0 ∨ o = 1 by omega) with rfl | rfl <;> omega
              exact ⟨gs - 1, _, rfl, grown_set HGR'.out, HOW'.out.set (by omega) _, hd, digs_set HS.out.1 (mod_dig _), fun i hi => by rw [set_ne _ _ (by omega)]; exact HS.out.2.1 i hi, hfin, by
                rw [hfin, Int.sub_mul, Int.one_mul]
                have z2' : val (sh h ou) (m + 2 + 1) - gs * val g (m + 2) < 0 := z2
                omega⟩
end Hp
