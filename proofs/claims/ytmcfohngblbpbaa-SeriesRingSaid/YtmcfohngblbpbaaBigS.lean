/- What the program's shifts of lists of digits compute; lists are not longer than 2^44. -/
import Derived.Test.YtmcfohngblbpbaaBigU
import Derived.Test.YtmcfohngblbpbaaLen
namespace Hp
open Go Go.RowKit Go.Proofs

theorem two_pow_le (s : Nat) (hs : s ≤ 31) : (1 : Int) ≤ 2 ^ s ∧ (2 : Int) ^ s ≤ 2147483648 := by
  have h1 : 2 ^ s ≤ 2 ^ 31 := Nat.pow_le_pow_right (by omega) hs
  have h2 : 0 < 2 ^ s := Nat.pow_pos (by omega)
  have e : ((2 ^ s : Nat) : Int) = (2 : Int) ^ s := by simp
  rw [← e]
  omega
theorem shl_arith {x y : Int} {s : Nat} (hx : isDig x) (hs : s ≤ 31) (hy0 : 0 ≤ y) (hy1 : y < 2 ^ s) :
    bits .or .u32 y (IntKind.u64.wrap (x * 2 ^ s) % 4294967296) = y + x * 2 ^ s % 4294967296 ∧ IntKind.u64.wrap (x * 2 ^ s) / 4294967296 % 4294967296 = x * 2 ^ s / 4294967296 ∧
      0 ≤ x * 2 ^ s / 4294967296 ∧ x * 2 ^ s / 4294967296 < 2 ^ s ∧ isDig (y + x * 2 ^ s % 4294967296) := by
  obtain ⟨hx0, hx1⟩ := hx
  obtain ⟨p0, p1⟩ := two_pow_le s hs
  unfold B at hx1
  have h0 : 0 ≤ x * 2 ^ s := Int.mul_nonneg hx0 (by omega)
  have h1 : x * 2 ^ s ≤ 4294967295 * 2 ^ s := Int.mul_le_mul_of_nonneg_right (by omega) (by omega)
  rw [wrap_u64_of h0 (by omega)]
  have h2 : x * 2 ^ s / 4294967296 < 2 ^ s := Int.ediv_lt_of_lt_mul (by omega) (by omega)
  have h3 : x * 2 ^ s / 4294967296 % 4294967296 = x * 2 ^ s / 4294967296 := by
    have : 0 ≤ x * 2 ^ s / 4294967296 := Int.ediv_nonneg h0 (by omega)
    omega
  obtain ⟨X, rfl⟩ := Int.eq_ofNat_of_zero_le hx0
  obtain ⟨Y, rfl⟩ := Int.eq_ofNat_of_zero_le hy0
  have e1 : ((X : Int) * 2 ^ s) = ((X * 2 ^ s : Nat) : Int) := by simp
  have e2 : ((X : Int) * 2 ^ s) % 4294967296 = ((X * 2 ^ s % 4294967296 : Nat) : Int) := by rw [e1]; rfl
  have hY : Y < 2 ^ s := by
    have e : ((2 ^ s : Nat) : Int) = (2 : Int) ^ s := by simp
    omega
  have e3 : X * 2 ^ s % 4294967296 = (X % 2 ^ (32 - s)) * 2 ^ s := by
    rw [show 4294967296 = 2 ^ (32 - s) * 2 ^ s from by rw [← Nat.pow_add, show 32 - s + s = 32 from by omega], Nat.mul_mod_mul_right]
  have e4 : Y ||| X * 2 ^ s % 4294967296 = Y + X * 2 ^ s % 4294967296 := by
    rw [Nat.or_comm, nat_join s _ _ (by rw [e3, Nat.mul_mod_left]) hY, Nat.add_comm]
  have e5 : Y + X * 2 ^ s % 4294967296 < 4294967296 := by
    rw [← e4]
    have : 2 ^ s ≤ 2147483648 := by
      have e : ((2 ^ s : Nat) : Int) = (2 : Int) ^ s := by simp
      omega
    exact lt_or (by omega) (by omega)
  refine ⟨?_, h3, Int.ediv_nonneg h0 (by omega), h2, ?_⟩
  · rw [e2, u32_or_nat _ _ (by omega) (by omega), e4]; simp
  · rw [e2]; unfold isDig B; omega
structure ShlI (f : Nat → Int) (n s k : Nat) (h : Nat → Int) : Prop where
  dig : Digs h (n + 1)
  top : h k < 2 ^ s
  eq : val h (k + 1) = val f k * 2 ^ s
theorem shlI_zero (f : Nat → Int) (n s : Nat) : ShlI f n s 0 (fun _ => 0) :=
  ⟨fun _ _ => zero_dig, Int.pow_pos (by omega), by simp [val]⟩
theorem shlI_step {f h : Nat → Int} {n s k : Nat} (hf : Digs f n) (hs : s ≤ 31) (hk : k < n) (H : ShlI f n s k h) :
    ShlI f n s (k + 1) (set (set h k (bits .or .u32 (h k) (IntKind.u64.wrap (f k * 2 ^ s) % 4294967296))) (k + 1) (IntKind.u64.wrap (f k * 2 ^ s) / 4294967296 % 4294967296)) := by
  obtain ⟨a1, a2, a3, a4, a5⟩ := shl_arith (hf k hk) hs (H.dig k (by omega)).1 H.top
  obtain ⟨p0, p1⟩ := two_pow_le s hs
  rw [a1, a2]
  refine ⟨digs_set (digs_set H.dig a5) ⟨a3, by unfold B; omega⟩, by rw [set_eq]; exact a4, ?_⟩
  have e := H.eq
  have e2 := div_mod_B (f k * 2 ^ s)
  show val _ (k + 1 + 1) = _
  simp only [val] at e ⊢
  rw [val_set_ge _ _ (by omega), val_set_ge _ _ (by omega), set_eq, set_ne _ _ (by omega), set_eq]
  have e3 : pw (k + 1) = pw k * B := rfl
  rw [e3]
  unfold B at e2 ⊢
  grind
/-- a new block of n + 1 digits -/
def ShiftedR (B0 n s : Nat) (f : Nat → Int) (w' : World) (u : Value) : Prop :=
  ∃ b h, u = .slice (some ⟨b, 0, none⟩) (n + 1) (n + 1) ∧ Own w' b (n + 1) h ∧ Digs h (n + 1) ∧ B0 ≤ b ∧ b < w'.heap.size ∧ val h (n + 1) = val f n * 2 ^ s

set_option maxHeartbeats 1000000 in
theorem shifted_c {w : World} {va : Value} {n s : Nat} {f : Nat → Int} (ha : Dg w va n f) (hn : n ≤ L) (hs : s ≤ 31) :
    Calls Try.prog 116 #[va, .int .u64 s] w (Ret w (ShiftedR w.heap.size n s f)) := by
  have HF := Lib.hid ha.dig
  obtain ⟨xa, ca, rfl, hca, hda⟩ := ha
  unfold L at hn
  have hmk := mk_u32 (n + 1) (by unfold L; omega) w
  rw [show ((n + 1 : Nat) : Int) = (n : Int) + 1 from by omega] at hmk
  go_enter Try.func116, Try.ntmps116
  go_wp2_with fail
  clear hmk
  go_loopw [15] (fun i wr => ∃ (k : Nat) (h : Nat → Int), i = .int .i64 k ∧ k ≤ n ∧ Hid (Own wr w.heap.size (n + 1) h) ∧ Hid (ShlI f n s k h) ∧ Hid (Below w.heap.size w wr) ∧ Hid (w.heap.size < wr.heap.size))
    (fun i _ => n - (intOf i).toNat)
  case atStart => exact ⟨0, _, rfl, Nat.zero_le _, Own.made w _ _, shlI_zero f n s, below_new _, by simp [Hid]⟩
  case round =>
    obtain ⟨k, h, rfl, hk, HO, HI, HB, HS⟩ := hrel
    by_cases hlt : k < n
    · rcases hda with hda | ⟨b, off, rfl, hda⟩
      · omega
      have hcell := (hda.below HB.out).cell k hlt
      have hx0 := (HF.out k hlt).1
      have hx1 : f k < 4294967296 := (HF.out k hlt).2
      have ho0 := (HI.out.dig k (by omega)).1
      have ho1 : h k < 4294967296 := (HI.out.dig k (by omega)).2
      have hown := HO.out.cell k (by omega)
      have hfree := HO.out.free k
      have hown1 := HO.out.cell (k + 1) (by omega)
      have hfree1 := HO.out.free (k + 1)
      have HN := Lib.hid (shlI_step HF.out hs hlt HI.out)
      clear hda
      go_wp2
      go_roundw
      case rel => exact ⟨k + 1, _, by go_num, by omega, (HO.out.set (by omega) _).set (by omega) _, HN.out, (Below.setCell (p := ⟨_, _, _⟩) (HB.out.setCell (p := ⟨_, _, _⟩) (Nat.le_refl _) _) (Nat.le_refl _) _), by simpa [Hid] using HS.out⟩
      case measure => simp [intOf]; omega
    · obtain rfl : k = n := by omega
      have HE := Lib.hid HI.out.eq
      go_wp2
      go_ret
      exact .mk rfl HB.out ⟨_, _, rfl, HO.out, HI.out.dig, Nat.le_refl _, HS.out, HE.out⟩

theorem or_join' {x y : Int} (hx0 : 0 ≤ x) (hx1 : x < 4294967296) (hy0 : 0 ≤ y) (hy1 : y < 4294967296) : bits .or .u64 y (x * 4294967296) = y + x * 4294967296 := by
  obtain ⟨x, rfl⟩ := Int.eq_ofNat_of_zero_le hx0
  obtain ⟨y, rfl⟩ := Int.eq_ofNat_of_zero_le hy0
  have e : (x : Int) * 4294967296 = ((x * 4294967296 : Nat) : Int) := by omega
  rw [e, u64_or_nat _ _ (by omega) (by omega), Nat.or_comm, nat_join 32 _ _ (by omega) (by omega)]
  omega
/-- a digit and the next one, moved to the right -/
theorem shr_arith {x y P Q : Int} (hx : isDig x) (hy : isDig y) (hP : 0 < P) (hQ : 0 < Q) (hPQ : P * Q = B) :
    isDig ((x + y * 4294967296) / P % 4294967296) ∧ P * ((x + y * 4294967296) / P % 4294967296) = x - x % P + y % P * 4294967296 := by
  obtain ⟨hx0, hx1⟩ := hx
  obtain ⟨hy0, hy1⟩ := hy
  refine ⟨mod_dig _, ?_⟩
  have ex := Int.mul_ediv_add_emod x P
  have ey := Int.mul_ediv_add_emod y P
  have r0 := Int.emod_nonneg x (b := P) (by omega)
  have r1 := Int.emod_lt_of_pos x hP
  have s0 := Int.emod_nonneg y (b := P) (by omega)
  have s1 := Int.emod_lt_of_pos y hP
  have q0 : 0 ≤ x / P := Int.ediv_nonneg hx0 (by omega)
  have q1 : x / P < Q := Int.ediv_lt_of_lt_mul hP (by rw [Int.mul_comm]; omega)
  have hB : (4294967296 : Int) = P * Q := by rw [hPQ]; rfl
  have e1 : (x + y * 4294967296) / P = x / P + y * Q := by
    rw [hB, show y * (P * Q) = P * (y * Q) from by grind, Int.add_mul_ediv_left _ _ (by omega)]
  have e2 : x / P + y * Q = (x / P + y % P * Q) + 4294967296 * (y / P) := by
    rw [hB]; generalize x / P = a at *; generalize y / P = b at *; generalize y % P = c at *; subst ey; grind
  have h1 : y % P * Q ≤ (P - 1) * Q := Int.mul_le_mul_of_nonneg_right (by omega) (by omega)
  have h0 : 0 ≤ y % P * Q := Int.mul_nonneg s0 (by omega)
  rw [Int.sub_mul, Int.one_mul, ← hB] at h1
  rw [e1, e2, Int.add_mul_emod_self_left, Int.emod_eq_of_lt (by omega) (by omega)]
  rw [hB, Int.mul_add]
  generalize x / P = a at *; generalize y % P = c at *
  grind
structure ShrI (f : Nat → Int) (n : Nat) (P : Int) (k : Nat) (h : Nat → Int) : Prop where
  dig : Digs h n
  eq : P * val h k = val f k - ext f n 0 % P + ext f n k % P * pw k
theorem shrI_zero (f : Nat → Int) (n : Nat) (P : Int) : ShrI f n P 0 (fun _ => 0) := ⟨fun _ _ => zero_dig, by simp [val, pw]; omega⟩
theorem shrI_step {f h : Nat → Int} {n k : Nat} {P Q y : Int} (hf : Digs f n) (hP : 0 < P) (hQ : 0 < Q) (hPQ : P * Q = B) (hk : k < n) (hy : y = ext f n (k + 1)) (H : ShrI f n P k h) :
    ShrI f n P (k + 1) (set h k ((f k + y * 4294967296) / P % 4294967296)) := by
  subst hy
  obtain ⟨a1, a2⟩ := shr_arith (hf k hk) (ext_dig hf (k + 1)) hP hQ hPQ
  refine ⟨digs_set H.dig a1, ?_⟩
  have e := H.eq
  have ek : ext f n k = f k := by simp [ext, hk]
  rw [ek] at e
  simp only [val]
  rw [val_set_ge _ _ (Nat.le_refl k), set_eq, Int.mul_add, ← Int.mul_assoc, a2, e]
  have e3 : pw (k + 1) = pw k * 4294967296 := rfl
  rw [e3]
  generalize (ext f n (k + 1)) % P = c
  generalize f k % P = d
  grind
def UnshiftedR (n s : Nat) (f : Nat → Int) (w' : World) (u : Value) : Prop := ∃ h, Dg w' u n h ∧ 2 ^ s * val h n = val f n - val f n % 2 ^ s
theorem shr_end {f h : Nat → Int} {n s : Nat} (hf : Digs f n) (hs : s ≤ 31) (H : ShrI f n (2 ^ s) n h) : 2 ^ s * val h n = val f n - val f n % 2 ^ s := by
  have e := H.eq
  have e1 : ext f n n = 0 := by simp [ext]
  rw [e1] at e
  simp only [Int.zero_emod, Int.zero_mul, Int.add_zero] at e
  rw [e]
  obtain ⟨p0, p1⟩ := two_pow_le s hs
  have h0 := Int.emod_nonneg (ext f n 0) (b := 2 ^ s) (by omega)
  have h1 := Int.emod_lt_of_pos (ext f n 0) (b := 2 ^ s) (by omega)
  have e2 : val f n = 2 ^ s * val h n + ext f n 0 % 2 ^ s := by omega
  have e3 : val f n % 2 ^ s = ext f n 0 % 2 ^ s := by
    rw [e2, Int.mul_add_emod_self_left, Int.emod_eq_of_lt h0 h1]
  omega

set_option maxHeartbeats 1000000 in
theorem unshifted_c {w : World} {va : Value} {n s : Nat} {f : Nat → Int} (ha : Dg w va n f) (hn : n ≤ L) (hs : s ≤ 31) :
    Calls Try.prog 118 #[va, .int .u64 s] w (Ret w (UnshiftedR n s f)) := by
  have HF := Lib.hid ha.dig
  obtain ⟨xa, ca, rfl, hca, hda⟩ := ha
  have hmk := mk_u32 n (by omega) w
  unfold L at hn
  have HP : Hid ((0 : Int) < 2 ^ s ∧ (0 : Int) < 2 ^ (32 - s) ∧ (2 : Int) ^ s * 2 ^ (32 - s) = B) := by
    refine ⟨Int.pow_pos (by omega), Int.pow_pos (by omega), ?_⟩
    rw [← Int.pow_add, show s + (32 - s) = 32 from by omega]; rfl
  go_enter Try.func118, Try.ntmps118
  go_wp2_with fail
  clear hmk
  go_loopw [13] (fun i wr => ∃ (k : Nat) (h : Nat → Int), i = .int .i64 k ∧ k ≤ n ∧ Hid (Own wr w.heap.size n h) ∧ Hid (ShrI f n (2 ^ s) k h) ∧ Hid (Below w.heap.size w wr) ∧ Hid (w.heap.size < wr.heap.size))
    (fun i _ => n - (intOf i).toNat)
  case atStart => exact ⟨0, _, rfl, Nat.zero_le _, Own.made w _ _, shrI_zero f n _, below_new _, by simp [Hid]⟩
  case round =>
    obtain ⟨k, h, rfl, hk, HO, HI, HB, HS⟩ := hrel
    by_cases hlt : k < n
    · rcases hda with hda | ⟨b, off, rfl, hda⟩
      · omega
      have hcell := (hda.below HB.out).cell k hlt
      have hx0 := (HF.out k hlt).1
      have hx1 : f k < 4294967296 := (HF.out k hlt).2
      have hown := HO.out.cell k (by omega)
      have hfree := HO.out.free k
      by_cases hlast : k + 1 < n
      · have hcell1 := (hda.below HB.out).cell (k + 1) hlast
        have hy0 := (HF.out (k + 1) hlast).1
        have hy1 : f (k + 1) < 4294967296 := (HF.out (k + 1) hlast).2
        have hdec : decide ((k : Int) + 1 < (n : Int)) = true := by simp; omega
        have eor := or_join' hy0 hy1 hx0 hx1
        have HN := Lib.hid (shrI_step HF.out HP.out.1 HP.out.2.1 HP.out.2.2 hlt (y := f (k + 1)) (by simp [ext, hlast]) HI.out)
        clear hda
        go_wp2
        go_roundw
        case rel => exact ⟨k + 1, _, by go_num, by omega, HO.out.set (by omega) _, HN.out, HB.out.setCell (Nat.le_refl _) _, by simpa [Hid] using HS.out⟩
        case measure => simp [intOf]; omega
      · have hdec : decide ((k : Int) + 1 < (n : Int)) = false := by simp; omega
        have HN := Lib.hid (shrI_step HF.out HP.out.1 HP.out.2.1 HP.out.2.2 hlt (y := 0) (by simp [ext, hlast]) HI.out)
        rw [Int.zero_mul, Int.add_zero] at HN
        clear hda
        go_wp2
        go_roundw
        case rel => exact ⟨k + 1, _, by go_num, by omega, HO.out.set (by omega) _, HN.out, HB.out.setCell (Nat.le_refl _) _, by simpa [Hid] using HS.out⟩
        case measure => simp [intOf]; omega
    · obtain rfl : k = n := by omega
      have HE := Lib.hid (shr_end HF.out hs HI.out)
      go_wp2
      go_ret
      exact .mk rfl HB.out ⟨_, HO.out.dg HI.out.dig (Nat.le_refl _), HE.out⟩
end Hp
