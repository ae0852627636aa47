/- What the division of a list of digits by one digit computes; lists are not longer than 2^44. -/
import Derived.Test.YtmcfohngblbpbaaBigT
namespace Hp
open Go Go.RowKit Go.Proofs

def Pair (a b : Value) (_ : World) (u : Value) : Prop := u = .tuple #[a, b]
theorem div32_arith {hi lo y : Int} (hhi : isDig hi) (hlo : isDig lo) (hy : hi < y) (hy1 : y < 4294967296) :
    0 ≤ (hi * 4294967296 + lo) / y ∧ (hi * 4294967296 + lo) / y < 4294967296 ∧ 0 ≤ (hi * 4294967296 + lo) % y ∧ (hi * 4294967296 + lo) % y < 4294967296 := by
  obtain ⟨h0, h1⟩ := hhi
  obtain ⟨l0, l1⟩ := hlo
  unfold B at h1 l1
  refine ⟨Int.ediv_nonneg (by omega) (by omega), Int.ediv_lt_of_lt_mul (by omega) ?_, Int.emod_nonneg _ (by omega), ?_⟩
  · omega
  · have := Int.emod_lt_of_pos (hi * 4294967296 + lo) (b := y) (by omega)
    omega
set_option maxHeartbeats 1000000 in
theorem div32_c (hi lo y : Int) (w : World) (hhi : isDig hi) (hlo : isDig lo) (hy : hi < y) (hy1 : y < 4294967296) :
    Calls Try.prog 127 #[.int .u32 hi, .int .u32 lo, .int .u32 y] w (Ret w (Pair (.int .u32 ((hi * 4294967296 + lo) / y)) (.int .u32 ((hi * 4294967296 + lo) % y)))) := by
  obtain ⟨a1, a2, a3, a4⟩ := div32_arith hhi hlo hy hy1
  obtain ⟨h0, h1⟩ := hhi
  obtain ⟨l0, l1⟩ := hlo
  unfold B at h1 l1
  have b0 : (y != 0) = true := by simp; omega
  have b1 : decide (y ≤ hi) = false := by simp; omega
  have e4 := or_join h0 h1 l0 l1
  have e1 := wrap_u64_of (x := hi * 4294967296) (by omega) (by omega)
  have y0 : 0 < y := by omega
  have z0 : 0 ≤ hi * 4294967296 + lo := by omega
  have z1 : hi * 4294967296 + lo < 18446744073709551616 := by omega
  have d0 : (y == 0) = false := by simp; omega
  go_enter Try.func127, Try.ntmps127
  go_wp2
  go_quiet (fail)
  go_wp2
  go_ret2
  exact .mk rfl ⟨rfl, rfl, rfl, Nat.le_refl _, fun _ _ => rfl⟩ rfl

/-- the digits from k on are divided -/
structure ShortI (f : Nat → Int) (n : Nat) (d : Int) (k : Nat) (h : Nat → Int) (r : Int) : Prop where
  dig : Digs h n
  r0 : 0 ≤ r
  r1 : r < d
  zero : ∀ t, t < k → h t = 0
  eq : val h n * d + r * pw k + val f k = val f n
theorem shortI_start {f : Nat → Int} {n : Nat} {d : Int} (hd : 0 < d) : ShortI f n d n (fun _ => 0) 0 :=
  ⟨fun _ _ => zero_dig, Int.le_refl _, hd, fun _ _ => rfl, by rw [val_const0]; omega⟩
theorem shortI_step {f h : Nat → Int} {n k : Nat} {d r : Int} (hf : Digs f n) (hd : isDig d) (hk : k < n) (H : ShortI f n d (k + 1) h r) :
    ShortI f n d k (set h k ((r * 4294967296 + f k) / d)) ((r * 4294967296 + f k) % d) := by
  have hr : isDig r := ⟨H.r0, by have := H.r1; have := hd.2; omega⟩
  obtain ⟨a1, a2, a3, a4⟩ := div32_arith hr (hf k hk) H.r1 hd.2
  have hd0 : 0 < d := by have := H.r0; have := H.r1; omega
  refine ⟨digs_set H.dig ⟨a1, a2⟩, a3, Int.emod_lt_of_pos _ hd0, fun t ht => ?_, ?_⟩
  · rw [set_ne _ _ (by omega)]; exact H.zero t (by omega)
  · rw [val_set _ hk, H.zero k (by omega)]
    have e := H.eq
    have e2 := Int.mul_ediv_add_emod (r * 4294967296 + f k) d
    have e3 : pw (k + 1) = pw k * 4294967296 := rfl
    rw [e3] at e
    simp only [val] at e
    grind
def ShortR (n : Nat) (f : Nat → Int) (d : Int) (w' : World) (u : Value) : Prop :=
  ∃ s h r, u = .tuple #[s, .int .u32 r] ∧ Dg w' s n h ∧ 0 ≤ r ∧ r < d ∧ val h n * d + r = val f n
set_option maxHeartbeats 1000000 in
theorem short_c {w : World} {va : Value} {n : Nat} {f : Nat → Int} {d : Int} (ha : Dg w va n f) (hn : n ≤ L) (hd : isDig d) (hd0 : 0 < d) :
    Calls Try.prog 114 #[va, .int .u32 d] w (Ret w (ShortR n f d)) := by
  have HF := Lib.hid ha.dig
  obtain ⟨xa, ca, rfl, hca, hda⟩ := ha
  have hmk := mk_u32 n (by omega) w
  unfold L at hn
  have HD := Lib.hid (And.intro hd hd0)
  have hd1 : d < 4294967296 := hd.2
  clear hd
  go_enter Try.func114, Try.ntmps114
  go_wp2_with fail
  clear hmk
  go_loopw [7, 8] (fun c i wr => ∃ (k : Nat) (h : Nat → Int) (r : Int), i = .int .i64 ((k : Int) - 1) ∧ k ≤ n ∧ c = .int .u32 r ∧ Hid (Own wr w.heap.size n h) ∧ Hid (ShortI f n d k h r) ∧ Hid (Below w.heap.size w wr) ∧ Hid (w.heap.size < wr.heap.size))
    (fun _ i _ => (intOf i + 1).toNat)
  case atStart => exact ⟨n, _, 0, rfl, Nat.le_refl _, rfl, Own.made w _ _, shortI_start hd0, below_new _, by simp [Hid]⟩
  case round =>
    obtain ⟨k, h, r, rfl, hk, rfl, HO, HI, HB, HS⟩ := hrel
    by_cases h0 : 0 < k
    · rcases hda with hda | ⟨b, off, rfl, hda⟩
      · omega
      obtain ⟨j, rfl⟩ : ∃ j, k = j + 1 := ⟨k - 1, by omega⟩
      rw [show (((j + 1 : Nat) : Int) - 1) = (j : Int) from by omega]
      have hcell := (hda.below HB.out).cell j (by omega)
      have hown := HO.out.cell j (by omega)
      have hfree := HO.out.free j
      have HN := Lib.hid (shortI_step HF.out HD.out.1 (show j < n by omega) HI.out)
      have HR : Hid (isDig r) := ⟨HI.out.r0, Int.lt_trans HI.out.r1 HD.out.1.2⟩
      clear hda
      go_wp2_with fail
      refine (div32_c _ _ _ _ HR.out (HF.out j (by omega)) HI.out.r1 hd1).mono ?_
      rintro e w1 ⟨v, rfl, hb, rfl⟩
      have HB1 := Lib.hid (HB.out.trans (hb.mono (Nat.le_of_lt HS.out)))
      have HO1 := Lib.hid (HO.out.below HS.out hb)
      have HS1 := Lib.hid (Nat.lt_of_lt_of_le HS.out hb.size)
      have hown1 := HO1.out.cell j (by omega)
      have hfree1 := HO1.out.free j
      clear hown hfree hcell hb HB HO HS
      go_wp2
      go_roundw
      case rel => exact ⟨j, _, _, rfl, by omega, rfl, HO1.out.set (by omega) _, HN.out, HB1.out.setCell (Nat.le_refl _) _, by simpa [Hid] using HS1.out⟩
      case measure => first | (simp [intOf]; done) | (simp [intOf]; omega)
    · obtain rfl : k = 0 := by omega
      have HE := HI.out.eq
      have HE2 := Lib.hid HE
      clear HE
      go_wp2
      go_ret2
      exact .mk rfl HB.out ⟨_, h, r, rfl, HO.out.dg HI.out.dig (Nat.le_refl _), HI.out.r0, HI.out.r1, by have := HE2.out; simp [val, pw] at this; omega⟩
end Hp
