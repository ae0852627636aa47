/- What the program's difference and comparison of two lists of digits compute, and its small helpers; lists are not longer than 2^44. -/
import Derived.Test.YtmcfohngblbpbaaBigB
namespace Hp
open Go Go.RowKit Go.Proofs

theorem top_or (a b : Nat) : (a ||| b) / 2 ^ 31 = a / 2 ^ 31 ||| b / 2 ^ 31 := by simp only [← Nat.shiftRight_eq_div_pow]; exact Nat.shiftRight_or_distrib
theorem top_and (a b : Nat) : (a &&& b) / 2 ^ 31 = a / 2 ^ 31 &&& b / 2 ^ 31 := by simp only [← Nat.shiftRight_eq_div_pow]; exact Nat.shiftRight_and_distrib
theorem top_xor (a b : Nat) : (a ^^^ b) / 2 ^ 31 = a / 2 ^ 31 ^^^ b / 2 ^ 31 := by simp only [← Nat.shiftRight_eq_div_pow]; exact Nat.shiftRight_xor_distrib
theorem lt_or {a b : Nat} (ha : a < 4294967296) (hb : b < 4294967296) : a ||| b < 4294967296 := Nat.or_lt_two_pow (n := 32) ha hb
theorem lt_and {a b : Nat} (ha : a < 4294967296) : a &&& b < 4294967296 := Nat.lt_of_le_of_lt Nat.and_le_left ha
theorem lt_xor {a b : Nat} (ha : a < 4294967296) (hb : b < 4294967296) : a ^^^ b < 4294967296 := Nat.xor_lt_two_pow (n := 32) ha hb
theorem borrow_nat (x y d : Nat) (hx : x < 4294967296) (hy : y < 4294967296) (hd : d < 4294967296) (c : Int) (h : (d : Int) = ((x : Int) - y - c) % 4294967296) (hc0 : 0 ≤ c) (hc1 : c ≤ 1) :
    (((4294967295 ^^^ x) &&& y ||| (4294967295 ^^^ (x ^^^ y)) &&& d) / 2 ^ 31 : Nat) = -(((x : Int) - y - c) / 4294967296) := by
  rw [top_or, top_and, top_and, top_xor, top_xor, top_xor]
  have hx' : x / 2 ^ 31 = 0 ∨ x / 2 ^ 31 = 1 := by omega
  have hy' : y / 2 ^ 31 = 0 ∨ y / 2 ^ 31 = 1 := by omega
  have hd' : d / 2 ^ 31 = 0 ∨ d / 2 ^ 31 = 1 := by omega
  have e : (4294967295 / 2 ^ 31 : Nat) = 1 := by decide
  rw [e]
  rcases hx' with hx' | hx' <;> rcases hy' with hy' | hy' <;> rcases hd' with hd' | hd' <;> rw [hx', hy', hd'] <;> simp <;> omega
theorem sub_borrow (x y c : Int) (hx : isDig x) (hy : isDig y) (hc0 : 0 ≤ c) (hc1 : c ≤ 1) :
    bits .or .u32 (bits .and .u32 (bits .xor .u32 IntKind.u32.max x) y) (bits .and .u32 (bits .xor .u32 IntKind.u32.max (bits .xor .u32 x y)) ((x - y - c) % 4294967296)) / 2147483648 = -((x - y - c) / 4294967296) := by
  obtain ⟨hx0, hx1⟩ := hx
  obtain ⟨hy0, hy1⟩ := hy
  unfold B at hx1 hy1
  obtain ⟨x, rfl⟩ := Int.eq_ofNat_of_zero_le hx0
  obtain ⟨y, rfl⟩ := Int.eq_ofNat_of_zero_le hy0
  have hm : IntKind.u32.max = ((4294967295 : Nat) : Int) := by decide
  obtain ⟨d, hd⟩ := Int.eq_ofNat_of_zero_le (Int.emod_nonneg ((x : Int) - y - c) (b := 4294967296) (by omega))
  have hd1 : d < 4294967296 := by have := Int.emod_lt_of_pos ((x : Int) - y - c) (b := 4294967296) (by omega); omega
  have h1 : 4294967295 ^^^ x < 4294967296 := lt_xor (by omega) (by omega)
  have h2 : x ^^^ y < 4294967296 := lt_xor (by omega) (by omega)
  have h3 : 4294967295 ^^^ (x ^^^ y) < 4294967296 := lt_xor (by omega) h2
  rw [hd, hm, u32_xor_nat _ _ (by omega) (by omega), u32_and_nat _ _ h1 (by omega), u32_xor_nat x y (by omega) (by omega), u32_xor_nat _ _ (by omega) h2, u32_and_nat _ _ h3 hd1, u32_or_nat _ _ (lt_and h1) (lt_and h3)]
  have := borrow_nat x y d (by omega) (by omega) hd1 c hd.symm hc0 hc1
  rw [← this]
  rfl

theorem sub32_c (x y c : Int) (w : World) (hx : isDig x) (hy : isDig y) (hc : 0 ≤ c ∧ c ≤ 1) :
    Calls Try.prog 120 #[.int .u32 x, .int .u32 y, .int .u32 c] w fun e w' => e = .returned (.tuple #[.int .u32 ((x - y - c) % 4294967296), .int .u32 (-((x - y - c) / 4294967296))]) ∧ w = w' := by
  have HE := Lib.hid (sub_borrow x y c hx hy hc.1 hc.2)
  obtain ⟨hx0, hx1⟩ := hx
  obtain ⟨hy0, hy1⟩ := hy
  obtain ⟨hc0, hc1⟩ := hc
  unfold B at hx1 hy1
  go_enter Try.func120, Try.ntmps120
  go_wp2
  all_goals (go_ret2; refine ⟨?_, rfl⟩; rw [← HE.out]; try rfl)
  all_goals (rename_i h; first | (exact (h rfl).elim) | (exact absurd h (by decide)))

/-- after k rounds -/
def LessI (f g : Nat → Int) (m k : Nat) (h : Nat → Int) (c : Int) : Prop :=
  Digs h k ∧ 0 ≤ c ∧ c ≤ 1 ∧ val h k - c * pw k = val f k - val (ext g m) k
theorem lessI_zero (f g h : Nat → Int) (m : Nat) : LessI f g m 0 h 0 := ⟨fun i hi => by omega, by omega, by omega, by simp [val]⟩
theorem lessI_step {f g h : Nat → Int} {m k n : Nat} {c y : Int} (hd : Digs f n) (he : isDig y) (hy : y = ext g m k) (hk : k < n) (H : LessI f g m k h c) :
    LessI f g m (k + 1) (set h k ((f k - y - c) % 4294967296)) (-((f k - y - c) / 4294967296)) := by
  obtain ⟨h1, h2, h3, h4⟩ := H
  have hx := hd k hk
  have h5 := mod_dig (f k - y - c)
  refine ⟨?_, ?_, ?_, ?_⟩
  · intro i hi
    by_cases e : i = k
    · rw [e, set_eq]; exact h5
    · rw [set_ne _ _ e]; exact h1 i (by omega)
  · have := hx.1; have := he.1; have := hx.2; have := he.2; unfold B at *; omega
  · have := hx.1; have := he.1; have := hx.2; have := he.2; unfold B at *; omega
  · simp only [val]
    rw [val_set_ge _ _ (Nat.le_refl k), set_eq, ← hy]
    exact minus_step h4 rfl
theorem lessI_end {f g h : Nat → Int} {m n : Nat} {c : Int} (hm : m ≤ n) (hle : val g m ≤ val f n) (H : LessI f g m n h c) : Digs h n ∧ val h n = val f n - val g m := by
  obtain ⟨h1, h2, h3, h4⟩ := H
  rw [val_ext hm] at h4
  refine ⟨h1, ?_⟩
  have h5 := val_lt h1
  have h6 : c = 0 ∨ c = 1 := by omega
  rcases h6 with rfl | rfl <;> omega
def LessR (n m : Nat) (f g : Nat → Int) (w' : World) (u : Value) : Prop := ∃ h, Dg w' u n h ∧ val h n = val f n - val g m

set_option maxHeartbeats 1000000 in
theorem less_c {w : World} {va vb : Value} {n m : Nat} {f g : Nat → Int} (ha : Dg w va n f) (hb : Dg w vb m g) (hn : n ≤ L) (hmn : m ≤ n) (hle : val g m ≤ val f n) :
    Calls Try.prog 107 #[va, vb] w (Ret w (LessR n m f g)) := by
  obtain ⟨xa, ca, rfl, hca, hda⟩ := ha
  obtain ⟨xb, cb, rfl, hcb, hdb⟩ := hb
  have HV := Lib.hid hle
  have hn' : n ≤ 17592186044416 := hn
  clear hle
  have hmk := mk_u32 n (by unfold L; omega) w
  go_enter Try.func107, Try.ntmps107
  go_wp2_with fail
  clear hmk
  go_loopw [6, 15] (fun c i wr => ∃ (k : Nat) (h : Nat → Int) (cc : Int), i = .int .i64 k ∧ k ≤ n ∧ c = .int .u32 cc ∧ Hid (Own wr w.heap.size n h) ∧ Hid (LessI f g m k h cc) ∧ Hid (Below w.heap.size w wr) ∧ Hid (w.heap.size < wr.heap.size))
    (fun _ i _ => n - (intOf i).toNat)
  case atStart => exact ⟨0, _, 0, rfl, Nat.zero_le _, rfl, Own.made w _ _, lessI_zero _ _ _ _, below_new _, by simp [Hid]⟩
  case round =>
    obtain ⟨k, h, cc, rfl, hk, rfl, HO, HI, HB, HS⟩ := hrel
    by_cases hlt : k < n
    · rcases hda with hda | ⟨b, off, rfl, hda⟩
      · omega
      have hdig := hda.dig
      have hcell := (hda.below HB.out).cell k hlt
      have hown := HO.out.cell k (by omega)
      have hfree := HO.out.free k
      have hI := HI.out
      by_cases hlm : k < m
      · rcases hdb with hdb | ⟨b', off', rfl, hdb⟩
        · omega
        have hcell' := (hdb.below HB.out).cell k hlm
        have hdig' := hdb.dig k hlm
        have HN : Hid (LessI f g m (k + 1) (set h k ((f k - g k - cc) % 4294967296)) (-((f k - g k - cc) / 4294967296))) :=
          lessI_step hdig hdig' (by simp [ext, hlm]) hlt hI
        have HC : Hid (isDig (f k) ∧ isDig (g k) ∧ 0 ≤ cc ∧ cc ≤ 1) := ⟨hdig k hlt, hdig', hI.2.1, hI.2.2.1⟩
        clear hdig hdig' hI hda hdb
        go_wp2_with fail
        refine (sub32_c _ _ _ _ HC.out.1 HC.out.2.1 HC.out.2.2).mono ?_
        rintro e w' ⟨rfl, rfl⟩
        go_wp2
        go_roundw
        case rel => exact ⟨k + 1, _, _, by go_num, by omega, rfl, HO.out.set (by omega) _, HN.out, HB.out.setCell (Nat.le_refl _) _, by simpa [Hid] using HS.out⟩
        case measure => simp [intOf]; omega
      · have HN : Hid (LessI f g m (k + 1) (set h k ((f k - 0 - cc) % 4294967296)) (-((f k - 0 - cc) / 4294967296))) :=
          lessI_step hdig zero_dig (by simp [ext, hlm]) hlt hI
        have HC : Hid (isDig (f k) ∧ isDig 0 ∧ 0 ≤ cc ∧ cc ≤ 1) := ⟨hdig k hlt, zero_dig, hI.2.1, hI.2.2.1⟩
        rw [Int.sub_zero] at HN
        clear hdig hI hda hdb
        go_wp2_with fail
        refine (sub32_c _ _ _ _ HC.out.1 HC.out.2.1 HC.out.2.2).mono ?_
        rintro e w' ⟨rfl, rfl⟩
        go_wp2
        go_roundw
        case rel => exact ⟨k + 1, _, _, by go_num, by omega, rfl, HO.out.set (by omega) _, HN.out, HB.out.setCell (Nat.le_refl _) _, by simpa [Hid] using HS.out⟩
        case measure => simp [intOf]; omega
    · obtain rfl : k = n := by omega
      have HE := Lib.hid (lessI_end hmn HV.out HI.out)
      clear hda hdb hca hcb
      go_wp2
      go_ret
      refine .mk rfl HB.out ⟨_, HO.out.dg HE.out.1 (Nat.le_refl _), HE.out.2⟩

def sgn (x : Int) : Int := if x < 0 then -1 else if 0 < x then 1 else 0
theorem sign_c (x : Int) (w : World) : Calls Try.prog 126 #[.int .i64 x] w fun e w' => e = .returned (.int .i64 (sgn x)) ∧ w = w' := by
  have h : Hid (∀ y, (x < 0 → y = -1) → (0 < x → y = 1) → (x = 0 → y = 0) → sgn x = y) := by
    intro y h1 h2 h3
    unfold sgn
    split
    · exact (h1 ‹_›).symm
    · split
      · exact (h2 ‹_›).symm
      · exact (h3 (by omega)).symm
  go_enter Try.func126, Try.ntmps126
  go_wp2
  all_goals (go_ret; refine ⟨?_, rfl⟩)
  · rw [h.out (-1) (by omega) (by omega) (by omega)]; rfl
  · rw [h.out 1 (by omega) (by omega) (by omega)]; rfl
  · rw [h.out 0 (by omega) (by omega) (by omega)]; rfl
end Hp
