/- What the program's sum of two lists of digits computes; no condition but that lists are not longer than 2^44. -/
import Derived.Test.YtmcfohngblbpbaaBigA
namespace Hp
open Go Go.RowKit Go.Proofs

/-- after k rounds: the first k digits of the sum, and a carry -/
def PlusI (f g : Nat → Int) (m k : Nat) (h : Nat → Int) (c : Int) : Prop :=
  Digs h k ∧ 0 ≤ c ∧ c ≤ 1 ∧ val h k + c * pw k = val f k + val (ext g m) k
theorem plusI_zero (f g h : Nat → Int) (m : Nat) : PlusI f g m 0 h 0 := ⟨fun i hi => by omega, by omega, by omega, by simp [val]⟩
theorem plusI_step {f g h : Nat → Int} {m k n : Nat} {c y : Int} (hd : Digs f n) (he : isDig y) (hy : y = ext g m k) (hk : k < n) (H : PlusI f g m k h c) :
    PlusI f g m (k + 1) (set h k ((f k + y + c) % 4294967296)) ((f k + y + c) / 4294967296) := by
  obtain ⟨h1, h2, h3, h4⟩ := H
  have hx := hd k hk
  have h5 := mod_dig (f k + y + c)
  refine ⟨?_, ?_, ?_, ?_⟩
  · intro i hi
    by_cases e : i = k
    · rw [e, set_eq]; exact h5
    · rw [set_ne _ _ e]; exact h1 i (by omega)
  · have := hx.1; have := he.1; omega
  · have := hx.2; have := he.2; unfold B at *; omega
  · simp only [val]
    rw [val_set_ge _ _ (Nat.le_refl k), set_eq, ← hy]
    exact plus_step h4 rfl
theorem plusI_end {f g h : Nat → Int} {m n : Nat} {c : Int} (hm : m ≤ n) (H : PlusI f g m n h c) : Digs (set h n c) (n + 1) ∧ val (set h n c) (n + 1) = val f n + val g m := by
  obtain ⟨h1, h2, h3, h4⟩ := H
  rw [val_ext hm] at h4
  refine ⟨?_, ?_⟩
  · intro i hi
    by_cases e : i = n
    · rw [e, set_eq]; exact ⟨h2, by unfold B; omega⟩
    · rw [set_ne _ _ e]; exact h1 i (by omega)
  · simp only [val]
    rw [val_set_ge _ _ (Nat.le_refl n), set_eq]
    exact h4
def PlusR (n m : Nat) (f g : Nat → Int) (w' : World) (u : Value) : Prop := ∃ k h, Dg w' u k h ∧ k ≤ max n m + 1 ∧ val h k = val f n + val g m
/-- the two lists, the longer one first -/
def Swapped (w : World) (n m : Nat) (f g : Nat → Int) (s0 s1 : Value) : Prop :=
  ∃ n' m' f' g', Dg w s0 n' f' ∧ Dg w s1 m' g' ∧ m' ≤ n' ∧ n' ≤ max n m ∧ val f' n' + val g' m' = val f n + val g m

set_option maxHeartbeats 1000000 in
theorem plus_c {w : World} {va vb : Value} {n m : Nat} {f g : Nat → Int} (ha : Dg w va n f) (hb : Dg w vb m g) (hn : n ≤ L) (hm : m ≤ L) :
    Calls Try.prog 106 #[va, vb] w (Ret w (PlusR n m f g)) := by
  have Hswap1 : Hid (m ≤ n → Swapped w n m f g va vb) := fun h => ⟨n, m, f, g, ha, hb, h, by omega, rfl⟩
  have Hswap2 : Hid (n < m → Swapped w n m f g vb va) := fun h => ⟨m, n, g, f, hb, ha, by omega, by omega, Int.add_comm _ _⟩
  obtain ⟨xa, ca, rfl, -, -⟩ := ha
  obtain ⟨xb, cb, rfl, -, -⟩ := hb
  go_enter Try.func106, Try.ntmps106
  go_upto_if 14 with fail
  go_cut [0, 1] (fun s0 s1 wx => w = wx ∧ Swapped w n m f g s0 s1)
  case first =>
    by_cases h : n < m
    · have H := Hswap2.out h
      have Hb : decide (n < m) = true := by simp [h]
      go_wp2
      go_meet
      case rel => exact ⟨rfl, H⟩
    · have H := Hswap1.out (by omega)
      have Hb : decide (n < m) = false := by simp; omega
      go_wp2
      go_meet
      case rel => exact ⟨rfl, H⟩
  case rest =>
    obtain ⟨rfl, n', m', f', g', ha, hb, hmn, hmax, hval⟩ := hcut
    clear Hswap1 Hswap2
    obtain ⟨xa', ca', rfl, hca, hda⟩ := ha
    obtain ⟨xb', cb', rfl, hcb, hdb⟩ := hb
    have hn' : n' ≤ 17592186044416 := by unfold L at hn hm; omega
    have hmk := mk_u32 (n' + 1) (by unfold L; omega) w
    rw [show ((n' + 1 : Nat) : Int) = (n' : Int) + 1 from by omega] at hmk
    have HV := Lib.hid hval
    clear hval
    go_wp2_with fail
    clear hmk
    go_loopw [6, 23] (fun c i wr => ∃ (k : Nat) (h : Nat → Int) (cc : Int), i = .int .i64 k ∧ k ≤ n' ∧ c = .int .u32 cc ∧ Hid (Own wr w.heap.size (n' + 1) h) ∧ Hid (PlusI f' g' m' k h cc) ∧ Hid (Below w.heap.size w wr) ∧ Hid (w.heap.size < wr.heap.size))
      (fun _ i _ => n' - (intOf i).toNat)
    case atStart => exact ⟨0, _, 0, rfl, Nat.zero_le _, rfl, Own.made w _ _, plusI_zero _ _ _ _, below_new _, by simp [Hid]⟩
    case round =>
      obtain ⟨k, h, cc, rfl, hk, rfl, HO, HI, HB, HS⟩ := hrel
      by_cases hlt : k < n'
      · rcases hda with hda | ⟨b, off, rfl, hda⟩
        · omega
        have hdig := hda.dig
        have hcell := (hda.below HB.out).cell k hlt
        have hown := HO.out.cell k (by omega)
        have hfree := HO.out.free k
        have hI := HI.out
        by_cases hlm : k < m'
        · rcases hdb with hdb | ⟨b', off', rfl, hdb⟩
          · omega
          have hcell' := (hdb.below HB.out).cell k hlm
          have hdig' := hdb.dig k hlm
          have HN : Hid (PlusI f' g' m' (k + 1) (set h k ((f' k + g' k + cc) % 4294967296)) ((f' k + g' k + cc) / 4294967296)) :=
            plusI_step hdig hdig' (by simp [ext, hlm]) hlt hI
          have HC : Hid (isDig (f' k) ∧ isDig (g' k) ∧ 0 ≤ cc ∧ cc ≤ 1) := ⟨hdig k hlt, hdig', hI.2.1, hI.2.2.1⟩
          clear hdig hdig' hI hda hdb
          go_wp2_with fail
          refine (add32_c _ _ _ _ HC.out.1 HC.out.2.1 HC.out.2.2).mono ?_
          rintro e w' ⟨rfl, rfl⟩
          go_wp2
          go_roundw
          case rel => exact ⟨k + 1, _, _, by go_num, by omega, rfl, HO.out.set (by omega) _, HN.out, HB.out.setCell (Nat.le_refl _) _, by simpa [Hid] using HS.out⟩
          case measure => simp [intOf]; omega
        · have HN : Hid (PlusI f' g' m' (k + 1) (set h k ((f' k + 0 + cc) % 4294967296)) ((f' k + 0 + cc) / 4294967296)) :=
            plusI_step hdig zero_dig (by simp [ext, hlm]) hlt hI
          have HC : Hid (isDig (f' k) ∧ isDig 0 ∧ 0 ≤ cc ∧ cc ≤ 1) := ⟨hdig k hlt, zero_dig, hI.2.1, hI.2.2.1⟩
          rw [Int.add_zero] at HN
          clear hdig hI hda hdb
          go_wp2_with fail
          refine (add32_c _ _ _ _ HC.out.1 HC.out.2.1 HC.out.2.2).mono ?_
          rintro e w' ⟨rfl, rfl⟩
          go_wp2
          go_roundw
          case rel => exact ⟨k + 1, _, _, by go_num, by omega, rfl, HO.out.set (by omega) _, HN.out, HB.out.setCell (Nat.le_refl _) _, by simpa [Hid] using HS.out⟩
          case measure => simp [intOf]; omega
      · obtain rfl : k = n' := by omega
        have hown := HO.out.cell k (by omega)
        have hfree := HO.out.free k
        have HE := Lib.hid (plusI_end hmn HI.out)
        clear hda hdb hca hcb
        go_wp2
        go_ret
        refine .mk rfl (HB.out.setCell (Nat.le_refl _) _) ⟨k + 1, _, (HO.out.set (by omega) _).dg HE.out.1 (Nat.le_refl _), by omega, by rw [HE.out.2, HV.out]⟩
end Hp
