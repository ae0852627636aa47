/- What the program's functions on lists of digits compute: the sum of two lists, the digits without leading zeros; no condition but that lists are not longer than 2^44. -/
import Derived.Test.YtmcfohngblbpbaaRows
import Derived.Test.YtmcfohngblbpbaaMem
namespace Hp
open Go Go.RowKit Go.Proofs

theorem info_u32 : (Try.prog.info? 83).map (fun i => (i.zero, i.size, i.bytes)) = some (some (.int .u32 0), 1, 4) := by kernel_rfl
theorem mk_u32 (n : Nat) (hn : n ≤ 2 * L + 2) (w : World) : (Instr.makeSlice 33 (.int .i64 (n : Int)) (.int .i64 (n : Int))).run Try.prog w =
    .ok (.slice (some ⟨w.heap.size, 0, none⟩) n n) (w.alloc (.cells (madeCells #[.int .u32 0] n) 83)) := by
  obtain ⟨i0, hi, hz0, hz1, hz2⟩ := info_parts info_u32
  unfold L at hn
  have := run_make (P := Try.prog) w 33 83 i0 _ Try.underlying33 hi hz0 .i64 .i64 n n (by omega) (by omega) (by rw [hz2]; omega) (by omega)
  rw [this, hz1]
  simp [Value.cells]

theorem add32_c (x y c : Int) (w : World) (hx : isDig x) (hy : isDig y) (hc : 0 ≤ c ∧ c ≤ 1) :
    Calls Try.prog 119 #[.int .u32 x, .int .u32 y, .int .u32 c] w fun e w' => e = .returned (.tuple #[.int .u32 ((x + y + c) % 4294967296), .int .u32 ((x + y + c) / 4294967296)]) ∧ w = w' := by
  obtain ⟨hx0, hx1⟩ := hx
  obtain ⟨hy0, hy1⟩ := hy
  obtain ⟨hc0, hc1⟩ := hc
  unfold B at hx1 hy1
  go_enter Try.func119, Try.ntmps119
  go_wp2
  go_ret2
  exact ⟨rfl, rfl⟩

/-- u is v without the leading zeros: the same memory -/
def TrimmedR (v : Value) (n : Nat) (f : Nat → Int) (u : Value) : Prop := ∃ a cap k, v = .slice a n cap ∧ u = .slice a k cap ∧ k ≤ n ∧ n ≤ cap ∧ Canon f k ∧ val f k = val f n
theorem TrimmedR.dg {w : World} {v u : Value} {n : Nat} {f : Nat → Int} (h : TrimmedR v n f u) (hd : Dg w v n f) : ∃ k, Dg w u k f ∧ k ≤ n ∧ Canon f k ∧ val f k = val f n := by
  obtain ⟨a, cap, k, rfl, rfl, hk, _, hc, hv⟩ := h
  exact ⟨k, hd.take hk, hk, hc, hv⟩
/-- digits without leading zeros: the same memory -/
theorem trimmed_c {w : World} {v : Value} {n : Nat} {f : Nat → Int} (h : Dg w v n f) (hn : n ≤ L) :
    Calls Try.prog 86 #[v] w (RetQ w (TrimmedR v n f)) := by
  obtain ⟨a, cap, rfl, hcap, hd⟩ := h
  have hD : Hid (Dg w (.slice a n cap) n f) := ⟨a, cap, rfl, hcap, hd⟩
  unfold L at hn
  go_enter Try.func86, Try.ntmps86
  go_wp2
  go_loop [0] (fun v => ∃ k : Nat, v = .slice a k cap ∧ Hid (k ≤ n ∧ ∀ i, k ≤ i → i < n → f i = 0)) (fun v => match v with | .slice _ n _ => n | _ => 0)
  case atStart => exact ⟨_, rfl, Nat.le_refl _, fun i a b => by omega⟩
  case round =>
    obtain ⟨k, rfl, HK⟩ := hrel
    have hk := HK.out.1
    by_cases h0 : 0 < k
    · rcases hd with hd | ⟨b, off, rfl, hat⟩
      · omega
      have hcell := hat.cell (k-1) (by omega)
      have hdig := hat.dig (k - 1) (by omega)
      clear hat
      obtain ⟨hd0, hd1⟩ := hdig
      by_cases hx : f (k-1) = 0
      · have HX := Lib.hid hx
        have hb : (f (k-1) == 0) = true := by simp [hx]
        clear hx
        go_wp2
        go_round
        case rel => exact ⟨k - 1, rfl, by omega, fun i a b => by
                      by_cases e : i = k - 1
                      · rw [e]; exact HX.out
                      · exact HK.out.2 i (by omega) b⟩
        case measure => simp; omega
      · have HX := Lib.hid hx
        have hb : (f (k-1) == 0) = false := by simp [hx]
        clear hx
        go_wp2
        go_ret
        exact .mk rfl ⟨_, cap, k, rfl, rfl, hk, hcap, .inr HX.out, (val_trim hk HK.out.2).symm⟩
    · obtain rfl : k = 0 := by omega
      go_wp2
      go_ret
      exact .mk rfl ⟨_, cap, 0, rfl, rfl, hk, hcap, .inl rfl, (val_trim hk HK.out.2).symm⟩
end Hp
