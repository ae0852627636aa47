/- What the program's shifts of lists of digits compute. -/
import Derived.Test.YtalcdpjpapojeaaGreatDoorOab
import Derived.Test.YtalcdpjpapojeaaGreatDoorLen
import Derived.Deep.CutBlock
set_option linter.all false
namespace Hp
open Go Go.RowKit Go.Proofs
theorem Zft (s : Nat) (hs : s ≤ 31) : (1 : Int) ≤ 2 ^ s ∧ (2 : Int) ^ s ≤ 2147483648 := by
 have h1 : 2 ^ s ≤ 2 ^ 31 := Nat.pow_le_pow_right oM hs
 have h2 : 0 < 2 ^ s := Nat.pow_pos oM
 have e : ((2 ^ s : Nat) : Int) = (2 : Int) ^ s := by simp
 rw [← e]
 omega
theorem shl_arith {x y : Int} {s : Nat} (hx : Zal x) (hs : s ≤ 31) (hy0 : 0 ≤ y) (hy1 : y < 2 ^ s) :
  bits .or .u32 y (IntKind.u64.wrap (x * 2 ^ s) % 4294967296) = y + x * 2 ^ s % 4294967296 ∧ IntKind.u64.wrap (x * 2 ^ s) / 4294967296 % 4294967296 = x * 2 ^ s / 4294967296 ∧
   0 ≤ x * 2 ^ s / 4294967296 ∧ x * 2 ^ s / 4294967296 < 2 ^ s ∧ Zal (y + x * 2 ^ s % 4294967296) := by
 obtain ⟨hx0, hx1⟩ := hx
 obtain ⟨p0, p1⟩ := Zft s hs
 unfold B at hx1
 have h0 : 0 ≤ x * 2 ^ s := Int.mul_nonneg hx0 oM
 have h1 : x * 2 ^ s ≤ 4294967295 * 2 ^ s := Int.mul_le_mul_of_nonneg_right oM oM
 rw [Za4 h0 oM]
 have h2 : x * 2 ^ s / 4294967296 < 2 ^ s := Int.ediv_lt_of_lt_mul oM oM
 have h3 : x * 2 ^ s / 4294967296 % 4294967296 = x * 2 ^ s / 4294967296 := by
  have : 0 ≤ x * 2 ^ s / 4294967296 := Int.ediv_nonneg h0 oM
  omega
 obtain ⟨X, rfl⟩ := Int.eq_ofNat_of_zero_le hx0
 obtain ⟨Y, rfl⟩ := Int.eq_ofNat_of_zero_le hy0
 have e1 : ((X : Int) * 2 ^ s) = ((X * 2 ^ s : Nat) : Int) := by simp
 have e2 : ((X : Int) * 2 ^ s) % 4294967296 = ((X * 2 ^ s % 4294967296 : Nat) : Int) := by rw [e1]; rfl
 have hY : Y < 2 ^ s := by
  have e : ((2 ^ s : Nat) : Int) = (2 : Int) ^ s := by simp
  omega
 have e3 : X * 2 ^ s % 4294967296 = (X % 2 ^ (32 - s)) * 2 ^ s := by
  rw [show 4294967296 = 2 ^ (32 - s) * 2 ^ s from by rw [← Nat.pow_add, show 32 - s + s = 32 from oM], Nat.mul_mod_mul_right]
 have e4 : Y ||| X * 2 ^ s % 4294967296 = Y + X * 2 ^ s % 4294967296 := by
  rw [Nat.or_comm, nat_join s _ _ (by rw [e3, Nat.mul_mod_left]) hY, Nat.add_comm]
 have e5 : Y + X * 2 ^ s % 4294967296 < 4294967296 := by
  rw [← e4]
  have : 2 ^ s ≤ 2147483648 := by
   have e : ((2 ^ s : Nat) : Int) = (2 : Int) ^ s := by simp
   omega
  exact lt_or oM oM
 refine ⟨?_, h3, Int.ediv_nonneg h0 oM, h2, ?_⟩
 ·rw [e2, u32_or_nat _ _ oM oM, e4]; simp
 ·rw [e2]; unfold Zal B; omega
structure ShlI (f : Nat → Int) (n s k : Nat) (h : Nat → Int) : Prop where
 dig : Digs h (n + 1)
 top : h k < 2 ^ s
 eq : val h (k + 1) = val f k * 2 ^ s
theorem shlI_zero (f : Nat → Int) (n s : Nat) : ShlI f n s 0 (fun _ => 0) :=
 ⟨fun _ _ => zero_dig, Int.pow_pos oM, by simp [val]⟩
theorem shlI_step {f h : Nat → Int} {n s k : Nat} (hf : Digs f n) (hs : s ≤ 31) (hk : k < n) (H : ShlI f n s k h) :
  ShlI f n s (k + 1) (set (set h k (bits .or .u32 (h k) (IntKind.u64.wrap (f k * 2 ^ s) % 4294967296))) (k + 1) (IntKind.u64.wrap (f k * 2 ^ s) / 4294967296 % 4294967296)) := by
 obtain ⟨a1, a2, a3, a4, a5⟩ := shl_arith (hf k hk) hs (H.dig k oM).1 H.top
 obtain ⟨p0, p1⟩ := Zft s hs
 rw [a1, a2]
 refine ⟨Zb4 (Zb4 H.dig a5) ⟨a3, by unfold B; omega⟩, by rw [set_eq]; exact a4, ?_⟩
 have e := H.eq
 have e2 := Zdf (f k * 2 ^ s)
 show val _ (k + 1 + 1) = _
 simp only [val] at e ⊢
 rw [Zb5 _ _ oM, Zb5 _ _ oM, set_eq, Zdc _ _ oM, set_eq]
 have e3 : pw (k + 1) = pw k * B := rfl
 rw [e3]
 unfold B at e2 ⊢
 grind
def ShiftedR (B0 n s : Nat) (f : Nat → Int) (w' : World) (u : Value) : Prop :=
 ∃ b h, u = .slice (some ⟨b, 0, none⟩) (n + 1) (n + 1) ∧ Own w' b (n + 1) h ∧ Digs h (n + 1) ∧ B0 ≤ b ∧ b < w'.heap.size ∧ val h (n + 1) = val f n * 2 ^ s
set_option maxHeartbeats 1000000 in
theorem shifted_c {w : World} {va : Value} {n s : Nat} {f : Nat → Int} (ha : Dg w va n f) (hn : n ≤ L) (hs : s ≤ 31) :
  Calls Tryz.prog 206 #[va, .int .u64 s] w (Ret w (ShiftedR w.heap.size n s f)) := by
 have HF := Lib.hid ha.dig
 obtain ⟨xa, ca, rfl, hca, hda⟩ := ha
 unfold L at hn
 have hmk := mk_u32 (n + 1) (by unfold L; omega) w
 rw [show ((n + 1 : Nat) : Int) = (n : Int) + 1 from oM] at hmk
 go_enter Tryz.func206, Tryz.ntmps206
 go_wp2_with fail
 clear hmk
 go_loopw [15] (fun i wr => ∃ (k : Nat) (h : Nat → Int), i = .int .i64 k ∧ k ≤ n ∧ Hid (Own wr w.heap.size (n + 1) h) ∧ Hid (ShlI f n s k h) ∧ Hid (Below w.heap.size w wr) ∧ Hid (w.heap.size < wr.heap.size))
  (fun i _ => n - (intOf i).toNat)
 case atStart => exact ⟨0, _, rfl, Nat.zero_le _, Own.made w _ _, shlI_zero f n s, Zai _, by simp [Hid]⟩
 case round =>
  obtain ⟨k, h, rfl, hk, HO, HI, HB, HS⟩ := hrel
  by_cases hlt : k < n
  ·rcases hda with hda | ⟨b, off, rfl, hda⟩
   ·omega
   have hcell := (hda.below HB.out).cell k hlt
   have hx0 := (HF.out k hlt).1
   have hx1 : f k < 4294967296 := (HF.out k hlt).2
   have ho0 := (HI.out.dig k oM).1
   have ho1 : h k < 4294967296 := (HI.out.dig k oM).2
   have hown := HO.out.cell k oM
   have hfree := HO.out.free k
   have hown1 := HO.out.cell (k + 1) oM
   have hfree1 := HO.out.free (k + 1)
   have HN := Lib.hid (shlI_step HF.out hs hlt HI.out)
   clear hda
   go_wp2
   go_roundw
   case rel => exact ⟨k + 1, _, by go_num, oM, (HO.out.set oM _).set oM _, HN.out, (Below.setCell (p := ⟨_, _, _⟩) (HB.out.setCell (p := ⟨_, _, _⟩) (Nat.le_refl _) _) (Nat.le_refl _) _), by simpa [Hid] using HS.out⟩
   case measure => simp [intOf]; omega
  ·obtain rfl : k = n := oM
   have HE := Lib.hid HI.out.eq
   go_wp2
   go_ret
   exact .mk rfl HB.out ⟨_, _, rfl, HO.out, HI.out.dig, Nat.le_refl _, HS.out, HE.out⟩
theorem or_join' {x y : Int} (hx0 : 0 ≤ x) (hx1 : x < 4294967296) (hy0 : 0 ≤ y) (hy1 : y < 4294967296) : bits .or .u64 y (x * 4294967296) = y + x * 4294967296 := by
 obtain ⟨x, rfl⟩ := Int.eq_ofNat_of_zero_le hx0
 obtain ⟨y, rfl⟩ := Int.eq_ofNat_of_zero_le hy0
 have e : (x : Int) * 4294967296 = ((x * 4294967296 : Nat) : Int) := oM
 rw [e, u64_or_nat _ _ oM oM, Nat.or_comm, nat_join 32 _ _ oM oM]
 omega
theorem shr_arith {x y P Q : Int} (hx : Zal x) (hy : Zal y) (hP : 0 < P) (hQ : 0 < Q) (hPQ : P * Q = B) :
  Zal ((x + y * 4294967296) / P % 4294967296) ∧ P * ((x + y * 4294967296) / P % 4294967296) = x - x % P + y % P * 4294967296 := by
 obtain ⟨hx0, hx1⟩ := hx
 obtain ⟨hy0, hy1⟩ := hy
 refine ⟨Zce _, ?_⟩
 have ex := Int.mul_ediv_add_emod x P
 have ey := Int.mul_ediv_add_emod y P
 have r0 := Int.emod_nonneg x (b := P) oM
 have r1 := Int.emod_lt_of_pos x hP
 have s0 := Int.emod_nonneg y (b := P) oM
 have s1 := Int.emod_lt_of_pos y hP
 have q0 : 0 ≤ x / P := Int.ediv_nonneg hx0 oM
 have q1 : x / P < Q := Int.ediv_lt_of_lt_mul hP (by rw [Int.mul_comm]; omega)
 have hB : (4294967296 : Int) = P * Q := by rw [hPQ]; rfl
 have e1 : (x + y * 4294967296) / P = x / P + y * Q := by
  rw [hB, show y * (P * Q) = P * (y * Q) from by grind, Int.add_mul_ediv_left _ _ oM]
 have e2 : x / P + y * Q = (x / P + y % P * Q) + 4294967296 * (y / P) := by
  rw [hB]; generalize x / P = a at *; generalize y / P = b at *; generalize y % P = c at *; subst ey; grind
 have h1 : y % P * Q ≤ (P - 1) * Q := Int.mul_le_mul_of_nonneg_right oM oM
 have h0 : 0 ≤ y % P * Q := Int.mul_nonneg s0 oM
 rw [Int.sub_mul, Int.one_mul, ← hB] at h1
 rw [e1, e2, Int.add_mul_emod_self_left, Int.emod_eq_of_lt oM oM]
 rw [hB, Int.mul_add]
 generalize x / P = a at *; generalize y % P = c at *
 grind
structure ShrI (f : Nat → Int) (n : Nat) (P : Int) (k : Nat) (h : Nat → Int) : Prop where
 dig : Digs h n
 eq : P * val h k = val f k - ext f n 0 % P + ext f n k % P * pw k
theorem shrI_zero (f : Nat → Int) (n : Nat) (P : Int) : ShrI f n P 0 (fun _ => 0) := ⟨fun _ _ => zero_dig, by simp [val, pw]; omega⟩
theorem shrI_step {f h : Nat → Int} {n k : Nat} {P Q y : Int} (hf : Digs f n) (hP : 0 < P) (hQ : 0 < Q) (hPQ : P * Q = B) (hk : k < n) (hy : y = ext f n (k + 1)) (H : ShrI f n P k h) :
  ShrI f n P (k + 1) (set h k ((f k + y * 4294967296) / P % 4294967296)) := by
 subst hy
 obtain ⟨a1, a2⟩ := shr_arith (hf k hk) (ext_dig hf (k + 1)) hP hQ hPQ
 refine ⟨Zb4 H.dig a1, ?_⟩
 have e := H.eq
 have ek : ext f n k = f k := by simp [ext, hk]
 rw [ek] at e
 simp only [val]
 rw [Zb5 _ _ (Nat.le_refl k), set_eq, Int.mul_add, ← Int.mul_assoc, a2, e]
 have e3 : pw (k + 1) = pw k * 4294967296 := rfl
 rw [e3]
 generalize (ext f n (k + 1)) % P = c
 generalize f k % P = d
 grind
def UnshiftedR (n s : Nat) (f : Nat → Int) (w' : World) (u : Value) : Prop := ∃ h, Dg w' u n h ∧ 2 ^ s * val h n = val f n - val f n % 2 ^ s
theorem shr_end {f h : Nat → Int} {n s : Nat} (hf : Digs f n) (hs : s ≤ 31) (H : ShrI f n (2 ^ s) n h) : 2 ^ s * val h n = val f n - val f n % 2 ^ s := by
 have e := H.eq
 have e1 : ext f n n = 0 := by simp [ext]
 rw [e1] at e
 simp only [Int.zero_emod, Int.zero_mul, Int.add_zero] at e
 rw [e]
 obtain ⟨p0, p1⟩ := Zft s hs
 have h0 := Int.emod_nonneg (ext f n 0) (b := 2 ^ s) oM
 have h1 := Int.emod_lt_of_pos (ext f n 0) (b := 2 ^ s) oM
 have e2 : val f n = 2 ^ s * val h n + ext f n 0 % 2 ^ s := oM
 have e3 : val f n % 2 ^ s = ext f n 0 % 2 ^ s := by
  rw [e2, Int.mul_add_emod_self_left, Int.emod_eq_of_lt h0 h1]
 omega
set_option maxHeartbeats 1000000 in
theorem unshifted_c {w : World} {va : Value} {n s : Nat} {f : Nat → Int} (ha : Dg w va n f) (hn : n ≤ L) (hs : s ≤ 31) :
  Calls Tryz.prog 208 #[va, .int .u64 s] w (Ret w (UnshiftedR n s f)) := by
 have HF := Lib.hid ha.dig
 obtain ⟨xa, ca, rfl, hca, hda⟩ := ha
 have hmk := mk_u32 n oM w
 unfold L at hn
 have HP : Hid ((0 : Int) < 2 ^ s ∧ (0 : Int) < 2 ^ (32 - s) ∧ (2 : Int) ^ s * 2 ^ (32 - s) = B) := by
  refine ⟨Int.pow_pos oM, Int.pow_pos oM, ?_⟩
  rw [← Int.pow_add, show s + (32 - s) = 32 from oM]; rfl
 go_enter Tryz.func208, Tryz.ntmps208
 go_wp2_with fail
 clear hmk
 go_loopw [13] (fun i wr => ∃ (k : Nat) (h : Nat → Int), i = .int .i64 k ∧ k ≤ n ∧ Hid (Own wr w.heap.size n h) ∧ Hid (ShrI f n (2 ^ s) k h) ∧ Hid (Below w.heap.size w wr) ∧ Hid (w.heap.size < wr.heap.size))
  (fun i _ => n - (intOf i).toNat)
 case atStart => exact ⟨0, _, rfl, Nat.zero_le _, Own.made w _ _, shrI_zero f n _, Zai _, by simp [Hid]⟩
 case round =>
  obtain ⟨k, h, rfl, hk, HO, HI, HB, HS⟩ := hrel
  by_cases hlt : k < n
  ·rcases hda with hda | ⟨b, off, rfl, hda⟩
   ·omega
   have hcell := (hda.below HB.out).cell k hlt
   have hx0 := (HF.out k hlt).1
   have hx1 : f k < 4294967296 := (HF.out k hlt).2
   have hown := HO.out.cell k oM
   have hfree := HO.out.free k
   by_cases hlast : k + 1 < n
   ·have hcell1 := (hda.below HB.out).cell (k + 1) hlast
    have hy0 := (HF.out (k + 1) hlast).1
    have hy1 : f (k + 1) < 4294967296 := (HF.out (k + 1) hlast).2
    have hdec : decide ((k : Int) + 1 < (n : Int)) = true := by simp; omega
    have eor := or_join' hy0 hy1 hx0 hx1
    have HN := Lib.hid (shrI_step HF.out HP.out.1 HP.out.2.1 HP.out.2.2 hlt (y := f (k + 1)) (by simp [ext, hlast]) HI.out)
    clear hda
    go_wp2
    go_roundw
    case rel => exact ⟨k + 1, _, by go_num, oM, HO.out.set oM _, HN.out, HB.out.setCell (Nat.le_refl _) _, by simpa [Hid] using HS.out⟩
    case measure => simp [intOf]; omega
   ·have hdec : decide ((k : Int) + 1 < (n : Int)) = false := by simp; omega
    have HN := Lib.hid (shrI_step HF.out HP.out.1 HP.out.2.1 HP.out.2.2 hlt (y := 0) (by simp [ext, hlast]) HI.out)
    rw [Int.zero_mul, Int.add_zero] at HN
    clear hda
    go_wp2
    go_roundw
    case rel => exact ⟨k + 1, _, by go_num, oM, HO.out.set oM _, HN.out, HB.out.setCell (Nat.le_refl _) _, by simpa [Hid] using HS.out⟩
    case measure => simp [intOf]; omega
  ·obtain rfl : k = n := oM
   have HE := Lib.hid (shr_end HF.out hs HI.out)
   go_wp2
   go_ret
   exact .mk rfl HB.out ⟨_, HO.out.dg HI.out.dig (Nat.le_refl _), HE.out⟩
end Hp
namespace Hp
open Go
def sh (h : Nat → Int) (o : Nat) : Nat → Int := fun i => h (o + i)
theorem sh_set (h : Nat → Int) (o i : Nat) (x : Int) : sh (set h (o + i) x) o = set (sh h o) i x := by
 funext j
 unfold sh set
 by_cases e : j = i
 ·subst e; simp
 ·rw [if_neg oM, if_neg e]
theorem sh_dig {h : Nat → Int} {N o n : Nat} (hd : Digs h N) (ho : o + n ≤ N) : Digs (sh h o) n := fun i hi => hd (o + i) oM
theorem est_lo {q U V r T s W P : Int} (hP : 0 < P) (hU : U = r + T * P) (hr : r < P) (hV : V = s + W * P) (hs : 0 ≤ s) (hq : 0 ≤ q) (h : q * V ≤ U) : q * W ≤ T := by
 have h1 : 0 ≤ q * s := Int.mul_nonneg hq hs
 have h2 : (q * W) * P < (T + 1) * P := by
  have e : q * V = q * s + q * W * P := by subst hV; grind
  have e2 : (T + 1) * P = T * P + P := by grind
  omega
 have := Int.lt_of_mul_lt_mul_right h2 oM
 omega
theorem est_hi {g U V r T s W P : Int} (hP : 0 < P) (hU : U = r + T * P) (hr : 0 ≤ r) (hV : V = s + W * P) (hs : 0 ≤ s) (hs1 : s < P) (hg : 0 ≤ g) (hg1 : g < B) (hW : g * W ≤ T) (hVB : B * P ≤ V) : g * V < U + V := by
 have h1 : g * s ≤ B * s := Int.mul_le_mul_of_nonneg_right oM hs
 have h2 : B * s < B * P := Int.mul_lt_mul_of_pos_left hs1 B_pos
 have h3 : (g * W) * P ≤ T * P := Int.mul_le_mul_of_nonneg_right hW oM
 have e : g * V = g * s + g * W * P := by subst hV; grind
 omega
structure Est (d t a guess rest : Int) : Prop where
 lo : d ≤ guess
 eq : guess * a + rest = t
 r0 : 0 ≤ rest
 r1 : rest < B
 g1 : guess ≤ B + 1
theorem est_start {d t a : Int} (ha : B ≤ 2 * a) (ha1 : a < B) (ht0 : 0 ≤ t) (ht : t < (a + 1) * B) (hd : d * a ≤ t) : Est d t a (t / a) (t % a) := by
 have hp := B_pos
 have ha0 : 0 < a := oM
 have h1 := Int.emod_nonneg t (b := a) oM
 have h2 := Int.emod_lt_of_pos t ha0
 have h3 := Int.mul_ediv_add_emod t a
 refine ⟨?_, by rw [Int.mul_comm]; exact h3, h1, oM, ?_⟩
 ·exact (Int.le_ediv_iff_mul_le ha0).2 hd
 ·have : t / a < B + 2 := Int.ediv_lt_of_lt_mul ha0 (by rw [Int.add_mul, Int.one_mul, Int.mul_comm a B] at ht; rw [Int.add_mul]; omega)
  omega
theorem est_step {d t a guess rest : Int} (ha0 : 0 < a) (h : Est d t a guess rest) (hd : d ≤ guess - 1) (hr : rest + a < B) : Est d t a (guess - 1) (rest + a) := by
 have := h.r0; have := h.g1
 refine ⟨hd, ?_, oM, hr, oM⟩
 have := h.eq
 rw [Int.sub_mul]; omega
theorem est_break {d t a guess rest : Int} (ht : t < (a + 1) * B) (h : Est d t a guess rest) (hr : B ≤ rest + a) : guess - 1 < B := by
 by_cases hc : guess - 1 < B
 ·exact hc
 ·exfalso
  have h1 : B * a ≤ (guess - 1) * a := by
   by_cases ha : 0 ≤ a
   ·exact Int.mul_le_mul_of_nonneg_right oM ha
   ·exfalso; have := h.r1; omega
  have := h.eq
  rw [Int.sub_mul, Int.one_mul] at h1
  rw [Int.add_mul, Int.one_mul, Int.mul_comm a B] at ht
  omega
structure SubI (u g : Nat → Int) (n : Nat) (gs : Int) (i : Nat) (u' : Nat → Int) (c b : Int) : Prop where
 dig : Digs u' (n + 1)
 same : ∀ t, i ≤ t → u' t = u t
 car : Zal c
 b0 : 0 ≤ b
 b1 : b ≤ 1
 eq : val u' i = val u i - gs * val g i + (c + b) * pw i
theorem subI_zero {u g : Nat → Int} {n : Nat} {gs : Int} (hu : Digs u (n + 1)) : SubI u g n gs 0 u 0 0 :=
 ⟨hu, fun _ _ => rfl, zero_dig, oM, oM, by simp [val]⟩
theorem bor_bounds {x y c : Int} (hx : Zal x) (hy : Zal y) (h0 : 0 ≤ c) (h1 : c ≤ 1) : 0 ≤ -((x - y - c) / 4294967296) ∧ -((x - y - c) / 4294967296) ≤ 1 := by
 obtain ⟨a, b⟩ := hx; obtain ⟨c, d⟩ := hy; unfold B at *; omega
theorem subI_step {u g u' : Nat → Int} {n i : Nat} {gs c b : Int} (hg : Digs g n) (hi : i < n) (hgs : Zal gs) (H : SubI u g n gs i u' c b) :
  SubI u g n gs (i + 1) (set u' i ((u' i - (gs * g i + c) % 4294967296 - b) % 4294967296)) ((gs * g i + c) / 4294967296) (-((u' i - (gs * g i + c) % 4294967296 - b) / 4294967296)) := by
 have hm := Zf7 hgs (hg i hi)
 have hc := H.car
 obtain ⟨hc0, hc1⟩ := hc
 have hb := bor_bounds (H.dig i oM) (Zce (gs * g i + c)) H.b0 H.b1
 refine ⟨Zb4 H.dig (Zce _), fun t ht => by rw [Zdc _ _ oM]; exact H.same t oM, ?_, hb.1, hb.2, ?_⟩
 ·unfold Zal B at *; omega
 ·have e := H.eq
  have es := H.same i (Nat.le_refl i)
  have e1 := Zdf (gs * g i + c)
  have e2 := Zdf (u' i - (gs * g i + c) % B - b)
  simp only [val]
  rw [Zb5 _ _ (Nat.le_refl i), set_eq]
  rw [← es]
  have e3 : pw (i + 1) = pw i * B := rfl
  rw [e3]
  unfold B at e1 e2 ⊢
  generalize (gs * g i + c) / 4294967296 = p at *
  generalize (gs * g i + c) % 4294967296 = r at *
  generalize (u' i - r - b) / 4294967296 = x at *
  generalize (u' i - r - b) % 4294967296 = y at *
  grind
theorem subI_end {u g u' : Nat → Int} {n : Nat} {gs c b : Int} (H : SubI u g n gs n u' c b) :
  Digs (set u' n ((u' n - c - b) % 4294967296)) (n + 1) ∧ 0 ≤ -((u' n - c - b) / 4294967296) ∧ -((u' n - c - b) / 4294967296) ≤ 1 ∧
   val (set u' n ((u' n - c - b) % 4294967296)) (n + 1) = val u (n + 1) - gs * val g n + -((u' n - c - b) / 4294967296) * pw (n + 1) := by
 have hb := bor_bounds (H.dig n oM) H.car H.b0 H.b1
 refine ⟨Zb4 H.dig (Zce _), hb.1, hb.2, ?_⟩
 have e := H.eq
 have es := H.same n (Nat.le_refl n)
 have e2 := Zdf (u' n - c - b)
 simp only [val]
 rw [Zb5 _ _ (Nat.le_refl n), set_eq, ← es]
 have e3 : pw (n + 1) = pw n * B := rfl
 rw [e3]
 unfold B at e2 ⊢
 generalize (u' n - c - b) / 4294967296 = x at *
 generalize (u' n - c - b) % 4294967296 = y at *
 grind
structure BackI (u g : Nat → Int) (n i : Nat) (u' : Nat → Int) (c : Int) : Prop where
 dig : Digs u' (n + 1)
 same : ∀ t, i ≤ t → u' t = u t
 c0 : 0 ≤ c
 c1 : c ≤ 1
 eq : val u' i + c * pw i = val u i + val g i
theorem backI_zero {u g : Nat → Int} {n : Nat} (hu : Digs u (n + 1)) : BackI u g n 0 u 0 := ⟨hu, fun _ _ => rfl, oM, oM, by simp [val]⟩
theorem backI_step {u g u' : Nat → Int} {n i : Nat} {c : Int} (hg : Digs g n) (hi : i < n) (H : BackI u g n i u' c) :
  BackI u g n (i + 1) (set u' i ((u' i + g i + c) % 4294967296)) ((u' i + g i + c) / 4294967296) := by
 have hx := H.dig i oM
 have hy := hg i hi
 have := H.c0; have := H.c1
 refine ⟨Zb4 H.dig (Zce _), fun t ht => by rw [Zdc _ _ oM]; exact H.same t oM, ?_, ?_, ?_⟩
 ·have := hx.1; have := hy.1; omega
 ·have := hx.2; have := hy.2; unfold B at *; omega
 ·simp only [val]
  rw [Zb5 _ _ (Nat.le_refl i), set_eq, ← H.same i (Nat.le_refl i)]
  exact plus_step H.eq rfl
theorem backI_end {u g u' : Nat → Int} {n : Nat} {c : Int} (H : BackI u g n n u' c) :
  Digs (set u' n ((u' n + c) % 4294967296)) (n + 1) ∧ ∃ o : Int, 0 ≤ o ∧ o ≤ 1 ∧ val (set u' n ((u' n + c) % 4294967296)) (n + 1) = val u (n + 1) + val g n - o * pw (n + 1) := by
 have hx := H.dig n oM
 have := H.c0; have := H.c1
 refine ⟨Zb4 H.dig (Zce _), (u' n + c) / 4294967296, ?_, ?_, ?_⟩
 ·have := hx.1; omega
 ·have := hx.2; unfold B at *; omega
 ·have e := H.eq
  have es := H.same n (Nat.le_refl n)
  have e2 := Zdf (u' n + c)
  simp only [val]
  rw [Zb5 _ _ (Nat.le_refl n), set_eq, ← es]
  have e3 : pw (n + 1) = pw n * B := rfl
  rw [e3]
  unfold B at e2 ⊢
  generalize (u' n + c) / 4294967296 = x at *
  generalize (u' n + c) % 4294967296 = y at *
  grind
theorem digit_fin {U V gs X b W : Int} (hV : V ≤ W) (hX0 : 0 ≤ X) (hX1 : X < W) (hX : X = U - gs * V + b * W) (hb0 : 0 ≤ b) (hb1 : b ≤ 1) (hlo : U < gs * V + V) (hhi : gs * V < U + V) (hV0 : 0 < V) :
  (b = 0 → 0 ≤ U - gs * V) ∧ (b = 1 → X = U - gs * V + W ∧ U - gs * V < 0) := by
 constructor
 ·rintro rfl; omega
 ·rintro rfl; constructor <;> omega
end Hp
namespace Hp
open Go Go.RowKit Go.Proofs
theorem DgAt.grown {w w' : World} {b off n bu : Nat} {f : Nat → Int} (h : DgAt w b off n f) (hg : w.grownBy w' (some bu)) (hne : b ≠ bu) : DgAt w' b off n f :=
 ⟨fun i hi => by
  have := h.cell i hi
  rw [← this]
  exact World.cell?_of_block (w := w) (w' := w') (hg.block b (lt_of_cell this) (by simpa using hne)), h.dig⟩
theorem grown_refl (w : World) (r : Option Nat) : w.grownBy w r := ⟨rfl, rfl, rfl, Nat.le_refl _, fun _ _ _ => rfl⟩
theorem Zcz {w w' : World} {bu i : Nat} {u : Value} (h : w.grownBy w' (some bu)) : w.grownBy (w'.setCell ⟨bu, i, none⟩ u) (some bu) :=
 ⟨h.os, h.tape, h.output, by simpa using h.size, fun k hk hne => (Below.heap_setCell _ _ _ _ (by simpa using hne)).trans (h.block k hk hne)⟩
theorem Zcb {w w' : World} {r : Option Nat} {n : Nat} (h : w.grownBy w' r) : w.grownBy (w'.drewN n) r := ⟨h.os, h.tape, h.output, h.size, h.block⟩
theorem Own.drawn {w : World} {b n : Nat} {f : Nat → Int} {k : Nat} (h : Own w b n f) : Own (w.drewN k) b n f := ⟨h.cell, h.free⟩
def DigitR (w : World) (bu N ou n : Nat) (h g : Nat → Int) (e : Ending) (w' : World) : Prop :=
 ∃ (d : Int) (h' : Nat → Int), e = .returned (.int .u32 d) ∧ w.grownBy w' (some bu) ∧ Own w' bu N h' ∧ Zal d ∧ Digs h' N ∧ (∀ i, i < ou ∨ ou + n + 1 ≤ i → h' i = h i) ∧
  val (sh h' ou) (n + 1) = val (sh h ou) (n + 1) - d * val g n ∧ val (sh h' ou) (n + 1) < val g n
theorem top3 (u : Nat → Int) (m : Nat) : val u (m + 3) = val u m + (u m + u (m + 1) * B + u (m + 2) * B * B) * pw m := by simp only [val, pw]; first | done | grind
theorem top2 (u : Nat → Int) (m : Nat) : val u (m + 3) = (val u m + u m * pw m) + (u (m + 1) + u (m + 2) * B) * (pw m * B) := by simp only [val, pw]; first | done | grind
theorem topv (g : Nat → Int) (m : Nat) : val g (m + 2) = val g m + (g m + g (m + 1) * B) * pw m := by simp only [val, pw]; first | done | grind
theorem topv1 (g : Nat → Int) (m : Nat) : val g (m + 2) = (val g m + g m * pw m) + g (m + 1) * (pw m * B) := by simp only [val, pw]; first | done | grind
theorem low_lt {u : Nat → Int} {m : Nat} (hu : Digs u (m + 1)) : 0 ≤ val u m + u m * pw m ∧ val u m + u m * pw m < pw m * B := by
 have h0 := Zam hu
 have h1 := Zcg hu
 simp only [val, pw] at h0 h1
 exact ⟨h0, h1⟩
theorem guess_facts {u g : Nat → Int} {m : Nat} (hu : Digs u (m + 3)) (hg : Digs g (m + 2)) (htop : B ≤ 2 * g (m + 1)) (hlt : val u (m + 3) < val g (m + 2) * B) :
  0 ≤ val u (m + 3) / val g (m + 2) ∧ val u (m + 3) / val g (m + 2) < B ∧ 0 < val g (m + 2) ∧
  Est (val u (m + 3) / val g (m + 2)) (u (m + 1) + u (m + 2) * B) (g (m + 1)) ((u (m + 1) + u (m + 2) * B) / g (m + 1)) ((u (m + 1) + u (m + 2) * B) % g (m + 1)) ∧
  u (m + 1) + u (m + 2) * B < (g (m + 1) + 1) * B := by
 have hB := B_pos
 have hp := Zch m
 have hpB : 0 < pw m * B := Int.mul_pos hp hB
 have lg := low_lt (m := m) (fun i hi => hg i oM)
 have lu := low_lt (m := m) (fun i hi => hu i oM)
 have hV : 0 < val g (m + 2) := by
  rw [topv1]
  have : 1 * (pw m * B) ≤ g (m + 1) * (pw m * B) := Int.mul_le_mul_of_nonneg_right oM oM
  omega
 have hq0 : 0 ≤ val u (m + 3) / val g (m + 2) := Int.ediv_nonneg (Zam hu) oM
 have hq1 : val u (m + 3) / val g (m + 2) < B := Int.ediv_lt_of_lt_mul hV (by rw [Int.mul_comm]; exact hlt)
 have hqV : val u (m + 3) / val g (m + 2) * val g (m + 2) ≤ val u (m + 3) := Int.ediv_mul_le _ oM
 have hd := est_lo hpB (top2 u m) lu.2 (topv1 g m) lg.1 hq0 hqV
 have ht : u (m + 1) + u (m + 2) * B < (g (m + 1) + 1) * B := by
  have h1 : (u (m + 1) + u (m + 2) * B) * (pw m * B) < ((g (m + 1) + 1) * B) * (pw m * B) := by
   rw [top2, topv1] at hlt
   have h2 : ((val g m + g m * pw m) + g (m + 1) * (pw m * B)) * B < ((g (m + 1) + 1) * B) * (pw m * B) := by
    have : (val g m + g m * pw m) * B < (pw m * B) * B := Int.mul_lt_mul_of_pos_right lg.2 hB
    have e : ((g (m + 1) + 1) * B) * (pw m * B) = g (m + 1) * (pw m * B) * B + (pw m * B) * B := by grind
    rw [Int.add_mul]; omega
   omega
  exact Int.lt_of_mul_lt_mul_right h1 oM
 have hu1 := hu (m + 1) oM
 have hu2 := hu (m + 2) oM
 have h0 : 0 ≤ u (m + 1) + u (m + 2) * B := by
  have : 0 ≤ u (m + 2) * B := Int.mul_nonneg hu2.1 oM
  have := hu1.1
  omega
 exact ⟨hq0, hq1, hV, est_start htop (hg (m + 1) oM).2 h0 ht hd, ht⟩
theorem guess_down {u g : Nat → Int} {m : Nat} (hu : Digs u (m + 3)) (hg : Digs g (m + 2)) {gs rs : Int} (hq0 : 0 ≤ val u (m + 3) / val g (m + 2)) (hV : 0 < val g (m + 2))
  (H : Est (val u (m + 3) / val g (m + 2)) (u (m + 1) + u (m + 2) * B) (g (m + 1)) gs rs) (h : rs * B + u m < gs * g m) : val u (m + 3) / val g (m + 2) ≤ gs - 1 := by
 have hp := Zch m
 have hqV : val u (m + 3) / val g (m + 2) * val g (m + 2) ≤ val u (m + 3) := Int.ediv_mul_le _ oM
 have hd := est_lo hp (top3 u m) (Zcg (fun i hi => hu i oM)) (topv g m) (Zam (fun i hi => hg i oM)) hq0 hqV
 have := H.lo
 by_cases e : val u (m + 3) / val g (m + 2) = gs
 ·exfalso
  rw [e] at hd
  have := H.eq
  generalize val u (m + 3) = U at *
  have e2 : gs * (g m + g (m + 1) * B) = gs * g m + gs * g (m + 1) * B := by grind
  have e3 : (gs * g (m + 1) + rs) * B = (u (m + 1) + u (m + 2) * B) * B := by rw [H.eq]
  have e4 : (gs * g (m + 1) + rs) * B = gs * g (m + 1) * B + rs * B := by grind
  have e5 : (u (m + 1) + u (m + 2) * B) * B = u (m + 1) * B + u (m + 2) * B * B := by grind
  omega
 ·omega
theorem guess_good {u g : Nat → Int} {m : Nat} (hu : Digs u (m + 3)) (hg : Digs g (m + 2)) (htop : B ≤ 2 * g (m + 1)) {gs rs : Int} (hg0 : 0 ≤ gs) (hg1 : gs < B)
  (he : gs * g (m + 1) + rs = u (m + 1) + u (m + 2) * B) (h : gs * g m ≤ rs * B + u m) : gs * val g (m + 2) < val u (m + 3) + val g (m + 2) := by
 have hp := Zch m
 have hB := B_pos
 have lg := low_lt (m := m) (fun i hi => hg i oM)
 refine est_hi hp (top3 u m) (Zam (fun i hi => hu i oM)) (topv g m) (Zam (fun i hi => hg i oM)) (Zcg (fun i hi => hg i oM)) hg0 hg1 ?_ ?_
 ·have e2 : gs * (g m + g (m + 1) * B) = gs * g m + gs * g (m + 1) * B := by grind
  have e3 : (gs * g (m + 1) + rs) * B = (u (m + 1) + u (m + 2) * B) * B := by rw [he]
  have e4 : (gs * g (m + 1) + rs) * B = gs * g (m + 1) * B + rs * B := by grind
  have e5 : (u (m + 1) + u (m + 2) * B) * B = u (m + 1) * B + u (m + 2) * B * B := by grind
  omega
 ·rw [topv1]
  have : 1 * (pw m * B) ≤ g (m + 1) * (pw m * B) := Int.mul_le_mul_of_nonneg_right (by unfold B at htop; omega) (Int.mul_nonneg oM oM)
  rw [Int.mul_comm B]; omega
set_option maxRecDepth 100000 in
set_option maxHeartbeats 4000000 in
theorem digit_c {w : World} {bu ou cu N bv ov cv m : Nat} {h g : Nat → Int} (hu : Own w bu N h) (huN : ou + (m + 3) ≤ N) (hud : Digs h N) (hcu : m + 3 ≤ cu) (hv : DgAt w bv ov (m + 2) g) (hcv : m + 2 ≤ cv) (hne : bv ≠ bu) (hm : m ≤ L) (hlw : bu < w.heap.size)
  (htop : B ≤ 2 * g (m + 1)) (hlt : val (sh h ou) (m + 3) < val g (m + 2) * B) :
  Calls Tryz.prog 207 #[.slice (some ⟨bu, ou, none⟩) (m + 3) cu, .slice (some ⟨bv, ov, none⟩) (m + 2) cv] w (DigitR w bu N ou (m + 2) h g) := by
 have hU : Digs (sh h ou) (m + 3) := sh_dig hud huN
 have HU := Lib.hid hU
 have HUD := Lib.hid hud
 have HG := Lib.hid hv.dig
 have HV := Lib.hid hv
 have HO := Lib.hid hu
 have HF := Lib.hid (guess_facts hU hv.dig htop hlt)
 have c1 : w.cell? ⟨bu, ou + (m + 2), none⟩ = some (.int .u32 (h (ou + (m + 2)))) := hu.cell _ oM
 have c2 : w.cell? ⟨bu, ou + (m + 1), none⟩ = some (.int .u32 (h (ou + (m + 1)))) := hu.cell _ oM
 have c4 : w.cell? ⟨bv, ov + (m + 1), none⟩ = some (.int .u32 (g (m + 1))) := hv.cell _ oM
 obtain ⟨x0, hx0⟩ : ∃ x, x = h (ou + (m + 2)) := ⟨_, rfl⟩
 obtain ⟨x1, hx1⟩ : ∃ x, x = h (ou + (m + 1)) := ⟨_, rfl⟩
 obtain ⟨a, ha⟩ : ∃ x, x = g (m + 1) := ⟨_, rfl⟩
 rw [← hx0] at c1
 rw [← hx1] at c2
 rw [← ha] at c4
 have b00 : 0 ≤ x0 := by rw [hx0]; exact (hud _ oM).1
 have b01 : x0 < 4294967296 := by rw [hx0]; exact (hud _ oM).2
 have b10 : 0 ≤ x1 := by rw [hx1]; exact (hud _ oM).1
 have b11 : x1 < 4294967296 := by rw [hx1]; exact (hud _ oM).2
 have ba0 : 0 ≤ a := by rw [ha]; exact (hv.dig _ oM).1
 have ba1 : a < 4294967296 := by rw [ha]; exact (hv.dig _ oM).2
 have ba2 : 2147483648 ≤ a := by rw [ha]; unfold B at htop; omega
 have eor := or_join b00 b01 b10 b11
 have w0 := Za4 (x := x0) b00 oM
 have w1 := Za4 (x := x0 * 4294967296) oM oM
 have w2 := Za4 (x := x1) b10 oM
 have w3 := Za4 (x := a) ba0 oM
 have hm' : m ≤ 17592186044416 := hm
 have im0 : (0 : Int) ≤ (m : Int) + 2 := oM
 have im1 : (m : Int) + 2 < (m : Int) + 3 := oM
 have im2 : (0 : Int) ≤ (m : Int) + 1 := oM
 have im3 : (m : Int) + 1 < (m : Int) + 2 := oM
 have im4 : (m : Int) + 1 < (m : Int) + 3 := oM
 have HX0 := Lib.hid hx0
 have HX1 := Lib.hid hx1
 have HA := Lib.hid ha
 clear hx0 hx1 ha hu hud hv hU hlt htop hm
 go_enter Tryz.func207, Tryz.ntmps207
 go_wp2_with fail
 go_quiet (fail)
 have t0 : 0 ≤ x0 * 4294967296 + x1 := oM
 have t1 : x0 * 4294967296 + x1 < 18446744073709551616 := oM
 have d0 : (a == 0) = false := by simp; omega
 have d1 : 0 < a := oM
 go_wp2_with fail
 go_quiet (fail)
 clear eor w0 w1 w2 c1 c2
 go_upto_block 0 with fail
 go_cut [7] (fun s7 wx => ∃ gs : Int, s7 = .int .u64 gs ∧ Hid (w.grownBy wx (some bu)) ∧ Hid (Own wx bu N h) ∧ Hid (Zal gs ∧ val (sh h ou) (m + 3) / val g (m + 2) ≤ gs ∧ gs * val g (m + 2) < val (sh h ou) (m + 3) + val g (m + 2)))
 case first =>
  obtain ⟨x2, hx2⟩ : ∃ x, x = h (ou + m) := ⟨_, rfl⟩
  obtain ⟨b, hb⟩ : ∃ x, x = g m := ⟨_, rfl⟩
  have b20 : 0 ≤ x2 := by rw [hx2]; exact (HU.out m oM).1
  have b21 : x2 < 4294967296 := by rw [hx2]; exact (HU.out m oM).2
  have bb0 : 0 ≤ b := by rw [hb]; exact (HG.out _ oM).1
  have bb1 : b < 4294967296 := by rw [hb]; exact (HG.out _ oM).2
  have w4 := Za4 (x := b) bb0 oM
  have w5 := Za4 (x := x2) b20 oM
  have HX2 := Lib.hid hx2
  have HB2 := Lib.hid hb
  have im5 : (0 : Int) ≤ (m : Int) := oM
  have im6 : (m : Int) < (m : Int) + 2 := oM
  have im7 : (m : Int) < (m : Int) + 3 := oM
  have HE : Hid (Est (val (sh h ou) (m + 3) / val g (m + 2)) (x1 + x0 * B) a ((x0 * 4294967296 + x1) / a) ((x0 * 4294967296 + x1) % a)) := by
   have := HF.out.2.2.2.1
   rw [HX0.out, HX1.out, HA.out, show h (ou + (m + 2)) * 4294967296 + h (ou + (m + 1)) = sh h ou (m + 1) + sh h ou (m + 2) * B from by unfold B sh; omega]
   exact this
  have HT : Hid (x1 + x0 * B < (a + 1) * B) := by rw [HX0.out, HX1.out, HA.out]; exact HF.out.2.2.2.2
  have FIN : Hid (∀ gs rs : Int, Est (val (sh h ou) (m + 3) / val g (m + 2)) (x1 + x0 * B) a gs rs → gs < 4294967296 → gs * b ≤ rs * 4294967296 + x2 →
    Zal gs ∧ val (sh h ou) (m + 3) / val g (m + 2) ≤ gs ∧ gs * val g (m + 2) < val (sh h ou) (m + 3) + val g (m + 2)) := by
   intro gs rs E hg1 hgs
   have h0 : 0 ≤ gs := Int.le_trans HF.out.1 E.lo
   refine ⟨⟨h0, hg1⟩, E.lo, guess_good (rs := rs) HU.out HG.out (by rw [← HA.out]; unfold B; omega) h0 hg1 ?_ ?_⟩
   ·have := E.eq; rw [HX0.out, HX1.out, HA.out] at this; exact this
   ·rw [← HB2.out]; show gs * b ≤ rs * B + h (ou + m); rw [← HX2.out]; exact hgs
  have FIN2 : Hid (∀ gs rs : Int, gs * a + rs = x1 + x0 * B → val (sh h ou) (m + 3) / val g (m + 2) ≤ gs → gs < 4294967296 → 4294967296 ≤ rs →
    Zal gs ∧ val (sh h ou) (m + 3) / val g (m + 2) ≤ gs ∧ gs * val g (m + 2) < val (sh h ou) (m + 3) + val g (m + 2)) := by
   intro gs rs heq hlo hg1 hrs
   have h0 : 0 ≤ gs := Int.le_trans HF.out.1 hlo
   refine ⟨⟨h0, hg1⟩, hlo, guess_good (rs := rs) HU.out HG.out (by rw [← HA.out]; unfold B; omega) h0 hg1 ?_ ?_⟩
   ·have := heq; rw [HX0.out, HX1.out, HA.out] at this; exact this
   ·rw [← HB2.out]
    have h1 := (Zf7 (x := gs) (y := b) ⟨h0, hg1⟩ ⟨bb0, bb1⟩).2
    show gs * b ≤ rs * B + h (ou + m)
    rw [← HX2.out]; unfold B; omega
  have DOWN : Hid (∀ gs rs : Int, Est (val (sh h ou) (m + 3) / val g (m + 2)) (x1 + x0 * B) a gs rs → rs * 4294967296 + x2 < gs * b → val (sh h ou) (m + 3) / val g (m + 2) ≤ gs - 1) := by
   intro gs rs E hgt
   refine guess_down (rs := rs) HU.out HG.out HF.out.1 HF.out.2.2.1 ?_ ?_
   ·rw [HX0.out, HX1.out, HA.out] at E; exact E
   ·rw [← HB2.out]; show rs * B + h (ou + m) < _; rw [← HX2.out]; exact hgt
  clear hx2 hb t0 t1 d0 c4
  go_wp2_with fail
  go_loopw [7, 8] (fun s7 s8 wr => ∃ gs rs : Int, s7 = .int .u64 gs ∧ s8 = .int .u64 rs ∧ Hid (w.grownBy wr (some bu)) ∧ Hid (Own wr bu N h) ∧ Hid (Est (val (sh h ou) (m + 3) / val g (m + 2)) (x1 + x0 * B) a gs rs))
   (fun s7 _ _ => (intOf s7).toNat)
  case atStart => exact ⟨_, _, rfl, rfl, Zcb (Zcb (grown_refl _ _)), HO.out.drawn.drawn, HE⟩
  case round =>
   obtain ⟨gs, rs, rfl, rfl, HGR, HOW, HES⟩ := hrel
   have q4 : wr.cell? ⟨bv, ov + (m + 1), none⟩ = some (.int .u32 a) := by rw [HA.out]; exact (HV.out.grown HGR.out hne).cell _ oM
   have q5 : wr.cell? ⟨bv, ov + m, none⟩ = some (.int .u32 b) := by rw [HB2.out]; exact (HV.out.grown HGR.out hne).cell _ oM
   have q6 : wr.cell? ⟨bu, ou + m, none⟩ = some (.int .u32 x2) := by rw [HX2.out]; exact HOW.out.cell _ oM
   have g0 : 0 ≤ gs := Int.le_trans HF.out.1 HES.out.lo
   have g1 : gs ≤ 4294967297 := HES.out.g1
   have r0 : 0 ≤ rs := HES.out.r0
   have r1 : rs < 4294967296 := HES.out.r1
   by_cases hbig : 4294967296 ≤ gs
   ·have hd : decide (4294967296 ≤ gs) = true := by simp; exact hbig
    have hdn : Hid (val (sh h ou) (m + 3) / val g (m + 2) ≤ gs - 1) := by have := HF.out.2.1; unfold B at this; show _ ≤ _; omega
    clear q5 q6
    have g2 : 1 ≤ gs := by have h1 := HF.out.1; have h2 := hdn.out; omega
    have HST : Hid (rs + a < 4294967296 → Est (val (sh h ou) (m + 3) / val g (m + 2)) (x1 + x0 * B) a (gs - 1) (rs + a)) := fun h => est_step d1 HES.out hdn.out h
    have HBR : Hid (4294967296 ≤ rs + a → Zal (gs - 1) ∧ val (sh h ou) (m + 3) / val g (m + 2) ≤ gs - 1 ∧ (gs - 1) * val g (m + 2) < val (sh h ou) (m + 3) + val g (m + 2)) := by
     intro h
     refine FIN2.out (gs - 1) (rs + a) ?_ hdn.out (est_break HT.out HES.out h) h
     have := HES.out.eq
     rw [Int.sub_mul, Int.one_mul]; omega
    by_cases hbr : 4294967296 ≤ rs + a
    ·have hd2 : decide (4294967296 ≤ rs + a) = true := by simp; exact hbr
     go_wp2_with fail
     go_quiet (fail)
     go_wp2
     go_meet
     case rel => exact ⟨_, rfl, Zcb HGR.out, HOW.out.drawn, HBR.out hbr⟩
    ·have hd2 : decide (4294967296 ≤ rs + a) = false := by simp; omega
     go_wp2_with fail
     go_quiet (fail)
     go_wp2
     go_roundw
     case rel => first | exact ⟨_, _, rfl, rfl, Zcb HGR.out, HOW.out.drawn, HST.out oM⟩ | ((repeat apply Exists.intro); exact ⟨⟨_, _, rfl, rfl, Zcb HGR.out, HOW.out.drawn, HST.out oM⟩, rfl⟩)
     case measure => simp [intOf]; omega
   ·have hd : decide (4294967296 ≤ gs) = false := by simp; omega
    obtain ⟨p0, p1⟩ := Zf7 (x := gs) (y := b) ⟨g0, by unfold B; omega⟩ ⟨bb0, bb1⟩
    have w6 := Za4 (x := gs * b) p0 oM
    have w7 := Za4 (x := rs * 4294967296) oM oM
    have w8 := or_join r0 r1 b20 b21
    by_cases hgt : rs * 4294967296 + x2 < gs * b
    ·have hd3 : decide (rs * 4294967296 + x2 < gs * b) = true := by simp; exact hgt
     have hdn : Hid (val (sh h ou) (m + 3) / val g (m + 2) ≤ gs - 1) := DOWN.out gs rs HES.out hgt
     have g2 : 1 ≤ gs := by have h1 := HF.out.1; have h2 := hdn.out; omega
     have HST : Hid (rs + a < 4294967296 → Est (val (sh h ou) (m + 3) / val g (m + 2)) (x1 + x0 * B) a (gs - 1) (rs + a)) := fun h => est_step d1 HES.out hdn.out h
     have HBR : Hid (4294967296 ≤ rs + a → Zal (gs - 1) ∧ val (sh h ou) (m + 3) / val g (m + 2) ≤ gs - 1 ∧ (gs - 1) * val g (m + 2) < val (sh h ou) (m + 3) + val g (m + 2)) := by
      intro h
      refine FIN2.out (gs - 1) (rs + a) ?_ hdn.out (est_break HT.out HES.out h) h
      have := HES.out.eq
      rw [Int.sub_mul, Int.one_mul]; omega
     by_cases hbr : 4294967296 ≤ rs + a
     ·have hd2 : decide (4294967296 ≤ rs + a) = true := by simp; exact hbr
      go_wp2_with fail
      go_quiet (fail)
      go_wp2
      go_meet
      case rel => exact ⟨_, rfl, Zcb HGR.out, HOW.out.drawn, HBR.out hbr⟩
     ·have hd2 : decide (4294967296 ≤ rs + a) = false := by simp; omega
      go_wp2_with fail
      go_quiet (fail)
      go_wp2
      go_roundw
      case rel => first | exact ⟨_, _, rfl, rfl, Zcb HGR.out, HOW.out.drawn, HST.out oM⟩ | ((repeat apply Exists.intro); exact ⟨⟨_, _, rfl, rfl, Zcb HGR.out, HOW.out.drawn, HST.out oM⟩, rfl⟩)
      case measure => simp [intOf]; omega
    ·have hd3 : decide (rs * 4294967296 + x2 < gs * b) = false := by simp; omega
     have HFI := Lib.hid (FIN.out gs rs HES.out oM oM)
     go_wp2_with fail
     go_quiet (fail)
     go_wp2
     go_meet
     case rel => exact ⟨_, rfl, Zcb HGR.out, HOW.out.drawn, HFI.out⟩
 case rest =>
  obtain ⟨gs, rfl, HGR, HOW, HGS⟩ := hcut
  have g0 := HGS.out.1.1
  have g1 : gs < 4294967296 := HGS.out.1.2
  clear c4 w3 t0 t1 d0 d1 b00 b01 b10 b11 ba0 ba1 ba2
  go_wp2_with fail
  go_loopw [9, 10, 84] (fun s9 s10 si wr => ∃ (k : Nat) (c b : Int) (h' : Nat → Int), si = .int .i64 k ∧ k ≤ m + 2 ∧ s9 = .int .u64 c ∧ s10 = .int .u32 b ∧ Hid (w.grownBy wr (some bu)) ∧ Hid (Own wr bu N h') ∧
    Hid (Digs h' N ∧ (∀ i, i < ou ∨ ou + (m + 2) + 1 ≤ i → h' i = h i) ∧ SubI (sh h ou) g (m + 2) gs k (sh h' ou) c b))
   (fun _ _ si _ => m + 2 - (intOf si).toNat)
  case atStart => exact ⟨0, 0, 0, h, rfl, Nat.zero_le _, rfl, rfl, HGR, HOW, HUD.out, fun _ _ => rfl, subI_zero HU.out⟩
  case round =>
   obtain ⟨k, c, b, h', rfl, hk, rfl, rfl, HGR', HOW', HS⟩ := hrel
   by_cases hlt : k < m + 2
   ·have q1 : wr.cell? ⟨bv, ov + k, none⟩ = some (.int .u32 (g k)) := (HV.out.grown HGR'.out hne).cell k hlt
    have q2 : wr.cell? ⟨bu, ou + k, none⟩ = some (.int .u32 (h' (ou + k))) := HOW'.out.cell _ oM
    have q3 := HOW'.out.free (ou + k)
    have y0 := (HG.out k hlt).1
    have y1 : g k < 4294967296 := (HG.out k hlt).2
    have c0 := HS.out.2.2.car.1
    have c1 : c < 4294967296 := HS.out.2.2.car.2
    obtain ⟨p0, p1⟩ := Zf7 HGS.out.1 (HG.out k hlt)
    have HN := Lib.hid (subI_step HG.out hlt HGS.out.1 HS.out.2.2)
    have HC : Hid (Zal (h' (ou + k)) ∧ Zal ((gs * g k + c) % 4294967296) ∧ 0 ≤ b ∧ b ≤ 1) := ⟨HS.out.1 _ oM, Zce _, HS.out.2.2.b0, HS.out.2.2.b1⟩
    go_wp2_with fail
    refine (sub32_c _ _ _ _ HC.out.1 HC.out.2.1 HC.out.2.2).mono ?_
    rintro e w' ⟨rfl, rfl⟩
    go_wp2
    go_roundw
    case rel =>
     (repeat apply Exists.intro)
     exact ⟨⟨k + 1, _, _, set h' (ou + k) _, by go_num, oM, rfl, rfl, Zcz HGR'.out, HOW'.out.set oM _, Zb4 HS.out.1 (Zce _), fun i hi => by rw [Zdc _ _ oM]; exact HS.out.2.1 i hi, by rw [sh_set]; exact HN.out⟩, rfl⟩
    case measure => simp [intOf]; omega
   ·obtain rfl : k = m + 2 := oM
    have q2 : wr.cell? ⟨bu, ou + (m + 2), none⟩ = some (.int .u32 (h' (ou + (m + 2)))) := HOW'.out.cell _ oM
    have q3 := HOW'.out.free (ou + (m + 2))
    have c0 := HS.out.2.2.car.1
    have c1 : c < 4294967296 := HS.out.2.2.car.2
    have HN := Lib.hid (subI_end HS.out.2.2)
    have HC : Hid (Zal (h' (ou + (m + 2))) ∧ Zal c ∧ 0 ≤ b ∧ b ≤ 1) := ⟨HS.out.1 _ oM, HS.out.2.2.car, HS.out.2.2.b0, HS.out.2.2.b1⟩
    go_wp2_with fail
    refine (sub32_c _ _ _ _ HC.out.1 HC.out.2.1 HC.out.2.2).mono ?_
    rintro e w' ⟨rfl, rfl⟩
    have HO2 : Hid (Own (wr.setCell ⟨bu, ou + (m + 2), none⟩ (.int .u32 ((h' (ou + (m + 2)) - c - b) % 4294967296))) bu N (set h' (ou + (m + 2)) ((h' (ou + (m + 2)) - c - b) % 4294967296))) := HOW'.out.set oM _
    have HG2 : Hid (w.grownBy (wr.setCell ⟨bu, ou + (m + 2), none⟩ (.int .u32 ((h' (ou + (m + 2)) - c - b) % 4294967296))) (some bu)) := Zcz HGR'.out
    have HN2 : Hid (Digs (sh (set h' (ou + (m + 2)) ((h' (ou + (m + 2)) - c - b) % 4294967296)) ou) (m + 2 + 1) ∧ 0 ≤ -((h' (ou + (m + 2)) - c - b) / 4294967296) ∧ -((h' (ou + (m + 2)) - c - b) / 4294967296) ≤ 1 ∧
      val (sh (set h' (ou + (m + 2)) ((h' (ou + (m + 2)) - c - b) % 4294967296)) ou) (m + 2 + 1) = val (sh h ou) (m + 2 + 1) - gs * val g (m + 2) + -((h' (ou + (m + 2)) - c - b) / 4294967296) * pw (m + 2 + 1)) := by
     rw [sh_set]; exact HN.out
    have HS2 : Hid (Digs (set h' (ou + (m + 2)) ((h' (ou + (m + 2)) - c - b) % 4294967296)) N ∧ ∀ i, i < ou ∨ ou + (m + 2) + 1 ≤ i → set h' (ou + (m + 2)) ((h' (ou + (m + 2)) - c - b) % 4294967296) i = h i) :=
     ⟨Zb4 HS.out.1 (Zce _), fun i hi => by rw [Zdc _ _ oM]; exact HS.out.2.1 i hi⟩
    clear HN HC HOW' HGR' HS c0 c1
    generalize (h' (ou + (m + 2)) - c - b) % 4294967296 = y at *
    generalize -((h' (ou + (m + 2)) - c - b) / 4294967296) = bb at *
    have HW : Hid (0 ≤ bb ∧ bb ≤ 1 ∧ (bb = 0 → 0 ≤ val (sh h ou) (m + 3) - gs * val g (m + 2)) ∧ (bb = 1 → val (sh (set h' (ou + (m + 2)) y) ou) (m + 3) = val (sh h ou) (m + 3) - gs * val g (m + 2) + pw (m + 3) ∧ val (sh h ou) (m + 3) - gs * val g (m + 2) < 0) ∧
      val (sh h ou) (m + 3) < gs * val g (m + 2) + val g (m + 2) ∧ val g (m + 2) < pw (m + 3)) := by
     obtain ⟨a1, a2, a3, a4⟩ := HN2.out
     have hV := HF.out.2.2.1
     have hVW : val g (m + 2) < pw (m + 3) := Int.lt_trans (Zcg HG.out) (pw_lt _ _ oM)
     have hlo : val (sh h ou) (m + 3) < gs * val g (m + 2) + val g (m + 2) := by
      have h1 := Int.lt_ediv_add_one_mul_self (val (sh h ou) (m + 3)) hV
      have h2 : (val (sh h ou) (m + 3) / val g (m + 2) + 1) * val g (m + 2) ≤ (gs + 1) * val g (m + 2) := Int.mul_le_mul_of_nonneg_right (by have := HGS.out.2.1; omega) oM
      rw [Int.add_mul gs, Int.one_mul] at h2
      omega
     have := digit_fin (W := pw (m + 3)) oM (Zam a1) (Zcg a1) a4 a2 a3 hlo HGS.out.2.2 hV
     exact ⟨a2, a3, this.1, this.2, hlo, hVW⟩
    have q4 := HO2.out.cell (ou + (m + 2)) oM
    rw [set_eq] at q4
    rcases (show bb = 0 ∨ bb = 1 by have h1 := HW.out.1; have h2 := HW.out.2.1; omega) with rfl | rfl
    ·go_wp2
     go_ret
     have hv := HN2.out.2.2.2
     rw [Int.zero_mul, Int.add_zero] at hv
     exact ⟨gs, _, rfl, HG2.out, HO2.out, HGS.out.1, HS2.out.1, HS2.out.2, hv, by rw [hv]; have := HW.out.2.2.2.2.1; show val (sh h ou) (m + 3) - _ < _; omega⟩
    ·have g2 : 1 ≤ gs := by
      have h1 := (HW.out.2.2.2.1 rfl).2
      have h2 := Zam HU.out
      by_cases hc : 1 ≤ gs
      ·exact hc
      ·obtain rfl : gs = 0 := oM
       rw [Int.zero_mul] at h1; omega
     have hbk : ((1 : Int) != 0) = true := dC
     obtain ⟨h3, hh3⟩ : ∃ h3, h3 = set h' (ou + (m + 2)) y := ⟨_, rfl⟩
     rw [← hh3] at HO2 HN2 HS2 HW
     have HH3 := Lib.hid hh3
     clear hh3
     go_wp2_with fail
     clear q2 q3
     go_loopw [14, 132] (fun s14 si wr => ∃ (k : Nat) (c : Int) (h2 : Nat → Int), si = .int .i64 k ∧ k ≤ m + 2 ∧ s14 = .int .u32 c ∧ Hid (w.grownBy wr (some bu)) ∧ Hid (Own wr bu N h2) ∧
       Hid (Digs h2 N ∧ (∀ i, i < ou ∨ ou + (m + 2) + 1 ≤ i → h2 i = h i) ∧ BackI (sh h3 ou) g (m + 2) k (sh h2 ou) c))
      (fun _ si _ => m + 2 - (intOf si).toNat)
     case atStart => exact ⟨0, 0, h3, rfl, Nat.zero_le _, rfl, HG2, HO2, HS2.out.1, HS2.out.2, backI_zero HN2.out.1⟩
     case round =>
      obtain ⟨k, c, h2, rfl, hk, rfl, HGR', HOW', HS⟩ := hrel
      clear q4
      by_cases hlt : k < m + 2
      ·have q1 : wr.cell? ⟨bv, ov + k, none⟩ = some (.int .u32 (g k)) := (HV.out.grown HGR'.out hne).cell k hlt
       have q2 : wr.cell? ⟨bu, ou + k, none⟩ = some (.int .u32 (h2 (ou + k))) := HOW'.out.cell _ oM
       have q3 := HOW'.out.free (ou + k)
       have HN := Lib.hid (backI_step HG.out hlt HS.out.2.2)
       have HC : Hid (Zal (h2 (ou + k)) ∧ Zal (g k) ∧ 0 ≤ c ∧ c ≤ 1) := ⟨HS.out.1 _ oM, HG.out k hlt, HS.out.2.2.c0, HS.out.2.2.c1⟩
       go_wp2_with fail
       refine (add32_c _ _ _ _ HC.out.1 HC.out.2.1 HC.out.2.2).mono ?_
       rintro e w' ⟨rfl, rfl⟩
       go_wp2
       go_roundw
       case rel =>
        first
         | exact ⟨k + 1, _, set h2 (ou + k) _, by go_num, oM, rfl, Zcz HGR'.out, HOW'.out.set oM _, Zb4 HS.out.1 (Zce _), fun i hi => by rw [Zdc _ _ oM]; exact HS.out.2.1 i hi, by rw [sh_set]; exact HN.out⟩
         | ((repeat apply Exists.intro); exact ⟨⟨k + 1, _, set h2 (ou + k) _, by go_num, oM, rfl, Zcz HGR'.out, HOW'.out.set oM _, Zb4 HS.out.1 (Zce _), fun i hi => by rw [Zdc _ _ oM]; exact HS.out.2.1 i hi, by rw [sh_set]; exact HN.out⟩, rfl⟩)
       case measure => simp [intOf]; omega
      ·obtain rfl : k = m + 2 := oM
       have q2 : wr.cell? ⟨bu, ou + (m + 2), none⟩ = some (.int .u32 (h2 (ou + (m + 2)))) := HOW'.out.cell _ oM
       have q3 := HOW'.out.free (ou + (m + 2))
       have c0 := HS.out.2.2.c0
       have c1 := HS.out.2.2.c1
       have e0 := (HS.out.1 (ou + (m + 2)) oM).1
       have e1 : h2 (ou + (m + 2)) < 4294967296 := (HS.out.1 (ou + (m + 2)) oM).2
       have HN := Lib.hid (backI_end HS.out.2.2)
       go_wp2
       go_ret
       have hd : Zal (gs - 1) := ⟨oM, by unfold B; omega⟩
       obtain ⟨y0, y1, y2, y3, y4, y5⟩ := HW.out
       obtain ⟨z1, z2⟩ := y3 (by first | trivial | rfl)
       obtain ⟨a1, o, o0, o1, a2⟩ := HN.out
       have b0 := Zam a1
       have b1 := Zcg a1
       have hlo := HGS.out.2.2
       have hfin : val (sh (set h2 (ou + (m + 2)) ((h2 (ou + (m + 2)) + c) % 4294967296)) ou) (m + 2 + 1) = val (sh h ou) (m + 2 + 1) - (gs - 1) * val g (m + 2) := by
        rw [sh_set]
        show val (set (sh h2 ou) (m + 2) ((sh h2 ou (m + 2) + c) % 4294967296)) (m + 2 + 1) = _
        rw [Int.sub_mul, Int.one_mul]
        have e3 : val (sh h3 ou) (m + 2 + 1) = val (sh h ou) (m + 2 + 1) - gs * val g (m + 2) + pw (m + 2 + 1) := z1
        have z2' : val (sh h ou) (m + 2 + 1) - gs * val g (m + 2) < 0 := z2
        have hlo' : gs * val g (m + 2) < val (sh h ou) (m + 2 + 1) + val g (m + 2) := hlo
        have y5' : val g (m + 2) < pw (m + 2 + 1) := y5
        rcases (show o = 0 ∨ o = 1 by omega) with rfl | rfl <;> omega
       exact ⟨gs - 1, _, rfl, Zcz HGR'.out, HOW'.out.set oM _, hd, Zb4 HS.out.1 (Zce _), fun i hi => by rw [Zdc _ _ oM]; exact HS.out.2.1 i hi, hfin, by
        rw [hfin, Int.sub_mul, Int.one_mul]
        have z2' : val (sh h ou) (m + 2 + 1) - gs * val g (m + 2) < 0 := z2
        omega⟩
theorem val_split (f : Nat → Int) (a : Nat) : ∀ b, val f (a + b) = val f a + pw a * val (sh f a) b
  | 0 => by simp [val]
  | b + 1 => by
    show val f (a + b) + f (a + b) * pw (a + b) = _
    rw [val_split f a b, pw_add]
    simp only [val, sh]
    grind
theorem val_shift (f : Nat → Int) (j m : Nat) : val (sh f j) (m + 1) = f j + B * val (sh f (j + 1)) m := by
 have := val_split (sh f j) 1 m
 rw [Nat.add_comm 1 m] at this
 rw [this]
 have e : sh (sh f j) 1 = sh f (j + 1) := by funext i; simp only [sh]; congr 1; omega
 rw [e]
 simp [val, pw, sh]
theorem divisor_len {g h : Nat → Int} {m k s : Nat} (hg : Digs g (m + 1)) (hh : Digs h k) (hc : Zb2 h k) (hs0 : 2147483648 ≤ g m * 2 ^ s) (hs1 : g m * 2 ^ s < 4294967296) (hv : val h k = val g (m + 1) * 2 ^ s) :
  k = m + 1 ∧ B ≤ 2 * h m ∧ val g (m + 1) * 2 ^ s < pw (m + 1) ∧ 2147483648 * pw m ≤ val g (m + 1) * 2 ^ s := by
 have hP : (0 : Int) < 2 ^ s := Int.pow_pos oM
 have hp := Zch m
 have l0 := Zam (n := m) (fun i hi => hg i oM)
 have l1 := Zcg (n := m) (fun i hi => hg i oM)
 have hlo : 2147483648 * pw m ≤ val g (m + 1) * 2 ^ s := by
  have h1 : 2147483648 * pw m ≤ (g m * 2 ^ s) * pw m := Int.mul_le_mul_of_nonneg_right hs0 oM
  have h2 : 0 ≤ val g m * 2 ^ s := Int.mul_nonneg l0 oM
  have e : val g (m + 1) * 2 ^ s = val g m * 2 ^ s + g m * 2 ^ s * pw m := by simp only [val]; grind
  omega
 have hhi : val g (m + 1) * 2 ^ s < pw (m + 1) := by
  have hd : (4294967296 : Int) = 2 ^ s * 2 ^ (32 - s) ∨ 32 < s := by
   by_cases hs : s ≤ 32
   ·left; rw [← Int.pow_add, show s + (32 - s) = 32 from oM]; rfl
   ·right; omega
  rcases hd with hd | hd
  ·have h3 : (g m + 1) * 2 ^ s ≤ 4294967296 := by
    have h4 : g m * 2 ^ s < 2 ^ (32 - s) * 2 ^ s := by rw [Int.mul_comm (2 ^ (32 - s))]; omega
    have h5 := Int.lt_of_mul_lt_mul_right h4 oM
    have h6 : (g m + 1) * 2 ^ s ≤ 2 ^ (32 - s) * 2 ^ s := Int.mul_le_mul_of_nonneg_right oM oM
    rw [Int.mul_comm (2 ^ (32 - s))] at h6; omega
   have h7 : val g (m + 1) * 2 ^ s < ((g m + 1) * pw m) * 2 ^ s := by
    refine Int.mul_lt_mul_of_pos_right ?_ hP
    simp only [val]; rw [Int.add_mul]; omega
   have e : ((g m + 1) * pw m) * 2 ^ s = ((g m + 1) * 2 ^ s) * pw m := by grind
   have h8 : ((g m + 1) * 2 ^ s) * pw m ≤ 4294967296 * pw m := Int.mul_le_mul_of_nonneg_right h3 oM
   have e2 : pw (m + 1) = 4294967296 * pw m := by show pw m * B = _; rw [Int.mul_comm]; rfl
   omega
  ·exfalso
   have h9 : (2 : Int) ^ 33 ≤ 2 ^ s := by
    have := Nat.pow_le_pow_right (n := 2) oM (show 33 ≤ s by omega)
    have e : ((2 ^ s : Nat) : Int) = (2 : Int) ^ s := by simp
    have e' : ((2 ^ 33 : Nat) : Int) = (2 : Int) ^ 33 := by simp
    omega
   have h10 : 1 ≤ g m := by
    have := (hg m oM).1
    by_cases hz : g m = 0
    ·rw [hz] at hs0; omega
    ·omega
   have h11 : 1 * 2 ^ s ≤ g m * 2 ^ s := Int.mul_le_mul_of_nonneg_right h10 oM
   have e33 : (2 : Int) ^ 33 = 8589934592 := dC
   omega
 have hk : k = m + 1 := by
  have a1 : k ≤ m + 1 := by
   rcases k with _ | k
   ·omega
   ·have := Ze6 hh hc
    by_cases hc2 : k + 1 ≤ m + 1
    ·exact hc2
    ·have := Zed (m + 1) k oM; omega
  have a2 : m + 1 ≤ k := by
   have := Zcg hh
   by_cases hc2 : m + 1 ≤ k
   ·exact hc2
   ·have := Zed k m oM; omega
  omega
 subst hk
 refine ⟨rfl, ?_, hhi, hlo⟩
 have l2 := Zcg (n := m) (fun i hi => hh i oM)
 have h12 : (2147483648 - 1) * pw m < h m * pw m := by
  simp only [val] at hv
  simp only [val] at hlo
  rw [Int.sub_mul]; omega
 have := Int.lt_of_mul_lt_mul_right h12 oM
 unfold B; omega
structure DivI (U V : Int) (c m k : Nat) (q u : Nat → Int) : Prop where
 qd : Digs q (c + 1)
 ud : Digs u (m + c + 1)
 qz : ∀ t, t < k → q t = 0
 eq : val q (c + 1) * V + (val u k + pw k * val (sh u k) m) = U
 lt : val (sh u k) m < V
theorem divI_start {u : Nat → Int} {c m : Nat} {U V : Int} (hu : Digs u (m + c + 1)) (hU : val u (m + c + 1) = U) (h1 : U < pw (m + c) * 2147483648) (h2 : 2147483648 * pw m ≤ V * B) :
  DivI U V c m (c + 1) (fun _ => 0) u := by
 have hs := val_split u (c + 1) m
 rw [show c + 1 + m = m + c + 1 from oM, hU] at hs
 refine ⟨fun _ _ => zero_dig, hu, fun _ _ => rfl, by rw [Zfs]; omega, ?_⟩
 have h0 := Zam (n := c + 1) (fun i hi => hu i oM)
 have hp := Zch (c + 1)
 have h3 : pw (c + 1) * val (sh u (c + 1)) m < pw (c + 1) * V := by
  have e1 : pw (m + c) * 2147483648 = (2147483648 * pw m) * pw c := by rw [pw_add]; grind
  have e2 : (2147483648 * pw m) * pw c ≤ (V * B) * pw c := Int.mul_le_mul_of_nonneg_right h2 (by have := Zch c; omega)
  have e3 : (V * B) * pw c = pw (c + 1) * V := by simp only [pw]; grind
  omega
 exact Int.lt_of_mul_lt_mul_left h3 oM
theorem divI_pre {u q : Nat → Int} {c m j : Nat} {U V : Int} (hj : j ≤ c) (H : DivI U V c m (j + 1) q u) : val (sh u j) (m + 1) < V * B := by
 rw [val_shift]
 have h1 := H.lt
 have h2 := (H.ud j oM).2
 have h3 : B * val (sh u (j + 1)) m ≤ B * (V - 1) := Int.mul_le_mul_of_nonneg_left oM (by have := B_pos; omega)
 rw [Int.mul_sub, Int.mul_one, Int.mul_comm B V] at h3
 omega
theorem divI_step {u u' q : Nat → Int} {c m j : Nat} {U V d : Int} (hj : j ≤ c) (hV : V < pw m) (H : DivI U V c m (j + 1) q u) (hd : Zal d) (hu' : Digs u' (m + c + 1)) (hsame : ∀ i, i < j ∨ j + m + 1 ≤ i → u' i = u i)
  (he : val (sh u' j) (m + 1) = val (sh u j) (m + 1) - d * V) (hl : val (sh u' j) (m + 1) < V) : DivI U V c m j (set q j d) u' := by
 have h0 := sh_dig (o := j) (n := m + 1) hu' oM
 have l0 := Zam (n := m) (fun i hi => h0 i oM)
 have htop : sh u' j m = 0 := by
  have t0 := (h0 m oM).1
  by_cases hz : sh u' j m = 0
  ·exact hz
  ·exfalso
   have : 1 * pw m ≤ sh u' j m * pw m := Int.mul_le_mul_of_nonneg_right oM (by have := Zch m; omega)
   simp only [val] at hl
   omega
 have e1 : val (sh u' j) (m + 1) = val (sh u' j) m := by simp only [val]; rw [htop]; omega
 refine ⟨Zb4 H.qd hd, hu', fun t ht => by rw [Zdc _ _ oM]; exact H.qz t oM, ?_, oM⟩
 have e2 := H.eq
 have e3 : val u' j = val u j := Zc9 fun i hi => hsame i (.inl hi)
 rw [val_set _ oM, H.qz j oM, e3, ← e1, he, val_shift]
 have e4 : pw (j + 1) = pw j * B := rfl
 rw [e4] at e2
 simp only [val] at e2 ⊢
 grind
theorem div_end {F G q R V U : Int} {s : Nat} (hU : U = F * 2 ^ s) (hV : V = G * 2 ^ s) (he : q * V + R = U) {r : Int} (hr : 2 ^ s * r = R - R % 2 ^ s) (h0 : 0 ≤ R) (h1 : R < V) : q * G + r = F ∧ 0 ≤ r ∧ r < G := by
 have hP : (0 : Int) < 2 ^ s := Int.pow_pos oM
 generalize (2 : Int) ^ s = P at *
 have e1 : R = P * (F - q * G) := by subst hU hV; grind
 have e2 : R % P = 0 := by rw [e1]; exact Int.mul_emod_right _ _
 rw [e2, Int.sub_zero] at hr
 have e3 : r = F - q * G := Int.eq_of_mul_eq_mul_left oM (hr.trans e1)
 refine ⟨oM, ?_, ?_⟩
 ·by_cases hc : 0 ≤ r
  ·exact hc
  ·have : P * r ≤ P * (-1) := Int.mul_le_mul_of_nonneg_left oM oM
   omega
 ·by_cases hc : r < G
  ·exact hc
  ·have : P * G ≤ P * r := Int.mul_le_mul_of_nonneg_left oM oM
   rw [Int.mul_comm P G] at this; omega
def DivideR (n m : Nat) (f g : Nat → Int) (w' : World) (u : Value) : Prop :=
 ∃ sq sr nq nr q r, u = .tuple #[sq, sr] ∧ Dg w' sq nq q ∧ Dg w' sr nr r ∧ Zb2 q nq ∧ Zb2 r nr ∧ nq ≤ n + 1 ∧ nr ≤ n + m + 2 ∧ val q nq * val g m + val r nr = val f n ∧ val r nr < val g m
theorem WideR.below {w w' : World} {x : Int} {u : Value} (h : WideR x w u) (hb : Below w.heap.size w w') : WideR x w' u := by
 obtain ⟨n, f, h1, h2⟩ := h
 exact ⟨n, f, h1.below hb, h2⟩
theorem Zgh {f : Nat → Int} {n : Nat} (h : Digs f n) (hn : n ≤ 2) : 0 ≤ val f n ∧ val f n < 18446744073709551616 := by
 have h1 := Zcg h
 have h2 := Zed n 2 hn
 have h3 : pw 2 = 18446744073709551616 := dC
 exact ⟨Zam h, oM⟩
set_option maxHeartbeats 1000000 in
theorem divide_a {w : World} {va vb : Value} {n m : Nat} {f g : Nat → Int} (ha : Dg w va n f) (hb : Dg w vb m g) (cf : Zb2 f n) (cg : Zb2 g m) (hn : n ≤ L / 2) (hm : m ≤ L / 2) (hlt : val f n < val g m) :
  Calls Tryz.prog 181 #[va, vb] w (Ret w (DivideR n m f g)) := by
 have HA := Lib.hid ha
 have HB := Lib.hid hb
 have HN : Hid (n ≤ L ∧ m ≤ L) := ⟨by unfold L at *; omega, by unfold L at *; omega⟩
 have HC := Lib.hid (And.intro cf cg)
 have HL := Lib.hid hlt
 clear ha hb cf cg hn hm hlt
 go_enter Tryz.func181, Tryz.ntmps181
 go_wp2_with fail
 refine (Zfq HA.out HB.out HN.out.1 HN.out.2 HC.out.1 HC.out.2).mono ?_
 rintro e w1 ⟨v1, rfl, hb1, rfl⟩
 rw [cmpZ_lt HL.out]
 have HB1 := Lib.hid hb1
 clear hb1
 go_wp2_with fail
 refine (clone_c (HA.out.below HB1.out) HN.out.1).mono ?_
 rintro e w2 ⟨v2, rfl, hb2, h2⟩
 have HB2 := Lib.hid (Zak HB1.out hb2)
 have H2 := Lib.hid h2
 clear hb2 h2
 go_wp2
 go_ret2
 exact .mk rfl HB2.out ⟨_, _, 0, n, fun _ => 0, f, rfl, Dg.nil _ _, H2.out, .inl rfl, HC.out.1, oM, oM, by simp [val], HL.out⟩
set_option maxHeartbeats 2000000 in
theorem divide_b {w : World} {va vb : Value} {n m : Nat} {f g : Nat → Int} (ha : Dg w va n f) (hb : Dg w vb m g) (cf : Zb2 f n) (cg : Zb2 g m) (hn : n ≤ 2) (hm : 0 < m) (hle : val g m ≤ val f n) :
  Calls Tryz.prog 181 #[va, vb] w (Ret w (DivideR n m f g)) := by
 have HA := Lib.hid ha
 have HB := Lib.hid hb
 have HC := Lib.hid (And.intro cf cg)
 have HM : Hid (m ≤ n) := Zcm hb.dig ha.dig cg hle
 have HX := Lib.hid (Zgh ha.dig hn)
 have HY := Lib.hid (Zgh hb.dig (Nat.le_trans HM.out hn))
 have HY0 : Hid (0 < val g m) := by
  have h1 := HY.out.1
  have h2 := (Zc5 hb.dig cg).1
  show 0 < val g m
  by_cases hz : val g m = 0
  ·have := h2 hz; omega
  ·omega
 have HN : Hid (n ≤ L ∧ m ≤ L) := ⟨by unfold L; omega, by have := HM.out; unfold L; omega⟩
 have HL := Lib.hid hle
 have hnb : decide ((n : Int) ≤ 2) = true := by simp; omega
 obtain ⟨xa, ca, rfl, hca, -⟩ := ha
 clear hb cf cg hle
 go_enter Tryz.func181, Tryz.ntmps181
 go_wp2_with fail
 refine (Zfq HA.out HB.out HN.out.1 HN.out.2 HC.out.1 HC.out.2).mono ?_
 rintro e w1 ⟨v1, rfl, hb1, rfl⟩
 have hcz : 0 ≤ cmpZ (val f n) (val g m) := by
  have := HL.out
  unfold cmpZ; rw [if_neg oM]; split <;> omega
 generalize cmpZ (val f n) (val g m) = cz at *
 have HB1 := Lib.hid hb1
 clear hb1
 go_wp2_with fail
 refine (word_c (HA.out.below HB1.out) hn).mono ?_
 rintro e w2 ⟨v2, rfl, hb2, rfl⟩
 have HB2 := Lib.hid (Zak HB1.out hb2)
 clear hb2 HB1
 go_wp2_with fail
 refine (word_c (HB.out.below HB2.out) (Nat.le_trans HM.out hn)).mono ?_
 rintro e w3 ⟨v3, rfl, hb3, rfl⟩
 have HB3 := Lib.hid (Zak HB2.out hb3)
 clear hb3 HB2
 have hx0 := HX.out.1
 have hx1 := HX.out.2
 have hy0 := HY0.out
 have hy1 := HY.out.2
 generalize hgx : val f n = x at *
 generalize hgy : val g m = y at *
 have GX := Lib.hid hgx
 have GY := Lib.hid hgy
 clear hgx hgy
 have d0 : (y == 0) = false := by simp; omega
 have HQ : Hid (0 ≤ x / y ∧ x / y < 18446744073709551616 ∧ 0 ≤ x % y ∧ x % y < y) :=
  ⟨Int.ediv_nonneg hx0 oM, Int.lt_of_le_of_lt (Int.ediv_le_self _ hx0) hx1, Int.emod_nonneg _ oM, Int.emod_lt_of_pos _ hy0⟩
 have q0 := HQ.out.1
 have q1 := HQ.out.2.1
 have e1 := Za4 q0 q1
 have q2 := HQ.out.2.2.1
 have q3 := HQ.out.2.2.2
 have e2 := Za4 q2 (Int.lt_trans q3 hy1)
 have t1 : x.tdiv y = x / y := Int.tdiv_eq_ediv_of_nonneg hx0
 have t2 : x.tmod y = x % y := Int.tmod_eq_emod_of_nonneg hx0
 have d1 : y ≠ 0 := oM
 go_wp2_with fail
 have hk := Lib.hid ((Below.refl w3.heap.size w3).drew)
 go_region_held3 (fun W => Hid (Below w3.heap.size w3 W)) (first | assumption | exact Zbr (by assumption) hb (Nat.le_refl _))
  (first
   | (go_at_call_of 120 (Value.int .u64 (x / y)); refine (wide_c _ _ HQ.out.1 HQ.out.2.1).mono ?_; rintro e w4 ⟨v4, rfl, hb, h4⟩; have H4 := Lib.hid h4; clear h4)
   | (go_at_call_of 120 (Value.int .u64 (x % y)); refine (wide_c _ _ HQ.out.2.2.1 (Int.lt_trans HQ.out.2.2.2 hy1)).mono ?_; rintro e w5 ⟨v5, rfl, hb, h5⟩; have H5 := Lib.hid h5; have H4 := Lib.hid (H4.out.below hb); clear h5))
 have HB5 := Lib.hid (Zak HB3.out (Hid.out (p := Below w3.heap.size w3 w5) (by assumption)))
 clear hk hb e1 e2 t1 t2
 go_wp2
 go_ret2
 obtain ⟨nq, q, a1, a2, a3, a4⟩ := H4.out
 obtain ⟨nr, r, b1, b2, b3, b4⟩ := H5.out
 refine .mk rfl HB5.out ⟨_, _, nq, nr, q, r, rfl, a1, b1, a3, b3, ?_, oM, ?_, ?_⟩
 ·rcases nq with _ | nq
  ·omega
  ·have h1 := Ze6 a1.dig a3
   have h2 := Zcg HA.out.dig
   rw [GX.out] at h2
   have h3 : x / y ≤ x := Int.ediv_le_self _ hx0
   by_cases hc : nq < n
   ·omega
   ·have := Zed n nq oM; omega
 ·rw [a4, b4, GX.out, GY.out]; exact Int.ediv_mul_add_emod x y
 ·rw [b4, GY.out]; exact HQ.out.2.2.2
set_option maxHeartbeats 2000000 in
theorem divide_s {w : World} {va vb : Value} {n : Nat} {f g : Nat → Int} (ha : Dg w va n f) (hb : Dg w vb 1 g) (cf : Zb2 f n) (cg : Zb2 g 1) (hn2 : 2 < n) (hn : n ≤ L) (hle : val g 1 ≤ val f n) :
  Calls Tryz.prog 181 #[va, vb] w (Ret w (DivideR n 1 f g)) := by
 have HA := Lib.hid ha
 have HB := Lib.hid hb
 have HC := Lib.hid (And.intro cf cg)
 have HN : Hid (n ≤ L ∧ 1 ≤ L) := ⟨hn, by unfold L; omega⟩
 have HL := Lib.hid hle
 have hnb : decide ((n : Int) ≤ 2) = false := by simp; omega
 have HG : Hid (Zal (g 0) ∧ 0 < g 0) := by
  have h1 := hb.dig 0 oM
  refine ⟨h1, ?_⟩
  rcases cg with h | h
  ·omega
  ·have := h1.1; simp at h; omega
 have hn' : n ≤ 17592186044416 := hn
 obtain ⟨xa, ca, rfl, hca, -⟩ := ha
 obtain ⟨xb, cb, rfl, hcb, hdb⟩ := hb
 rcases hdb with hdb | ⟨b, off, rfl, hdb⟩
 ·omega
 have HQ : Hid (∀ W, Below w.heap.size w W → W.cell? ⟨b, off, none⟩ = some (.int .u32 (g 0))) := fun W h => (hdb.below h).cell 0 oM
 clear hdb cf cg hle
 go_enter Tryz.func181, Tryz.ntmps181
 go_wp2_with fail
 refine (Zfq HA.out HB.out HN.out.1 HN.out.2 HC.out.1 HC.out.2).mono ?_
 rintro e w1 ⟨v1, rfl, hb1, rfl⟩
 have hcz : 0 ≤ cmpZ (val f n) (val g 1) := by
  have := HL.out
  unfold cmpZ; rw [if_neg oM]; split <;> omega
 generalize cmpZ (val f n) (val g 1) = cz at *
 have HB1 := Lib.hid hb1
 clear hb1
 have q1 := HQ.out _ HB1.out
 go_wp2_with fail
 refine (short_c (HA.out.below HB1.out) HN.out.1 HG.out.1 HG.out.2).mono ?_
 rintro e w2 ⟨v2, rfl, hb2, s, h, r, rfl, a1, a2, a3, a4⟩
 have HB2 := Lib.hid (Zak HB1.out hb2)
 have HS := Lib.hid (And.intro a1 (And.intro a2 (And.intro a3 a4)))
 have r0 := a2
 have r1 : r < 4294967296 := Int.lt_trans a3 HG.out.1.2
 clear hb2 HB1 q1 a1 a2 a3 a4
 go_wp2_with fail
 refine (Zbl HS.out.1 HN.out.1).mono ?_
 rintro e w3 ⟨v3, rfl, rfl, h3⟩
 obtain ⟨k, c1, c2, c3, c4⟩ := h3.dg HS.out.1
 have HT := Lib.hid (And.intro c1 (And.intro c2 (And.intro c3 c4)))
 clear h3 c1 c2 c3 c4
 go_wp2_with fail
 refine (wide_c _ _ r0 oM).mono ?_
 rintro e w4 ⟨v4, rfl, hb4, h4⟩
 have HB4 := Lib.hid (Zak HB2.out hb4)
 have H4 := Lib.hid h4
 have HT4 := Lib.hid (HT.out.1.below hb4)
 clear hb4 h4
 go_wp2
 go_ret2
 obtain ⟨nr, q, b1, b2, b3, b4⟩ := H4.out
 obtain ⟨e1, e2, e3, e4⟩ := HS.out
 have eg : val g 1 = g 0 := by simp [val, pw]
 exact .mk rfl HB4.out ⟨_, _, k, nr, h, q, rfl, HT4.out, b1, HT.out.2.2.1, b3, by have := HT.out.2.1; omega, oM, by rw [HT.out.2.2.2, b4, eg]; exact e4, by rw [b4, eg]; exact e3⟩
theorem unhid {B : Nat} {w W : World} (h : Hid (Below B w W)) : Below B w W := h
set_option maxRecDepth 100000 in
set_option maxHeartbeats 4000000 in
theorem divide_g {w : World} {va vb : Value} {p c : Nat} {f g : Nat → Int} (ha : Dg w va (p + 2 + c) f) (hb : Dg w vb (p + 2) g) (cf : Zb2 f (p + 2 + c)) (cg : Zb2 g (p + 2)) (hn2 : 2 < p + 2 + c) (hn : p + 2 + c ≤ L / 2) (hle : val g (p + 2) ≤ val f (p + 2 + c)) :
  Calls Tryz.prog 181 #[va, vb] w (Ret w (DivideR (p + 2 + c) (p + 2) f g)) := by
 have HA := Lib.hid ha
 have HB := Lib.hid hb
 have HC := Lib.hid (And.intro cf cg)
 have HN : Hid (p + 2 + c ≤ L ∧ p + 2 ≤ L) := ⟨by unfold L at *; omega, by unfold L at *; omega⟩
 have HL := Lib.hid hle
 have hnb : decide ((p : Int) + 2 + (c : Int) ≤ 2) = false := by simp; omega
 have hnb' : decide (((p + 2 + c : Nat) : Int) ≤ 2) = false := by simp; omega
 have hm1 : ((p : Int) + 2 == 1) = false := by simp; omega
 have hn' : p + 2 + c ≤ 8796093022208 := hn
 obtain ⟨xa, ca, rfl, hca, -⟩ := ha
 obtain ⟨xb, cb, rfl, hcb, hdb⟩ := hb
 rcases hdb with hdb | ⟨b, off, rfl, hdb⟩
 ·omega
 obtain ⟨gt, hgt⟩ : ∃ x, x = g (p + 1) := ⟨_, rfl⟩
 have HQ : Hid (∀ W, Below w.heap.size w W → W.cell? ⟨b, off + (p + 1), none⟩ = some (.int .u32 gt)) := fun W h => by rw [hgt]; exact (hdb.below h).cell (p + 1) oM
 have gt0 : 0 ≤ gt := by rw [hgt]; exact (hdb.dig (p + 1) oM).1
 have gt1 : gt < 4294967296 := by rw [hgt]; exact (hdb.dig (p + 1) oM).2
 have gtn : gt ≠ 0 := by
  rw [hgt]
  rcases cg with h | h
  ·omega
  ·exact h
 have HGT := Lib.hid hgt
 clear hgt hdb cf cg hle
 obtain ⟨s, hs1, hs2, hs3, hs4⟩ := lz_spec gt.toNat oM oM
 have HS : Hid (s ≤ 31 ∧ 2147483648 ≤ gt * 2 ^ s ∧ gt * 2 ^ s < 4294967296) := by
  have e : (gt.toNat : Int) = gt := Int.toNat_of_nonneg gt0
  have e2 : ((gt.toNat * 2 ^ s : Nat) : Int) = gt * 2 ^ s := by simp [e]
  exact ⟨hs2, oM, oM⟩
 have HS1 := Lib.hid hs1
 clear hs1 hs3 hs4
 go_enter Tryz.func181, Tryz.ntmps181
 go_wp2_with fail
 refine (Zfq HA.out HB.out HN.out.1 HN.out.2 HC.out.1 HC.out.2).mono ?_
 rintro e w1 ⟨v1, rfl, hb1, rfl⟩
 have hcz : 0 ≤ cmpZ (val f (p + 2 + c)) (val g (p + 2)) := by
  have := HL.out
  unfold cmpZ; rw [if_neg oM]; split <;> omega
 generalize cmpZ (val f (p + 2 + c)) (val g (p + 2)) = cz at *
 have HB1 := Lib.hid hb1
 clear hb1
 have q1 := HQ.out _ HB1.out
 go_wp2_with fail
 refine (lz32_lib gt _ gt0 oM).mono ?_
 rintro e w' ⟨rfl, rfl⟩
 rw [HS1.out]
 clear gtn
 go_wp2_with fail
 refine (shifted_c (HA.out.below HB1.out) HN.out.1 hs2).mono ?_
 rintro e w2 ⟨v2, rfl, hb2, bu, hu, rfl, a1, a2, a3, a4, a5⟩
 have HB2 := Lib.hid (Zak HB1.out hb2)
 have HU := Lib.hid (And.intro a1 (And.intro a2 (And.intro (Nat.le_trans HB1.out.size a3) (And.intro a4 a5))))
 clear hb2 HB1 q1 a1 a2 a3 a4 a5
 go_wp2_with fail
 refine (shifted_c (HB.out.below HB2.out) HN.out.2 hs2).mono ?_
 rintro e w3 ⟨v3, rfl, hb3, bv, hv, rfl, a1, a2, a3, a4, a5⟩
 have HB3 := Lib.hid (Zak HB2.out hb3)
 have HU3 := Lib.hid (HU.out.1.below HU.out.2.2.2.1 hb3)
 have HV := Lib.hid (And.intro a1 (And.intro a2 (And.intro a3 (And.intro a4 a5))))
 have HBL := Lib.hid (Nat.lt_of_lt_of_le HU.out.2.2.2.1 hb3.size)
 clear hb3 HB2 a1 a2 a3 a4 a5
 go_wp2_with fail
 refine (Zbl (HV.out.1.dg HV.out.2.1 (Nat.le_refl _)) (by unfold L; omega)).mono ?_
 rintro e w' ⟨v4, rfl, rfl, a, cap, k, hq, rfl, hk, hcap, hc, hx⟩
 injection hq with hq1 _ hq2
 subst hq1 hq2
 obtain ⟨rfl, htop, hvhi, hvlo⟩ := divisor_len (m := p + 1) (s := s) HB.out.dig (fun i hi => HV.out.2.1 i oM) hc (by have := HS.out.2.1; rw [HGT.out] at this; exact this) (by have := HS.out.2.2; rw [HGT.out] at this; exact this) (hx.trans HV.out.2.2.2.2)
 have HVB : Hid (B ≤ 2 * hv (p + 1) ∧ val hv (p + 2) = val g (p + 2) * 2 ^ s ∧ val g (p + 2) * 2 ^ s < pw (p + 2) ∧ 2147483648 * pw (p + 1) ≤ val g (p + 2) * 2 ^ s ∧ Digs hv (p + 2)) :=
  ⟨htop, hx.trans HV.out.2.2.2.2, hvhi, hvlo, fun i hi => HV.out.2.1 i oM⟩
 have HVD : Hid (DgAt w3 bv 0 (p + 2) hv) := ⟨fun i hi => by rw [Nat.zero_add]; exact HV.out.1.cell i oM, HVB.out.2.2.2.2⟩
 clear hc hx htop hvhi hvlo hk hcap
 have hmk := mk_u32 (c + 1) (by unfold L; omega) w3
 rw [show ((c + 1 : Nat) : Int) = (p : Int) + 2 + (c : Int) + 1 - ((p : Int) + 1 + 1) from oM] at hmk
 have HST : Hid (DivI (val f (p + 2 + c) * 2 ^ s) (val hv (p + 2)) c (p + 2) (c + 1) (fun _ => 0) hu) := by
  obtain ⟨p0, p1⟩ := Zft s hs2
  refine divI_start HU.out.2.1 HU.out.2.2.2.2 ?_ ?_
  ·have h1 := Zcg HA.out.dig
   have h2 : val f (p + 2 + c) * 2 ^ s < pw (p + 2 + c) * 2 ^ s := Int.mul_lt_mul_of_pos_right h1 oM
   have h3 : pw (p + 2 + c) * 2 ^ s ≤ pw (p + 2 + c) * 2147483648 := Int.mul_le_mul_of_nonneg_left p1 (by have := Zch (p + 2 + c); omega)
   omega
  ·rw [HVB.out.2.1]
   have h1 := HVB.out.2.2.2.1
   have e : pw (p + 2) = pw (p + 1) * B := rfl
   rw [e]
   have h2 : (2147483648 * pw (p + 1)) * B ≤ (val g (p + 2) * 2 ^ s) * B := Int.mul_le_mul_of_nonneg_right h1 (by have := B_pos; omega)
   rw [← Int.mul_assoc]; exact h2
 have HBV := HV.out.2.2.1
 have HLV := HV.out.2.2.2.1
 have HBU := HU.out.2.2.1
 have hbl := HBL.out
 have hbu2 : bu < w2.heap.size := HU.out.2.2.2.1
 have hvu : bv ≠ bu := oM
 have huv := Lib.hid hvu
 clear hvu
 go_wp2_with fail
 clear hmk
 go_loopw [14] (fun si wr => ∃ (k : Nat) (hq h' : Nat → Int), si = .int .i64 ((k : Int) - 1) ∧ k ≤ c + 1 ∧ Hid (Own wr w3.heap.size (c + 1) hq) ∧ Hid (Own wr bu (p + 2 + c + 1) h') ∧ Hid (DgAt wr bv 0 (p + 2) hv) ∧
   Hid (DivI (val f (p + 2 + c) * 2 ^ s) (val hv (p + 2)) c (p + 2) k hq h') ∧ Hid (Below w.heap.size w wr) ∧ Hid (w3.heap.size < wr.heap.size))
  (fun si _ => (intOf si + 1).toNat)
 case atStart => exact ⟨c + 1, _, hu, by go_num, Nat.le_refl _, Own.made w3 _ _, HU3.out.below HBL.out (Zai _), HVD.out.below (Zai _), HST, HB3.out.alloc HB3.out.size _, by simp [Hid]⟩
 case round =>
  obtain ⟨k, hq, h', rfl, hk, HOQ, HOU, HDV, HDI, HBW, HSZ⟩ := hrel
  by_cases h0 : 0 < k
  ·obtain ⟨j, rfl⟩ : ∃ j, k = j + 1 := ⟨k - 1, oM⟩
   rw [show (((j + 1 : Nat) : Int) - 1) = (j : Int) from oM]
   have hown := HOQ.out.cell j oM
   have hfree := HOQ.out.free j
   have hcj : p + 2 + c + 1 ≠ j := oM
   go_wp2_with fail
   rw [show j + (p + 1 + 1) + 1 - j = p + 3 from oM]
   have hpre := divI_pre (show j ≤ c by omega) HDI.out
   refine (digit_c (w := wr) (bu := bu) (ou := j) (N := p + 2 + c + 1) (bv := bv) (ov := 0) (m := p) (h := h') (g := hv) HOU.out oM HDI.out.ud oM HDV.out oM huv.out (by unfold L; omega)
    (World.block_lt_of_cell? _ _ (HOU.out.cell 0 oM)) HVB.out.1 hpre).mono ?_
   rintro e w4 ⟨d, h2, rfl, hg4, ho4, hd4, hdd, hsame, heq, hlt⟩
   have HN := Lib.hid (divI_step (show j ≤ c by omega) (by rw [HVB.out.2.1]; exact HVB.out.2.2.1) HDI.out hd4 hdd hsame heq hlt)
   have HOQ4 := Lib.hid (HOQ.out.keep (hg4.block _ HSZ.out (by simp; omega)))
   have HO4 := Lib.hid ho4
   have HDV4 := Lib.hid (HDV.out.grown hg4 huv.out)
   have HB4 := Lib.hid (HBW.out.grown hg4 HBW.out.size (fun k e => by simp at e; omega))
   have HS4 := Lib.hid (Nat.lt_of_lt_of_le HSZ.out hg4.size)
   have hown4 := HOQ4.out.cell j oM
   have hfree4 := HOQ4.out.free j
   clear hown hfree hpre hg4 ho4 hd4 hdd hsame heq hlt HOQ HOU HDV HDI HBW HSZ
   go_wp2
   go_roundw
   case rel =>
    refine ⟨j, _, h2, rfl, oM, HOQ4.out.set oM _, HO4.out.keep (Zgc _ oM), ⟨fun i hi => ?_, HDV4.out.dig⟩, HN.out, HB4.out.setCell (by show w.heap.size ≤ w3.heap.size; exact HB3.out.size) _, by simpa [Hid] using HS4.out⟩
    rw [World.cell?_setCell_other _ _ _ _ (by intro e; injection e with e _; omega)]
    exact HDV4.out.cell i hi
   case measure => first | (simp [intOf]; done) | (simp [intOf]; omega)
  ·obtain rfl : k = 0 := oM
   have hcp : ((p : Int) + 1 + 1) ≤ (p : Int) + 2 + (c : Int) + 1 := oM
   have hcp0 : (0 : Int) ≤ (p : Int) + 1 + 1 := oM
   have hcp1 : (p : Int) + 1 ≤ (p : Int) + 2 + (c : Int) := oM
   have hcp2 : 1 ≤ 2 + (c : Int) := oM
   have hcp3 : 1 + 1 ≤ 2 + (c : Int) + 1 := oM
   have esh : sh h' 0 = h' := by funext i; simp [sh]
   have HQD := Lib.hid (HOQ.out.dg HDI.out.qd (Nat.le_refl _))
   have HRD : Hid (Dg wr (.slice (some ⟨bu, 0, none⟩) (p + 1 + 1) (p + 2 + c + 1)) (p + 1 + 1) h') := (HOU.out.dg HDI.out.ud (Nat.le_refl _)).take oM
   have HEQ : Hid (val hq (c + 1) * val hv (p + 2) + val h' (p + 2) = val f (p + 2 + c) * 2 ^ s ∧ val h' (p + 2) < val hv (p + 2)) := by
    have h1 := HDI.out.eq
    have h2 := HDI.out.lt
    rw [esh] at h1 h2
    have e0 : val h' 0 + pw 0 * val h' (p + 2) = val h' (p + 2) := by simp [val, pw]
    rw [e0] at h1
    exact ⟨h1, h2⟩
   clear esh
   go_wp2_with fail
   have hk := Lib.hid ((Below.refl wr.heap.size wr).drew)
   go_region_held3 (fun W => Hid (Below wr.heap.size wr W)) (first | assumption | exact Zbr (by assumption) hb (Nat.le_refl _))
    (first
     | (go_at_call 147; (with_reducible refine (Zbl (HQD.out.below ?_) ?_).mono ?_); (exact unhid (by assumption)); (unfold L; omega); rintro e w' ⟨v5, rfl, rfl, h5⟩; have H5 := Lib.hid h5; clear h5)
     | (go_at_call 208; refine (unshifted_c (HRD.out.below ?_) ?_ hs2).mono ?_; (exact unhid (by assumption)); (unfold L; omega); rintro e w6 ⟨v6, rfl, hb, r, h6, h7⟩; have H6 := Lib.hid (And.intro h6 h7); clear h6 h7)
     | (go_at_call 147; refine (Zbl H6.out.1 ?_).mono ?_; (unfold L; omega); rintro e w' ⟨v7, rfl, rfl, h8⟩; have H8 := Lib.hid h8; clear h8))
   have HBF : Hid (Below wr.heap.size wr w6) := by assumption
   clear hk
   go_wp2
   go_ret2
   obtain ⟨kq, a1, a2, a3, a4⟩ := H5.out.dg (HQD.out.below HBF.out)
   obtain ⟨kr, b1, b2, b3, b4⟩ := H8.out.dg H6.out.1
   have hR : (p + 1 + 1) = p + 2 := rfl
   have hfin := div_end (F := val f (p + 2 + c)) (G := val g (p + 2)) (r := val r (p + 2)) (s := s) rfl HVB.out.2.1 HEQ.out.1 H6.out.2 (Zam (fun i hi => HDI.out.ud i oM)) HEQ.out.2
   exact .mk rfl (Zak HBW.out HBF.out) ⟨_, _, kq, kr, hq, r, rfl, a1, b1, a3, b3, oM, oM, by rw [a4, b4]; exact hfin.1, by rw [b4]; exact hfin.2.2⟩
theorem divide_c {w : World} {va vb : Value} {n m : Nat} {f g : Nat → Int} (ha : Dg w va n f) (hb : Dg w vb m g) (cf : Zb2 f n) (cg : Zb2 g m) (hn : n ≤ L / 2) (hm : m ≤ L / 2) (hm0 : 0 < m) :
  Calls Tryz.prog 181 #[va, vb] w (Ret w (DivideR n m f g)) := by
 by_cases hlt : val f n < val g m
 ·exact divide_a ha hb cf cg hn hm hlt
 have hle : val g m ≤ val f n := oM
 by_cases hn2 : n ≤ 2
 ·exact divide_b ha hb cf cg hn2 hm0 hle
 have hmn := Zcm hb.dig ha.dig cg hle
 by_cases hm1 : m = 1
 ·subst hm1
  exact divide_s ha hb cf cg oM (by unfold L at *; omega) hle
 obtain ⟨p, rfl⟩ : ∃ p, m = p + 2 := ⟨m - 2, oM⟩
 obtain ⟨c, rfl⟩ : ∃ c, n = p + 2 + c := ⟨n - (p + 2), oM⟩
 exact divide_g ha hb cf cg oM hn hle
def gcdZ (a b : Int) : Int := (Nat.gcd a.natAbs b.natAbs : Nat)
theorem gcdZ_zero {a : Int} (h : 0 ≤ a) : gcdZ a 0 = a := by unfold gcdZ; simp; omega
theorem gcdZ_step {a b : Int} (ha : 0 ≤ a) (hb : 0 < b) : gcdZ b (a % b) = gcdZ a b := by
 unfold gcdZ
 obtain ⟨x, rfl⟩ := Int.eq_ofNat_of_zero_le ha
 obtain ⟨y, rfl⟩ := Int.eq_ofNat_of_zero_le (Int.le_of_lt hb)
 have e : ((x : Int) % (y : Int)).natAbs = x % y := by rw [← Int.natCast_emod]; rfl
 rw [e]
 simp only [Int.natAbs_natCast]
 rw [Nat.gcd_comm y, ← Nat.gcd_rec, Nat.gcd_comm]
theorem gcdZ_mod {a b q r : Int} (ha : 0 ≤ a) (hr : 0 ≤ r) (hrb : r < b) (h : q * b + r = a) : gcdZ b r = gcdZ a b := by
 have hb : 0 < b := oM
 have e : a % b = r := by rw [← h, Int.add_comm, Int.add_mul_emod_self_right, Int.emod_eq_of_lt hr hrb]
 rw [← gcdZ_step ha hb, e]
def CanonR (x : Int) (w' : World) (u : Value) : Prop := ∃ n f, Dg w' u n f ∧ Zb2 f n ∧ n ≤ L ∧ val f n = x
set_option maxRecDepth 100000 in
set_option maxHeartbeats 4000000 in
theorem common_c {w : World} {va vb : Value} {n m : Nat} {f g : Nat → Int} (ha : Dg w va n f) (hb : Dg w vb m g) (cf : Zb2 f n) (cg : Zb2 g m) (hn : n ≤ L / 2) (hm : m ≤ L / 2) :
  Calls Tryz.prog 156 #[va, vb] w (Ret w (CanonR (gcdZ (val f n) (val g m)))) := by
 have HA := Lib.hid (And.intro ha (And.intro hb (And.intro cf (And.intro cg (And.intro hn hm)))))
 clear cf cg hn hm
 generalize hG : gcdZ (val f n) (val g m) = G
 have HG := Lib.hid hG
 clear hG
 have HV := Lib.hid (Zam hb.dig)
 clear ha hb
 go_enter Tryz.func156, Tryz.ntmps156
 go_wp2_with fail
 go_loopg [0, 1] (val g m).toNat (fun q s0 s1 wr => Hid (∃ (n m : Nat) (f g : Nat → Int), Dg wr s0 n f ∧ Dg wr s1 m g ∧ Zb2 f n ∧ Zb2 g m ∧ n ≤ L / 2 ∧ m ≤ L / 2 ∧ gcdZ (val f n) (val g m) = G ∧ q = (val g m).toNat) ∧ Hid (Below w.heap.size w wr))
 case atStart => exact ⟨⟨n, m, f, g, HA.out.1, HA.out.2.1, HA.out.2.2.1, HA.out.2.2.2.1, HA.out.2.2.2.2.1, HA.out.2.2.2.2.2, HG.out, rfl⟩, Below.refl _ _⟩
 case round =>
  obtain ⟨hR, HB⟩ := hrel
  clear HA HG HV
  obtain ⟨n, m, f, g, ha, hb, cf, cg, hn, hm, hG, rfl⟩ := hR.out
  clear hR
  have HA := Lib.hid ha
  have HBB := Lib.hid hb
  have HC := Lib.hid (And.intro cf (And.intro cg (And.intro hn hm)))
  have HG := Lib.hid hG
  have hn' : n ≤ 8796093022208 := hn
  have hm' : m ≤ 8796093022208 := hm
  obtain ⟨xa, ca, rfl, hca, -⟩ := ha
  obtain ⟨xb, cb, rfl, hcb, -⟩ := hb
  clear cf cg hn hm hG
  obtain ⟨wo, rfl⟩ : ∃ wo : World, wo = wr := ⟨_, rfl⟩
  by_cases hm0 : 0 < m
  ·by_cases h2 : n ≤ 2 ∧ m ≤ 2
   ·obtain ⟨hn2, hm2⟩ := h2
    have hnb : decide ((n : Int) ≤ 2) = true := by simp; omega
    have hmb : decide ((m : Int) ≤ 2) = true := by simp; omega
    go_wp2_with fail
    refine (word_c HA.out hn2).mono ?_
    rintro e w2 ⟨v2, rfl, hb2, rfl⟩
    have HB2 := Lib.hid (Zak HB.out hb2)
    have HBB2 := Lib.hid (HBB.out.below hb2)
    clear hb2
    go_wp2_with fail
    refine (word_c HBB2.out hm2).mono ?_
    rintro e w3 ⟨v3, rfl, hb3, rfl⟩
    have HB3 := Lib.hid (Zak HB2.out hb3)
    have HX := Lib.hid (Zgh HA.out.dig hn2)
    have HY := Lib.hid (Zgh HBB.out.dig hm2)
    clear hb3 HB2 HBB2
    generalize val f n = x at *
    generalize val g m = y at *
    go_wp2_with fail
    go_loopw [5, 6] (fun s5 s6 wr => ∃ a b : Int, s5 = .int .u64 a ∧ s6 = .int .u64 b ∧ 0 ≤ a ∧ a < 18446744073709551616 ∧ 0 ≤ b ∧ b < 18446744073709551616 ∧ Hid (gcdZ a b = G) ∧ Hid (Below w.heap.size w wr))
     (fun _ s6 _ => (intOf s6).toNat)
    case atStart => exact ⟨_, _, rfl, rfl, HX.out.1, HX.out.2, HY.out.1, HY.out.2, HG, HB3⟩
    case round =>
     obtain ⟨a, b, rfl, rfl, a0, a1, b0, b1, HGG, HBW⟩ := hrel
     by_cases hb0 : b = 0
     ·have HZ := Lib.hid hb0
      have hbn : (b != 0) = false := by simp [hb0]
      clear hb0
      go_wp2_with fail
      refine (wide_c _ _ a0 a1).mono ?_
      rintro e w4 ⟨v4, rfl, hb4, h4⟩
      have HB4 := Lib.hid (Zak HBW.out hb4)
      have H4 := Lib.hid h4
      clear hb4 h4
      go_wp2
      go_ret
      obtain ⟨k, q, d1, d2, d3, d4⟩ := H4.out
      refine .mk rfl HB4.out ⟨k, q, d1, d3, by unfold L; omega, ?_⟩
      rw [d4, ← HGG.out, HZ.out]; exact (gcdZ_zero a0).symm
     ·have hbn : (b != 0) = true := by simp [hb0]
      have hbe : (b == 0) = false := by simp [hb0]
      have bp : 0 < b := oM
      have r0 := Int.emod_nonneg a (b := b) oM
      have r1 := Int.emod_lt_of_pos a bp
      have e2 := Za4 r0 (Int.lt_trans r1 b1)
      have t2 : a.tmod b = a % b := Int.tmod_eq_emod_of_nonneg a0
      go_wp2_with fail
      go_quiet (fail)
      clear e2 t2
      go_wp2
      go_roundw
      case rel => first | exact ⟨_, _, rfl, rfl, b0, b1, r0, Int.lt_trans r1 b1, (gcdZ_step a0 bp).trans HGG.out, HBW.out.trans ⟨rfl, rfl, rfl, Nat.le_refl _, fun _ _ => rfl⟩⟩ | ((repeat apply Exists.intro); exact ⟨⟨_, _, rfl, rfl, b0, b1, r0, Int.lt_trans r1 b1, (gcdZ_step a0 bp).trans HGG.out, HBW.out.trans ⟨rfl, rfl, rfl, Nat.le_refl _, fun _ _ => rfl⟩⟩, rfl⟩)
      case measure => simp [intOf]; omega
   ·have key : (decide ((n : Int) ≤ 2) = true ∧ decide ((m : Int) ≤ 2) = false) ∨ decide ((n : Int) ≤ 2) = false := by
     by_cases hn2 : n ≤ 2
     ·left; constructor <;> simp <;> omega
     ·right; simp; omega
    clear h2
    rcases key with ⟨k1, k2⟩ | k1
    all_goals
     go_wp2_with fail
     refine (divide_c HA.out HBB.out HC.out.1 HC.out.2.1 HC.out.2.2.1 HC.out.2.2.2 hm0).mono ?_
     rintro e w2 ⟨v2, rfl, hb2, sq, sr, nq, nr, q, r, rfl, d1, d2, d3, d4, d5, d6, d7, d8⟩
     have HB2 := Lib.hid (Zak HB.out hb2)
     have HBB2 := Lib.hid (HBB.out.below hb2)
     have HR : Hid (Dg w2 sr nr r ∧ Zb2 r nr ∧ nr ≤ L / 2 ∧ gcdZ (val g m) (val r nr) = G ∧ val r nr < val g m) :=
      ⟨d2, d4, Nat.le_trans (Zcm d2.dig HBB.out.dig d4 (Int.le_of_lt d8)) HC.out.2.2.2, (gcdZ_mod (Zam HA.out.dig) (Zam d2.dig) d8 d7).trans HG.out, d8⟩
     clear hb2 d1 d2 d3 d4 d5 d6 d7 d8
     go_wp2
     go_roundg (val r nr).toNat
     case measure => have h1 := HR.out.2.2.2.2; have h2 := Zam HR.out.1.dig; omega
     case rel => exact ⟨⟨m, nr, g, r, HBB2.out, HR.out.1, HC.out.2.1, HR.out.2.1, HC.out.2.2.2, HR.out.2.2.1, HR.out.2.2.2.1, rfl⟩, HB2.out⟩
  ·obtain rfl : m = 0 := oM
   have HE : Hid (val f n = G) := by
    have := HG.out
    simp only [val] at this
    rw [gcdZ_zero (Zam HA.out.dig)] at this; exact this
   go_wp2_with fail
   refine (clone_c HA.out (by unfold L; omega)).mono ?_
   rintro e w2 ⟨v2, rfl, hb2, h2⟩
   have HB2 := Lib.hid (Zak HB.out hb2)
   have H2 := Lib.hid h2
   clear hb2 h2
   go_wp2
   go_ret
   exact .mk rfl HB2.out ⟨n, f, H2.out, HC.out.1, by unfold L; omega, HE.out⟩
end Hp
