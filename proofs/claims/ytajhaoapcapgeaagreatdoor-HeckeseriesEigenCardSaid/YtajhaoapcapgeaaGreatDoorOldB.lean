/- What the program's product of two lists of digits computes; lists are not longer than 2^43. What the division of a list of digits by one digit computes; lists are not longer than 2^44. -/
import Derived.Test.YtajhaoapcapgeaaGreatDoorOldA
set_option linter.all false
namespace Hp
open Go Go.RowKit Go.Proofs

theorem val_set {f : Nat → Int} {k : Nat} (x : Int) : ∀ {n}, k < n → val (set f k x) n = val f n + (x - f k) * pw k
  | 0, h => by omega
  | n + 1, h => by
    simp only [val]
    by_cases e : k = n
    · subst e; rw [val_set_ge _ _ (Nat.le_refl k), set_eq]; grind
    · rw [val_set x (n := n) (by omega), set_ne _ _ (by omega)]; omega
theorem mul_dig {x y : Int} (hx : isDig x) (hy : isDig y) : 0 ≤ x * y ∧ x * y ≤ 18446744065119617025 := by
  obtain ⟨hx0, hx1⟩ := hx
  obtain ⟨hy0, hy1⟩ := hy
  refine ⟨Int.mul_nonneg hx0 hy0, ?_⟩
  have h1 : x * y ≤ 4294967295 * y := Int.mul_le_mul_of_nonneg_right (by unfold B at hx1; omega) hy0
  unfold B at hy1
  omega
/-- the digits h at row i, column j: what is behind is 0 -/
structure TimesI (f g : Nat → Int) (n m i j : Nat) (h : Nat → Int) (c : Int) : Prop where
  dig : Digs h (n + m)
  car : isDig c
  eq : val h (n + m) + c * pw (i + j) = val f i * val g m + f i * val g j * pw i
  zero : ∀ t, i + m ≤ t → h t = 0
def TimesO (f g : Nat → Int) (n m i : Nat) (h : Nat → Int) : Prop := Digs h (n + m) ∧ val h (n + m) = val f i * val g m ∧ ∀ t, i + m ≤ t → h t = 0
theorem val_const0 : ∀ n, val (fun _ => (0 : Int)) n = 0
  | 0 => rfl
  | n + 1 => by simp [val, val_const0 n]
theorem timesO_zero (f g : Nat → Int) (n m : Nat) : TimesO f g n m 0 (fun _ => 0) :=
  ⟨fun _ _ => zero_dig, by rw [val_const0]; simp [val], fun _ _ => rfl⟩
theorem timesO_in {f g h : Nat → Int} {n m i : Nat} (H : TimesO f g n m i h) : TimesI f g n m i 0 h 0 :=
  ⟨H.1, zero_dig, by rw [H.2.1]; simp [val], H.2.2⟩
theorem timesI_step {f g h : Nat → Int} {n m i j : Nat} {c : Int} (hf : Digs f n) (hg : Digs g m) (hi : i < n) (hj : j < m) (H : TimesI f g n m i j h c) :
    TimesI f g n m i (j + 1) (set h (i + j) ((f i * g j + h (i + j) + c) % 4294967296)) ((f i * g j + h (i + j) + c) / 4294967296) := by
  have hm := mul_dig (hf i hi) (hg j hj)
  have hd := H.dig (i + j) (by omega)
  have hc := H.car
  obtain ⟨hd0, hd1⟩ := hd
  obtain ⟨hc0, hc1⟩ := hc
  refine ⟨digs_set H.dig (mod_dig _), ?_, ?_, ?_⟩
  · unfold isDig B at *; omega
  · rw [val_set _ (by omega)]
    have e := div_mod_B (f i * g j + h (i + j) + c)
    have h1 := H.eq
    have e2 : pw (i + (j + 1)) = pw (i + j) * B := rfl
    have e3 : pw (i + j) = pw i * pw j := pw_add i j
    rw [e2]
    simp only [val]
    unfold B at e ⊢
    grind
  · intro t ht
    rw [set_ne _ _ (by omega)]
    exact H.zero t ht
theorem timesI_end {f g h : Nat → Int} {n m i : Nat} {c : Int} (hi : i < n) (H : TimesI f g n m i m h c) : TimesO f g n m (i + 1) (set h (i + m) c) := by
  refine ⟨digs_set H.dig H.car, ?_, fun t ht => ?_⟩
  · rw [val_set _ (by omega), H.zero (i + m) (by omega)]
    have h1 := H.eq
    simp only [val]
    grind
  · rw [set_ne _ _ (by omega)]
    exact H.zero t (by omega)
def TimesR (n m : Nat) (f g : Nat → Int) (w' : World) (u : Value) : Prop := ∃ k h, Dg w' u k h ∧ k ≤ n + m ∧ val h k = val f n * val g m

set_option maxHeartbeats 1600000 in
theorem times_c {w : World} {va vb : Value} {n m : Nat} {f g : Nat → Int} (ha : Dg w va n f) (hb : Dg w vb m g) (hn : n ≤ L / 2) (hm : m ≤ L / 2) :
    Calls Tryz.prog 147 #[va, vb] w (Ret w (TimesR n m f g)) := by
  have HF := Lib.hid ha.dig
  have HG := Lib.hid hb.dig
  obtain ⟨xa, ca, rfl, hca, hda⟩ := ha
  obtain ⟨xb, cb, rfl, hcb, hdb⟩ := hb
  unfold L at hn hm
  by_cases h0 : n = 0
  · subst h0
    go_enter Tryz.func147, Tryz.ntmps147
    go_wp2
    go_ret
    exact .mk rfl (Below.refl _ _) ⟨0, _, Dg.nil w f, by omega, by simp [val]⟩
  have hb0 : ((n : Int) == 0) = false := by simp; omega
  by_cases h1 : m = 0
  · subst h1
    go_enter Tryz.func147, Tryz.ntmps147
    go_wp2
    go_ret
    exact .mk rfl (Below.refl _ _) ⟨0, _, Dg.nil w f, by omega, by simp [val]⟩
  have hb1 : ((m : Int) == 0) = false := by simp; omega
  rcases hda with hda | ⟨b, off, rfl, hda⟩
  · omega
  rcases hdb with hdb | ⟨b', off', rfl, hdb⟩
  · omega
  by_cases h11 : n = 1 ∧ m = 1
  · obtain ⟨rfl, rfl⟩ := h11
    have hc1 : w.cell? ⟨b, off, none⟩ = some (.int .u32 (f 0)) := hda.cell 0 (by omega)
    have hc2 : w.cell? ⟨b', off', none⟩ = some (.int .u32 (g 0)) := hdb.cell 0 (by omega)
    have hm := mul_dig (HF.out 0 (by omega)) (HG.out 0 (by omega))
    have hx0 := (HF.out 0 (by omega)).1
    have hx1 : f 0 < 4294967296 := (HF.out 0 (by omega)).2
    have hy0 := (HG.out 0 (by omega)).1
    have hy1 : g 0 < 4294967296 := (HG.out 0 (by omega)).2
    obtain ⟨hm0, hm1⟩ := hm
    have e1 := wrap_u64_of hx0 (by omega)
    have e2 := wrap_u64_of hy0 (by omega)
    have e3 := wrap_u64_of hm0 (by omega)
    have HH : Hid (0 ≤ f 0 * g 0 ∧ f 0 * g 0 < 18446744073709551616) := ⟨hm0, by omega⟩
    clear hda hdb
    go_enter Tryz.func147, Tryz.ntmps147
    go_wp2_with fail
    have hk := Lib.hid ((Below.refl w.heap.size w).drew)
    have hq1 : ∀ W, Hid (Below w.heap.size w W) → W.cell? ⟨b, off, none⟩ = some (.int .u32 (f 0)) := fun W h => (h.out.cell (p := ⟨_, _, _⟩) (lt_of_cell hc1)).trans hc1
    have hq2 : ∀ W, Hid (Below w.heap.size w W) → W.cell? ⟨b', off', none⟩ = some (.int .u32 (g 0)) := fun W h => (h.out.cell (p := ⟨_, _, _⟩) (lt_of_cell hc2)).trans hc2
    clear hc1 hc2
    go_region_held3 (fun W => Hid (Below w.heap.size w W)) (first | assumption | exact kstep (by assumption) hb (Nat.le_refl _))
      (first | (go_at_call 149; refine (wide_c _ _ HH.out.1 HH.out.2).mono ?_; rintro e w1 ⟨v1, rfl, hb, h1⟩; have H1 := Lib.hid h1; clear h1))
    have HB := Lib.hid (below_trans (Below.refl w.heap.size w).drew hb)
    clear hq1 hq2 hk hb e1 e2 e3
    go_wp2
    go_ret
    obtain ⟨k, h, d1, d2, d3, d4⟩ := H1.out
    exact .mk rfl HB.out ⟨k, h, d1, d2, by rw [d4]; simp [val, pw]⟩
  have HE : Hid ((((n : Int) == 1) = true ∧ ((m : Int) == 1) = false) ∨ ((n : Int) == 1) = false) := by
    by_cases e : n = 1
    · left; constructor <;> simp <;> omega
    · right; simp; omega
  have hmk := mk_u32 (n + m) (by unfold L; omega) w
  rw [show ((n + m : Nat) : Int) = (n : Int) + (m : Int) from by omega] at hmk
  have HDA := Lib.hid hda
  have HDB := Lib.hid hdb
  clear h11 hda hdb
  rcases HE with ⟨he1, he2⟩ | he1
  all_goals
    go_enter Tryz.func147, Tryz.ntmps147
    go_wp2_with fail
    clear hmk
    go_loopw [46] (fun i wr => ∃ (k : Nat) (h : Nat → Int), i = .int .i64 k ∧ k ≤ n ∧ Hid (Own wr w.heap.size (n + m) h) ∧ Hid (TimesO f g n m k h) ∧ Hid (Below w.heap.size w wr) ∧ Hid (w.heap.size < wr.heap.size))
      (fun i _ => n - (intOf i).toNat)
    case atStart => exact ⟨0, _, rfl, Nat.zero_le _, Own.made w _ _, timesO_zero f g n m, below_new _, by simp [Hid]⟩
    case round =>
      obtain ⟨k, h, rfl, hk, HO, HI, HB, HS⟩ := hrel
      obtain ⟨wo, rfl⟩ : ∃ wo : World, wo = wr := ⟨_, rfl⟩
      by_cases hlt : k < n
      · have hcell := (HDA.out.below HB.out).cell k hlt
        have hx0 := (HF.out k hlt).1
        have hx1 : f k < 4294967296 := (HF.out k hlt).2
        go_wp2_with fail
        clear hcell
        go_loopw [8, 53] (fun c j wr => ∃ (q : Nat) (h : Nat → Int) (cc : Int), j = .int .i64 q ∧ q ≤ m ∧ c = .int .u64 cc ∧ Hid (Own wr w.heap.size (n + m) h) ∧ Hid (TimesI f g n m k q h cc) ∧ Hid (Below w.heap.size w wr) ∧ Hid (w.heap.size < wr.heap.size))
          (fun _ j _ => m - (intOf j).toNat)
        case atStart => exact ⟨0, _, 0, rfl, Nat.zero_le _, rfl, HO, timesO_in HI.out, HB, HS⟩
        case round =>
          obtain ⟨q, h', cc, rfl, hq, rfl, HO', HI', HB', HS'⟩ := hrel
          clear HO HI HB HS
          by_cases hlq : q < m
          · have hcell := (HDB.out.below HB'.out).cell q hlq
            have hown := HO'.out.cell (k + q) (by omega)
            have hfree := HO'.out.free (k + q)
            have HN := Lib.hid (timesI_step HF.out HG.out hlt hlq HI'.out)
            obtain ⟨hm0, hm1⟩ := mul_dig (HF.out k hlt) (HG.out q hlq)
            have hy0 := (HG.out q hlq).1
            have hy1 : g q < 4294967296 := (HG.out q hlq).2
            have ho0 := (HI'.out.dig (k + q) (by omega)).1
            have ho1 : h' (k + q) < 4294967296 := (HI'.out.dig (k + q) (by omega)).2
            have hc0 := HI'.out.car.1
            have hc1 : cc < 4294967296 := HI'.out.car.2
            go_wp2
            go_roundw
            case rel => exact ⟨q + 1, _, _, by go_num, by omega, rfl, HO'.out.set (by omega) _, HN.out, HB'.out.setCell (Nat.le_refl _) _, by simpa [Hid] using HS'.out⟩
            case measure => simp [intOf]; omega
          · obtain rfl : q = m := by omega
            have hown := HO'.out.cell (k + q) (by omega)
            have hfree := HO'.out.free (k + q)
            have HN := Lib.hid (timesI_end hlt HI'.out)
            have hc0 := HI'.out.car.1
            have hc1 : cc < 4294967296 := HI'.out.car.2
            go_wp2
            go_roundw
            case rel => exact ⟨k + 1, _, by go_num, by omega, HO'.out.set (by omega) _, HN.out, HB'.out.setCell (Nat.le_refl _) _, by simpa [Hid] using HS'.out⟩
            case measure => simp [intOf]; omega
      · obtain rfl : k = n := by omega
        go_wp2
        go_ret
        exact .mk rfl HB.out ⟨k + m, h, HO.out.dg HI.out.1 (Nat.le_refl _), Nat.le_refl _, HI.out.2.1⟩
end Hp
namespace Hp
open Go Go.RowKit Go.Proofs

def Pair (a b : Value) (_ : World) (u : Value) : Prop := u = .tuple #[a, b]
theorem div32_arith {hi lo y : Int} (hhi : isDig hi) (hlo : isDig lo) (hy : hi < y) (hy1 : y < 4294967296) :
    0 ≤ (hi * 4294967296 + lo) / y ∧ (hi * 4294967296 + lo) / y < 4294967296 ∧ 0 ≤ (hi * 4294967296 + lo) % y ∧ (hi * 4294967296 + lo) % y < 4294967296 := by
  obtain ⟨h0, h1⟩ := hhi
  obtain ⟨l0, l1⟩ := hlo
  unfold B at h1 l1
  refine ⟨Int.ediv_nonneg (by omega) (by omega), Int.ediv_lt_of_lt_mul (by omega) ?_, Int.emod_nonneg _ (by omega), ?_⟩
  · omega
  · have := Int.emod_lt_of_pos (hi * 4294967296 + lo) (b := y) (by omega)
    omega
set_option maxHeartbeats 1000000 in
theorem div32_c (hi lo y : Int) (w : World) (hhi : isDig hi) (hlo : isDig lo) (hy : hi < y) (hy1 : y < 4294967296) :
    Calls Tryz.prog 191 #[.int .u32 hi, .int .u32 lo, .int .u32 y] w (Ret w (Pair (.int .u32 ((hi * 4294967296 + lo) / y)) (.int .u32 ((hi * 4294967296 + lo) % y)))) := by
  obtain ⟨a1, a2, a3, a4⟩ := div32_arith hhi hlo hy hy1
  obtain ⟨h0, h1⟩ := hhi
  obtain ⟨l0, l1⟩ := hlo
  unfold B at h1 l1
  have b0 : (y != 0) = true := by simp; omega
  have b1 : decide (y ≤ hi) = false := by simp; omega
  have e4 := or_join h0 h1 l0 l1
  have e1 := wrap_u64_of (x := hi * 4294967296) (by omega) (by omega)
  have y0 : 0 < y := by omega
  have z0 : 0 ≤ hi * 4294967296 + lo := by omega
  have z1 : hi * 4294967296 + lo < 18446744073709551616 := by omega
  have d0 : (y == 0) = false := by simp; omega
  go_enter Tryz.func191, Tryz.ntmps191
  go_wp2
  go_quiet (fail)
  go_wp2
  go_ret2
  exact .mk rfl ⟨rfl, rfl, rfl, Nat.le_refl _, fun _ _ => rfl⟩ rfl

/-- the digits from k on are divided -/
structure ShortI (f : Nat → Int) (n : Nat) (d : Int) (k : Nat) (h : Nat → Int) (r : Int) : Prop where
  dig : Digs h n
  r0 : 0 ≤ r
  r1 : r < d
  zero : ∀ t, t < k → h t = 0
  eq : val h n * d + r * pw k + val f k = val f n
theorem shortI_start {f : Nat → Int} {n : Nat} {d : Int} (hd : 0 < d) : ShortI f n d n (fun _ => 0) 0 :=
  ⟨fun _ _ => zero_dig, Int.le_refl _, hd, fun _ _ => rfl, by rw [val_const0]; omega⟩
theorem shortI_step {f h : Nat → Int} {n k : Nat} {d r : Int} (hf : Digs f n) (hd : isDig d) (hk : k < n) (H : ShortI f n d (k + 1) h r) :
    ShortI f n d k (set h k ((r * 4294967296 + f k) / d)) ((r * 4294967296 + f k) % d) := by
  have hr : isDig r := ⟨H.r0, by have := H.r1; have := hd.2; omega⟩
  obtain ⟨a1, a2, a3, a4⟩ := div32_arith hr (hf k hk) H.r1 hd.2
  have hd0 : 0 < d := by have := H.r0; have := H.r1; omega
  refine ⟨digs_set H.dig ⟨a1, a2⟩, a3, Int.emod_lt_of_pos _ hd0, fun t ht => ?_, ?_⟩
  · rw [set_ne _ _ (by omega)]; exact H.zero t (by omega)
  · rw [val_set _ hk, H.zero k (by omega)]
    have e := H.eq
    have e2 := Int.mul_ediv_add_emod (r * 4294967296 + f k) d
    have e3 : pw (k + 1) = pw k * 4294967296 := rfl
    rw [e3] at e
    simp only [val] at e
    grind
def ShortR (n : Nat) (f : Nat → Int) (d : Int) (w' : World) (u : Value) : Prop :=
  ∃ s h r, u = .tuple #[s, .int .u32 r] ∧ Dg w' s n h ∧ 0 ≤ r ∧ r < d ∧ val h n * d + r = val f n
set_option maxHeartbeats 1000000 in
theorem short_c {w : World} {va : Value} {n : Nat} {f : Nat → Int} {d : Int} (ha : Dg w va n f) (hn : n ≤ L) (hd : isDig d) (hd0 : 0 < d) :
    Calls Tryz.prog 181 #[va, .int .u32 d] w (Ret w (ShortR n f d)) := by
  have HF := Lib.hid ha.dig
  obtain ⟨xa, ca, rfl, hca, hda⟩ := ha
  have hmk := mk_u32 n (by omega) w
  unfold L at hn
  have HD := Lib.hid (And.intro hd hd0)
  have hd1 : d < 4294967296 := hd.2
  clear hd
  go_enter Tryz.func181, Tryz.ntmps181
  go_wp2_with fail
  clear hmk
  go_loopw [7, 8] (fun c i wr => ∃ (k : Nat) (h : Nat → Int) (r : Int), i = .int .i64 ((k : Int) - 1) ∧ k ≤ n ∧ c = .int .u32 r ∧ Hid (Own wr w.heap.size n h) ∧ Hid (ShortI f n d k h r) ∧ Hid (Below w.heap.size w wr) ∧ Hid (w.heap.size < wr.heap.size))
    (fun _ i _ => (intOf i + 1).toNat)
  case atStart => exact ⟨n, _, 0, rfl, Nat.le_refl _, rfl, Own.made w _ _, shortI_start hd0, below_new _, by simp [Hid]⟩
  case round =>
    obtain ⟨k, h, r, rfl, hk, rfl, HO, HI, HB, HS⟩ := hrel
    by_cases h0 : 0 < k
    · rcases hda with hda | ⟨b, off, rfl, hda⟩
      · omega
      obtain ⟨j, rfl⟩ : ∃ j, k = j + 1 := ⟨k - 1, by omega⟩
      rw [show (((j + 1 : Nat) : Int) - 1) = (j : Int) from by omega]
      have hcell := (hda.below HB.out).cell j (by omega)
      have hown := HO.out.cell j (by omega)
      have hfree := HO.out.free j
      have HN := Lib.hid (shortI_step HF.out HD.out.1 (show j < n by omega) HI.out)
      have HR : Hid (isDig r) := ⟨HI.out.r0, Int.lt_trans HI.out.r1 HD.out.1.2⟩
      clear hda
      go_wp2_with fail
      refine (div32_c _ _ _ _ HR.out (HF.out j (by omega)) HI.out.r1 hd1).mono ?_
      rintro e w1 ⟨v, rfl, hb, rfl⟩
      have HB1 := Lib.hid (HB.out.trans (hb.mono (Nat.le_of_lt HS.out)))
      have HO1 := Lib.hid (HO.out.below HS.out hb)
      have HS1 := Lib.hid (Nat.lt_of_lt_of_le HS.out hb.size)
      have hown1 := HO1.out.cell j (by omega)
      have hfree1 := HO1.out.free j
      clear hown hfree hcell hb HB HO HS
      go_wp2
      go_roundw
      case rel => exact ⟨j, _, _, rfl, by omega, rfl, HO1.out.set (by omega) _, HN.out, HB1.out.setCell (Nat.le_refl _) _, by simpa [Hid] using HS1.out⟩
      case measure => first | (simp [intOf]; done) | (simp [intOf]; omega)
    · obtain rfl : k = 0 := by omega
      have HE := HI.out.eq
      have HE2 := Lib.hid HE
      clear HE
      go_wp2
      go_ret2
      exact .mk rfl HB.out ⟨_, h, r, rfl, HO.out.dg HI.out.dig (Nat.le_refl _), HI.out.r0, HI.out.r1, by have := HE2.out; simp [val, pw] at this; omega⟩
end Hp
