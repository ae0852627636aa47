/- What the program's machine words, copies and integers out of a sign and digits are; lists are not longer than 2^44. -/
import Derived.Test.YtmcfohngblbpbaaBigD
namespace Hp
open Go Go.RowKit Go.Proofs

def two (a b : Int) : Nat → Int := fun i => if i = 0 then a else b
theorem val_two (a b : Int) : val (two a b) 2 = a + b * B := by simp [val, two, pw]
theorem val_one (a b : Int) : val (two a b) 1 = a := by simp [val, two, pw]
def WideR (x : Int) (w' : World) (u : Value) : Prop := ∃ n f, Dg w' u n f ∧ n ≤ 2 ∧ Canon f n ∧ val f n = x
theorem wideR_one {w : World} {x : Int} (h0 : x ≠ 0) (h1 : 0 ≤ x) (h2 : x < 4294967296) (t : TypeId) : WideR x (w.alloc (.cells #[.int .u32 x] t)) (.slice (some ⟨w.heap.size, 0, none⟩) 1 1) := by
  refine ⟨1, two x 0, ⟨_, 1, rfl, by omega, .inr ⟨_, 0, rfl, fun i hi => ?_, fun i hi => ?_⟩⟩, by omega, .inr (by simpa [two] using h0), val_one _ _⟩
  · obtain rfl : i = 0 := by omega
    rw [World.cell?_alloc_new]; rfl
  · obtain rfl : i = 0 := by omega
    exact ⟨h1, h2⟩
theorem wideR_two {w : World} {x : Int} (h1 : 4294967296 ≤ x) (h2 : x < 18446744073709551616) (t : TypeId) :
    WideR x (w.alloc (.cells #[.int .u32 (x % 4294967296), .int .u32 (x / 4294967296)] t)) (.slice (some ⟨w.heap.size, 0, none⟩) 2 2) := by
  refine ⟨2, two (x % 4294967296) (x / 4294967296), ⟨_, 2, rfl, by omega, .inr ⟨_, 0, rfl, fun i hi => ?_, fun i hi => ?_⟩⟩, by omega, .inr ?_, ?_⟩
  · rw [World.cell?_alloc_new]
    rcases (by omega : i = 0 ∨ i = 1) with rfl | rfl <;> rfl
  · rcases (by omega : i = 0 ∨ i = 1) with rfl | rfl
    · exact mod_dig x
    · exact ⟨by simp [two]; omega, by simp [two, B]; omega⟩
  · simp [two]; omega
  · rw [val_two]; unfold B; omega

theorem wide_c (x : Int) (w : World) (h0 : 0 ≤ x) (h1 : x < 18446744073709551616) : Calls Try.prog 83 #[.int .u64 x] w (Ret w (WideR x)) := by
  by_cases hz : x = 0
  · have hb : (x == 0) = true := by simp [hz]
    have HZ := Lib.hid hz
    clear hz
    go_enter Try.func83, Try.ntmps83
    go_wp2
    go_ret
    exact .mk rfl (Below.refl _ _) ⟨0, two 0 0, Dg.nil _ _, by omega, .inl rfl, HZ.out.symm⟩
  · have hb : (x == 0) = false := by simp [hz]
    have HZ := Lib.hid hz
    clear hz
    by_cases hl : x < 4294967296
    · have HN : Hid (WideR x (w.alloc (.cells #[.int .u32 x] 83)) (.slice (some ⟨w.heap.size, 0, none⟩) 1 1)) := wideR_one HZ.out h0 hl _
      go_enter Try.func83, Try.ntmps83
      go_wp2
      go_ret
      exact .mk rfl (below_new _) HN.out
    · have HN : Hid (WideR x (w.alloc (.cells #[.int .u32 (x % 4294967296), .int .u32 (x / 4294967296)] 83)) (.slice (some ⟨w.heap.size, 0, none⟩) 2 2)) := wideR_two (by omega) h1 _
      go_enter Try.func83, Try.ntmps83
      go_wp2
      go_ret
      exact .mk rfl (below_new _) HN.out
theorem wrap_u64_of {x : Int} (h0 : 0 ≤ x) (h1 : x < 18446744073709551616) : IntKind.u64.wrap x = x := by
  have : IntKind.u64.wrap x = x % 18446744073709551616 := by simp [IntKind.wrap, IntKind.bits, IntKind.signed]
  rw [this]; omega
theorem or_join {x y : Int} (hx0 : 0 ≤ x) (hx1 : x < 4294967296) (hy0 : 0 ≤ y) (hy1 : y < 4294967296) : bits .or .u64 (x * 4294967296) y = x * 4294967296 + y := by
  obtain ⟨x, rfl⟩ := Int.eq_ofNat_of_zero_le hx0
  obtain ⟨y, rfl⟩ := Int.eq_ofNat_of_zero_le hy0
  have e : (x : Int) * 4294967296 = ((x * 4294967296 : Nat) : Int) := by omega
  rw [e, u64_or_nat _ _ (by omega) (by omega), nat_join 32 _ _ (by omega) (by omega)]
  omega
theorem word_c {w : World} {v : Value} {n : Nat} {f : Nat → Int} (h : Dg w v n f) (hn : n ≤ 2) : Calls Try.prog 108 #[v] w (Ret w (IsV (.int .u64 (val f n)))) := by
  obtain ⟨a, cap, rfl, hcap, hd⟩ := h
  rcases hd with rfl | ⟨b, off, rfl, hd⟩
  · go_enter Try.func108, Try.ntmps108
    go_wp2
    go_ret
    exact .mk rfl (Below.refl _ _) rfl
  rcases (by omega : n = 0 ∨ n = 1 ∨ n = 2) with rfl | rfl | rfl
  · go_enter Try.func108, Try.ntmps108
    go_wp2
    go_ret
    exact .mk rfl (Below.refl _ _) rfl
  · have hc : w.cell? ⟨b, off, none⟩ = some (.int .u32 (f 0)) := hd.cell 0 (by omega)
    have hd0 := (hd.dig 0 (by omega)).1
    have hd1 : f 0 < 4294967296 := (hd.dig 0 (by omega)).2
    clear hd
    go_enter Try.func108, Try.ntmps108
    go_wp2
    go_ret
    exact .mk rfl (Below.refl _ _) (by simp [IsV, val, pw])
  · have hc : w.cell? ⟨b, off, none⟩ = some (.int .u32 (f 0)) := hd.cell 0 (by omega)
    have hc' := hd.cell 1 (by omega)
    have hd0 := (hd.dig 0 (by omega)).1
    have hd1 : f 0 < 4294967296 := (hd.dig 0 (by omega)).2
    have he0 := (hd.dig 1 (by omega)).1
    have he1 : f 1 < 4294967296 := (hd.dig 1 (by omega)).2
    have e1 := wrap_u64_of hd0 (by omega)
    have e2 := wrap_u64_of he0 (by omega)
    have e3 := wrap_u64_of (x := f 1 * 4294967296) (by omega) (by omega)
    have e4 := or_join he0 he1 hd0 hd1
    clear hd
    go_enter Try.func108, Try.ntmps108
    go_wp2
    go_quiet (fail)
    go_wp2
    go_ret
    clear e1 e2 e3 e4
    refine .mk rfl ⟨rfl, rfl, rfl, Nat.le_refl _, fun _ _ => rfl⟩ ?_
    simp [IsV, val, pw, B]; omega

/-- the integer with this sign and these digits -/
def zof (neg : Bool) (x : Int) : Int := if neg then -x else x
/-- u is an integer of value z; it has no leading zero digit, and 0 no sign -/
def IntC (w : World) (u : Value) (z : Int) : Prop := ∃ s n f, u = .agg #[.bool (decide (z < 0)), s] ∧ Dg w s n f ∧ Canon f n ∧ val f n = z.natAbs
/-- u is an integer of value z of at most k digits -/
def IntR (w : World) (u : Value) (k : Nat) (z : Int) : Prop := ∃ (neg : Bool) (s : Value) (n : Nat) (f : Nat → Int), u = .agg #[.bool neg, s] ∧ Dg w s n f ∧ n ≤ k ∧ z = zof neg (val f n)
theorem IntC.below {w w' : World} {u : Value} {z : Int} (h : IntC w u z) (hb : Below w.heap.size w w') : IntC w' u z := by
  obtain ⟨s, n, f, h1, h2, h3⟩ := h
  exact ⟨s, n, f, h1, h2.below hb, h3⟩
theorem IntC.far {w w' : World} {r : Nat} {cs : Array Value} {u : Value} {z : Int} (h : IntC w u z) (hs : Slot w r cs) (hn : NoDig cs) (hw : ∀ k, k ≠ r → w'.heap[k]? = w.heap[k]?) : IntC w' u z := by
  obtain ⟨s, n, f, h1, h2, h3⟩ := h
  exact ⟨s, n, f, h1, h2.far hs hn hw, h3⟩
theorem IntR.below {w w' : World} {u : Value} {k : Nat} {z : Int} (h : IntR w u k z) (hb : Below w.heap.size w w') : IntR w' u k z := by
  obtain ⟨g, s, n, f, h1, h2, h3⟩ := h
  exact ⟨g, s, n, f, h1, h2.below hb, h3⟩
theorem IntR.mono {w : World} {u : Value} {k k' : Nat} {z : Int} (h : IntR w u k z) (hk : k ≤ k') : IntR w u k' z := by
  obtain ⟨g, s, n, f, h1, h2, h3, h4⟩ := h
  exact ⟨g, s, n, f, h1, h2, by omega, h4⟩
theorem IntC.raw {w : World} {u : Value} {z : Int} {k : Nat} (h : IntC w u z) (hk : z.natAbs < pw k) : IntR w u k z := by
  obtain ⟨s, n, f, h1, h2, h3, h4⟩ := h
  refine ⟨_, s, n, f, h1, h2, ?_, ?_⟩
  · rcases n with _ | n
    · omega
    · have := canon_le h2.dig h3
      by_cases hc : n < k
      · exact hc
      · have := pw_le k n (by omega); omega
  · rw [h4]
    unfold zof
    by_cases hz : z < 0
    · simp [hz]; omega
    · simp [hz]; omega

theorem IntC.agg {w : World} {u : Value} {z : Int} (h : IntC w u z) : ∃ a n cap, u = .agg #[.bool (decide (z < 0)), .slice a n cap] := by
  obtain ⟨s, n, _, h, ⟨a, cap, rfl, _⟩, _⟩ := h
  exact ⟨a, n, cap, h⟩
def BufR (n : Nat) (f : Nat → Int) (w' : World) (u : Value) : Prop := Dg w' u n f
theorem BufR.dg {n : Nat} {f : Nat → Int} {w : World} {u : Value} (h : BufR n f w u) : Dg w u n f := h
/-- slices.Clone of a list of digits -/
theorem clone_c {w : World} {v : Value} {n : Nat} {f : Nat → Int} (h : Dg w v n f) (hn : n ≤ L) : Calls Try.prog 109 #[v] w (Ret w (BufR n f)) := by
  have HD := Lib.hid h
  obtain ⟨a, cap, rfl, hcap, hd⟩ := h
  have hq := fun w => Lib.run_eql_slice_nil (P := Try.prog) w 33 83 a n cap 0 0 Try.underlying33
  unfold L at hn
  cases a with
  | none =>
    go_enter Try.func109, Try.ntmps109
    go_wp2
    go_ret
    refine .mk rfl (Below.refl _ _) ?_
    rcases hd with rfl | ⟨b, off, h, _⟩
    · exact Dg.nil _ _
    · cases h
  | some ad =>
    have hdig := Lib.hid HD.out.dig
    have hnews : ∀ j, j < n → w.cell? (ad.add j) = some (.int .u32 (f j)) := by
      intro j hj
      rcases hd with rfl | ⟨b, off, h, hd⟩
      · omega
      · injection h with h; subst h
        have := hd.cell j hj
        rw [← this]
        congr 1
        unfold Addr.add; split <;> simp_all
    have HN := Lib.hid hnews
    clear hnews hd
    go_enter Try.func109, Try.ntmps109
    go_wp2_with (at_builtin; (refine app_u32 rfl _ _ rfl w.heap.size _ 0 (fun _ => 0) rfl ?_ ad n cap f rfl ?_ (by unfold L; omega) ?_ ?_))
    · exact OwnL.made w #[] 0 rfl (by unfold maxLen; omega)
    · intro j hj
      rw [World.cell?_alloc_lt _ _ _ (World.block_lt_of_cell? _ _ (HN.out j hj))]
      exact HN.out j hj
    · simp
    · intro v1 w1 h1 h2 h3 h4
      have HO := Lib.hid (h1.congr (g := f) (fun i _ => by simp [cat]))
      have HB : Hid (Below w.heap.size w w1) := (below_new _).trans h2
      clear h1 h2 h3 h4 hq
      go_wp2
      go_ret
      refine .mk rfl HB.out ?_
      exact HO.out.dg hdig.out

def SignedR (z : Int) (w' : World) (u : Value) : Prop := IntC w' u z
theorem intC_mk {w : World} {s : Value} {k : Nat} {f : Nat → Int} (h : Dg w s k f) (hc : Canon f k) {x : Int} (hv : val f k = x) (neg : Bool) {ng : Bool} (hng : ng = (neg && decide (0 < k))) : IntC w (.agg #[.bool ng, s]) (zof neg x) := by
  have h0 := val_nonneg h.dig
  have h1 := canon_zero h.dig hc
  refine ⟨s, k, f, ?_, h, hc, ?_⟩
  · subst hng
    congr 3
    cases neg <;> simp [zof] <;> omega
  · cases neg <;> simp [zof] <;> omega
set_option maxHeartbeats 1000000 in
theorem signed_c {w : World} {v : Value} {n : Nat} {f : Nat → Int} (neg : Bool) (h : Dg w v n f) (hn : n ≤ L) : Calls Try.prog 82 #[.bool neg, v] w (Ret w (SignedR (zof neg (val f n)))) := by
  have HD := Lib.hid h
  have hn' := Lib.hid hn
  clear h hn
  have fin : ∀ (a : Option Addr) (k cap : Nat) (ng : Bool) (W : World), (Below w.heap.size w W) → k ≤ n → v = .slice a n cap → Canon f k → val f k = val f n → ng = (neg && decide (0 < k)) → SignedR (zof neg (val f n)) W (.agg #[.bool ng, .slice a k cap]) := by
    intro a k cap ng W hb hk e hc hv hng
    subst e
    exact intC_mk ((HD.out.take hk).below hb) hc hv neg hng
  have FIN := Lib.hid fin
  clear fin
  cases neg with
  | false =>
    go_enter Try.func82, Try.ntmps82
    go_wp2_with fail
    refine (trimmed_c (HD.out.below (below_new _)) hn'.out).mono ?_
    rintro e w1 ⟨u, rfl, rfl, a, cap, k, hv, rfl, hk, hcap, hc, hx⟩
    have HC := Lib.hid (And.intro hv (And.intro hc hx))
    clear hv hc hx
    go_wp2
    exact bodyPost_ret (v := .agg #[.bool false, .slice a k cap]) (by simp [results, Try.results82, go_sem]) rfl
      (.mk rfl (below_new _) (FIN.out _ _ _ false _ (below_new _) hk HC.out.1 HC.out.2.1 HC.out.2.2 rfl))
  | true =>
    go_enter Try.func82, Try.ntmps82
    go_wp2_with fail
    refine (trimmed_c (HD.out.below (below_new _)) hn'.out).mono ?_
    rintro e w1 ⟨u, rfl, rfl, a, cap, k, hv, rfl, hk, hcap, hc, hx⟩
    have HC := Lib.hid (And.intro hv (And.intro hc hx))
    have hn1 := hn'.out
    unfold L at hn1
    clear hv hc hx
    by_cases h0 : 0 < k
    · go_wp2
      exact bodyPost_ret (v := .agg #[.bool true, .slice a k cap]) (by simp [results, Try.results82, go_sem]) rfl
        (.mk rfl (below_new _) (FIN.out _ _ _ true _ (below_new _) hk HC.out.1 HC.out.2.1 HC.out.2.2 (by simp [h0])))
    · go_wp2
      exact bodyPost_ret (v := .agg #[.bool false, .slice a k cap]) (by simp [results, Try.results82, go_sem]) rfl
        (.mk rfl (below_new _) (FIN.out _ _ _ false _ (below_new _) hk HC.out.1 HC.out.2.1 HC.out.2.2 (by simp [h0])))
end Hp
