/- The program's fractions in memory; its test for 1; conditions on lengths alone. -/
import Derived.Test.YtmcfohngblbpbaaIntF
import Derived.Test.YtmcfohngblbpbaaBigF
import Derived.Deep.RegionWith
namespace Hp
open Go Go.RowKit Go.Proofs

/-- a bound that no number of at most 2^43 digits reaches -/
def BIG : Int := pw 8796093022208
theorem big_le {k : Nat} (h : k ≤ 8796093022208) : pw k ≤ BIG := by unfold BIG; exact pw_le _ _ h
theorem big_raw {w : World} {u : Value} {z : Int} (h : IntC w u z) (hz : z.natAbs < BIG) : IntR w u 8796093022208 z := h.raw (by unfold BIG at hz; exact hz)
attribute [irreducible] BIG
theorem intC_one {w : World} {neg : Bool} {s : Value} {z : Int} (h : IntC w (.agg #[.bool neg, s]) z) : ∃ n f, Dg w s n f ∧ Canon f n ∧ neg = decide (z < 0) ∧ val f n = z.natAbs := by
  obtain ⟨s', n, f, e, h1, h2, h3⟩ := h
  injection e with e
  injection e with e
  simp at e
  obtain ⟨rfl, rfl⟩ := e
  exact ⟨n, f, h1, h2, rfl, h3⟩
theorem val_eq_one {f : Nat → Int} {n : Nat} (hd : Digs f n) (hc : Canon f n) : val f n = 1 ↔ n = 1 ∧ f 0 = 1 := by
  constructor
  · intro h
    have hn : n = 1 := by
      rcases n with _ | _ | n
      · simp [val] at h
      · rfl
      · have h1 := canon_le hd hc
        have h2 : pw 1 ≤ pw (n + 1) := pw_le _ _ (by omega)
        have h3 : pw 1 = 4294967296 := by decide
        omega
    subst hn
    exact ⟨rfl, by simpa [val, pw] using h⟩
  · rintro ⟨rfl, h⟩
    simp [val, pw, h]
set_option maxHeartbeats 2000000 in
theorem one_c {w : World} {u : Value} {z : Int} (h : IntC w u z) (hk : z.natAbs < BIG) : Calls Try.prog 76 #[u] w (Ret w (IsV (.bool (decide (z = 1))))) := by
  have hraw := big_raw h hk
  obtain ⟨s, n, f, rfl, hd, hc, hv⟩ := h
  have hn : n ≤ 8796093022208 := by
    obtain ⟨g', s', n1, f1, e, h1, h2, -⟩ := hraw
    injection e with e
    injection e with e
    simp at e
    obtain ⟨-, rfl⟩ := e
    obtain ⟨a, cap, e1, _⟩ := hd
    obtain ⟨a', cap', e2, _⟩ := h1
    rw [e1] at e2
    injection e2 with _ e3 _
    omega
  clear hraw
  have HV : Hid (z = 1 ↔ (n = 1 ∧ f 0 = 1) ∧ ¬ z < 0) := by
    show z = 1 ↔ _
    rw [← val_eq_one hd.dig hc, hv]; omega
  clear hk hv hc
  obtain ⟨a, cap, rfl, hcap, hd⟩ := hd
  generalize hg : decide (z < 0) = dz
  have HG := Lib.hid hg
  clear hg
  by_cases h1 : n = 1
  · subst h1
    rcases hd with hd | ⟨b, off, rfl, hd⟩
    · omega
    have hq0 : w.cell? ⟨b, off, none⟩ = some (.int .u32 (f 0)) := hd.cell 0 (by omega)
    have hq : (w.alloc (.cells #[.bool dz, .slice (some ⟨b, off, none⟩) 1 cap] 35)).cell? ⟨b, off, none⟩ = some (.int .u32 (f 0)) := (cell_old (lt_of_cell hq0)).trans hq0
    clear hd hq0
    by_cases h2 : f 0 = 1
    · have HX := Lib.hid h2
      have hb : (f 0 == 1) = true := by simp [h2]
      clear h2
      cases dz
      · have HR : Hid (decide (z = 1) = true) := by
          have := HV.out; have h := HG.out; simp at h
          show _ = _; simp; exact this.2 ⟨⟨rfl, HX.out⟩, by omega⟩
        go_enter Try.func76, Try.ntmps76
        go_wp2
        go_ret
        exact .mk rfl (below_new _) (by rw [HR.out]; rfl)
      · have HR : Hid (decide (z = 1) = false) := by
          have := HV.out; have h := HG.out; simp at h
          show _ = _; simp; omega
        go_enter Try.func76, Try.ntmps76
        go_wp2
        go_ret
        exact .mk rfl (below_new _) (by rw [HR.out]; rfl)
    · have HX := Lib.hid h2
      have hb : (f 0 == 1) = false := by simp [h2]
      clear h2
      have HR : Hid (decide (z = 1) = false) := by
        have := HV.out
        show _ = _; simp; intro e; exact HX.out (this.1 e).1.2
      go_enter Try.func76, Try.ntmps76
      go_wp2
      go_ret
      exact .mk rfl (below_new _) (by rw [HR.out]; rfl)
  · have hb : ((n : Int) == 1) = false := by simp; omega
    have HX := Lib.hid h1
    clear h1 hd
    have HR : Hid (decide (z = 1) = false) := by
      have := HV.out
      show _ = _; simp; intro e; exact HX.out (this.1 e).1.1
    go_enter Try.func76, Try.ntmps76
    go_wp2
    go_ret
    exact .mk rfl (below_new _) (by rw [HR.out]; rfl)

/-- u is a fraction in lowest terms with a positive denominator, of value q -/
def RatC (w : World) (u : Value) (q : Rat) : Prop := ∃ a0 a1 b0 b1, u = .agg #[a0, a1, b0, b1] ∧ IntC w (.agg #[a0, a1]) q.num ∧ IntC w (.agg #[b0, b1]) q.den
/-- u is the fraction p/q of numbers of at most k digits -/
def RatR (w : World) (u : Value) (k : Nat) (p q : Int) : Prop := ∃ a0 a1 b0 b1, u = .agg #[a0, a1, b0, b1] ∧ IntR w (.agg #[a0, a1]) k p ∧ IntR w (.agg #[b0, b1]) k q
theorem RatC.below {w w' : World} {u : Value} {q : Rat} (h : RatC w u q) (hb : Below w.heap.size w w') : RatC w' u q := by
  obtain ⟨a0, a1, b0, b1, e, h1, h2⟩ := h
  exact ⟨a0, a1, b0, b1, e, h1.below hb, h2.below hb⟩
theorem RatR.below {w w' : World} {u : Value} {k : Nat} {p q : Int} (h : RatR w u k p q) (hb : Below w.heap.size w w') : RatR w' u k p q := by
  obtain ⟨a0, a1, b0, b1, e, h1, h2⟩ := h
  exact ⟨a0, a1, b0, b1, e, h1.below hb, h2.below hb⟩
theorem RatC.far {w w' : World} {r : Nat} {cs : Array Value} {u : Value} {q : Rat} (h : RatC w u q) (hs : Slot w r cs) (hn : NoDig cs) (hw : ∀ k, k ≠ r → w'.heap[k]? = w.heap[k]?) : RatC w' u q := by
  obtain ⟨a0, a1, b0, b1, e, h1, h2⟩ := h
  exact ⟨a0, a1, b0, b1, e, h1.far hs hn hw, h2.far hs hn hw⟩
theorem RatC.agg {w : World} {u : Value} {q : Rat} (h : RatC w u q) : ∃ dz a n c db a' n' c', u = .agg #[.bool dz, .slice a n c, .bool db, .slice a' n' c'] := by
  obtain ⟨a0, a1, b0, b1, e, h1, h2⟩ := h
  obtain ⟨a, n, c, e1⟩ := h1.agg
  obtain ⟨a', n', c', e2⟩ := h2.agg
  injection e1 with e1; injection e1 with e1; simp at e1
  injection e2 with e2; injection e2 with e2; simp at e2
  obtain ⟨rfl, rfl⟩ := e1
  obtain ⟨rfl, rfl⟩ := e2
  exact ⟨_, a, n, c, _, a', n', c', e⟩

/-- a variable of four cells, that may be written -/
def put4 (w : World) (r : Nat) (u0 u1 u2 u3 : Value) : World := (((w.setCell ⟨r, 0, none⟩ u0).setCell ⟨r, 1, none⟩ u1).setCell ⟨r, 2, none⟩ u2).setCell ⟨r, 3, none⟩ u3
structure Four (w : World) (r : Nat) (x0 x1 x2 x3 : Value) : Prop where
  c0 : w.cell? ⟨r, 0, none⟩ = some x0
  c1 : w.cell? ⟨r, 1, none⟩ = some x1
  c2 : w.cell? ⟨r, 2, none⟩ = some x2
  c3 : w.cell? ⟨r, 3, none⟩ = some x3
  fr : ∀ i, w.frozen? ⟨r, i, none⟩ = false
  s1 : ∀ u0, (w.setCell ⟨r, 0, none⟩ u0).cell? ⟨r, 1, none⟩ = some x1
  s2 : ∀ u0 u1, ((w.setCell ⟨r, 0, none⟩ u0).setCell ⟨r, 1, none⟩ u1).cell? ⟨r, 2, none⟩ = some x2
  s3 : ∀ u0 u1 u2, (((w.setCell ⟨r, 0, none⟩ u0).setCell ⟨r, 1, none⟩ u1).setCell ⟨r, 2, none⟩ u2).cell? ⟨r, 3, none⟩ = some x3
  f0 : ∀ u0 u1 u2 u3, ((((w.setCell ⟨r, 0, none⟩ u0).setCell ⟨r, 1, none⟩ u1).setCell ⟨r, 2, none⟩ u2).setCell ⟨r, 3, none⟩ u3).cell? ⟨r, 0, none⟩ = some u0
  f1 : ∀ u0 u1 u2 u3, ((((w.setCell ⟨r, 0, none⟩ u0).setCell ⟨r, 1, none⟩ u1).setCell ⟨r, 2, none⟩ u2).setCell ⟨r, 3, none⟩ u3).cell? ⟨r, 1, none⟩ = some u1
  f2 : ∀ u0 u1 u2 u3, ((((w.setCell ⟨r, 0, none⟩ u0).setCell ⟨r, 1, none⟩ u1).setCell ⟨r, 2, none⟩ u2).setCell ⟨r, 3, none⟩ u3).cell? ⟨r, 2, none⟩ = some u2
  f3 : ∀ u0 u1 u2 u3, ((((w.setCell ⟨r, 0, none⟩ u0).setCell ⟨r, 1, none⟩ u1).setCell ⟨r, 2, none⟩ u2).setCell ⟨r, 3, none⟩ u3).cell? ⟨r, 3, none⟩ = some u3
theorem Slot.four {w : World} {r : Nat} {x0 x1 x2 x3 : Value} (h : Slot w r #[x0, x1, x2, x3]) : Four w r x0 x1 x2 x3 :=
  ⟨h.cell 0, h.cell 1, h.cell 2, h.cell 3, h.free, fun u0 => (h.set 0 u0).cell 1, fun u0 u1 => ((h.set 0 u0).set 1 u1).cell 2, fun u0 u1 u2 => (((h.set 0 u0).set 1 u1).set 2 u2).cell 3,
    fun u0 u1 u2 u3 => ((((h.set 0 u0).set 1 u1).set 2 u2).set 3 u3).cell 0, fun u0 u1 u2 u3 => ((((h.set 0 u0).set 1 u1).set 2 u2).set 3 u3).cell 1,
    fun u0 u1 u2 u3 => ((((h.set 0 u0).set 1 u1).set 2 u2).set 3 u3).cell 2, fun u0 u1 u2 u3 => ((((h.set 0 u0).set 1 u1).set 2 u2).set 3 u3).cell 3⟩
theorem Slot.put4 {w : World} {r : Nat} {x0 x1 x2 x3 : Value} (h : Slot w r #[x0, x1, x2, x3]) (u0 u1 u2 u3 : Value) : Slot (put4 w r u0 u1 u2 u3) r #[u0, u1, u2, u3] :=
  (((h.set 0 u0).set 1 u1).set 2 u2).set 3 u3
theorem far_put4 {w : World} {r : Nat} {u0 u1 u2 u3 : Value} : ∀ k, k ≠ r → (put4 w r u0 u1 u2 u3).heap[k]? = w.heap[k]? := fun k hk =>
  (far_set k hk).trans ((far_set k hk).trans ((far_set k hk).trans (far_set k hk)))
theorem below_put4 {B r : Nat} {w w' : World} (h : Below B w w') (hr : B ≤ r) (u0 u1 u2 u3 : Value) : Below B w (put4 w' r u0 u1 u2 u3) :=
  (((h.setCell (p := ⟨r, 0, none⟩) hr u0).setCell (p := ⟨r, 1, none⟩) hr u1).setCell (p := ⟨r, 2, none⟩) hr u2).setCell (p := ⟨r, 3, none⟩) hr u3
theorem noDig4 {x0 x1 x2 x3 : Value} (h0 : ∀ d : Int, x0 ≠ Value.int .u32 d) (h1 : ∀ d : Int, x1 ≠ Value.int .u32 d) (h2 : ∀ d : Int, x2 ≠ Value.int .u32 d) (h3 : ∀ d : Int, x3 ≠ Value.int .u32 d) : NoDig #[x0, x1, x2, x3] := by
  intro i d h
  rcases i with _ | _ | _ | _ | i
  · simp at h; exact h0 _ h
  · simp at h; exact h1 _ h
  · simp at h; exact h2 _ h
  · simp at h; exact h3 _ h
  · simp at h
theorem noDigRat (b b' : Bool) (a a' : Option Addr) (n c n' c' : Nat) : NoDig #[.bool b, .slice a n c, .bool b', .slice a' n' c'] :=
  noDig4 (fun d h => by cases h) (fun d h => by cases h) (fun d h => by cases h) (fun d h => by cases h)
end Hp
