/- The program's fractions in memory. -/
import Derived.Test.YtalcdpjpapojeaaGreatDoorOldC
import Derived.Test.YtalcdpjpapojeaaGreatDoorOab
import Derived.Deep.RegionWith
set_option linter.all false
namespace Hp
open Go Go.RowKit Go.Proofs
def BIG : Int := pw 8796093022208
theorem big_le {k : Nat} (h : k ≤ 8796093022208) : pw k ≤ BIG := by unfold BIG; exact Zed _ _ h
theorem Zbs {w : World} {u : Value} {z : Int} (h : IntC w u z) (hz : z.natAbs < BIG) : IntR w u 8796093022208 z := h.raw (by unfold BIG at hz; exact hz)
attribute [irreducible] BIG
theorem intC_one {w : World} {neg : Bool} {s : Value} {z : Int} (h : IntC w (.agg #[.bool neg, s]) z) : ∃ n f, Dg w s n f ∧ Zb2 f n ∧ neg = decide (z < 0) ∧ val f n = z.natAbs := by
 obtain ⟨s', n, f, e, h1, h2, h3⟩ := h
 injection e with e
 injection e with e
 simp at e
 obtain ⟨rfl, rfl⟩ := e
 exact ⟨n, f, h1, h2, rfl, h3⟩
theorem val_eq_one {f : Nat → Int} {n : Nat} (hd : Digs f n) (hc : Zb2 f n) : val f n = 1 ↔ n = 1 ∧ f 0 = 1 := by
 constructor
 ·intro h
  have hn : n = 1 := by
   rcases n with _ | _ | n
   ·simp [val] at h
   ·rfl
   ·have h1 := Ze6 hd hc
    have h2 : pw 1 ≤ pw (n + 1) := Zed _ _ oM
    have h3 : pw 1 = 4294967296 := dC
    omega
  subst hn
  exact ⟨rfl, by simpa [val, pw] using h⟩
 ·rintro ⟨rfl, h⟩
  simp [val, pw, h]
set_option maxHeartbeats 2000000 in
theorem one_c {w : World} {u : Value} {z : Int} (h : IntC w u z) (hk : z.natAbs < BIG) : Calls Tryz.prog 126 #[u] w (Ret w (IsV (.bool (decide (z = 1))))) := by
 have hraw := Zbs h hk
 obtain ⟨s, n, f, rfl, hd, hc, hv⟩ := h
 have hn : n ≤ 8796093022208 := by
  obtain ⟨g', s', n1, f1, e, h1, h2, -⟩ := hraw
  injection e with e
  injection e with e
  simp at e
  obtain ⟨-, rfl⟩ := e
  obtain ⟨a, cap, e1, _⟩ := hd
  obtain ⟨a', cap', e2, _⟩ := h1
  rw [e1] at e2
  injection e2 with _ e3 _
  omega
 clear hraw
 have HV : Hid (z = 1 ↔ (n = 1 ∧ f 0 = 1) ∧ ¬ z < 0) := by
  show z = 1 ↔ _
  rw [← val_eq_one hd.dig hc, hv]; omega
 clear hk hv hc
 obtain ⟨a, cap, rfl, hcap, hd⟩ := hd
 generalize hg : decide (z < 0) = dz
 have HG := Lib.hid hg
 clear hg
 by_cases h1 : n = 1
 ·subst h1
  rcases hd with hd | ⟨b, off, rfl, hd⟩
  ·omega
  have hq0 : w.cell? ⟨b, off, none⟩ = some (.int .u32 (f 0)) := hd.cell 0 oM
  have hq : (w.alloc (.cells #[.bool dz, .slice (some ⟨b, off, none⟩) 1 cap] 37)).cell? ⟨b, off, none⟩ = some (.int .u32 (f 0)) := (Zg2 (lt_of_cell hq0)).trans hq0
  clear hd hq0
  by_cases h2 : f 0 = 1
  ·have HX := Lib.hid h2
   have hb : (f 0 == 1) = true := by simp [h2]
   clear h2
   cases dz
   ·have HR : Hid (decide (z = 1) = true) := by
     have := HV.out; have h := HG.out; simp at h
     show _ = _; simp; exact this.2 ⟨⟨rfl, HX.out⟩, oM⟩
    go_enter Tryz.func126, Tryz.ntmps126
    go_wp2
    go_ret
    exact .mk rfl (Zai _) (by rw [HR.out]; rfl)
   ·have HR : Hid (decide (z = 1) = false) := by
     have := HV.out; have h := HG.out; simp at h
     show _ = _; simp; omega
    go_enter Tryz.func126, Tryz.ntmps126
    go_wp2
    go_ret
    exact .mk rfl (Zai _) (by rw [HR.out]; rfl)
  ·have HX := Lib.hid h2
   have hb : (f 0 == 1) = false := by simp [h2]
   clear h2
   have HR : Hid (decide (z = 1) = false) := by
    have := HV.out
    show _ = _; simp; intro e; exact HX.out (this.1 e).1.2
   go_enter Tryz.func126, Tryz.ntmps126
   go_wp2
   go_ret
   exact .mk rfl (Zai _) (by rw [HR.out]; rfl)
 ·have hb : ((n : Int) == 1) = false := by simp; omega
  have HX := Lib.hid h1
  clear h1 hd
  have HR : Hid (decide (z = 1) = false) := by
   have := HV.out
   show _ = _; simp; intro e; exact HX.out (this.1 e).1.1
  go_enter Tryz.func126, Tryz.ntmps126
  go_wp2
  go_ret
  exact .mk rfl (Zai _) (by rw [HR.out]; rfl)
def RatC (w : World) (u : Value) (q : Rat) : Prop := ∃ a0 a1 b0 b1, u = .agg #[a0, a1, b0, b1] ∧ IntC w (.agg #[a0, a1]) q.num ∧ IntC w (.agg #[b0, b1]) q.den
def RatR (w : World) (u : Value) (k : Nat) (p q : Int) : Prop := ∃ a0 a1 b0 b1, u = .agg #[a0, a1, b0, b1] ∧ IntR w (.agg #[a0, a1]) k p ∧ IntR w (.agg #[b0, b1]) k q
theorem RatC.below {w w' : World} {u : Value} {q : Rat} (h : RatC w u q) (hb : Below w.heap.size w w') : RatC w' u q := by
 obtain ⟨a0, a1, b0, b1, e, h1, h2⟩ := h
 exact ⟨a0, a1, b0, b1, e, h1.below hb, h2.below hb⟩
theorem RatR.below {w w' : World} {u : Value} {k : Nat} {p q : Int} (h : RatR w u k p q) (hb : Below w.heap.size w w') : RatR w' u k p q := by
 obtain ⟨a0, a1, b0, b1, e, h1, h2⟩ := h
 exact ⟨a0, a1, b0, b1, e, h1.below hb, h2.below hb⟩
theorem RatC.far {w w' : World} {r : Nat} {cs : Array Value} {u : Value} {q : Rat} (h : RatC w u q) (hs : Slot w r cs) (hn : NoDig cs) (hw : ∀ k, k ≠ r → w'.heap[k]? = w.heap[k]?) : RatC w' u q := by
 obtain ⟨a0, a1, b0, b1, e, h1, h2⟩ := h
 exact ⟨a0, a1, b0, b1, e, h1.far hs hn hw, h2.far hs hn hw⟩
theorem RatC.agg {w : World} {u : Value} {q : Rat} (h : RatC w u q) : ∃ dz a n c db a' n' c', u = .agg #[.bool dz, .slice a n c, .bool db, .slice a' n' c'] := by
 obtain ⟨a0, a1, b0, b1, e, h1, h2⟩ := h
 obtain ⟨a, n, c, e1⟩ := h1.agg
 obtain ⟨a', n', c', e2⟩ := h2.agg
 injection e1 with e1; injection e1 with e1; simp at e1
 injection e2 with e2; injection e2 with e2; simp at e2
 obtain ⟨rfl, rfl⟩ := e1
 obtain ⟨rfl, rfl⟩ := e2
 exact ⟨_, a, n, c, _, a', n', c', e⟩
def put4 (w : World) (r : Nat) (u0 u1 u2 u3 : Value) : World := (((w.setCell ⟨r, 0, none⟩ u0).setCell ⟨r, 1, none⟩ u1).setCell ⟨r, 2, none⟩ u2).setCell ⟨r, 3, none⟩ u3
structure Four (w : World) (r : Nat) (x0 x1 x2 x3 : Value) : Prop where
 c0 : w.cell? ⟨r, 0, none⟩ = some x0
 c1 : w.cell? ⟨r, 1, none⟩ = some x1
 c2 : w.cell? ⟨r, 2, none⟩ = some x2
 c3 : w.cell? ⟨r, 3, none⟩ = some x3
 fr : ∀ i, w.frozen? ⟨r, i, none⟩ = false
 s1 : ∀ u0, (w.setCell ⟨r, 0, none⟩ u0).cell? ⟨r, 1, none⟩ = some x1
 s2 : ∀ u0 u1, ((w.setCell ⟨r, 0, none⟩ u0).setCell ⟨r, 1, none⟩ u1).cell? ⟨r, 2, none⟩ = some x2
 s3 : ∀ u0 u1 u2, (((w.setCell ⟨r, 0, none⟩ u0).setCell ⟨r, 1, none⟩ u1).setCell ⟨r, 2, none⟩ u2).cell? ⟨r, 3, none⟩ = some x3
 f0 : ∀ u0 u1 u2 u3, ((((w.setCell ⟨r, 0, none⟩ u0).setCell ⟨r, 1, none⟩ u1).setCell ⟨r, 2, none⟩ u2).setCell ⟨r, 3, none⟩ u3).cell? ⟨r, 0, none⟩ = some u0
 f1 : ∀ u0 u1 u2 u3, ((((w.setCell ⟨r, 0, none⟩ u0).setCell ⟨r, 1, none⟩ u1).setCell ⟨r, 2, none⟩ u2).setCell ⟨r, 3, none⟩ u3).cell? ⟨r, 1, none⟩ = some u1
 f2 : ∀ u0 u1 u2 u3, ((((w.setCell ⟨r, 0, none⟩ u0).setCell ⟨r, 1, none⟩ u1).setCell ⟨r, 2, none⟩ u2).setCell ⟨r, 3, none⟩ u3).cell? ⟨r, 2, none⟩ = some u2
 f3 : ∀ u0 u1 u2 u3, ((((w.setCell ⟨r, 0, none⟩ u0).setCell ⟨r, 1, none⟩ u1).setCell ⟨r, 2, none⟩ u2).setCell ⟨r, 3, none⟩ u3).cell? ⟨r, 3, none⟩ = some u3
theorem Slot.four {w : World} {r : Nat} {x0 x1 x2 x3 : Value} (h : Slot w r #[x0, x1, x2, x3]) : Four w r x0 x1 x2 x3 :=
 ⟨h.cell 0, h.cell 1, h.cell 2, h.cell 3, h.free, fun u0 => (h.set 0 u0).cell 1, fun u0 u1 => ((h.set 0 u0).set 1 u1).cell 2, fun u0 u1 u2 => (((h.set 0 u0).set 1 u1).set 2 u2).cell 3,
  fun u0 u1 u2 u3 => ((((h.set 0 u0).set 1 u1).set 2 u2).set 3 u3).cell 0, fun u0 u1 u2 u3 => ((((h.set 0 u0).set 1 u1).set 2 u2).set 3 u3).cell 1,
  fun u0 u1 u2 u3 => ((((h.set 0 u0).set 1 u1).set 2 u2).set 3 u3).cell 2, fun u0 u1 u2 u3 => ((((h.set 0 u0).set 1 u1).set 2 u2).set 3 u3).cell 3⟩
theorem Slot.put4 {w : World} {r : Nat} {x0 x1 x2 x3 : Value} (h : Slot w r #[x0, x1, x2, x3]) (u0 u1 u2 u3 : Value) : Slot (put4 w r u0 u1 u2 u3) r #[u0, u1, u2, u3] :=
 (((h.set 0 u0).set 1 u1).set 2 u2).set 3 u3
theorem Zbv {w : World} {r : Nat} {u0 u1 u2 u3 : Value} : ∀ k, k ≠ r → (put4 w r u0 u1 u2 u3).heap[k]? = w.heap[k]? := fun k hk =>
 (Zgc k hk).trans ((Zgc k hk).trans ((Zgc k hk).trans (Zgc k hk)))
theorem Zcp {B r : Nat} {w w' : World} (h : Below B w w') (hr : B ≤ r) (u0 u1 u2 u3 : Value) : Below B w (put4 w' r u0 u1 u2 u3) :=
 (((h.setCell (p := ⟨r, 0, none⟩) hr u0).setCell (p := ⟨r, 1, none⟩) hr u1).setCell (p := ⟨r, 2, none⟩) hr u2).setCell (p := ⟨r, 3, none⟩) hr u3
theorem noDig4 {x0 x1 x2 x3 : Value} (h0 : ∀ d : Int, x0 ≠ Value.int .u32 d) (h1 : ∀ d : Int, x1 ≠ Value.int .u32 d) (h2 : ∀ d : Int, x2 ≠ Value.int .u32 d) (h3 : ∀ d : Int, x3 ≠ Value.int .u32 d) : NoDig #[x0, x1, x2, x3] := by
 intro i d h
 rcases i with _ | _ | _ | _ | i
 ·simp at h; exact h0 _ h
 ·simp at h; exact h1 _ h
 ·simp at h; exact h2 _ h
 ·simp at h; exact h3 _ h
 ·simp at h
theorem Zb0 (b b' : Bool) (a a' : Option Addr) (n c n' c' : Nat) : NoDig #[.bool b, .slice a n c, .bool b', .slice a' n' c'] :=
 noDig4 (fun d h => by cases h) (fun d h => by cases h) (fun d h => by cases h) (fun d h => by cases h)
def RatP (q : Rat) (w' : World) (u : Value) : Prop := RatC w' u q
theorem IntR.lt {w : World} {u : Value} {k : Nat} {z : Int} (h : IntR w u k z) : z.natAbs < pw k := by
 obtain ⟨g, s, n, f, _, hd, hn, rfl⟩ := h
 have h1 := Zcg hd.dig
 have h2 := Zam hd.dig
 have h3 := Zed n k hn
 cases g <;> simp [zof] <;> omega
theorem intC_len {w : World} {b : Bool} {a : Option Addr} {k c : Nat} {z : Int} (h : IntC w (.agg #[.bool b, .slice a k c]) z) : k = 0 ↔ z = 0 := by
 obtain ⟨n, f, hd, hc, _, hv⟩ := intC_one h
 have hdig := hd.dig
 obtain ⟨a', c', e, _⟩ := hd
 injection e with _ e _
 subst e
 have := Zc5 hdig hc
 rw [hv] at this
 omega
theorem intC_klen {w : World} {b : Bool} {a : Option Addr} {k c : Nat} {z : Int} (h : IntC w (.agg #[.bool b, .slice a k c]) z) (hz : z.natAbs < BIG) : k ≤ 8796093022208 := by
 obtain ⟨g, s, n, f, e, h1, h2, _⟩ := Zbs h hz
 injection e with e
 injection e with e
 simp at e
 obtain ⟨-, rfl⟩ := e
 obtain ⟨a', c', e1, _⟩ := h1
 injection e1 with _ e1 _
 omega
theorem gcdZ_pos {n d : Int} (hd : 0 < d) : 0 < gcdZ n d := by
 unfold gcdZ
 have := Nat.gcd_pos_of_pos_right n.natAbs (n := d.natAbs) oM
 omega
theorem gcdZ_dvd (n d : Int) : n % gcdZ n d = 0 ∧ d % gcdZ n d = 0 := by
 unfold gcdZ
 exact ⟨Int.emod_eq_zero_of_dvd (Int.ofNat_dvd_left.2 (Nat.gcd_dvd_left _ _)), Int.emod_eq_zero_of_dvd (Int.ofNat_dvd_left.2 (Nat.gcd_dvd_right _ _))⟩
theorem gcdZ_le {n d : Int} (hd : 0 < d) : gcdZ n d ≤ d := by
 unfold gcdZ
 have := Nat.gcd_le_right n.natAbs (n := d.natAbs) oM
 omega
theorem Zcv {n d : Int} (hd : 0 < d) : (Rat.divInt n d).num = n / gcdZ n d ∧ ((Rat.divInt n d).den : Int) = d / gcdZ n d := by
 rw [Rat.num_divInt, Rat.den_divInt, if_neg oM]
 have e : (d.gcd n) = Nat.gcd n.natAbs d.natAbs := by rw [Int.gcd_comm]; rfl
 rw [e]
 unfold gcdZ
 refine ⟨by rw [Int.sign_eq_one_of_pos hd, Int.one_mul], ?_⟩
 rw [Int.natCast_ediv]
 congr 1
 omega
structure OverS (w w' : World) (n d : Int) : Prop where
 num : ∃ a k c, Za8 w' w.heap.size (.bool (decide (n < 0))) (.slice a k c) ∧ IntC w' (.agg #[.bool (decide (n < 0)), .slice a k c]) n
 den : ∃ a k c, Za8 w' (w.heap.size + 1) (.bool (decide (d < 0))) (.slice a k c) ∧ IntC w' (.agg #[.bool (decide (d < 0)), .slice a k c]) d
 res : Slot w' (w.heap.size + 2) #[.bool false, .slice none 0 0, .bool false, .slice none 0 0]
 low : Below w.heap.size w w'
theorem intC_nil (w : World) : IntC w (.agg #[.bool false, .slice none 0 0]) 0 := ⟨_, 0, fun _ => 0, rfl, Dg.nil _ _, .inl rfl, rfl⟩
theorem ratC_zero {w : World} {a : Option Addr} {n c : Nat} (h : IntC w (.agg #[.bool false, .slice a n c]) 1) : RatC w (.agg #[.bool false, .slice none 0 0, .bool false, .slice a n c]) 0 :=
 ⟨_, _, _, _, rfl, intC_nil w, h⟩
theorem divInt_num_ne {n d : Int} (hn : n ≠ 0) (hd : d ≠ 0) : Rat.divInt n d ≠ 0 := by
 intro e
 have := congrArg Rat.num e
 rw [Rat.num_divInt] at this
 have h2 : (d.gcd n : Int) ∣ d.sign * n := Int.dvd_mul_of_dvd_right (Int.gcd_dvd_right _ _)
 have h3 := Int.eq_zero_of_ediv_eq_zero h2 (by simpa using this)
 rcases Int.mul_eq_zero.1 h3 with h | h
 ·exact hd (Int.sign_eq_zero_iff_zero.1 h)
 ·exact hn h
theorem overS_mk {w w2 : World} {n d : Int} {x y x' y' : Value} {a a' : Option Addr} {k c k' c' : Nat} {dn dd : Bool} (hn : Za8 w2 w.heap.size x y) (hd : Za8 w2 (w.heap.size + 1) x' y') (hr : Slot w2 (w.heap.size + 2) #[.bool false, .slice none 0 0, .bool false, .slice none 0 0])
  (h1 : IntC w2 (.agg #[.bool dn, .slice a k c]) n) (h2 : IntC w2 (.agg #[.bool dd, .slice a' k' c']) d) (e1 : decide (n < 0) = dn) (e2 : decide (d < 0) = dd) (ex : NoDig #[x, y]) (ex' : NoDig #[x', y']) (hb : Below w.heap.size w w2) :
  OverS w ((((w2.setCell ⟨w.heap.size, 0, none⟩ (.bool dn)).setCell ⟨w.heap.size, 1, none⟩ (.slice a k c)).setCell ⟨w.heap.size + 1, 0, none⟩ (.bool dd)).setCell ⟨w.heap.size + 1, 1, none⟩ (.slice a' k' c')) n d := by
 subst e1 e2
 have hn1 := hn.put (.bool (decide (n < 0))) (.slice a k c)
 have hd1 := hd.other (show w.heap.size + 1 ≠ w.heap.size by omega) (.bool (decide (n < 0))) (.slice a k c)
 refine ⟨⟨a, k, c, hn1.other oM _ _, ?_⟩, ⟨a', k', c', hd1.put _ _, ?_⟩, ?_, ?_⟩
 ·exact (h1.far hn ex Zas).far hd1 ex' Zas
 ·exact (h2.far hn ex Zas).far hd1 ex' Zas
 ·exact (hr.other (Zas _ oM)).other (Zas _ oM)
 ·exact ((((hb.setCell (p := ⟨_, _, _⟩) (Nat.le_refl _) _).setCell (p := ⟨_, _, _⟩) (Nat.le_refl _) _).setCell (p := ⟨_, _, _⟩) (Nat.le_succ _) _).setCell (p := ⟨_, _, _⟩) (Nat.le_succ _) _)
set_option maxRecDepth 100000 in
set_option maxHeartbeats 4000000 in
theorem over_c {w : World} {u0 u1 : Value} {z0 z1 : Int} {K0 K1 : Nat} (h0 : IntR w u0 K0 z0) (h1 : IntR w u1 K1 z1) (hk0' : K0 ≤ 8796093022208) (hk1' : K1 ≤ 8796093022208) :
    Calls Tryz.prog 94 #[u0, u1] w (Ret w (RatP (Rat.divInt z0 z1))) := by
  have HI0 := Lib.hid (h0.mono (k' := L) (by unfold L; omega))
  have HI1 := Lib.hid (h1.mono (k' := L) (by unfold L; omega))
  have HK0 := Lib.hid h0
  have HK1 := Lib.hid h1
  obtain ⟨ng0, s0, n0, f0, rfl, hd0, -, -⟩ := h0
  obtain ⟨ng1, s1, n1, f1, rfl, hd1, -, -⟩ := h1
  obtain ⟨a0, c0, rfl, -, -⟩ := hd0
  obtain ⟨a1, c1, rfl, -, -⟩ := hd1
  go_enter Tryz.func94, Tryz.ntmps94
  go_wp2_with fail
  generalize hW0 : World.alloc _ _ = W0
  have hsize : W0.heap.size = w.heap.size + 3 := by rw [← hW0]; simp
  have hB : Hid (Below w.heap.size w W0) := by
    rw [← hW0]
    exact (((Below.refl _ _).alloc (Nat.le_refl _) _).alloc (by (try simp only [World.size_alloc]); omega) _).alloc (by (try simp only [World.size_alloc]); omega) _
  have hsn : Za8 W0 w.heap.size (.bool ng0) (.slice a0 n0 c0) := by rw [← hW0]; exact ⟨_, by (repeat rw [Zbt (by simp only [World.size_alloc]; omega)]); rw [Zbu (by (try simp only [World.size_alloc]))]⟩
  have hsd : Za8 W0 (w.heap.size + 1) (.bool ng1) (.slice a1 n1 c1) := by rw [← hW0]; exact ⟨_, by (repeat rw [Zbt (by simp only [World.size_alloc]; omega)]); rw [Zbu (by (try simp only [World.size_alloc]))]⟩
  have hsr : Slot W0 (w.heap.size + 2) #[.bool false, .slice none 0 0, .bool false, .slice none 0 0] := by rw [← hW0]; exact ⟨_, by (repeat rw [Zbt (by simp only [World.size_alloc]; omega)]); rw [Zbu (by (try simp only [World.size_alloc]))]⟩
  clear hW0
  go_upto_region 1 with fail
  go_cut [2, 4] (fun s2 s4 wx => s2 = .pointer (some ⟨w.heap.size, 0, none⟩) ∧ s4 = .pointer (some ⟨w.heap.size + 2, 0, none⟩) ∧ Hid (OverS w wx z0 z1))
  case first =>
    obtain ⟨x0, x1, x2, -, -, -⟩ := hsn.drew.two
    obtain ⟨y0, y1, y2, -, -, -⟩ := hsd.drew.two
    have hsn := hsn.drew
    have hsd := hsd.drew
    have hsr := hsr.drew
    have hk : Hid (Below w.heap.size w W0.drew) := hB.out.drew
    go_region_with (first
      | (go_at_call 128; (with_reducible refine (normal_c (HI0.out.below hk.out)).mono ?_); rintro e w1 ⟨v1, rfl, hb, h1⟩; have hk := Lib.hid (Zak hk.out hb); have hsn := hsn.below hb; have hsd := hsd.below hb; have hsr := hsr.below hb; have H1 := Lib.hid h1; obtain ⟨y0, y1, y2, -, -, -⟩ := hsd.two; clear h1)
      | (go_at_call 128; (with_reducible refine (normal_c (HI1.out.below hk.out)).mono ?_); rintro e w2 ⟨v2, rfl, hb, h2⟩; have hk := Lib.hid (Zak hk.out hb); have hsn := hsn.below hb; have hsd := hsd.below hb; have hsr := hsr.below hb; have H1 := Lib.hid (IntC.below H1.out hb); have H2 := Lib.hid h2; obtain ⟨a2, n2, c2, rfl⟩ := IntC.agg H1.out; obtain ⟨a3, n3, c3, rfl⟩ := IntC.agg H2.out; generalize hg0 : decide (z0 < 0) = d0 at *; generalize hg1 : decide (z1 < 0) = d1 at *; have HG0 := Lib.hid hg0; have HG1 := Lib.hid hg1; have hsd' := hsd.other (show w.heap.size + 1 ≠ w.heap.size by omega) (.bool d0) (.slice a2 n2 c2); obtain ⟨p0, p1, p2, p3, p4, p5⟩ := hsn.two; obtain ⟨q0, q1, q2, q3, q4, q5⟩ := hsd'.two; clear h2 hg0 hg1))
    all_goals
      go_wp2_with fail
      go_meet
      case rel => exact ⟨rfl, rfl, overS_mk hsn hsd hsr H1.out H2.out HG0.out HG1.out (Zay _ _ _ _) (Zay _ _ _ _) hk.out⟩
  case rest =>
    obtain ⟨rfl, rfl, HS⟩ := hcut
    clear hsn hsd hsr hB hsize
    have HZL : Hid (z0.natAbs < BIG ∧ z1.natAbs < BIG) := ⟨Int.lt_of_lt_of_le HK0.out.lt (big_le hk0'), Int.lt_of_lt_of_le HK1.out.lt (big_le hk1')⟩
    clear HI0 HI1 HK0 HK1
    go_upto_block 0 with fail
    go_cut [2, 3, 4] (fun s2 s3 s4 wx => s2 = .pointer (some ⟨w.heap.size, 0, none⟩) ∧ s3 = .pointer (some ⟨w.heap.size + 1, 0, none⟩) ∧ s4 = .pointer (some ⟨w.heap.size + 2, 0, none⟩) ∧
      Hid (∃ n d : Int, OverS w wx n d ∧ 0 < d ∧ n ≠ 0 ∧ Rat.divInt n d = Rat.divInt z0 z1 ∧ n.natAbs < BIG ∧ d.natAbs < BIG))
    case first =>
      obtain ⟨⟨an, kn, cn, hsn, hin⟩, ⟨ad, kd, cd, hsd, hid⟩, hsr, hlow⟩ := HS.out
      have HIN := Lib.hid hin
      have HID := Lib.hid hid
      have HLOW := Lib.hid hlow
      have hkn := intC_klen hin HZL.out.1
      have hkd := intC_klen hid HZL.out.2
      have HN0 := Lib.hid (intC_len hin)
      have HD0 := Lib.hid (intC_len hid)
      clear hin hid hlow HS
      generalize hg0 : decide (z0 < 0) = d0 at *
      generalize hg1 : decide (z1 < 0) = d1 at *
      have HG0 := Lib.hid hg0
      have HG1 := Lib.hid hg1
      clear hg0 hg1
      obtain ⟨x0, x1, x2, -, -, -⟩ := hsn.two
      obtain ⟨y0, y1, y2, -, -, -⟩ := hsd.two
      by_cases hz : kd = 0 ∨ kn = 0
      · have key : ((kd : Int) == 0) = true ∨ (((kd : Int) == 0) = false ∧ ((kn : Int) == 0) = true) := by
          by_cases e : kd = 0
          · left; simp [e]
          · right
            rcases hz with hz | hz
            · exact absurd hz e
            · constructor
              · simp; omega
              · simp [hz]
        have HR : Hid (Rat.divInt z0 z1 = 0) := by
          rcases hz with hz | hz
          · rw [HD0.out.1 hz]; exact Rat.divInt_zero _
          · rw [HN0.out.1 hz]; exact Rat.zero_divInt _
        clear hz
        rcases key with k1 | ⟨k1, k2⟩
        all_goals
          go_wp2_with fail
          with_reducible refine (iof_c 1 _ dC dC).mono ?_
          rintro e w1 ⟨v1, rfl, hb, h1⟩
          have H1 := Lib.hid h1
          have hsr := hsr.below hb
          have HLOW := Lib.hid (Zak HLOW.out hb)
          obtain ⟨a1, n1, c1, rfl⟩ := IntC.agg h1
          obtain ⟨p0, p1, p2, p3, p4, p5, p6, p7, r0, r1, r2, r3⟩ := hsr.four
          rw [show decide ((1 : Int) < 0) = false from dC] at H1
          rw [show decide ((1 : Int) < 0) = false from dC]
          clear hb h1
          go_wp2_with fail
          go_wp2
          exact bodyPost_ret (v := .agg #[.bool false, .slice none 0 0, .bool false, .slice a1 n1 c1]) (by simp [results, Tryz.results94, go_sem, r0, r1, r2, r3]) rfl
            (.mk rfl (Zcp HLOW.out oM _ _ _ _) (by
              show RatC _ _ _
              rw [HR.out]
              exact ratC_zero (IntC.far (w' := put4 w1 (w.heap.size + 2) (.bool false) (.slice none 0 0) (.bool false) (.slice a1 n1 c1)) H1.out hsr (Zb0 _ _ _ _ _ _ _ _) Zbv)))
      · have k1 : ((kd : Int) == 0) = false := by simp; omega
        have k2 : ((kn : Int) == 0) = false := by simp; omega
        have HNZ : Hid (z0 ≠ 0 ∧ z1 ≠ 0) := ⟨fun e => hz (.inr (HN0.out.2 e)), fun e => hz (.inl (HD0.out.2 e))⟩
        clear hz
        cases d1 with
        | false =>
          go_wp2
          go_meet
          case rel =>
            have h := HG1.out
            have h2 := HNZ.out.2
            simp at h
            refine ⟨rfl, rfl, rfl, z0, z1, ⟨⟨an, kn, cn, ?_, ?_⟩, ⟨ad, kd, cd, ?_, ?_⟩, hsr, HLOW.out⟩, oM, HNZ.out.1, rfl, HZL.out.1, HZL.out.2⟩
            · rw [HG0.out]; exact hsn
            · rw [HG0.out]; exact HIN.out
            · rw [HG1.out]; exact hsd
            · rw [HG1.out]; exact HID.out
        | true =>
          go_wp2_with fail
          have hsn := hsn.drew
          have hsd := hsd.drew
          have hsr := hsr.drew
          have hk : Hid (Below w.heap.size w wc.drew) := HLOW.out.drew
          have HIN : Hid (IntC wc.drew (.agg #[.bool d0, .slice an kn cn]) z0) := HIN.out.below ((Below.refl _ _).drew)
          have HID : Hid (IntC wc.drew (.agg #[.bool true, .slice ad kd cd]) z1) := HID.out.below ((Below.refl _ _).drew)
          go_region_with (first
            | (go_at_call 129; (with_reducible refine (neg_c (Zbs HIN.out HZL.out.1) ?_).mono ?_); (exact Nat.le_of_ble_eq_true rfl); rintro e w1 ⟨v1, rfl, hb, h1⟩; have hk := Lib.hid (Zak hk.out hb); have hsn := hsn.below hb; have hsd := hsd.below hb; have hsr := hsr.below hb; have H1 := Lib.hid h1; have HID := Lib.hid (IntC.below HID.out hb); obtain ⟨y0, y1, y2, -, -, -⟩ := hsd.two; clear h1)
            | (go_at_call 129; (with_reducible refine (neg_c (Zbs HID.out HZL.out.2) ?_).mono ?_); (exact Nat.le_of_ble_eq_true rfl); rintro e w2 ⟨v2, rfl, hb, h2⟩; have hk := Lib.hid (Zak hk.out hb); have hsn := hsn.below hb; have hsd := hsd.below hb; have hsr := hsr.below hb; have H1 := Lib.hid (IntC.below H1.out hb); have H2 := Lib.hid h2; obtain ⟨a2, n2, c2, rfl⟩ := IntC.agg H1.out; obtain ⟨a3, n3, c3, rfl⟩ := IntC.agg H2.out; generalize hg2 : decide (-z0 < 0) = d2 at *; generalize hg3 : decide (-z1 < 0) = d3 at *; have HG2 := Lib.hid hg2; have HG3 := Lib.hid hg3; have hsd' := hsd.other (show w.heap.size + 1 ≠ w.heap.size by omega) (.bool d2) (.slice a2 n2 c2); obtain ⟨p0, p1, p2, p3, p4, p5⟩ := hsn.two; obtain ⟨q0, q1, q2, q3, q4, q5⟩ := hsd'.two; clear h2 hg2 hg3))
          all_goals
            go_wp2_with fail
            go_meet
            case rel =>
              have h := HG1.out
              simp at h
              have h0 := HZL.out.1
              have h1 := HZL.out.2
              have h2 := HNZ.out.1
              exact ⟨rfl, rfl, rfl, -z0, -z1, overS_mk hsn hsd hsr H1.out H2.out HG2.out HG3.out (Zay _ _ _ _) (Zay _ _ _ _) hk.out, oM, oM, Rat.neg_divInt_neg _ _, oM, oM⟩
    case rest =>
      obtain ⟨rfl, rfl, rfl, HX⟩ := hcut
      clear HZL HS
      obtain ⟨n, d, hS, hd0, hn0, hq, hnb, hdb⟩ := HX.out
      have HQQ := Lib.hid hq
      have HF := Lib.hid (And.intro hd0 (And.intro hn0 (And.intro hnb hdb)))
      obtain ⟨⟨an, kn, cn, hsn, hin⟩, ⟨ad, kd, cd, hsd, hid⟩, hsr, hlow⟩ := hS
      have HIN := Lib.hid hin
      have HID := Lib.hid hid
      have HLOW := Lib.hid hlow
      clear hin hid hlow HX hd0 hn0 hq hnb hdb
      generalize hg0 : decide (n < 0) = d0 at *
      generalize hg1 : decide (d < 0) = d1 at *
      have HG0 := Lib.hid hg0
      have HG1 := Lib.hid hg1
      clear hg0 hg1
      obtain ⟨x0, x1, x2, -, -, -⟩ := hsn.two
      obtain ⟨y0, y1, y2, -, -, -⟩ := hsd.two
      go_wp2_with fail
      with_reducible refine (one_c HID.out HF.out.2.2.2).mono ?_
      rintro e w1 ⟨v1, rfl, hb, rfl⟩
      have hsn := hsn.below hb
      have hsd := hsd.below hb
      have hsr := hsr.below hb
      have HIN := Lib.hid (HIN.out.below hb)
      have HID := Lib.hid (HID.out.below hb)
      have HLOW := Lib.hid (Zak HLOW.out hb)
      obtain ⟨x0, x1, x2, -, -, -⟩ := hsn.two
      obtain ⟨y0, y1, y2, -, -, -⟩ := hsd.two
      clear hb
      by_cases h1 : d = 1
      · have hb1 : decide (d = 1) = true := by simp [h1]
        have H1 := Lib.hid h1
        clear h1
        obtain ⟨p0, p1, p2, p3, p4, p5, p6, p7, r0, r1, r2, r3⟩ := hsr.four
        rw [hb1]
        clear hb1
        go_wp2
        exact bodyPost_ret (v := .agg #[.bool d0, .slice an kn cn, .bool d1, .slice ad kd cd]) (by simp [results, Tryz.results94, go_sem, r0, r1, r2, r3]) rfl
          (.mk rfl (Zcp HLOW.out oM _ _ _ _) (by
            have hP := Zcv (n := n) HF.out.1
            have hg : gcdZ n d = 1 := by have h1 := gcdZ_pos (n := n) HF.out.1; have h2 := gcdZ_le (n := n) HF.out.1; have h3 := H1.out; omega
            rw [hg, Int.ediv_one, Int.ediv_one] at hP
            show RatC _ _ _
            rw [← HQQ.out]
            refine RatC.far (w' := put4 w1 (w.heap.size + 2) (.bool d0) (.slice an kn cn) (.bool d1) (.slice ad kd cd)) ⟨_, _, _, _, rfl, ?_, ?_⟩ hsr (Zb0 _ _ _ _ _ _ _ _) Zbv
            · rw [hP.1]; exact HIN.out
            · rw [hP.2]; exact HID.out))
      · have hb1 : decide (d = 1) = false := by simp [h1]
        rw [hb1]
        clear h1 hb1
        go_wp2_with fail
        with_reducible refine (gcd_c (Zbs HIN.out HF.out.2.2.1) (Zbs HID.out HF.out.2.2.2) ?_ ?_).mono ?_
        · exact Nat.le_refl _
        · exact Nat.le_refl _
        rintro e w2 ⟨v2, rfl, hb, h2⟩
        have hsn := hsn.below hb
        have hsd := hsd.below hb
        have hsr := hsr.below hb
        have HIN := Lib.hid (HIN.out.below hb)
        have HID := Lib.hid (HID.out.below hb)
        have HLOW := Lib.hid (Zak HLOW.out hb)
        have HG := Lib.hid (show IntC w2 v2 (gcdZ n d) from h2)
        clear hb h2 x0 x1 x2 y0 y1 y2
        obtain ⟨ag, kg, cg, rfl⟩ := HG.out.agg
        have HGP : Hid (0 < gcdZ n d ∧ (gcdZ n d).natAbs < BIG ∧ n % gcdZ n d = 0 ∧ d % gcdZ n d = 0) := by
          have h1 := gcdZ_pos (n := n) HF.out.1
          have h2 := gcdZ_le (n := n) HF.out.1
          have h3 := HF.out.2.2.2
          exact ⟨h1, oM, gcdZ_dvd n d⟩
        have hP := Lib.hid (Zcv (n := n) HF.out.1)
        generalize gcdZ n d = g at *
        generalize hgg : decide (g < 0) = dg at *
        have HGG := Lib.hid hgg
        clear hgg
        go_wp2_with fail
        generalize hW3 : World.alloc _ _ = W3
        have hb : Below w2.heap.size w2 W3 := by rw [← hW3]; exact Zai _
        have hsg : Za8 W3 w2.heap.size (.bool dg) (.slice ag kg cg) := by rw [← hW3]; exact Za8.new _ _ _ _
        clear hW3
        have hlt : w.heap.size + 2 < w2.heap.size := hsr.lt
        have hsn := hsn.below hb
        have hsd := hsd.below hb
        have hsr := hsr.below hb
        have HIN := Lib.hid (HIN.out.below hb)
        have HID := Lib.hid (HID.out.below hb)
        have HLOW := Lib.hid (Zak HLOW.out hb)
        have HG := Lib.hid (HG.out.below hb)
        clear hb
        with_reducible refine (one_c HG.out HGP.out.2.1).mono ?_
        rintro e w4 ⟨v4, rfl, hb, rfl⟩
        have hsn := hsn.below hb
        have hsd := hsd.below hb
        have hsr := hsr.below hb
        have hsg := hsg.below hb
        have HIN := Lib.hid (HIN.out.below hb)
        have HID := Lib.hid (HID.out.below hb)
        have HLOW := Lib.hid (Zak HLOW.out hb)
        have HG := Lib.hid (HG.out.below hb)
        clear hb
        by_cases h1 : g = 1
        · have hb1 : decide (g = 1) = true := by simp [h1]
          have hP : Hid ((Rat.divInt n d).num = n ∧ ((Rat.divInt n d).den : Int) = d) := by
            have := hP.out
            rw [h1, Int.ediv_one, Int.ediv_one] at this; exact this
          rw [hb1]
          clear h1 hb1
          obtain ⟨p0, p1, p2, p3, p4, p5, p6, p7, r0, r1, r2, r3⟩ := hsr.four
          obtain ⟨x0, x1, x2, -, -, -⟩ := hsn.two
          obtain ⟨y0, y1, y2, -, -, -⟩ := hsd.two
          go_wp2
          exact bodyPost_ret (v := .agg #[.bool d0, .slice an kn cn, .bool d1, .slice ad kd cd]) (by simp [results, Tryz.results94, go_sem, r0, r1, r2, r3]) rfl
            (.mk rfl (Zcp HLOW.out oM _ _ _ _) (by
              show RatC _ _ _
              rw [← HQQ.out]
              refine RatC.far (w' := put4 w4 (w.heap.size + 2) (.bool d0) (.slice an kn cn) (.bool d1) (.slice ad kd cd)) ⟨_, _, _, _, rfl, ?_, ?_⟩ hsr (Zb0 _ _ _ _ _ _ _ _) Zbv
              · rw [hP.out.1]; exact HIN.out
              · rw [hP.out.2]; exact HID.out))
        · have hb1 : decide (g = 1) = false := by simp [h1]
          rw [hb1]
          clear h1 hb1
          obtain ⟨x0, x1, x2, x3, x4, x5⟩ := hsn.two
          obtain ⟨g0, g1, g2, -, -, -⟩ := hsg.two
          go_wp2_with fail
          with_reducible refine (exact_c (Zbs HIN.out HF.out.2.2.1) (Zbs HG.out HGP.out.2.1) ?_ ?_ ?_ HGP.out.2.2.1).mono ?_
          · exact Nat.le_refl _
          · exact Nat.le_refl _
          · have := HGP.out.1; omega
          rintro e w5 ⟨v5, rfl, hb, uq, rfl, h5⟩
          obtain ⟨a5, n5, c5, rfl⟩ := h5.agg
          have hsn := hsn.below hb
          have hsd := hsd.below hb
          have hsr := hsr.below hb
          have hsg := hsg.below hb
          have HID := Lib.hid (HID.out.below hb)
          have HLOW := Lib.hid (Zak HLOW.out hb)
          have HG := Lib.hid (HG.out.below hb)
          have H5 := Lib.hid h5
          generalize hgx : decide (n / g < 0) = d5 at *
          have HGX := Lib.hid hgx
          clear hb h5 hgx
          obtain ⟨x0, x1, x2, x3, x4, x5⟩ := hsn.two
          have hsd' := hsd.other (show w.heap.size + 1 ≠ w.heap.size by omega) (.bool d5) (.slice a5 n5 c5)
          have hsg' := hsg.other (show w2.heap.size ≠ w.heap.size by omega) (.bool d5) (.slice a5 n5 c5)
          obtain ⟨y0, y1, y2, y3, y4, y5⟩ := hsd'.two
          obtain ⟨g0, g1, g2, -, -, -⟩ := hsg'.two
          go_wp2_with fail
          generalize hW6 : World.setCell (World.setCell _ _ _) _ _ = W6
          have hW6' : (w5.setCell ⟨w.heap.size, 0, none⟩ (.bool d5)).setCell ⟨w.heap.size, 1, none⟩ (.slice a5 n5 c5) = W6 := hW6
          have hsn6 := hsn.put (.bool d5) (.slice a5 n5 c5)
          have H56 := H5.out.far hsn (Zay _ _ _ _) (Zas (i := 0) (j := 1) (u := .bool d5) (v := .slice a5 n5 c5))
          have HID6 := HID.out.far hsn (Zay _ _ _ _) (Zas (i := 0) (j := 1) (u := .bool d5) (v := .slice a5 n5 c5))
          have HG6 := HG.out.far hsn (Zay _ _ _ _) (Zas (i := 0) (j := 1) (u := .bool d5) (v := .slice a5 n5 c5))
          have hsr6 : Slot ((w5.setCell ⟨w.heap.size, 0, none⟩ (.bool d5)).setCell ⟨w.heap.size, 1, none⟩ (.slice a5 n5 c5)) (w.heap.size + 2) #[.bool false, .slice none 0 0, .bool false, .slice none 0 0] := hsr.other (Zas _ oM)
          have hlow6 : Below w.heap.size w ((w5.setCell ⟨w.heap.size, 0, none⟩ (.bool d5)).setCell ⟨w.heap.size, 1, none⟩ (.slice a5 n5 c5)) := (HLOW.out.setCell (p := ⟨_, _, _⟩) (Nat.le_refl _) _).setCell (p := ⟨_, _, _⟩) (Nat.le_refl _) _
          rw [hW6'] at hsn6 H56 HID6 HG6 hsr6 hlow6 hsd' hsg' y0 y1 y2 y3 y4 y5 g0 g1 g2
          have H56 := Lib.hid H56
          have HID6 := Lib.hid HID6
          have HG6 := Lib.hid HG6
          have HLOW6 := Lib.hid hlow6
          clear hlow6 hW6 hW6' x0 x1 x2 x3 x4 x5
          with_reducible refine (exact_c (Zbs HID6.out HF.out.2.2.2) (Zbs HG6.out HGP.out.2.1) ?_ ?_ ?_ HGP.out.2.2.2).mono ?_
          · exact Nat.le_refl _
          · exact Nat.le_refl _
          · have := HGP.out.1; omega
          rintro e w7 ⟨v7, rfl, hb, uq, rfl, h7⟩
          obtain ⟨a7, n7, c7, rfl⟩ := h7.agg
          have hsn := hsn6.below hb
          have hsd := hsd'.below hb
          have hsr := hsr6.below hb
          have H5 := Lib.hid (H56.out.below hb)
          have HLOW := Lib.hid (Zak HLOW6.out hb)
          have H7 := Lib.hid h7
          generalize hgx : decide (d / g < 0) = d7 at *
          have HGX7 := Lib.hid hgx
          clear hb h7 hgx y0 y1 y2 y3 y4 y5 g0 g1 g2 HID6 HG6 HLOW6 hsr6 hsd' hsg' hsn6 H56
          have hsn' := hsn.other (show w.heap.size ≠ w.heap.size + 1 by omega) (.bool d7) (.slice a7 n7 c7)
          have hsd' := hsd.put (.bool d7) (.slice a7 n7 c7)
          have hsr' : Slot ((w7.setCell ⟨w.heap.size + 1, 0, none⟩ (.bool d7)).setCell ⟨w.heap.size + 1, 1, none⟩ (.slice a7 n7 c7)) (w.heap.size + 2) #[.bool false, .slice none 0 0, .bool false, .slice none 0 0] := hsr.other (Zas _ oM)
          have H57 := Lib.hid (H5.out.far hsd (Zay _ _ _ _) (Zas (i := 0) (j := 1) (u := .bool d7) (v := .slice a7 n7 c7)))
          have H77 := Lib.hid (H7.out.far hsd (Zay _ _ _ _) (Zas (i := 0) (j := 1) (u := .bool d7) (v := .slice a7 n7 c7)))
          have hlow' : Below w.heap.size w ((w7.setCell ⟨w.heap.size + 1, 0, none⟩ (.bool d7)).setCell ⟨w.heap.size + 1, 1, none⟩ (.slice a7 n7 c7)) := (HLOW.out.setCell (p := ⟨_, _, _⟩) (Nat.le_succ _) _).setCell (p := ⟨_, _, _⟩) (Nat.le_succ _) _
          have HLOW' := Lib.hid hlow'
          clear hlow'
          obtain ⟨y0, y1, y2, y3, y4, y5⟩ := hsd.two
          obtain ⟨x0, x1, x2, -, -, -⟩ := hsn'.two
          obtain ⟨p0, p1, p2, p3, p4, p5, p6, p7, r0, r1, r2, r3⟩ := hsr'.four
          go_wp2
          exact bodyPost_ret (v := .agg #[.bool d5, .slice a5 n5 c5, .bool d7, .slice a7 n7 c7]) (by simp [results, Tryz.results94, go_sem, r0, r1, r2, r3]) rfl
            (.mk rfl (Zcp HLOW'.out oM _ _ _ _) (by
              show RatC _ _ _
              rw [← HQQ.out]
              refine RatC.far (w' := put4 _ (w.heap.size + 2) (.bool d5) (.slice a5 n5 c5) (.bool d7) (.slice a7 n7 c7)) ⟨_, _, _, _, rfl, ?_, ?_⟩ hsr' (Zb0 _ _ _ _ _ _ _ _) Zbv
              · rw [hP.out.1]; exact H57.out
              · rw [hP.out.2]; exact H77.out))
def RatV (w : World) (u : Value) (k : Nat) (q : Rat) : Prop := ∃ p d, RatR w u k p d ∧ q = Rat.divInt p d
theorem RatV.below {w w' : World} {u : Value} {k : Nat} {q : Rat} (h : RatV w u k q) (hb : Below w.heap.size w w') : RatV w' u k q := by
 obtain ⟨p, d, h1, h2⟩ := h
 exact ⟨p, d, h1.below hb, h2⟩
theorem IntR.agg {w : World} {u : Value} {k : Nat} {z : Int} (h : IntR w u k z) : ∃ b a n c, u = .agg #[.bool b, .slice a n c] := by
 obtain ⟨g, s, n, f, rfl, ⟨a, c, rfl, _⟩, _⟩ := h
 exact ⟨g, a, n, c, rfl⟩
theorem RatV.open {w : World} {u : Value} {k : Nat} {q : Rat} (h : RatV w u k q) :
  ∃ (x : Bool) (a : Option Addr) (n c : Nat) (x' : Bool) (a' : Option Addr) (n' c' : Nat) (p d : Int), u = .agg #[.bool x, .slice a n c, .bool x', .slice a' n' c'] ∧ IntR w (.agg #[.bool x, .slice a n c]) k p ∧ IntR w (.agg #[.bool x', .slice a' n' c']) k d ∧ q = Rat.divInt p d := by
 obtain ⟨p, d, ⟨a0, a1, b0, b1, rfl, h1, h2⟩, hq⟩ := h
 obtain ⟨b, a, n, c, e1⟩ := h1.agg
 obtain ⟨b', a', n', c', e2⟩ := h2.agg
 injection e1 with e1; injection e1 with e1; simp at e1
 injection e2 with e2; injection e2 with e2; simp at e2
 obtain ⟨rfl, rfl⟩ := e1
 obtain ⟨rfl, rfl⟩ := e2
 exact ⟨b, a, n, c, b', a', n', c', p, d, rfl, h1, h2, hq⟩
def Ht (q : Rat) (k : Nat) : Prop := q.num.natAbs < pw k ∧ (q.den : Int) < pw k
theorem Ht.mono {q : Rat} {k l : Nat} (h : Ht q k) (hl : k ≤ l) : Ht q l := ⟨Int.lt_of_lt_of_le h.1 (Zed _ _ hl), Int.lt_of_lt_of_le h.2 (Zed _ _ hl)⟩
theorem RatC.v {w : World} {u : Value} {q : Rat} {k : Nat} (h : RatC w u q) (hk : Ht q k) : RatV w u k q := by
 obtain ⟨a0, a1, b0, b1, e, h1, h2⟩ := h
 exact ⟨q.num, q.den, ⟨a0, a1, b0, b1, e, h1.raw hk.1, h2.raw (by rw [Int.natAbs_natCast]; exact hk.2)⟩, (Rat.num_divInt_den q).symm⟩
theorem Zdd {a b : Int} {k l : Nat} (ha : a.natAbs < pw k) (hb : b.natAbs < pw l) : (a * b).natAbs < pw (k + l) := by
 rw [pw_add, Int.natAbs_mul, Int.natCast_mul]
 have h1 : (a.natAbs : Int) * b.natAbs ≤ a.natAbs * pw l := Int.mul_le_mul_of_nonneg_left oM oM
 have h2 : (a.natAbs : Int) * pw l < pw k * pw l := Int.mul_lt_mul_of_pos_right ha (Zch l)
 omega
theorem add_lt_pw {a b : Int} {k : Nat} (ha : a.natAbs < pw k) (hb : b.natAbs < pw k) : (a + b).natAbs < pw (k + 1) := by
 have h1 : pw (k + 1) = pw k * 4294967296 := rfl
 have h2 := Zch k
 omega
theorem big_of {z : Int} {k : Nat} (h : z.natAbs < pw k) (hk : k ≤ 8796093022208) : z.natAbs < BIG := Int.lt_of_lt_of_le h (big_le hk)
theorem Zeq {p d : Int} {k : Nat} (hp : p.natAbs < pw k) (hd : d.natAbs < pw k) (hk : 1 ≤ k) : Ht (Rat.divInt p d) k := by
 have h1 : (1 : Int) < pw k := by
  have := Zed 1 k hk
  have e : pw 1 = 4294967296 := dC
  omega
 by_cases h0 : d = 0
 ·subst h0
  rw [Rat.divInt_zero]
  exact ⟨by have := Zch k; simpa using this, by simpa using h1⟩
 ·have hpos : ∀ {p d : Int}, 0 < d → p.natAbs < pw k → d.natAbs < pw k → Ht (Rat.divInt p d) k := by
   intro p d h hp hd
   obtain ⟨e1, e2⟩ := Zcv (n := p) h
   have g := gcdZ_pos (n := p) h
   refine ⟨?_, ?_⟩
   ·rw [e1]
    have := Int.natAbs_ediv_le_natAbs p (gcdZ p d)
    omega
   ·rw [e2]
    have := Int.ediv_le_self (gcdZ p d) (a := d) oM
    omega
  rcases Int.lt_or_gt_of_ne h0 with h | h
  ·rw [← Rat.neg_divInt_neg]
   exact hpos oM oM oM
  ·exact hpos h hp hd
theorem RatV.ht {w : World} {u : Value} {k : Nat} {q : Rat} (h : RatV w u k q) (hk : 1 ≤ k) : Ht q k := by
 obtain ⟨p, d, ⟨a0, a1, b0, b1, _, h1, h2⟩, rfl⟩ := h
 exact Zeq h1.lt h2.lt hk
theorem ht_den_pos (q : Rat) : (0 : Int) < q.den := by have := q.den_pos; omega
theorem Zbq {q r : Rat} {k l : Nat} (hq : Ht q k) (hr : Ht r l) (hk : 1 ≤ k) : Ht (q * r) (k + l) := by
 have e : q * r = Rat.divInt (q.num * r.num) (q.den * r.den) := by
  conv => lhs; rw [← Rat.num_divInt_den q, ← Rat.num_divInt_den r, Rat.divInt_mul_divInt]
 rw [e]
 exact Zeq (Zdd hq.1 hr.1) (Zdd (by rw [Int.natAbs_natCast]; exact hq.2) (by rw [Int.natAbs_natCast]; exact hr.2)) oM
theorem Zgy {q r : Rat} {k l : Nat} (hq : Ht q k) (hr : Ht r l) : Ht (q + r) (k + l + 1) := by
 have h1 := ht_den_pos q
 have h2 := ht_den_pos r
 have e : q + r = Rat.divInt (q.num * r.den + r.num * q.den) (q.den * r.den) := by
  conv => lhs; rw [← Rat.num_divInt_den q, ← Rat.num_divInt_den r, Rat.divInt_add_divInt _ _ oM oM]
 rw [e]
 have a1 : ((q.den : Int)).natAbs < pw k := by rw [Int.natAbs_natCast]; exact hq.2
 have a2 : ((r.den : Int)).natAbs < pw l := by rw [Int.natAbs_natCast]; exact hr.2
 refine Zeq (add_lt_pw (Zdd hq.1 a2) (by rw [Nat.add_comm k l]; exact Zdd hr.1 a1)) ?_ oM
 exact Int.lt_of_lt_of_le (Zdd a1 a2) (Zed _ _ oM)
theorem ht_neg {q : Rat} {k : Nat} (hq : Ht q k) : Ht (-q) k := by
 refine ⟨?_, ?_⟩
 ·rw [Rat.neg_num, Int.natAbs_neg]; exact hq.1
 ·rw [Rat.neg_den]; exact hq.2
theorem ht_inv {q : Rat} {k : Nat} (hq : Ht q k) (hk : 1 ≤ k) : Ht q⁻¹ k := by
 rw [Rat.inv_def]
 exact Zeq (by rw [Int.natAbs_natCast]; exact hq.2) hq.1 hk
def OneR (z : Int) (_ : World) (u : Value) : Prop := ∃ b, u = .bool b ∧ (b = true → z = 1)
set_option maxHeartbeats 2000000 in
theorem one_r {w : World} {u : Value} {k : Nat} {z : Int} (h : IntR w u k z) (hk : k ≤ 8796093022208) : Calls Tryz.prog 126 #[u] w (Ret w (OneR z)) := by
 obtain ⟨ng, s, n, f, rfl, hd, hn, hz⟩ := h
 have HZ := Lib.hid hz
 clear hz
 obtain ⟨a, cap, rfl, hcap, hd⟩ := hd
 by_cases h1 : n = 1
 ·subst h1
  rcases hd with hd | ⟨b, off, rfl, hd⟩
  ·omega
  have hq0 : w.cell? ⟨b, off, none⟩ = some (.int .u32 (f 0)) := hd.cell 0 oM
  have hq : (w.alloc (.cells #[.bool ng, .slice (some ⟨b, off, none⟩) 1 cap] 37)).cell? ⟨b, off, none⟩ = some (.int .u32 (f 0)) := (Zg2 (lt_of_cell hq0)).trans hq0
  clear hd hq0
  by_cases h2 : f 0 = 1
  ·have HX := Lib.hid h2
   have hb : (f 0 == 1) = true := by simp [h2]
   clear h2
   cases ng
   ·go_enter Tryz.func126, Tryz.ntmps126
    go_wp2
    go_ret
    exact .mk rfl (Zai _) ⟨true, rfl, fun _ => by rw [HZ.out]; simp [zof, val, pw, HX.out]⟩
   ·go_enter Tryz.func126, Tryz.ntmps126
    go_wp2
    go_ret
    exact .mk rfl (Zai _) ⟨false, rfl, fun e => by cases e⟩
  ·have hb : (f 0 == 1) = false := by simp [h2]
   clear h2
   go_enter Tryz.func126, Tryz.ntmps126
   go_wp2
   go_ret
   exact .mk rfl (Zai _) ⟨false, rfl, fun e => by cases e⟩
 ·have hb : ((n : Int) == 1) = false := by simp; omega
  clear h1 hd
  go_enter Tryz.func126, Tryz.ntmps126
  go_wp2
  go_ret
  exact .mk rfl (Zai _) ⟨false, rfl, fun e => by cases e⟩
theorem kset4 {r : Nat} {W0 W : World} (h : Hid (Below r W0 W)) (u0 u1 u2 u3 : Value) : Hid (Below r W0 ((((W.setCell ⟨r, 0, none⟩ u0).setCell ⟨r, 1, none⟩ u1).setCell ⟨r, 2, none⟩ u2).setCell ⟨r, 3, none⟩ u3)) :=
 Zcp h.out (Nat.le_refl r) u0 u1 u2 u3
theorem Zeg {a b : Int} {k l : Nat} (ha : a.natAbs < pw k) (hb : b.natAbs < pw l) (hk : k ≤ 2199023255552) (hl : l ≤ 2199023255552) : (a * b).natAbs < BIG := big_of (Zdd ha hb) oM
set_option maxHeartbeats 4000000 in
theorem rmul_c {w : World} {u0 : Value} {q0 : Rat} {K0 : Nat} (h0 : RatV w u0 K0 q0) (hk0 : K0 ≤ 2199023255552) {u1 : Value} {q1 : Rat} {K1 : Nat} (h1 : RatV w u1 K1 q1) (hk1 : K1 ≤ 2199023255552) : Calls Tryz.prog 92 #[u0, u1] w (Ret w (RatP (q0 * q1))) := by
 have HV0 := Lib.hid h0
 obtain ⟨xa0, aa0, na0, ca0, xb0, ab0, nb0, cb0, p0, d0, rfl, hp0, hd0, hq0⟩ := h0.open
 have HP0 := Lib.hid hp0
 have HD0 := Lib.hid hd0
 have HQ0 := Lib.hid hq0
 clear hp0 hd0 hq0 h0
 have HV1 := Lib.hid h1
 obtain ⟨xa1, aa1, na1, ca1, xb1, ab1, nb1, cb1, p1, d1, rfl, hp1, hd1, hq1⟩ := h1.open
 have HP1 := Lib.hid hp1
 have HD1 := Lib.hid hd1
 have HQ1 := Lib.hid hq1
 clear hp1 hd1 hq1 h1
 go_enter Tryz.func92, Tryz.ntmps92
 go_wp2_with fail
 generalize hW0 : World.alloc _ _ = W0
 have hsize : W0.heap.size = w.heap.size + 3 := by rw [← hW0]; simp
 have hB : Hid (Below w.heap.size w W0) := by
  rw [← hW0]
  exact (((Below.refl _ _).alloc (by (try simp only [World.size_alloc]); omega) _).alloc (by (try simp only [World.size_alloc]); omega) _).alloc (by (try simp only [World.size_alloc]); omega) _
 have hc00 : ∀ W, Hid (Below (w.heap.size + 2) W0 W) → W.cell? ⟨w.heap.size, 0, none⟩ = some (Value.bool xa0) := hcW hW0
 have hc01 : ∀ W, Hid (Below (w.heap.size + 2) W0 W) → W.cell? ⟨w.heap.size, 1, none⟩ = some (Value.slice aa0 na0 ca0) := hcW hW0
 have hc02 : ∀ W, Hid (Below (w.heap.size + 2) W0 W) → W.cell? ⟨w.heap.size, 2, none⟩ = some (Value.bool xb0) := hcW hW0
 have hc03 : ∀ W, Hid (Below (w.heap.size + 2) W0 W) → W.cell? ⟨w.heap.size, 3, none⟩ = some (Value.slice ab0 nb0 cb0) := hcW hW0
 have hc10 : ∀ W, Hid (Below (w.heap.size + 2) W0 W) → W.cell? ⟨(w.heap.size + 1), 0, none⟩ = some (Value.bool xa1) := hcW hW0
 have hc11 : ∀ W, Hid (Below (w.heap.size + 2) W0 W) → W.cell? ⟨(w.heap.size + 1), 1, none⟩ = some (Value.slice aa1 na1 ca1) := hcW hW0
 have hc12 : ∀ W, Hid (Below (w.heap.size + 2) W0 W) → W.cell? ⟨(w.heap.size + 1), 2, none⟩ = some (Value.bool xb1) := hcW hW0
 have hc13 : ∀ W, Hid (Below (w.heap.size + 2) W0 W) → W.cell? ⟨(w.heap.size + 1), 3, none⟩ = some (Value.slice ab1 nb1 cb1) := hcW hW0
 have hr : Slot W0 (w.heap.size + 2) #[.bool false, .slice none 0 0, .bool false, .slice none 0 0] := by rw [← hW0]; exact ⟨_, by (repeat rw [Zbt (by simp only [World.size_alloc]; omega)]); rw [Zbu (by (try simp only [World.size_alloc]))]⟩
 clear hW0
 have hr := hr.drew
 have hs := Lib.hid ((Below.refl (w.heap.size + 2) W0).drew)
 go_region_held3 (fun W => Hid (Below (w.heap.size + 2) W0 W)) (first | assumption | (exact kset4 (by assumption) _ _ _ _) | (exact Zbr (by assumption) hb oM))
  (first
   | (go_at_call 123; (with_reducible refine (mul_c (HP0.out.below (now hB (by assumption) oM)) (HP1.out.below (now hB (by assumption) oM)) ?_ ?_).mono ?_); (omega); (omega); rintro e w1 ⟨v1, rfl, hb, h9⟩; have hr := hr.below hb; have H1 := Lib.hid (show IntC w1 v1 (p0 * p1) from h9); clear h9)
   | (go_at_call 123; (with_reducible refine (mul_c (HD0.out.below (now hB (by assumption) oM)) (HD1.out.below (now hB (by assumption) oM)) ?_ ?_).mono ?_); (omega); (omega); rintro e w2 ⟨v2, rfl, hb, h9⟩; have hr := hr.below hb; have H1 := Lib.hid (H1.out.below hb); have H2 := Lib.hid (show IntC w2 v2 (d0 * d1) from h9); clear h9)
   | (go_at_call 94; (with_reducible refine (over_c (Zbs H1.out ?_) (Zbs H2.out ?_) ?_ ?_).mono ?_); (exact Zeg HP0.out.lt HP1.out.lt hk0 hk1); (exact Zeg HD0.out.lt HD1.out.lt hk0 hk1); (exact Nat.le_refl _); (exact Nat.le_refl _); rintro e w9 ⟨v9, rfl, hb, h9⟩; have hr := hr.below hb; have HF : Hid (RatC w9 v9 (q0 * q1)) := (by rw [HQ0.out, HQ1.out, Rat.divInt_mul_divInt]; exact h9); clear h9; obtain ⟨y0, y1, y2, y3, y4, y5, y6, y7, rfl⟩ := HF.out.agg; obtain ⟨t0, t1, t2, t3, t4, t5, t6, t7, r0, r1, r2, r3⟩ := hr.four)
  )
 have HB := Lib.hid (now hB (by assumption) oM : Below w.heap.size w _)
 clear hs hc00 hc01 hc02 hc03 hc10 hc11 hc12 hc13
 go_wp2
 exact bodyPost_ret (v := .agg #[.bool y0, .slice y1 y2 y3, .bool y4, .slice y5 y6 y7]) (by simp [results, Tryz.results92, go_sem, r0, r1, r2, r3]) rfl
  (.mk rfl HB.out (RatC.far (w' := put4 _ _ (.bool y0) (.slice y1 y2 y3) (.bool y4) (.slice y5 y6 y7)) HF.out hr (Zb0 _ _ _ _ _ _ _ _) Zbv))
set_option maxHeartbeats 4000000 in
theorem rneg_c {w : World} {u0 : Value} {q0 : Rat} {K0 : Nat} (h0 : RatV w u0 K0 q0) (hk0 : K0 ≤ 2199023255552) : Calls Tryz.prog 113 #[u0] w (Ret w (RatP (-q0))) := by
 have HV0 := Lib.hid h0
 obtain ⟨xa0, aa0, na0, ca0, xb0, ab0, nb0, cb0, p0, d0, rfl, hp0, hd0, hq0⟩ := h0.open
 have HP0 := Lib.hid hp0
 have HD0 := Lib.hid hd0
 have HQ0 := Lib.hid hq0
 clear hp0 hd0 hq0 h0
 go_enter Tryz.func113, Tryz.ntmps113
 go_wp2_with fail
 generalize hW0 : World.alloc _ _ = W0
 have hsize : W0.heap.size = w.heap.size + 2 := by rw [← hW0]; simp
 have hB : Hid (Below w.heap.size w W0) := by
  rw [← hW0]
  exact ((Below.refl _ _).alloc (by (try simp only [World.size_alloc]); omega) _).alloc (by (try simp only [World.size_alloc]); omega) _
 have hc00 : ∀ W, Hid (Below (w.heap.size + 1) W0 W) → W.cell? ⟨w.heap.size, 0, none⟩ = some (Value.bool xa0) := hcW hW0
 have hc01 : ∀ W, Hid (Below (w.heap.size + 1) W0 W) → W.cell? ⟨w.heap.size, 1, none⟩ = some (Value.slice aa0 na0 ca0) := hcW hW0
 have hc02 : ∀ W, Hid (Below (w.heap.size + 1) W0 W) → W.cell? ⟨w.heap.size, 2, none⟩ = some (Value.bool xb0) := hcW hW0
 have hc03 : ∀ W, Hid (Below (w.heap.size + 1) W0 W) → W.cell? ⟨w.heap.size, 3, none⟩ = some (Value.slice ab0 nb0 cb0) := hcW hW0
 have hr : Slot W0 (w.heap.size + 1) #[.bool false, .slice none 0 0, .bool false, .slice none 0 0] := by rw [← hW0]; exact ⟨_, by (repeat rw [Zbt (by simp only [World.size_alloc]; omega)]); rw [Zbu (by (try simp only [World.size_alloc]))]⟩
 clear hW0
 have hr := hr.drew
 have hs := Lib.hid ((Below.refl (w.heap.size + 1) W0).drew)
 go_region_held3 (fun W => Hid (Below (w.heap.size + 1) W0 W)) (first | assumption | (exact kset4 (by assumption) _ _ _ _) | (exact Zbr (by assumption) hb oM))
  (first
   | (go_at_call 129; (with_reducible refine (neg_c (HP0.out.below (now hB (by assumption) oM)) ?_).mono ?_); (omega); rintro e w1 ⟨v1, rfl, hb, h9⟩; have hr := hr.below hb; have H1 := Lib.hid (show IntC w1 v1 (-p0) from h9); clear h9)
   | (go_at_call 94; (with_reducible refine (over_c (Zbs H1.out ?_) (HD0.out.below (now hB (by assumption) oM)) ?_ ?_).mono ?_); (rw [Int.natAbs_neg]; exact big_of HP0.out.lt oM); (exact Nat.le_refl _); (omega); rintro e w9 ⟨v9, rfl, hb, h9⟩; have hr := hr.below hb; have HF : Hid (RatC w9 v9 (-q0)) := (by rw [HQ0.out, Rat.neg_divInt]; exact h9); clear h9; obtain ⟨y0, y1, y2, y3, y4, y5, y6, y7, rfl⟩ := HF.out.agg; obtain ⟨t0, t1, t2, t3, t4, t5, t6, t7, r0, r1, r2, r3⟩ := hr.four)
  )
 have HB := Lib.hid (now hB (by assumption) oM : Below w.heap.size w _)
 clear hs hc00 hc01 hc02 hc03
 go_wp2
 exact bodyPost_ret (v := .agg #[.bool y0, .slice y1 y2 y3, .bool y4, .slice y5 y6 y7]) (by simp [results, Tryz.results113, go_sem, r0, r1, r2, r3]) rfl
  (.mk rfl HB.out (RatC.far (w' := put4 _ _ (.bool y0) (.slice y1 y2 y3) (.bool y4) (.slice y5 y6 y7)) HF.out hr (Zb0 _ _ _ _ _ _ _ _) Zbv))
end Hp
