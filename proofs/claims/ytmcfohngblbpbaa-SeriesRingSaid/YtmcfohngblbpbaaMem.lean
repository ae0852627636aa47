/- How slices of digits lie in memory, and that they stay as they are while memory grows; no condition. -/
import Derived.Test.YtmcfohngblbpbaaMath
import Derived.WalkKit
import Derived.WalkSpells
import Derived.Lib.Hide
import Derived.Deep.Draws
import Derived.Deep.RegionHeld3
import Derived.Deep.DeepCutAuto
import Derived.Deep.QuietTactic
import Derived.BigQuiet
import Derived.KernelRfl
import Derived.WalkLawsBesides
namespace Hp
open Go Go.RowKit

/-- a call that returns a value and leaves what was there as it was -/
def Ret (w : World) (R : World → Value → Prop) (e : Ending) (w' : World) : Prop := ∃ v, e = .returned v ∧ Below w.heap.size w w' ∧ R w' v

/-- a call that returns a value and turns nothing -/
def RetQ (w : World) (R : Value → Prop) (e : Ending) (w' : World) : Prop := ∃ v, e = .returned v ∧ w = w' ∧ R v
theorem RetQ.mk {w : World} {R : Value → Prop} {e : Ending} {v : Value} (he : e = .returned v) (h : R v) : RetQ w R e w := ⟨v, he, rfl, h⟩
theorem Ret.mk {w : World} {R : World → Value → Prop} {e : Ending} {w' : World} {v : Value} (he : e = .returned v) (hb : Below w.heap.size w w') (h : R w' v) : Ret w R e w' := ⟨v, he, hb, h⟩

/-- the digits lie in block b from off on -/
structure DgAt (w : World) (b off n : Nat) (f : Nat → Int) : Prop where
  cell : ∀ i, i < n → w.cell? ⟨b, off + i, none⟩ = some (.int .u32 (f i))
  dig : Digs f n

/-- v is a slice of n digits f -/
def Dg (w : World) (v : Value) (n : Nat) (f : Nat → Int) : Prop :=
  ∃ a cap, v = .slice a n cap ∧ n ≤ cap ∧ (n = 0 ∨ ∃ b off, a = some ⟨b, off, none⟩ ∧ DgAt w b off n f)

theorem Dg.dig {w : World} {v : Value} {n : Nat} {f : Nat → Int} (h : Dg w v n f) : Digs f n := by
  obtain ⟨a, cap, _, _, rfl | ⟨b, off, _, h⟩⟩ := h
  · intro i hi; omega
  · exact h.dig
theorem lt_of_cell {w : World} {b o : Nat} {v : Value} (h : w.cell? ⟨b, o, none⟩ = some v) : b < w.heap.size := World.block_lt_of_cell? w _ h
theorem DgAt.below {w w' : World} {b off n : Nat} {f : Nat → Int} (h : DgAt w b off n f) (hb : Below w.heap.size w w') : DgAt w' b off n f :=
  ⟨fun i hi => by have := h.cell i hi; rw [← this]; exact hb.cell (lt_of_cell this), h.dig⟩
theorem Dg.below {w w' : World} {v : Value} {n : Nat} {f : Nat → Int} (h : Dg w v n f) (hb : Below w.heap.size w w') : Dg w' v n f := by
  obtain ⟨a, cap, h1, h2, h3 | ⟨b, off, h3, h4⟩⟩ := h
  · exact ⟨a, cap, h1, h2, .inl h3⟩
  · exact ⟨a, cap, h1, h2, .inr ⟨b, off, h3, h4.below hb⟩⟩
theorem Dg.nil (w : World) (f : Nat → Int) : Dg w (.slice none 0 0) 0 f := ⟨none, 0, rfl, by omega, .inl rfl⟩
/-- the first k digits -/
theorem Dg.take {w : World} {a : Option Addr} {n cap k : Nat} {f : Nat → Int} (h : Dg w (.slice a n cap) n f) (hk : k ≤ n) : Dg w (.slice a k cap) k f := by
  obtain ⟨a', cap', h1, h2, h3⟩ := h
  injection h1 with h1 _ h4
  subst h1 h4
  refine ⟨a, cap, rfl, by omega, ?_⟩
  by_cases h0 : k = 0
  · exact .inl h0
  · rcases h3 with h3 | ⟨b, off, h3, h4⟩
    · omega
    · exact .inr ⟨b, off, h3, fun i hi => h4.cell i (by omega), fun i hi => h4.dig i (by omega)⟩
theorem Dg.congr {w : World} {v : Value} {n : Nat} {f g : Nat → Int} (h : Dg w v n f) (hg : ∀ i, i < n → f i = g i) : Dg w v n g := by
  obtain ⟨a, cap, h1, h2, h3 | ⟨b, off, h3, h4⟩⟩ := h
  · exact ⟨a, cap, h1, h2, .inl h3⟩
  · exact ⟨a, cap, h1, h2, .inr ⟨b, off, h3, fun i hi => by rw [← hg i hi]; exact h4.cell i hi, fun i hi => by rw [← hg i hi]; exact h4.dig i hi⟩⟩

/-- a block of the call's own that holds n digits -/
structure Own (w : World) (b n : Nat) (f : Nat → Int) : Prop where
  cell : ∀ i, i < n → w.cell? ⟨b, i, none⟩ = some (.int .u32 (f i))
  free : ∀ i, w.frozen? ⟨b, i, none⟩ = false
theorem Own.set {w : World} {b n : Nat} {f : Nat → Int} (h : Own w b n f) {k : Nat} (hk : k < n) (x : Int) : Own (w.setCell ⟨b, k, none⟩ (.int .u32 x)) b n (set f k x) := by
  refine ⟨fun i hi => ?_, fun i => by rw [World.frozen?_setCell]; exact h.free i⟩
  unfold Hp.set
  split
  · rename_i e; subst e
    exact World.cell?_setCell_same _ _ _ (h.cell i hi)
  · rename_i e
    rw [World.cell?_setCell_other]
    · exact h.cell i hi
    · intro e'; injection e' with _ e'; exact e e'.symm
theorem Own.dg {w : World} {b n : Nat} {f : Nat → Int} (h : Own w b n f) (hd : Digs f n) {cap : Nat} (hc : n ≤ cap) : Dg w (.slice (some ⟨b, 0, none⟩) n cap) n f :=
  ⟨_, cap, rfl, hc, .inr ⟨b, 0, rfl, fun i hi => by rw [Nat.zero_add]; exact h.cell i hi, hd⟩⟩
/-- it stays as it is while others are written -/
theorem Own.keep {w w' : World} {b n : Nat} {f : Nat → Int} (h : Own w b n f) (hb : w'.heap[b]? = w.heap[b]?) : Own w' b n f :=
  ⟨fun i hi => by rw [World.cell?_of_block (w := w) (w' := w') hb]; exact h.cell i hi, fun i => by rw [World.frozen?_of_block (w := w) (w' := w') hb]; exact h.free i⟩
theorem Own.below {w w' : World} {b n : Nat} {f : Nat → Int} (h : Own w b n f) (hl : b < w.heap.size) (hb : Below w.heap.size w w') : Own w' b n f := h.keep (hb.block b hl)
theorem zero_dig : isDig 0 := ⟨Int.le_refl _, B_pos⟩

theorem madeCells_get (n i : Nat) (h : i < n) : (madeCells #[.int .u32 0] n)[i]? = some (.int .u32 0) := by
  have : i % 1 = 0 := Nat.mod_one i
  simp [madeCells, h, this]
/-- a new block of zeros -/
theorem Own.made (w : World) (n : Nat) (t : TypeId) : Own (w.alloc (.cells (madeCells #[.int .u32 0] n) t)) w.heap.size n (fun _ => 0) :=
  ⟨fun i hi => by rw [World.cell?_alloc_new]; exact madeCells_get n i hi, fun i => World.frozen?_alloc_new w _ t i⟩

/-- lengths of lists of digits that functions take -/
def L : Nat := 17592186044416

theorem below_new {w : World} (o : Obj) : Below w.heap.size w (w.alloc o) := (Below.refl _ _).alloc (Nat.le_refl _) o
theorem below_trans {a b c : World} (h : Below a.heap.size a b) (k : Below b.heap.size b c) : Below a.heap.size a c := h.trans (k.mono h.size)
theorem below_drewN (w : World) (n : Nat) : Below w.heap.size w (w.drewN n) := ⟨rfl, rfl, rfl, Nat.le_refl _, fun _ _ => rfl⟩

/-- a variable of the call's own with these cells, none of which is a digit -/
def Slot (w : World) (r : Nat) (cs : Array Value) : Prop := ∃ t, w.heap[r]? = some (.cells cs t (0, 0))
def NoDig (cs : Array Value) : Prop := ∀ (i : Nat) (d : Int), cs[i]? ≠ some (Value.int .u32 d)
theorem Slot.lt {w : World} {r : Nat} {cs : Array Value} (h : Slot w r cs) : r < w.heap.size := by
  obtain ⟨t, h⟩ := h
  exact (Array.getElem?_eq_some_iff.1 h).1
theorem Slot.cell {w : World} {r : Nat} {cs : Array Value} (h : Slot w r cs) (i : Nat) : w.cell? ⟨r, i, none⟩ = cs[i]? := by
  obtain ⟨t, h⟩ := h
  simp [World.cell?, h]
theorem Slot.free {w : World} {r : Nat} {cs : Array Value} (h : Slot w r cs) (i : Nat) : w.frozen? ⟨r, i, none⟩ = false := by
  obtain ⟨t, h⟩ := h
  simp [World.frozen?, h]
theorem Slot.below {w w' : World} {r : Nat} {cs : Array Value} (h : Slot w r cs) (hb : Below w.heap.size w w') : Slot w' r cs := by
  have hl := h.lt
  obtain ⟨t, h⟩ := h
  exact ⟨t, (hb.block r hl).trans h⟩
theorem Slot.drew {w : World} {r : Nat} {cs : Array Value} (h : Slot w r cs) : Slot w.drew r cs := h
theorem Slot.new (w : World) (cs : Array Value) (t : TypeId) : Slot (w.alloc (.cells cs t)) w.heap.size cs := ⟨t, heap_alloc_new w _⟩
theorem Slot.alloc {w : World} {r : Nat} {cs : Array Value} (h : Slot w r cs) (o : Obj) : Slot (w.alloc o) r cs := h.below (below_new o)
theorem Slot.set {w : World} {r : Nat} {cs : Array Value} (h : Slot w r cs) (i : Nat) (u : Value) : Slot (w.setCell ⟨r, i, none⟩ u) r (cs.setIfInBounds i u) := by
  obtain ⟨t, h⟩ := h
  refine ⟨t, ?_⟩
  simp only [World.setCell, Array.getElem?_modify, ↓reduceIte, h]
  rfl
/-- a step behind which what lies below r is as it was -/
theorem kstep {r : Nat} {W0 W W1 : World} (h : Hid (Below r W0 W)) (hb : Below W.heap.size W W1) (hr : r ≤ W0.heap.size) : Hid (Below r W0 W1) :=
  Below.trans h.out (hb.mono (Nat.le_trans hr h.out.size))
theorem now {B r : Nat} {w W0 W : World} (hB : Hid (Below B w W0)) (h : Hid (Below r W0 W)) (hr : B ≤ r) : Below B w W := hB.out.trans (h.out.mono hr)
theorem Dg.front {w : World} {s : Value} {a : Option Addr} {n cap k : Nat} {f : Nat → Int} (h : Dg w s n f) (e : s = .slice a n cap) (hk : k ≤ n) : Dg w (.slice a k cap) k f := by
  subst e; exact h.take hk
/-- digits do not lie in such a variable -/
theorem Dg.far {w w' : World} {r : Nat} {cs : Array Value} {v : Value} {n : Nat} {f : Nat → Int} (h : Dg w v n f) (hs : Slot w r cs) (hn : NoDig cs) (hw : ∀ k, k ≠ r → w'.heap[k]? = w.heap[k]?) : Dg w' v n f := by
  obtain ⟨a, cap, h1, h2, h3 | ⟨b, off, h3, h4⟩⟩ := h
  · exact ⟨a, cap, h1, h2, .inl h3⟩
  · refine ⟨a, cap, h1, h2, .inr ⟨b, off, h3, fun i hi => ?_, h4.dig⟩⟩
    have hc := h4.cell i hi
    by_cases hb : b = r
    · subst hb
      rw [hs.cell] at hc
      exact absurd hc (hn _ _)
    · rw [World.cell?_of_block (w := w) (w' := w') (hw b hb)]; exact hc
theorem far_set {w : World} {r i : Nat} {u : Value} : ∀ k, k ≠ r → (w.setCell ⟨r, i, none⟩ u).heap[k]? = w.heap[k]? := fun k hk => Below.heap_setCell _ _ _ _ hk
theorem far_set2 {w : World} {r i j : Nat} {u v : Value} : ∀ k, k ≠ r → ((w.setCell ⟨r, i, none⟩ u).setCell ⟨r, j, none⟩ v).heap[k]? = w.heap[k]? := fun k hk => (far_set k hk).trans (far_set k hk)

/-- a variable of two cells -/
def Slot2 (w : World) (r : Nat) (x y : Value) : Prop := Slot w r #[x, y]
structure Two (w : World) (r : Nat) (x y : Value) : Prop where
  c0 : w.cell? ⟨r, 0, none⟩ = some x
  c1 : w.cell? ⟨r, 1, none⟩ = some y
  fr : ∀ i, w.frozen? ⟨r, i, none⟩ = false
  w01 : ∀ u, (w.setCell ⟨r, 0, none⟩ u).cell? ⟨r, 1, none⟩ = some y
  r0 : ∀ u v, ((w.setCell ⟨r, 0, none⟩ u).setCell ⟨r, 1, none⟩ v).cell? ⟨r, 0, none⟩ = some u
  r1 : ∀ u v, ((w.setCell ⟨r, 0, none⟩ u).setCell ⟨r, 1, none⟩ v).cell? ⟨r, 1, none⟩ = some v
theorem Slot2.two {w : World} {r : Nat} {x y : Value} (h : Slot2 w r x y) : Two w r x y :=
  ⟨Slot.cell h 0, Slot.cell h 1, Slot.free h, fun u => (Slot.set h 0 u).cell 1, fun u v => ((Slot.set h 0 u).set 1 v).cell 0, fun u v => ((Slot.set h 0 u).set 1 v).cell 1⟩
theorem Slot2.below {w w' : World} {r : Nat} {x y : Value} (h : Slot2 w r x y) (hb : Below w.heap.size w w') : Slot2 w' r x y := Slot.below h hb
theorem Slot2.new (w : World) (x y : Value) (t : TypeId) : Slot2 (w.alloc (.cells #[x, y] t)) w.heap.size x y := Slot.new w _ t
theorem Slot2.drew {w : World} {r : Nat} {x y : Value} (h : Slot2 w r x y) : Slot2 w.drew r x y := h
theorem kset2 {r : Nat} {W0 W : World} (h : Hid (Below r W0 W)) (x y : Value) : Hid (Below r W0 ((W.setCell ⟨r, 0, none⟩ x).setCell ⟨r, 1, none⟩ y)) :=
  (Below.setCell (p := ⟨r, 0, none⟩) h.out (Nat.le_refl r) x).setCell (p := ⟨r, 1, none⟩) (Nat.le_refl r) y
theorem noDig2 {x y : Value} (hx : ∀ d : Int, x ≠ Value.int .u32 d) (hy : ∀ d : Int, y ≠ Value.int .u32 d) : NoDig #[x, y] := by
  intro i d h
  rcases i with _ | _ | i
  · simp at h; exact hx _ h
  · simp at h; exact hy _ h
  · simp at h
theorem noDigInt (b : Bool) (a : Option Addr) (n c : Nat) : NoDig #[.bool b, .slice a n c] := noDig2 (fun d h => by cases h) (fun d h => by cases h)
theorem heap_alloc_if (w : World) (o : Obj) (k : Nat) : (w.alloc o).heap[k]? = if k = w.heap.size then some o else w.heap[k]? := by
  show (w.heap.push o)[k]? = _
  rw [Array.getElem?_push]
theorem heap_new {w : World} {o : Obj} {k : Nat} (h : k = w.heap.size) : (w.alloc o).heap[k]? = some o := by rw [heap_alloc_if, if_pos h]
theorem heap_old {w : World} {o : Obj} {k : Nat} (h : k < w.heap.size) : (w.alloc o).heap[k]? = w.heap[k]? := by rw [heap_alloc_if, if_neg (by omega)]
theorem cell_new {w : World} {cs : Array Value} {t : TypeId} {fr : Nat × Nat} {k i : Nat} (h : k = w.heap.size) : (w.alloc (.cells cs t fr)).cell? ⟨k, i, none⟩ = cs[i]? := by
  unfold World.cell?; rw [heap_new h]; rfl
theorem cell_old {w : World} {o : Obj} {k i : Nat} (h : k < w.heap.size) : (w.alloc o).cell? ⟨k, i, none⟩ = w.cell? ⟨k, i, none⟩ := by
  unfold World.cell?; rw [heap_old h]
theorem Slot.other {w w' : World} {r : Nat} {cs : Array Value} (h : Slot w r cs) (hw : w'.heap[r]? = w.heap[r]?) : Slot w' r cs := by
  obtain ⟨t, h⟩ := h
  exact ⟨t, hw.trans h⟩
theorem Slot2.other {w : World} {r r' : Nat} {x y : Value} (h : Slot2 w r x y) (hne : r ≠ r') (u v : Value) : Slot2 ((w.setCell ⟨r', 0, none⟩ u).setCell ⟨r', 1, none⟩ v) r x y :=
  Slot.other h (far_set2 _ hne)
theorem Slot2.put {w : World} {r : Nat} {x y : Value} (h : Slot2 w r x y) (u v : Value) : Slot2 ((w.setCell ⟨r, 0, none⟩ u).setCell ⟨r, 1, none⟩ v) r u v :=
  (Slot.set h 0 u).set 1 v
theorem kset2' {r r' : Nat} {W0 W : World} (h : Hid (Below r W0 W)) (hr : r ≤ r') (x y : Value) : Hid (Below r W0 ((W.setCell ⟨r', 0, none⟩ x).setCell ⟨r', 1, none⟩ y)) :=
  (Below.setCell (p := ⟨r', 0, none⟩) h.out hr x).setCell (p := ⟨r', 1, none⟩) hr y
end Hp
