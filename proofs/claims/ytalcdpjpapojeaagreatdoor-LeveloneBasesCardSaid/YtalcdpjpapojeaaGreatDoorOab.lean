/- Plain arithmetic of digit lists to base 2^32. -/
import Derived.WalkKit
import Derived.WalkSpells
import Derived.Lib.Hide
import Derived.Deep.Draws
import Derived.Deep.RegionHeld3
import Derived.Deep.DeepCutAuto
import Derived.Deep.QuietTactic
import Derived.BigQuiet
import Derived.KernelRfl
import Derived.WalkLawsBesides
import Derived.Test.YtalcdpjpapojeaaGreatDoorRows
set_option linter.all false
namespace Hp
open Go
theorem oM {p : Prop} (h : p := by omega) : p := h
theorem dC {p : Prop} (h : p := by decide) : p := h
def B : Int := 4294967296
theorem B_pos : 0 < B := by unfold B; omega
theorem B_def : B = 4294967296 := rfl
def pw : Nat → Int
 | 0 => 1
 | n + 1 => pw n * B
theorem Zch : ∀ n, 0 < pw n
 | 0 => by simp [pw]
 | n + 1 => Int.mul_pos (Zch n) B_pos
theorem pw_add (m : Nat) : ∀ n, pw (m + n) = pw m * pw n
 | 0 => by simp [pw]
 | n + 1 => by show pw (m + n) * B = pw m * (pw n * B); rw [pw_add m n, Int.mul_assoc]
theorem Zed (m n : Nat) (h : m ≤ n) : pw m ≤ pw n := by
 obtain ⟨k, rfl⟩ := Nat.exists_eq_add_of_le h
 rw [pw_add]
 have h1 := Zch m
 have h2 := Zch k
 have : pw m * 1 ≤ pw m * pw k := Int.mul_le_mul_of_nonneg_left oM oM
 omega
theorem pw_lt (m n : Nat) (h : m < n) : pw m < pw n := by
 have h1 : pw (m + 1) ≤ pw n := Zed _ _ h
 have h2 := Zch m
 have h3 : pw (m + 1) = pw m * B := rfl
 have h4 : pw m * 2 ≤ pw m * B := Int.mul_le_mul_of_nonneg_left (by unfold B; omega) oM
 omega
def Zal (x : Int) : Prop := 0 ≤ x ∧ x < B
def Digs (f : Nat → Int) (n : Nat) : Prop := ∀ i, i < n → Zal (f i)
def val (f : Nat → Int) : Nat → Int
 | 0 => 0
 | n + 1 => val f n + f n * pw n
theorem Zam {f : Nat → Int} : ∀ {n}, Digs f n → 0 ≤ val f n
  | 0, _ => by simp [val]
  | n + 1, h => by
    have h1 := Zam (n := n) (fun i hi => h i oM)
    have h2 : 0 ≤ f n * pw n := Int.mul_nonneg (h n oM).1 (by have := Zch n; omega)
    simp only [val]; omega
theorem Zcg {f : Nat → Int} : ∀ {n}, Digs f n → val f n < pw n
  | 0, _ => by simp [val, pw]
  | n + 1, h => by
    have h1 := Zcg (n := n) (fun i hi => h i oM)
    have h2 := (h n oM).2
    have h3 := Zch n
    have h4 : f n * pw n ≤ (B - 1) * pw n := Int.mul_le_mul_of_nonneg_right oM oM
    simp only [val, pw]
    rw [Int.sub_mul, Int.one_mul, Int.mul_comm B] at h4
    omega
theorem Zc9 {f g : Nat → Int} : ∀ {n}, (∀ i, i < n → f i = g i) → val f n = val g n
 | 0, _ => rfl
 | n + 1, h => by simp only [val]; rw [Zc9 (n := n) (fun i hi => h i oM), h n oM]
theorem Zfr {f : Nat → Int} {k : Nat} : ∀ {n}, k ≤ n → (∀ i, k ≤ i → i < n → f i = 0) → val f n = val f k
  | 0, h, _ => by obtain rfl : k = 0 := oM
                  rfl
  | n + 1, h, h0 => by
    by_cases hk : k = n + 1
    · rw [hk]
    · simp only [val]; rw [h0 n oM oM, Zfr (n := n) oM (fun i a b => h0 i a oM)]; omega
def Zb2 (f : Nat → Int) (n : Nat) : Prop := n = 0 ∨ f (n - 1) ≠ 0
theorem Ze6 {f : Nat → Int} {n : Nat} (h : Digs f (n + 1)) (hc : Zb2 f (n + 1)) : pw n ≤ val f (n + 1) := by
 have h1 := Zam (n := n) (fun i hi => h i oM)
 have h2 := (h n oM).1
 have h3 : f n ≠ 0 := by rcases hc with h | h; (omega); simpa using h
 have h4 := Zch n
 have h5 : 1 * pw n ≤ f n * pw n := Int.mul_le_mul_of_nonneg_right oM oM
 simp only [val]; omega
theorem Zc5 {f : Nat → Int} {n : Nat} (h : Digs f n) (hc : Zb2 f n) : val f n = 0 ↔ n = 0 := by
 constructor
 ·intro h0
  rcases n with _ | n
  ·rfl
  ·have := Ze6 h hc; have := Zch n; omega
 ·rintro rfl; rfl
theorem Zcm {f g : Nat → Int} {n m : Nat} (hf : Digs f n) (hg : Digs g m) (cf : Zb2 f n) (h : val f n ≤ val g m) : n ≤ m := by
 rcases n with _ | n
 ·omega
 ·have h1 := Ze6 hf cf
  have h2 := Zcg hg
  by_cases hm : n + 1 ≤ m
  ·exact hm
  ·have := Zed m n oM; omega
theorem canon_len_eq {f g : Nat → Int} {n m : Nat} (hf : Digs f n) (hg : Digs g m) (cf : Zb2 f n) (cg : Zb2 g m) (h : val f n = val g m) : n = m := by
 have := Zcm hf hg cf oM
 have := Zcm hg hf cg oM
 omega
theorem val_inj {f g : Nat → Int} : ∀ {n}, Digs f n → Digs g n → val f n = val g n → ∀ i, i < n → f i = g i
  | 0, _, _, _, i, hi => oM
  | n + 1, hf, hg, h, i, hi => by
    have f1 := Zcg (n := n) (fun i hi => hf i oM)
    have g1 := Zcg (n := n) (fun i hi => hg i oM)
    have f0 := Zam (n := n) (fun i hi => hf i oM)
    have g0 := Zam (n := n) (fun i hi => hg i oM)
    have hp := Zch n
    simp only [val] at h
    have e : f n = g n := by
      have k1 : (f n - g n) * pw n = val g n - val f n := by rw [Int.sub_mul]; omega
      by_cases hc : f n = g n
      · exact hc
      · exfalso
        rcases Int.lt_or_gt_of_ne hc with hl | hl
        · have : (f n - g n) * pw n ≤ (-1) * pw n := Int.mul_le_mul_of_nonneg_right oM oM
          omega
        · have : 1 * pw n ≤ (f n - g n) * pw n := Int.mul_le_mul_of_nonneg_right oM oM
          omega
    by_cases hin : i = n
    · rw [hin]; exact e
    · refine val_inj (n := n) (fun i hi => hf i oM) (fun i hi => hg i oM) ?_ i oM
      rw [e] at h; omega
theorem Zfd {f g : Nat → Int} {j : Nat} : ∀ {n}, Digs f n → Digs g n → j < n → (∀ i, j < i → i < n → f i = g i) → f j < g j → val f n < val g n
  | 0, _, _, h, _, _ => oM
  | n + 1, hf, hg, hj, he, hl => by
    have f1 := Zcg (n := n) (fun i hi => hf i oM)
    have g0 := Zam (n := n) (fun i hi => hg i oM)
    have hp := Zch n
    simp only [val]
    by_cases hjn : j = n
    · subst hjn
      have : 1 * pw j ≤ (g j - f j) * pw j := Int.mul_le_mul_of_nonneg_right oM oM
      rw [Int.sub_mul] at this; omega
    · have := Zfd (n := n) (fun i hi => hf i oM) (fun i hi => hg i oM) oM (fun i a b => he i a oM) hl
      rw [he n oM oM]; omega
def ext (f : Nat → Int) (n : Nat) : Nat → Int := fun i => if i < n then f i else 0
theorem ext_dig {f : Nat → Int} {n : Nat} (h : Digs f n) (i : Nat) : Zal (ext f n i) := by
 unfold ext; split
 ·exact h i ‹_›
 ·exact ⟨Int.le_refl _, B_pos⟩
theorem val_ext {f : Nat → Int} {n m : Nat} (h : n ≤ m) : val (ext f n) m = val f n := by
 rw [Zfr (k := n) h (fun i a _ => by simp [ext]; omega)]
 exact Zc9 (fun i hi => by simp [ext, hi])
def set (f : Nat → Int) (k : Nat) (x : Int) : Nat → Int := fun i => if i = k then x else f i
theorem set_eq (f : Nat → Int) (k : Nat) (x : Int) : set f k x k = x := by simp [set]
theorem Zdc (f : Nat → Int) {k i : Nat} (x : Int) (h : i ≠ k) : set f k x i = f i := by simp [set, h]
theorem Zb5 (f : Nat → Int) {k n : Nat} (x : Int) (h : n ≤ k) : val (set f k x) n = val f n := Zc9 fun i hi => Zdc f x oM
theorem Zb4 {f : Nat → Int} {n k : Nat} {x : Int} (h : Digs f n) (hx : Zal x) : Digs (set f k x) n := fun i hi => by
 unfold set; split
 ·exact hx
 ·exact h i hi
theorem Zdf (s : Int) : s / B * B + s % B = s := Int.mul_comm B _ ▸ Int.mul_ediv_add_emod s B
theorem Zce (s : Int) : Zal (s % B) := ⟨Int.emod_nonneg _ (by unfold B; omega), Int.emod_lt_of_pos _ B_pos⟩
theorem plus_step {O A C c x y P s : Int} (h : O + c * P = A + C) (hs : s = x + y + c) : (O + s % B * P) + s / B * (P * B) = (A + x * P) + (C + y * P) := by
 have e := Zdf s
 subst hs
 grind
theorem minus_step {O A C c x y P s : Int} (h : O - c * P = A - C) (hs : s = x - y - c) : (O + s % B * P) - (-(s / B)) * (P * B) = (A + x * P) - (C + y * P) := by
 have e := Zdf s
 subst hs
 grind
end Hp
namespace Hp
open Go Go.RowKit
def Ret (w : World) (R : World → Value → Prop) (e : Ending) (w' : World) : Prop := ∃ v, e = .returned v ∧ Below w.heap.size w w' ∧ R w' v
def RetQ (w : World) (R : Value → Prop) (e : Ending) (w' : World) : Prop := ∃ v, e = .returned v ∧ w = w' ∧ R v
theorem RetQ.mk {w : World} {R : Value → Prop} {e : Ending} {v : Value} (he : e = .returned v) (h : R v) : RetQ w R e w := ⟨v, he, rfl, h⟩
theorem Ret.mk {w : World} {R : World → Value → Prop} {e : Ending} {w' : World} {v : Value} (he : e = .returned v) (hb : Below w.heap.size w w') (h : R w' v) : Ret w R e w' := ⟨v, he, hb, h⟩
structure DgAt (w : World) (b off n : Nat) (f : Nat → Int) : Prop where
 cell : ∀ i, i < n → w.cell? ⟨b, off + i, none⟩ = some (.int .u32 (f i))
 dig : Digs f n
def Dg (w : World) (v : Value) (n : Nat) (f : Nat → Int) : Prop :=
 ∃ a cap, v = .slice a n cap ∧ n ≤ cap ∧ (n = 0 ∨ ∃ b off, a = some ⟨b, off, none⟩ ∧ DgAt w b off n f)
theorem Dg.dig {w : World} {v : Value} {n : Nat} {f : Nat → Int} (h : Dg w v n f) : Digs f n := by
 obtain ⟨a, cap, _, _, rfl | ⟨b, off, _, h⟩⟩ := h
 ·intro i hi; omega
 ·exact h.dig
theorem lt_of_cell {w : World} {b o : Nat} {v : Value} (h : w.cell? ⟨b, o, none⟩ = some v) : b < w.heap.size := World.block_lt_of_cell? w _ h
theorem DgAt.below {w w' : World} {b off n : Nat} {f : Nat → Int} (h : DgAt w b off n f) (hb : Below w.heap.size w w') : DgAt w' b off n f :=
 ⟨fun i hi => by have := h.cell i hi; rw [← this]; exact hb.cell (lt_of_cell this), h.dig⟩
theorem Dg.below {w w' : World} {v : Value} {n : Nat} {f : Nat → Int} (h : Dg w v n f) (hb : Below w.heap.size w w') : Dg w' v n f := by
 obtain ⟨a, cap, h1, h2, h3 | ⟨b, off, h3, h4⟩⟩ := h
 ·exact ⟨a, cap, h1, h2, .inl h3⟩
 ·exact ⟨a, cap, h1, h2, .inr ⟨b, off, h3, h4.below hb⟩⟩
theorem Dg.nil (w : World) (f : Nat → Int) : Dg w (.slice none 0 0) 0 f := ⟨none, 0, rfl, oM, .inl rfl⟩
theorem Dg.take {w : World} {a : Option Addr} {n cap k : Nat} {f : Nat → Int} (h : Dg w (.slice a n cap) n f) (hk : k ≤ n) : Dg w (.slice a k cap) k f := by
 obtain ⟨a', cap', h1, h2, h3⟩ := h
 injection h1 with h1 _ h4
 subst h1 h4
 refine ⟨a, cap, rfl, oM, ?_⟩
 by_cases h0 : k = 0
 ·exact .inl h0
 ·rcases h3 with h3 | ⟨b, off, h3, h4⟩
  ·omega
  ·exact .inr ⟨b, off, h3, fun i hi => h4.cell i oM, fun i hi => h4.dig i oM⟩
structure Own (w : World) (b n : Nat) (f : Nat → Int) : Prop where
 cell : ∀ i, i < n → w.cell? ⟨b, i, none⟩ = some (.int .u32 (f i))
 free : ∀ i, w.frozen? ⟨b, i, none⟩ = false
theorem Own.set {w : World} {b n : Nat} {f : Nat → Int} (h : Own w b n f) {k : Nat} (hk : k < n) (x : Int) : Own (w.setCell ⟨b, k, none⟩ (.int .u32 x)) b n (set f k x) := by
 refine ⟨fun i hi => ?_, fun i => by rw [World.frozen?_setCell]; exact h.free i⟩
 unfold Hp.set
 split
 ·rename_i e; subst e
  exact World.cell?_setCell_same _ _ _ (h.cell i hi)
 ·rename_i e
  rw [World.cell?_setCell_other]
  ·exact h.cell i hi
  ·intro e'; injection e' with _ e'; exact e e'.symm
theorem Own.dg {w : World} {b n : Nat} {f : Nat → Int} (h : Own w b n f) (hd : Digs f n) {cap : Nat} (hc : n ≤ cap) : Dg w (.slice (some ⟨b, 0, none⟩) n cap) n f :=
 ⟨_, cap, rfl, hc, .inr ⟨b, 0, rfl, fun i hi => by rw [Nat.zero_add]; exact h.cell i hi, hd⟩⟩
theorem Own.keep {w w' : World} {b n : Nat} {f : Nat → Int} (h : Own w b n f) (hb : w'.heap[b]? = w.heap[b]?) : Own w' b n f :=
 ⟨fun i hi => by rw [World.cell?_of_block (w := w) (w' := w') hb]; exact h.cell i hi, fun i => by rw [World.frozen?_of_block (w := w) (w' := w') hb]; exact h.free i⟩
theorem Own.below {w w' : World} {b n : Nat} {f : Nat → Int} (h : Own w b n f) (hl : b < w.heap.size) (hb : Below w.heap.size w w') : Own w' b n f := h.keep (hb.block b hl)
theorem zero_dig : Zal 0 := ⟨Int.le_refl _, B_pos⟩
theorem madeCells_get (n i : Nat) (h : i < n) : (madeCells #[.int .u32 0] n)[i]? = some (.int .u32 0) := by
 have : i % 1 = 0 := Nat.mod_one i
 simp [madeCells, h, this]
theorem Own.made (w : World) (n : Nat) (t : TypeId) : Own (w.alloc (.cells (madeCells #[.int .u32 0] n) t)) w.heap.size n (fun _ => 0) :=
 ⟨fun i hi => by rw [World.cell?_alloc_new]; exact madeCells_get n i hi, fun i => World.frozen?_alloc_new w _ t i⟩
def L : Nat := 17592186044416
theorem Zai {w : World} (o : Obj) : Below w.heap.size w (w.alloc o) := (Below.refl _ _).alloc (Nat.le_refl _) o
theorem Zak {a b c : World} (h : Below a.heap.size a b) (k : Below b.heap.size b c) : Below a.heap.size a c := h.trans (k.mono h.size)
def Slot (w : World) (r : Nat) (cs : Array Value) : Prop := ∃ t, w.heap[r]? = some (.cells cs t (0, 0))
def NoDig (cs : Array Value) : Prop := ∀ (i : Nat) (d : Int), cs[i]? ≠ some (Value.int .u32 d)
theorem Slot.lt {w : World} {r : Nat} {cs : Array Value} (h : Slot w r cs) : r < w.heap.size := by
 obtain ⟨t, h⟩ := h
 exact (Array.getElem?_eq_some_iff.1 h).1
theorem Slot.cell {w : World} {r : Nat} {cs : Array Value} (h : Slot w r cs) (i : Nat) : w.cell? ⟨r, i, none⟩ = cs[i]? := by
 obtain ⟨t, h⟩ := h
 simp [World.cell?, h]
theorem Slot.free {w : World} {r : Nat} {cs : Array Value} (h : Slot w r cs) (i : Nat) : w.frozen? ⟨r, i, none⟩ = false := by
 obtain ⟨t, h⟩ := h
 simp [World.frozen?, h]
theorem Slot.below {w w' : World} {r : Nat} {cs : Array Value} (h : Slot w r cs) (hb : Below w.heap.size w w') : Slot w' r cs := by
 have hl := h.lt
 obtain ⟨t, h⟩ := h
 exact ⟨t, (hb.block r hl).trans h⟩
theorem Slot.drew {w : World} {r : Nat} {cs : Array Value} (h : Slot w r cs) : Slot w.drew r cs := h
theorem Slot.new (w : World) (cs : Array Value) (t : TypeId) : Slot (w.alloc (.cells cs t)) w.heap.size cs := ⟨t, heap_alloc_new w _⟩
theorem Slot.alloc {w : World} {r : Nat} {cs : Array Value} (h : Slot w r cs) (o : Obj) : Slot (w.alloc o) r cs := h.below (Zai o)
theorem Slot.set {w : World} {r : Nat} {cs : Array Value} (h : Slot w r cs) (i : Nat) (u : Value) : Slot (w.setCell ⟨r, i, none⟩ u) r (cs.setIfInBounds i u) := by
 obtain ⟨t, h⟩ := h
 refine ⟨t, ?_⟩
 simp only [World.setCell, Array.getElem?_modify, ↓reduceIte, h]
 rfl
theorem Zbr {r : Nat} {W0 W W1 : World} (h : Hid (Below r W0 W)) (hb : Below W.heap.size W W1) (hr : r ≤ W0.heap.size) : Hid (Below r W0 W1) :=
 Below.trans h.out (hb.mono (Nat.le_trans hr h.out.size))
theorem now {B r : Nat} {w W0 W : World} (hB : Hid (Below B w W0)) (h : Hid (Below r W0 W)) (hr : B ≤ r) : Below B w W := hB.out.trans (h.out.mono hr)
theorem Dg.front {w : World} {s : Value} {a : Option Addr} {n cap k : Nat} {f : Nat → Int} (h : Dg w s n f) (e : s = .slice a n cap) (hk : k ≤ n) : Dg w (.slice a k cap) k f := by
 subst e; exact h.take hk
theorem Dg.far {w w' : World} {r : Nat} {cs : Array Value} {v : Value} {n : Nat} {f : Nat → Int} (h : Dg w v n f) (hs : Slot w r cs) (hn : NoDig cs) (hw : ∀ k, k ≠ r → w'.heap[k]? = w.heap[k]?) : Dg w' v n f := by
 obtain ⟨a, cap, h1, h2, h3 | ⟨b, off, h3, h4⟩⟩ := h
 ·exact ⟨a, cap, h1, h2, .inl h3⟩
 ·refine ⟨a, cap, h1, h2, .inr ⟨b, off, h3, fun i hi => ?_, h4.dig⟩⟩
  have hc := h4.cell i hi
  by_cases hb : b = r
  ·subst hb
   rw [hs.cell] at hc
   exact absurd hc (hn _ _)
  ·rw [World.cell?_of_block (w := w) (w' := w') (hw b hb)]; exact hc
theorem Zgc {w : World} {r i : Nat} {u : Value} : ∀ k, k ≠ r → (w.setCell ⟨r, i, none⟩ u).heap[k]? = w.heap[k]? := fun k hk => Below.heap_setCell _ _ _ _ hk
theorem Zas {w : World} {r i j : Nat} {u v : Value} : ∀ k, k ≠ r → ((w.setCell ⟨r, i, none⟩ u).setCell ⟨r, j, none⟩ v).heap[k]? = w.heap[k]? := fun k hk => (Zgc k hk).trans (Zgc k hk)
def Za8 (w : World) (r : Nat) (x y : Value) : Prop := Slot w r #[x, y]
structure Two (w : World) (r : Nat) (x y : Value) : Prop where
 c0 : w.cell? ⟨r, 0, none⟩ = some x
 c1 : w.cell? ⟨r, 1, none⟩ = some y
 fr : ∀ i, w.frozen? ⟨r, i, none⟩ = false
 w01 : ∀ u, (w.setCell ⟨r, 0, none⟩ u).cell? ⟨r, 1, none⟩ = some y
 r0 : ∀ u v, ((w.setCell ⟨r, 0, none⟩ u).setCell ⟨r, 1, none⟩ v).cell? ⟨r, 0, none⟩ = some u
 r1 : ∀ u v, ((w.setCell ⟨r, 0, none⟩ u).setCell ⟨r, 1, none⟩ v).cell? ⟨r, 1, none⟩ = some v
theorem Za8.two {w : World} {r : Nat} {x y : Value} (h : Za8 w r x y) : Two w r x y :=
 ⟨Slot.cell h 0, Slot.cell h 1, Slot.free h, fun u => (Slot.set h 0 u).cell 1, fun u v => ((Slot.set h 0 u).set 1 v).cell 0, fun u v => ((Slot.set h 0 u).set 1 v).cell 1⟩
theorem Za8.below {w w' : World} {r : Nat} {x y : Value} (h : Za8 w r x y) (hb : Below w.heap.size w w') : Za8 w' r x y := Slot.below h hb
theorem Za8.new (w : World) (x y : Value) (t : TypeId) : Za8 (w.alloc (.cells #[x, y] t)) w.heap.size x y := Slot.new w _ t
theorem Za8.drew {w : World} {r : Nat} {x y : Value} (h : Za8 w r x y) : Za8 w.drew r x y := h
theorem Zgv {r : Nat} {W0 W : World} (h : Hid (Below r W0 W)) (x y : Value) : Hid (Below r W0 ((W.setCell ⟨r, 0, none⟩ x).setCell ⟨r, 1, none⟩ y)) :=
 (Below.setCell (p := ⟨r, 0, none⟩) h.out (Nat.le_refl r) x).setCell (p := ⟨r, 1, none⟩) (Nat.le_refl r) y
theorem noDig2 {x y : Value} (hx : ∀ d : Int, x ≠ Value.int .u32 d) (hy : ∀ d : Int, y ≠ Value.int .u32 d) : NoDig #[x, y] := by
 intro i d h
 rcases i with _ | _ | i
 ·simp at h; exact hx _ h
 ·simp at h; exact hy _ h
 ·simp at h
theorem Zay (b : Bool) (a : Option Addr) (n c : Nat) : NoDig #[.bool b, .slice a n c] := noDig2 (fun d h => by cases h) (fun d h => by cases h)
theorem Zgz (w : World) (o : Obj) (k : Nat) : (w.alloc o).heap[k]? = if k = w.heap.size then some o else w.heap[k]? := by
 show (w.heap.push o)[k]? = _
 rw [Array.getElem?_push]
theorem Zbu {w : World} {o : Obj} {k : Nat} (h : k = w.heap.size) : (w.alloc o).heap[k]? = some o := by rw [Zgz, if_pos h]
theorem Zbt {w : World} {o : Obj} {k : Nat} (h : k < w.heap.size) : (w.alloc o).heap[k]? = w.heap[k]? := by rw [Zgz, if_neg oM]
theorem cell_new {w : World} {cs : Array Value} {t : TypeId} {fr : Nat × Nat} {k i : Nat} (h : k = w.heap.size) : (w.alloc (.cells cs t fr)).cell? ⟨k, i, none⟩ = cs[i]? := by
 unfold World.cell?; rw [Zbu h]; rfl
theorem Zg2 {w : World} {o : Obj} {k i : Nat} (h : k < w.heap.size) : (w.alloc o).cell? ⟨k, i, none⟩ = w.cell? ⟨k, i, none⟩ := by
 unfold World.cell?; rw [Zbt h]
theorem hcW {n : Nat} {W0 W1 : World} {p : Addr} {v : Value} (hW : W1 = W0) (imp : W1 = W0 → p.block < n ∧ W0.cell? p = some v := by intro hK; refine ⟨by simp, ?_⟩; rw [← hK]; (repeat rw [Zg2 (by simp only [World.size_alloc]; omega)]); rw [cell_new (by (try simp only [World.size_alloc]))]; rfl) : ∀ W, Hid (Below n W0 W) → W.cell? p = some v := fun W h => (h.out.cell (p := p) (imp hW).1).trans (imp hW).2
theorem Slot.other {w w' : World} {r : Nat} {cs : Array Value} (h : Slot w r cs) (hw : w'.heap[r]? = w.heap[r]?) : Slot w' r cs := by
 obtain ⟨t, h⟩ := h
 exact ⟨t, hw.trans h⟩
theorem Za8.other {w : World} {r r' : Nat} {x y : Value} (h : Za8 w r x y) (hne : r ≠ r') (u v : Value) : Za8 ((w.setCell ⟨r', 0, none⟩ u).setCell ⟨r', 1, none⟩ v) r x y :=
 Slot.other h (Zas _ hne)
theorem Za8.put {w : World} {r : Nat} {x y : Value} (h : Za8 w r x y) (u v : Value) : Za8 ((w.setCell ⟨r, 0, none⟩ u).setCell ⟨r, 1, none⟩ v) r u v :=
 (Slot.set h 0 u).set 1 v
theorem kset2' {r r' : Nat} {W0 W : World} (h : Hid (Below r W0 W)) (hr : r ≤ r') (x y : Value) : Hid (Below r W0 ((W.setCell ⟨r', 0, none⟩ x).setCell ⟨r', 1, none⟩ y)) :=
 (Below.setCell (p := ⟨r', 0, none⟩) h.out hr x).setCell (p := ⟨r', 1, none⟩) hr y
end Hp
namespace Hp
open Go Go.RowKit Go.Proofs
theorem info_u32 : (Tryz.prog.info? 74).map (fun i => (i.zero, i.size, i.bytes)) = some (some (.int .u32 0), 1, 4) := by kernel_rfl
theorem mk_u32 (n : Nat) (hn : n ≤ 2 * L + 2) (w : World) : (Instr.makeSlice 35 (.int .i64 (n : Int)) (.int .i64 (n : Int))).run Tryz.prog w =
  .ok (.slice (some ⟨w.heap.size, 0, none⟩) n n) (w.alloc (.cells (madeCells #[.int .u32 0] n) 74)) := by
 obtain ⟨i0, hi, hz0, hz1, hz2⟩ := info_parts info_u32
 unfold L at hn
 have := run_make (P := Tryz.prog) w 35 74 i0 _ Tryz.underlying35 hi hz0 .i64 .i64 n n oM oM (by rw [hz2]; omega) oM
 rw [this, hz1]
 simp [Value.cells]
theorem add32_c (x y c : Int) (w : World) (hx : Zal x) (hy : Zal y) (hc : 0 ≤ c ∧ c ≤ 1) :
  Calls Tryz.prog 201 #[.int .u32 x, .int .u32 y, .int .u32 c] w fun e w' => e = .returned (.tuple #[.int .u32 ((x + y + c) % 4294967296), .int .u32 ((x + y + c) / 4294967296)]) ∧ w = w' := by
 obtain ⟨hx0, hx1⟩ := hx
 obtain ⟨hy0, hy1⟩ := hy
 obtain ⟨hc0, hc1⟩ := hc
 unfold B at hx1 hy1
 go_enter Tryz.func201, Tryz.ntmps201
 go_wp2
 go_ret2
 exact ⟨rfl, rfl⟩
def TrimmedR (v : Value) (n : Nat) (f : Nat → Int) (u : Value) : Prop := ∃ a cap k, v = .slice a n cap ∧ u = .slice a k cap ∧ k ≤ n ∧ n ≤ cap ∧ Zb2 f k ∧ val f k = val f n
theorem TrimmedR.dg {w : World} {v u : Value} {n : Nat} {f : Nat → Int} (h : TrimmedR v n f u) (hd : Dg w v n f) : ∃ k, Dg w u k f ∧ k ≤ n ∧ Zb2 f k ∧ val f k = val f n := by
 obtain ⟨a, cap, k, rfl, rfl, hk, _, hc, hv⟩ := h
 exact ⟨k, hd.take hk, hk, hc, hv⟩
theorem Zbl {w : World} {v : Value} {n : Nat} {f : Nat → Int} (h : Dg w v n f) (hn : n ≤ L) :
  Calls Tryz.prog 147 #[v] w (RetQ w (TrimmedR v n f)) := by
 obtain ⟨a, cap, rfl, hcap, hd⟩ := h
 have hD : Hid (Dg w (.slice a n cap) n f) := ⟨a, cap, rfl, hcap, hd⟩
 unfold L at hn
 go_enter Tryz.func147, Tryz.ntmps147
 go_wp2
 go_loop [0] (fun v => ∃ k : Nat, v = .slice a k cap ∧ Hid (k ≤ n ∧ ∀ i, k ≤ i → i < n → f i = 0)) (fun v => match v with | .slice _ n _ => n | _ => 0)
 case atStart => exact ⟨_, rfl, Nat.le_refl _, fun i a b => oM⟩
 case round =>
  obtain ⟨k, rfl, HK⟩ := hrel
  have hk := HK.out.1
  by_cases h0 : 0 < k
  ·rcases hd with hd | ⟨b, off, rfl, hat⟩
   ·omega
   have hcell := hat.cell (k-1) oM
   have hdig := hat.dig (k - 1) oM
   clear hat
   obtain ⟨hd0, hd1⟩ := hdig
   by_cases hx : f (k-1) = 0
   ·have HX := Lib.hid hx
    have hb : (f (k-1) == 0) = true := by simp [hx]
    clear hx
    go_wp2
    go_round
    case rel => exact ⟨k - 1, rfl, oM, fun i a b => by
           by_cases e : i = k - 1
           ·rw [e]; exact HX.out
           ·exact HK.out.2 i oM b⟩
    case measure => simp; omega
   ·have HX := Lib.hid hx
    have hb : (f (k-1) == 0) = false := by simp [hx]
    clear hx
    go_wp2
    go_ret
    exact .mk rfl ⟨_, cap, k, rfl, rfl, hk, hcap, .inr HX.out, (Zfr hk HK.out.2).symm⟩
  ·obtain rfl : k = 0 := oM
   go_wp2
   go_ret
   exact .mk rfl ⟨_, cap, 0, rfl, rfl, hk, hcap, .inl rfl, (Zfr hk HK.out.2).symm⟩
def PlusI (f g : Nat → Int) (m k : Nat) (h : Nat → Int) (c : Int) : Prop :=
 Digs h k ∧ 0 ≤ c ∧ c ≤ 1 ∧ val h k + c * pw k = val f k + val (ext g m) k
theorem plusI_zero (f g h : Nat → Int) (m : Nat) : PlusI f g m 0 h 0 := ⟨fun i hi => oM, oM, oM, by simp [val]⟩
theorem plusI_step {f g h : Nat → Int} {m k n : Nat} {c y : Int} (hd : Digs f n) (he : Zal y) (hy : y = ext g m k) (hk : k < n) (H : PlusI f g m k h c) :
  PlusI f g m (k + 1) (set h k ((f k + y + c) % 4294967296)) ((f k + y + c) / 4294967296) := by
 obtain ⟨h1, h2, h3, h4⟩ := H
 have hx := hd k hk
 have h5 := Zce (f k + y + c)
 refine ⟨?_, ?_, ?_, ?_⟩
 ·intro i hi
  by_cases e : i = k
  ·rw [e, set_eq]; exact h5
  ·rw [Zdc _ _ e]; exact h1 i oM
 ·have := hx.1; have := he.1; omega
 ·have := hx.2; have := he.2; unfold B at *; omega
 ·simp only [val]
  rw [Zb5 _ _ (Nat.le_refl k), set_eq, ← hy]
  exact plus_step h4 rfl
theorem plusI_end {f g h : Nat → Int} {m n : Nat} {c : Int} (hm : m ≤ n) (H : PlusI f g m n h c) : Digs (set h n c) (n + 1) ∧ val (set h n c) (n + 1) = val f n + val g m := by
 obtain ⟨h1, h2, h3, h4⟩ := H
 rw [val_ext hm] at h4
 refine ⟨?_, ?_⟩
 ·intro i hi
  by_cases e : i = n
  ·rw [e, set_eq]; exact ⟨h2, by unfold B; omega⟩
  ·rw [Zdc _ _ e]; exact h1 i oM
 ·simp only [val]
  rw [Zb5 _ _ (Nat.le_refl n), set_eq]
  exact h4
def PlusR (n m : Nat) (f g : Nat → Int) (w' : World) (u : Value) : Prop := ∃ k h, Dg w' u k h ∧ k ≤ max n m + 1 ∧ val h k = val f n + val g m
def Swapped (w : World) (n m : Nat) (f g : Nat → Int) (s0 s1 : Value) : Prop :=
 ∃ n' m' f' g', Dg w s0 n' f' ∧ Dg w s1 m' g' ∧ m' ≤ n' ∧ n' ≤ max n m ∧ val f' n' + val g' m' = val f n + val g m
set_option maxHeartbeats 1000000 in
theorem plus_c {w : World} {va vb : Value} {n m : Nat} {f g : Nat → Int} (ha : Dg w va n f) (hb : Dg w vb m g) (hn : n ≤ L) (hm : m ≤ L) :
  Calls Tryz.prog 177 #[va, vb] w (Ret w (PlusR n m f g)) := by
 have Hswap1 : Hid (m ≤ n → Swapped w n m f g va vb) := fun h => ⟨n, m, f, g, ha, hb, h, oM, rfl⟩
 have Hswap2 : Hid (n < m → Swapped w n m f g vb va) := fun h => ⟨m, n, g, f, hb, ha, oM, oM, Int.add_comm _ _⟩
 obtain ⟨xa, ca, rfl, -, -⟩ := ha
 obtain ⟨xb, cb, rfl, -, -⟩ := hb
 go_enter Tryz.func177, Tryz.ntmps177
 go_upto_if 14 with fail
 go_cut [0, 1] (fun s0 s1 wx => w = wx ∧ Swapped w n m f g s0 s1)
 case first =>
  by_cases h : n < m
  ·have H := Hswap2.out h
   have Hb : decide (n < m) = true := by simp [h]
   go_wp2
   go_meet
   case rel => exact ⟨rfl, H⟩
  ·have H := Hswap1.out oM
   have Hb : decide (n < m) = false := by simp; omega
   go_wp2
   go_meet
   case rel => exact ⟨rfl, H⟩
 case rest =>
  obtain ⟨rfl, n', m', f', g', ha, hb, hmn, hmax, hval⟩ := hcut
  clear Hswap1 Hswap2
  obtain ⟨xa', ca', rfl, hca, hda⟩ := ha
  obtain ⟨xb', cb', rfl, hcb, hdb⟩ := hb
  have hn' : n' ≤ 17592186044416 := by unfold L at hn hm; omega
  have hmk := mk_u32 (n' + 1) (by unfold L; omega) w
  rw [show ((n' + 1 : Nat) : Int) = (n' : Int) + 1 from oM] at hmk
  have HV := Lib.hid hval
  clear hval
  go_wp2_with fail
  clear hmk
  go_loopw [6, 23] (fun c i wr => ∃ (k : Nat) (h : Nat → Int) (cc : Int), i = .int .i64 k ∧ k ≤ n' ∧ c = .int .u32 cc ∧ Hid (Own wr w.heap.size (n' + 1) h) ∧ Hid (PlusI f' g' m' k h cc) ∧ Hid (Below w.heap.size w wr) ∧ Hid (w.heap.size < wr.heap.size))
   (fun _ i _ => n' - (intOf i).toNat)
  case atStart => exact ⟨0, _, 0, rfl, Nat.zero_le _, rfl, Own.made w _ _, plusI_zero _ _ _ _, Zai _, by simp [Hid]⟩
  case round =>
   obtain ⟨k, h, cc, rfl, hk, rfl, HO, HI, HB, HS⟩ := hrel
   by_cases hlt : k < n'
   ·rcases hda with hda | ⟨b, off, rfl, hda⟩
    ·omega
    have hdig := hda.dig
    have hcell := (hda.below HB.out).cell k hlt
    have hown := HO.out.cell k oM
    have hfree := HO.out.free k
    have hI := HI.out
    by_cases hlm : k < m'
    ·rcases hdb with hdb | ⟨b', off', rfl, hdb⟩
     ·omega
     have hcell' := (hdb.below HB.out).cell k hlm
     have hdig' := hdb.dig k hlm
     have HN : Hid (PlusI f' g' m' (k + 1) (set h k ((f' k + g' k + cc) % 4294967296)) ((f' k + g' k + cc) / 4294967296)) :=
      plusI_step hdig hdig' (by simp [ext, hlm]) hlt hI
     have HC : Hid (Zal (f' k) ∧ Zal (g' k) ∧ 0 ≤ cc ∧ cc ≤ 1) := ⟨hdig k hlt, hdig', hI.2.1, hI.2.2.1⟩
     clear hdig hdig' hI hda hdb
     go_wp2_with fail
     refine (add32_c _ _ _ _ HC.out.1 HC.out.2.1 HC.out.2.2).mono ?_
     rintro e w' ⟨rfl, rfl⟩
     go_wp2
     go_roundw
     case rel => exact ⟨k + 1, _, _, by go_num, oM, rfl, HO.out.set oM _, HN.out, HB.out.setCell (Nat.le_refl _) _, by simpa [Hid] using HS.out⟩
     case measure => simp [intOf]; omega
    ·have HN : Hid (PlusI f' g' m' (k + 1) (set h k ((f' k + 0 + cc) % 4294967296)) ((f' k + 0 + cc) / 4294967296)) :=
      plusI_step hdig zero_dig (by simp [ext, hlm]) hlt hI
     have HC : Hid (Zal (f' k) ∧ Zal 0 ∧ 0 ≤ cc ∧ cc ≤ 1) := ⟨hdig k hlt, zero_dig, hI.2.1, hI.2.2.1⟩
     rw [Int.add_zero] at HN
     clear hdig hI hda hdb
     go_wp2_with fail
     refine (add32_c _ _ _ _ HC.out.1 HC.out.2.1 HC.out.2.2).mono ?_
     rintro e w' ⟨rfl, rfl⟩
     go_wp2
     go_roundw
     case rel => exact ⟨k + 1, _, _, by go_num, oM, rfl, HO.out.set oM _, HN.out, HB.out.setCell (Nat.le_refl _) _, by simpa [Hid] using HS.out⟩
     case measure => simp [intOf]; omega
   ·obtain rfl : k = n' := oM
    have hown := HO.out.cell k oM
    have hfree := HO.out.free k
    have HE := Lib.hid (plusI_end hmn HI.out)
    clear hda hdb hca hcb
    go_wp2
    go_ret
    refine .mk rfl (HB.out.setCell (Nat.le_refl _) _) ⟨k + 1, _, (HO.out.set oM _).dg HE.out.1 (Nat.le_refl _), oM, by rw [HE.out.2, HV.out]⟩
theorem top_or (a b : Nat) : (a ||| b) / 2 ^ 31 = a / 2 ^ 31 ||| b / 2 ^ 31 := by simp only [← Nat.shiftRight_eq_div_pow]; exact Nat.shiftRight_or_distrib
theorem top_and (a b : Nat) : (a &&& b) / 2 ^ 31 = a / 2 ^ 31 &&& b / 2 ^ 31 := by simp only [← Nat.shiftRight_eq_div_pow]; exact Nat.shiftRight_and_distrib
theorem top_xor (a b : Nat) : (a ^^^ b) / 2 ^ 31 = a / 2 ^ 31 ^^^ b / 2 ^ 31 := by simp only [← Nat.shiftRight_eq_div_pow]; exact Nat.shiftRight_xor_distrib
theorem lt_or {a b : Nat} (ha : a < 4294967296) (hb : b < 4294967296) : a ||| b < 4294967296 := Nat.or_lt_two_pow (n := 32) ha hb
theorem lt_and {a b : Nat} (ha : a < 4294967296) : a &&& b < 4294967296 := Nat.lt_of_le_of_lt Nat.and_le_left ha
theorem lt_xor {a b : Nat} (ha : a < 4294967296) (hb : b < 4294967296) : a ^^^ b < 4294967296 := Nat.xor_lt_two_pow (n := 32) ha hb
theorem borrow_nat (x y d : Nat) (hx : x < 4294967296) (hy : y < 4294967296) (hd : d < 4294967296) (c : Int) (h : (d : Int) = ((x : Int) - y - c) % 4294967296) (hc0 : 0 ≤ c) (hc1 : c ≤ 1) :
  (((4294967295 ^^^ x) &&& y ||| (4294967295 ^^^ (x ^^^ y)) &&& d) / 2 ^ 31 : Nat) = -(((x : Int) - y - c) / 4294967296) := by
 rw [top_or, top_and, top_and, top_xor, top_xor, top_xor]
 have hx' : x / 2 ^ 31 = 0 ∨ x / 2 ^ 31 = 1 := oM
 have hy' : y / 2 ^ 31 = 0 ∨ y / 2 ^ 31 = 1 := oM
 have hd' : d / 2 ^ 31 = 0 ∨ d / 2 ^ 31 = 1 := oM
 have e : (4294967295 / 2 ^ 31 : Nat) = 1 := dC
 rw [e]
 rcases hx' with hx' | hx' <;> rcases hy' with hy' | hy' <;> rcases hd' with hd' | hd' <;> rw [hx', hy', hd'] <;> simp <;> omega
theorem sub_borrow (x y c : Int) (hx : Zal x) (hy : Zal y) (hc0 : 0 ≤ c) (hc1 : c ≤ 1) :
  bits .or .u32 (bits .and .u32 (bits .xor .u32 IntKind.u32.max x) y) (bits .and .u32 (bits .xor .u32 IntKind.u32.max (bits .xor .u32 x y)) ((x - y - c) % 4294967296)) / 2147483648 = -((x - y - c) / 4294967296) := by
 obtain ⟨hx0, hx1⟩ := hx
 obtain ⟨hy0, hy1⟩ := hy
 unfold B at hx1 hy1
 obtain ⟨x, rfl⟩ := Int.eq_ofNat_of_zero_le hx0
 obtain ⟨y, rfl⟩ := Int.eq_ofNat_of_zero_le hy0
 have hm : IntKind.u32.max = ((4294967295 : Nat) : Int) := dC
 obtain ⟨d, hd⟩ := Int.eq_ofNat_of_zero_le (Int.emod_nonneg ((x : Int) - y - c) (b := 4294967296) oM)
 have hd1 : d < 4294967296 := by have := Int.emod_lt_of_pos ((x : Int) - y - c) (b := 4294967296) oM; omega
 have h1 : 4294967295 ^^^ x < 4294967296 := lt_xor oM oM
 have h2 : x ^^^ y < 4294967296 := lt_xor oM oM
 have h3 : 4294967295 ^^^ (x ^^^ y) < 4294967296 := lt_xor oM h2
 rw [hd, hm, u32_xor_nat _ _ oM oM, u32_and_nat _ _ h1 oM, u32_xor_nat x y oM oM, u32_xor_nat _ _ oM h2, u32_and_nat _ _ h3 hd1, u32_or_nat _ _ (lt_and h1) (lt_and h3)]
 have := borrow_nat x y d oM oM hd1 c hd.symm hc0 hc1
 rw [← this]
 rfl
theorem sub32_c (x y c : Int) (w : World) (hx : Zal x) (hy : Zal y) (hc : 0 ≤ c ∧ c ≤ 1) :
  Calls Tryz.prog 203 #[.int .u32 x, .int .u32 y, .int .u32 c] w fun e w' => e = .returned (.tuple #[.int .u32 ((x - y - c) % 4294967296), .int .u32 (-((x - y - c) / 4294967296))]) ∧ w = w' := by
 have HE := Lib.hid (sub_borrow x y c hx hy hc.1 hc.2)
 obtain ⟨hx0, hx1⟩ := hx
 obtain ⟨hy0, hy1⟩ := hy
 obtain ⟨hc0, hc1⟩ := hc
 unfold B at hx1 hy1
 go_enter Tryz.func203, Tryz.ntmps203
 go_wp2
 all_goals (go_ret2; refine ⟨?_, rfl⟩; rw [← HE.out]; try rfl)
 all_goals (rename_i h; first | (exact (h rfl).elim) | (exact absurd h dC))
def LessI (f g : Nat → Int) (m k : Nat) (h : Nat → Int) (c : Int) : Prop :=
 Digs h k ∧ 0 ≤ c ∧ c ≤ 1 ∧ val h k - c * pw k = val f k - val (ext g m) k
theorem lessI_zero (f g h : Nat → Int) (m : Nat) : LessI f g m 0 h 0 := ⟨fun i hi => oM, oM, oM, by simp [val]⟩
theorem lessI_step {f g h : Nat → Int} {m k n : Nat} {c y : Int} (hd : Digs f n) (he : Zal y) (hy : y = ext g m k) (hk : k < n) (H : LessI f g m k h c) :
  LessI f g m (k + 1) (set h k ((f k - y - c) % 4294967296)) (-((f k - y - c) / 4294967296)) := by
 obtain ⟨h1, h2, h3, h4⟩ := H
 have hx := hd k hk
 have h5 := Zce (f k - y - c)
 refine ⟨?_, ?_, ?_, ?_⟩
 ·intro i hi
  by_cases e : i = k
  ·rw [e, set_eq]; exact h5
  ·rw [Zdc _ _ e]; exact h1 i oM
 ·have := hx.1; have := he.1; have := hx.2; have := he.2; unfold B at *; omega
 ·have := hx.1; have := he.1; have := hx.2; have := he.2; unfold B at *; omega
 ·simp only [val]
  rw [Zb5 _ _ (Nat.le_refl k), set_eq, ← hy]
  exact minus_step h4 rfl
theorem lessI_end {f g h : Nat → Int} {m n : Nat} {c : Int} (hm : m ≤ n) (hle : val g m ≤ val f n) (H : LessI f g m n h c) : Digs h n ∧ val h n = val f n - val g m := by
 obtain ⟨h1, h2, h3, h4⟩ := H
 rw [val_ext hm] at h4
 refine ⟨h1, ?_⟩
 have h5 := Zcg h1
 have h6 : c = 0 ∨ c = 1 := oM
 rcases h6 with rfl | rfl <;> omega
def LessR (n m : Nat) (f g : Nat → Int) (w' : World) (u : Value) : Prop := ∃ h, Dg w' u n h ∧ val h n = val f n - val g m
set_option maxHeartbeats 1000000 in
theorem less_c {w : World} {va vb : Value} {n m : Nat} {f g : Nat → Int} (ha : Dg w va n f) (hb : Dg w vb m g) (hn : n ≤ L) (hmn : m ≤ n) (hle : val g m ≤ val f n) :
  Calls Tryz.prog 179 #[va, vb] w (Ret w (LessR n m f g)) := by
 obtain ⟨xa, ca, rfl, hca, hda⟩ := ha
 obtain ⟨xb, cb, rfl, hcb, hdb⟩ := hb
 have HV := Lib.hid hle
 have hn' : n ≤ 17592186044416 := hn
 clear hle
 have hmk := mk_u32 n (by unfold L; omega) w
 go_enter Tryz.func179, Tryz.ntmps179
 go_wp2_with fail
 clear hmk
 go_loopw [6, 15] (fun c i wr => ∃ (k : Nat) (h : Nat → Int) (cc : Int), i = .int .i64 k ∧ k ≤ n ∧ c = .int .u32 cc ∧ Hid (Own wr w.heap.size n h) ∧ Hid (LessI f g m k h cc) ∧ Hid (Below w.heap.size w wr) ∧ Hid (w.heap.size < wr.heap.size))
  (fun _ i _ => n - (intOf i).toNat)
 case atStart => exact ⟨0, _, 0, rfl, Nat.zero_le _, rfl, Own.made w _ _, lessI_zero _ _ _ _, Zai _, by simp [Hid]⟩
 case round =>
  obtain ⟨k, h, cc, rfl, hk, rfl, HO, HI, HB, HS⟩ := hrel
  by_cases hlt : k < n
  ·rcases hda with hda | ⟨b, off, rfl, hda⟩
   ·omega
   have hdig := hda.dig
   have hcell := (hda.below HB.out).cell k hlt
   have hown := HO.out.cell k oM
   have hfree := HO.out.free k
   have hI := HI.out
   by_cases hlm : k < m
   ·rcases hdb with hdb | ⟨b', off', rfl, hdb⟩
    ·omega
    have hcell' := (hdb.below HB.out).cell k hlm
    have hdig' := hdb.dig k hlm
    have HN : Hid (LessI f g m (k + 1) (set h k ((f k - g k - cc) % 4294967296)) (-((f k - g k - cc) / 4294967296))) :=
     lessI_step hdig hdig' (by simp [ext, hlm]) hlt hI
    have HC : Hid (Zal (f k) ∧ Zal (g k) ∧ 0 ≤ cc ∧ cc ≤ 1) := ⟨hdig k hlt, hdig', hI.2.1, hI.2.2.1⟩
    clear hdig hdig' hI hda hdb
    go_wp2_with fail
    refine (sub32_c _ _ _ _ HC.out.1 HC.out.2.1 HC.out.2.2).mono ?_
    rintro e w' ⟨rfl, rfl⟩
    go_wp2
    go_roundw
    case rel => exact ⟨k + 1, _, _, by go_num, oM, rfl, HO.out.set oM _, HN.out, HB.out.setCell (Nat.le_refl _) _, by simpa [Hid] using HS.out⟩
    case measure => simp [intOf]; omega
   ·have HN : Hid (LessI f g m (k + 1) (set h k ((f k - 0 - cc) % 4294967296)) (-((f k - 0 - cc) / 4294967296))) :=
     lessI_step hdig zero_dig (by simp [ext, hlm]) hlt hI
    have HC : Hid (Zal (f k) ∧ Zal 0 ∧ 0 ≤ cc ∧ cc ≤ 1) := ⟨hdig k hlt, zero_dig, hI.2.1, hI.2.2.1⟩
    rw [Int.sub_zero] at HN
    clear hdig hI hda hdb
    go_wp2_with fail
    refine (sub32_c _ _ _ _ HC.out.1 HC.out.2.1 HC.out.2.2).mono ?_
    rintro e w' ⟨rfl, rfl⟩
    go_wp2
    go_roundw
    case rel => exact ⟨k + 1, _, _, by go_num, oM, rfl, HO.out.set oM _, HN.out, HB.out.setCell (Nat.le_refl _) _, by simpa [Hid] using HS.out⟩
    case measure => simp [intOf]; omega
  ·obtain rfl : k = n := oM
   have HE := Lib.hid (lessI_end hmn HV.out HI.out)
   clear hda hdb hca hcb
   go_wp2
   go_ret
   refine .mk rfl HB.out ⟨_, HO.out.dg HE.out.1 (Nat.le_refl _), HE.out.2⟩
def sgn (x : Int) : Int := if x < 0 then -1 else if 0 < x then 1 else 0
theorem sign_c (x : Int) (w : World) : Calls Tryz.prog 202 #[.int .i64 x] w fun e w' => e = .returned (.int .i64 (sgn x)) ∧ w = w' := by
 have h : Hid (∀ y, (x < 0 → y = -1) → (0 < x → y = 1) → (x = 0 → y = 0) → sgn x = y) := by
  intro y h1 h2 h3
  unfold sgn
  split
  ·exact (h1 ‹_›).symm
  ·split
   ·exact (h2 ‹_›).symm
   ·exact (h3 oM).symm
 go_enter Tryz.func202, Tryz.ntmps202
 go_wp2
 all_goals (go_ret; refine ⟨?_, rfl⟩)
 ·rw [h.out (-1) oM oM oM]; rfl
 ·rw [h.out 1 oM oM oM]; rfl
 ·rw [h.out 0 oM oM oM]; rfl
def Zdj (f : Nat → Int) (n : Nat) : List Value := (List.range n).map fun i => Value.int .u32 (f i)
theorem Zb1 (f : Nat → Int) (n : Nat) : (Zdj f n).length = n := by simp [Zdj]
theorem Zc4 {f : Nat → Int} {n i : Nat} (h : i < n) : (Zdj f n)[i]? = some (.int .u32 (f i)) := by simp [Zdj, h]
def cat (f : Nat → Int) (n : Nat) (g : Nat → Int) : Nat → Int := fun i => if i < n then f i else g (i - n)
theorem cells32_cat (f g : Nat → Int) (n m : Nat) : Zdj f n ++ Zdj g m = Zdj (cat f n g) (n + m) := by
 apply List.ext_getElem?
 intro i
 by_cases h : i < n
 ·rw [List.getElem?_append_left (by rw [Zb1]; exact h), Zc4 h, Zc4 oM]; simp [cat, h]
 ·rw [List.getElem?_append_right (by rw [Zb1]; omega), Zb1]
  by_cases h2 : i - n < m
  ·rw [Zc4 h2, Zc4 oM]; simp [cat, h]
  ·rw [List.getElem?_eq_none (by rw [Zb1]; omega), List.getElem?_eq_none (by rw [Zb1]; omega)]
def OwnL (w : World) (base : Nat) (v : Value) (n : Nat) (f : Nat → Int) : Prop := w.ownsRow base 74 1 v n (Zdj f n)
theorem OwnL.made (w : World) (cur : Array Value) (cap : Nat) (hs : cur.size = cap) (hm : cap ≤ maxLen) : OwnL (w.alloc (.cells cur 74)) w.heap.size (.slice (some ⟨w.heap.size, 0, none⟩) 0 cap) 0 (fun _ => 0) :=
 World.ownsRow_made w cur cap (Nat.le_refl _) hm oM
theorem OwnL.congr {w : World} {base n : Nat} {v : Value} {f g : Nat → Int} (h : OwnL w base v n f) (e : ∀ i, i < n → f i = g i) : OwnL w base v n g := by
 have : Zdj f n = Zdj g n := List.map_congr_left fun i hi => by rw [e i (List.mem_range.1 hi)]
 unfold OwnL; rw [← this]; exact h
theorem OwnL.dg {w : World} {base n : Nat} {v : Value} {f : Nat → Int} (h : OwnL w base v n f) (hd : Digs f n) : Dg w v n f := by
 obtain ⟨_, ⟨rfl, rfl⟩ | ⟨g, cap, cur, rfl, _, hh, hn, _, _, ht⟩⟩ := h
 ·exact Dg.nil w f
 ·refine ⟨_, cap, rfl, hn, .inr ⟨g, 0, rfl, fun i hi => ?_, hd⟩⟩
  have h1 : cur.toList[i]? = some (.int .u32 (f i)) := by
   rw [← Zc4 hi, ← ht, List.getElem?_take_of_lt oM]
  simp only [World.cell?, hh, Nat.zero_add]
  simpa using h1
theorem grown_below {base : Nat} {w w' : World} {v : Value} {e : TypeId} {size n : Nat} {xs : List Value} (h : w.ownsRow base e size v n xs) (hg : w.grownBy w' v.ownBlock) (hb : base ≤ w.heap.size) : Below base w w' := by
 refine (Below.refl base w).grown hg hb fun k hk => ?_
 obtain ⟨_, ⟨rfl, _⟩ | ⟨g, cap, cur, rfl, hbg, _⟩⟩ := h
 ·simp [Value.ownBlock] at hk
 ·simp [Value.ownBlock] at hk; omega
section
variable {ops : Array Oper} {rest : List Oper} {o : Oper} {a : Act} {Q : Exit → Act → World → Prop} {w : World}
theorem app_u32 (hgd : o.guard = none) (s x : Operand) (ho : o.op = .call { callee := .builtin .append, args := #[s, x], argTypes := #[35, 35] })
  (base : Nat) (v : Value) (n : Nat) (f : Nat → Int) (hs : a.eval s = v) (hown : OwnL w base v n f) (ad : Addr) (m c : Nat) (g : Nat → Int) (hx : a.eval x = .slice (some ad) m c)
  (hnews : ∀ j, j < m → w.cell? (ad.add j) = some (.int .u32 (g j))) (hnm : n + m ≤ 2 * L) (hbase : base ≤ w.heap.size)
  (h : ∀ v' w', OwnL w' base v' (n + m) (cat f n g) → Below base w w' → w.heap.size ≤ w'.heap.size → (∀ k, k < w.heap.size → some k ≠ v.ownBlock → w'.heap[k]? = w.heap[k]?) → wpList Tryz.prog ops Q rest (a.put o.dst v') w') :
  wpList Tryz.prog ops Q (o :: rest) a w := by
 obtain ⟨i0, hi, hz0, hz1, hz2⟩ := info_parts info_u32
 unfold L at hnm
 refine wpList_append_own w hgd s x 35 ho base 74 i0 _ 1 4 Tryz.underlying35 hi hz0 hz1 hz2 rfl oM v n _ hs hown ad m c (Zdj g m) hx
  (by rw [Zb1]; omega) ?_ ?_ (by unfold maxLen; omega) oM hbase ?_
 ·intro j u hj
  by_cases hjm : j < m
  ·rw [Zc4 hjm] at hj; rw [hnews j hjm]; exact hj
  ·rw [List.getElem?_eq_none (by rw [Zb1]; omega)] at hj; exact absurd hj (by simp)
 ·intro u hu
  simp only [Zdj, List.mem_map] at hu
  obtain ⟨i, _, rfl⟩ := hu
  rfl
 ·intro v' w' h1 h2 h3
  refine h v' w' ?_ (grown_below hown h2 hbase) h2.size h2.block
  unfold OwnL
  rw [← cells32_cat]
  exact h1
end
def IsV (v : Value) (_ : World) (u : Value) : Prop := u = v
def cmpZ (a b : Int) : Int := if a < b then -1 else if a = b then 0 else 1
theorem cmpZ_lt {a b : Int} (h : a < b) : cmpZ a b = -1 := by simp [cmpZ, h]
theorem cmpZ_gt {a b : Int} (h : b < a) : cmpZ a b = 1 := by unfold cmpZ; rw [if_neg oM, if_neg oM]
theorem cmpZ_eq (a : Int) : cmpZ a a = 0 := by simp [cmpZ]
theorem Zfq {w : World} {va vb : Value} {n m : Nat} {f g : Nat → Int} (ha : Dg w va n f) (hb : Dg w vb m g) (hn : n ≤ L) (hm : m ≤ L) (cf : Zb2 f n) (cg : Zb2 g m) :
  Calls Tryz.prog 178 #[va, vb] w (Ret w (IsV (.int .i64 (cmpZ (val f n) (val g m))))) := by
 have H1 : Hid (n < m → cmpZ (val f n) (val g m) = sgn (n - m)) := fun h => by
  have : val f n < val g m := by
   by_cases hc : val g m ≤ val f n
   ·have := Zcm hb.dig ha.dig cg hc; omega
   ·omega
  rw [cmpZ_lt this]; unfold sgn; rw [if_pos oM]
 have H2 : Hid (m < n → cmpZ (val f n) (val g m) = sgn (n - m)) := fun h => by
  have : val g m < val f n := by
   by_cases hc : val f n ≤ val g m
   ·have := Zcm ha.dig hb.dig cf hc; omega
   ·omega
  rw [cmpZ_gt this]; unfold sgn; rw [if_neg oM, if_pos oM]
 have HA := Lib.hid ha.dig
 have HB := Lib.hid hb.dig
 obtain ⟨xa, ca, rfl, hca, hda⟩ := ha
 obtain ⟨xb, cb, rfl, hcb, hdb⟩ := hb
 unfold L at hn hm
 by_cases hnm : n = m
 ·subst hnm
  have hbb : ((n : Int) != (n : Int)) = false := by simp
  clear H1 H2
  go_enter Tryz.func178, Tryz.ntmps178
  go_wp2_with fail
  go_loopw [5] (fun i wr => ∃ k : Nat, k ≤ n ∧ i = .int .i64 ((k : Int) - 1) ∧ Hid (∀ i, k ≤ i → i < n → f i = g i) ∧ Hid (Below w.heap.size w wr)) (fun i _ => (intOf i + 1).toNat)
  case atStart => exact ⟨n, Nat.le_refl _, rfl, fun i a b => oM, Below.refl _ _⟩
  case round =>
   obtain ⟨k, hk, rfl, HI, HW⟩ := hrel
   by_cases h0 : 0 < k
   ·rcases hda with hda | ⟨b, off, rfl, hda⟩
    ·omega
    rcases hdb with hdb | ⟨b', off', rfl, hdb⟩
    ·omega
    obtain ⟨j, rfl⟩ : ∃ j, k = j + 1 := ⟨k - 1, oM⟩
    rw [show (((j + 1 : Nat) : Int) - 1) = (j : Int) from oM]
    have hc1 := (hda.below HW.out).cell j oM
    have hc2 := (hdb.below HW.out).cell j oM
    have hj0 : (0 : Int) ≤ (j : Int) := oM
    have hj1 : (j : Int) < (n : Int) := oM
    clear hda hdb
    by_cases e : f j = g j
    ·have hne : (f j != g j) = false := by simp [e]
     have HE := Lib.hid e
     clear e
     go_wp2
     go_quiet (fail)
     go_wp2
     go_roundw
     case rel => exact ⟨j, oM, rfl, fun i a b => by
            by_cases e : i = j
            ·rw [e]; exact HE.out
            ·exact HI.out i oM b, HW.out.trans ⟨rfl, rfl, rfl, Nat.le_refl _, fun _ _ => rfl⟩⟩
     case measure => first | (simp [intOf]; done) | (simp [intOf]; omega)
    ·have hne : (f j != g j) = true := by simp [e]
     by_cases hl : f j < g j
     ·have HE := Lib.hid (cmpZ_lt (Zfd HA.out HB.out (show j < n by omega) (fun i a b => HI.out i oM b) hl))
      have hdl : decide (f j < g j) = true := by simp [hl]
      clear e
      go_wp2
      go_quiet (fail)
      go_wp2
      go_quiet (fail)
      go_wp2
      go_ret
      exact .mk rfl (HW.out.trans ⟨rfl, rfl, rfl, Nat.le_refl _, fun _ _ => rfl⟩) (by rw [HE.out]; try rfl)
     ·have HE := Lib.hid (cmpZ_gt (Zfd HB.out HA.out (show j < n by omega) (fun i a b => (HI.out i oM b).symm) oM))
      have hdl : decide (f j < g j) = false := by simp [hl]
      clear e
      go_wp2
      go_quiet (fail)
      go_wp2
      go_quiet (fail)
      go_wp2
      go_ret
      exact .mk rfl (HW.out.trans ⟨rfl, rfl, rfl, Nat.le_refl _, fun _ _ => rfl⟩) (by rw [HE.out]; try rfl)
   ·obtain rfl : k = 0 := oM
    have HE : Hid (cmpZ (val f n) (val g n) = 0) := by
     have : val f n = val g n := Zc9 (fun i hi => HI.out i oM hi)
     show cmpZ _ _ = 0
     rw [this]; exact cmpZ_eq _
    go_wp2
    go_ret
    exact .mk rfl HW.out (by rw [HE.out]; try rfl)
 ·have HE : Hid (cmpZ (val f n) (val g m) = sgn (n - m)) := by
   by_cases h : n < m
   ·exact H1.out h
   ·exact H2.out oM
  have hbb : ((n : Int) != (m : Int)) = true := by simp; omega
  clear H1 H2
  go_enter Tryz.func178, Tryz.ntmps178
  go_wp2_with fail
  refine (sign_c _ _).mono ?_
  rintro e w' ⟨rfl, rfl⟩
  go_wp2
  go_ret
  exact .mk rfl (Below.refl _ _) (by rw [HE.out]; try rfl)
def two (a b : Int) : Nat → Int := fun i => if i = 0 then a else b
theorem val_two (a b : Int) : val (two a b) 2 = a + b * B := by simp [val, two, pw]
theorem val_one (a b : Int) : val (two a b) 1 = a := by simp [val, two, pw]
def WideR (x : Int) (w' : World) (u : Value) : Prop := ∃ n f, Dg w' u n f ∧ n ≤ 2 ∧ Zb2 f n ∧ val f n = x
theorem wideR_one {w : World} {x : Int} (h0 : x ≠ 0) (h1 : 0 ≤ x) (h2 : x < 4294967296) (t : TypeId) : WideR x (w.alloc (.cells #[.int .u32 x] t)) (.slice (some ⟨w.heap.size, 0, none⟩) 1 1) := by
 refine ⟨1, two x 0, ⟨_, 1, rfl, oM, .inr ⟨_, 0, rfl, fun i hi => ?_, fun i hi => ?_⟩⟩, oM, .inr (by simpa [two] using h0), val_one _ _⟩
 ·obtain rfl : i = 0 := oM
  rw [World.cell?_alloc_new]; rfl
 ·obtain rfl : i = 0 := oM
  exact ⟨h1, h2⟩
theorem wideR_two {w : World} {x : Int} (h1 : 4294967296 ≤ x) (h2 : x < 18446744073709551616) (t : TypeId) :
  WideR x (w.alloc (.cells #[.int .u32 (x % 4294967296), .int .u32 (x / 4294967296)] t)) (.slice (some ⟨w.heap.size, 0, none⟩) 2 2) := by
 refine ⟨2, two (x % 4294967296) (x / 4294967296), ⟨_, 2, rfl, oM, .inr ⟨_, 0, rfl, fun i hi => ?_, fun i hi => ?_⟩⟩, oM, .inr ?_, ?_⟩
 ·rw [World.cell?_alloc_new]
  rcases (by omega : i = 0 ∨ i = 1) with rfl | rfl <;> rfl
 ·rcases (by omega : i = 0 ∨ i = 1) with rfl | rfl
  ·exact Zce x
  ·exact ⟨by simp [two]; omega, by simp [two, B]; omega⟩
 ·simp [two]; omega
 ·rw [val_two]; unfold B; omega
theorem wide_c (x : Int) (w : World) (h0 : 0 ≤ x) (h1 : x < 18446744073709551616) : Calls Tryz.prog 120 #[.int .u64 x] w (Ret w (WideR x)) := by
 by_cases hz : x = 0
 ·have hb : (x == 0) = true := by simp [hz]
  have HZ := Lib.hid hz
  clear hz
  go_enter Tryz.func120, Tryz.ntmps120
  go_wp2
  go_ret
  exact .mk rfl (Below.refl _ _) ⟨0, two 0 0, Dg.nil _ _, oM, .inl rfl, HZ.out.symm⟩
 ·have hb : (x == 0) = false := by simp [hz]
  have HZ := Lib.hid hz
  clear hz
  by_cases hl : x < 4294967296
  ·have HN : Hid (WideR x (w.alloc (.cells #[.int .u32 x] 74)) (.slice (some ⟨w.heap.size, 0, none⟩) 1 1)) := wideR_one HZ.out h0 hl _
   go_enter Tryz.func120, Tryz.ntmps120
   go_wp2
   go_ret
   exact .mk rfl (Zai _) HN.out
  ·have HN : Hid (WideR x (w.alloc (.cells #[.int .u32 (x % 4294967296), .int .u32 (x / 4294967296)] 74)) (.slice (some ⟨w.heap.size, 0, none⟩) 2 2)) := wideR_two oM h1 _
   go_enter Tryz.func120, Tryz.ntmps120
   go_wp2
   go_ret
   exact .mk rfl (Zai _) HN.out
theorem Za4 {x : Int} (h0 : 0 ≤ x) (h1 : x < 18446744073709551616) : IntKind.u64.wrap x = x := by
 have : IntKind.u64.wrap x = x % 18446744073709551616 := by simp [IntKind.wrap, IntKind.bits, IntKind.signed]
 rw [this]; omega
theorem or_join {x y : Int} (hx0 : 0 ≤ x) (hx1 : x < 4294967296) (hy0 : 0 ≤ y) (hy1 : y < 4294967296) : bits .or .u64 (x * 4294967296) y = x * 4294967296 + y := by
 obtain ⟨x, rfl⟩ := Int.eq_ofNat_of_zero_le hx0
 obtain ⟨y, rfl⟩ := Int.eq_ofNat_of_zero_le hy0
 have e : (x : Int) * 4294967296 = ((x * 4294967296 : Nat) : Int) := oM
 rw [e, u64_or_nat _ _ oM oM, nat_join 32 _ _ oM oM]
 omega
theorem word_c {w : World} {v : Value} {n : Nat} {f : Nat → Int} (h : Dg w v n f) (hn : n ≤ 2) : Calls Tryz.prog 180 #[v] w (Ret w (IsV (.int .u64 (val f n)))) := by
 obtain ⟨a, cap, rfl, hcap, hd⟩ := h
 rcases hd with rfl | ⟨b, off, rfl, hd⟩
 ·go_enter Tryz.func180, Tryz.ntmps180
  go_wp2
  go_ret
  exact .mk rfl (Below.refl _ _) rfl
 rcases (by omega : n = 0 ∨ n = 1 ∨ n = 2) with rfl | rfl | rfl
 ·go_enter Tryz.func180, Tryz.ntmps180
  go_wp2
  go_ret
  exact .mk rfl (Below.refl _ _) rfl
 ·have hc : w.cell? ⟨b, off, none⟩ = some (.int .u32 (f 0)) := hd.cell 0 oM
  have hd0 := (hd.dig 0 oM).1
  have hd1 : f 0 < 4294967296 := (hd.dig 0 oM).2
  clear hd
  go_enter Tryz.func180, Tryz.ntmps180
  go_wp2
  go_ret
  exact .mk rfl (Below.refl _ _) (by simp [IsV, val, pw])
 ·have hc : w.cell? ⟨b, off, none⟩ = some (.int .u32 (f 0)) := hd.cell 0 oM
  have hc' := hd.cell 1 oM
  have hd0 := (hd.dig 0 oM).1
  have hd1 : f 0 < 4294967296 := (hd.dig 0 oM).2
  have he0 := (hd.dig 1 oM).1
  have he1 : f 1 < 4294967296 := (hd.dig 1 oM).2
  have e1 := Za4 hd0 oM
  have e2 := Za4 he0 oM
  have e3 := Za4 (x := f 1 * 4294967296) oM oM
  have e4 := or_join he0 he1 hd0 hd1
  clear hd
  go_enter Tryz.func180, Tryz.ntmps180
  go_wp2
  go_quiet (fail)
  go_wp2
  go_ret
  clear e1 e2 e3 e4
  refine .mk rfl ⟨rfl, rfl, rfl, Nat.le_refl _, fun _ _ => rfl⟩ ?_
  simp [IsV, val, pw, B]; omega
def zof (neg : Bool) (x : Int) : Int := if neg then -x else x
def IntC (w : World) (u : Value) (z : Int) : Prop := ∃ s n f, u = .agg #[.bool (decide (z < 0)), s] ∧ Dg w s n f ∧ Zb2 f n ∧ val f n = z.natAbs
def IntR (w : World) (u : Value) (k : Nat) (z : Int) : Prop := ∃ (neg : Bool) (s : Value) (n : Nat) (f : Nat → Int), u = .agg #[.bool neg, s] ∧ Dg w s n f ∧ n ≤ k ∧ z = zof neg (val f n)
theorem IntC.below {w w' : World} {u : Value} {z : Int} (h : IntC w u z) (hb : Below w.heap.size w w') : IntC w' u z := by
 obtain ⟨s, n, f, h1, h2, h3⟩ := h
 exact ⟨s, n, f, h1, h2.below hb, h3⟩
theorem IntC.far {w w' : World} {r : Nat} {cs : Array Value} {u : Value} {z : Int} (h : IntC w u z) (hs : Slot w r cs) (hn : NoDig cs) (hw : ∀ k, k ≠ r → w'.heap[k]? = w.heap[k]?) : IntC w' u z := by
 obtain ⟨s, n, f, h1, h2, h3⟩ := h
 exact ⟨s, n, f, h1, h2.far hs hn hw, h3⟩
theorem IntR.below {w w' : World} {u : Value} {k : Nat} {z : Int} (h : IntR w u k z) (hb : Below w.heap.size w w') : IntR w' u k z := by
 obtain ⟨g, s, n, f, h1, h2, h3⟩ := h
 exact ⟨g, s, n, f, h1, h2.below hb, h3⟩
theorem IntR.mono {w : World} {u : Value} {k k' : Nat} {z : Int} (h : IntR w u k z) (hk : k ≤ k') : IntR w u k' z := by
 obtain ⟨g, s, n, f, h1, h2, h3, h4⟩ := h
 exact ⟨g, s, n, f, h1, h2, oM, h4⟩
theorem IntC.raw {w : World} {u : Value} {z : Int} {k : Nat} (h : IntC w u z) (hk : z.natAbs < pw k) : IntR w u k z := by
 obtain ⟨s, n, f, h1, h2, h3, h4⟩ := h
 refine ⟨_, s, n, f, h1, h2, ?_, ?_⟩
 ·rcases n with _ | n
  ·omega
  ·have := Ze6 h2.dig h3
   by_cases hc : n < k
   ·exact hc
   ·have := Zed k n oM; omega
 ·rw [h4]
  unfold zof
  by_cases hz : z < 0
  ·simp [hz]; omega
  ·simp [hz]; omega
theorem IntC.agg {w : World} {u : Value} {z : Int} (h : IntC w u z) : ∃ a n cap, u = .agg #[.bool (decide (z < 0)), .slice a n cap] := by
 obtain ⟨s, n, _, h, ⟨a, cap, rfl, _⟩, _⟩ := h
 exact ⟨a, n, cap, h⟩
def BufR (n : Nat) (f : Nat → Int) (w' : World) (u : Value) : Prop := Dg w' u n f
theorem BufR.dg {n : Nat} {f : Nat → Int} {w : World} {u : Value} (h : BufR n f w u) : Dg w u n f := h
theorem clone_c {w : World} {v : Value} {n : Nat} {f : Nat → Int} (h : Dg w v n f) (hn : n ≤ L) : Calls Tryz.prog 155 #[v] w (Ret w (BufR n f)) := by
  have HD := Lib.hid h
  obtain ⟨a, cap, rfl, hcap, hd⟩ := h
  have hq := fun w => Lib.run_eql_slice_nil (P := Tryz.prog) w 35 74 a n cap 0 0 Tryz.underlying35
  unfold L at hn
  cases a with
  | none =>
    go_enter Tryz.func155, Tryz.ntmps155
    go_wp2
    go_ret
    refine .mk rfl (Below.refl _ _) ?_
    rcases hd with rfl | ⟨b, off, h, _⟩
    · exact Dg.nil _ _
    · cases h
  | some ad =>
    have hdig := Lib.hid HD.out.dig
    have hnews : ∀ j, j < n → w.cell? (ad.add j) = some (.int .u32 (f j)) := by
      intro j hj
      rcases hd with rfl | ⟨b, off, h, hd⟩
      · omega
      · injection h with h; subst h
        have := hd.cell j hj
        rw [← this]
        congr 1
        unfold Addr.add; split <;> simp_all
    have HN := Lib.hid hnews
    clear hnews hd
    go_enter Tryz.func155, Tryz.ntmps155
    go_wp2_with (at_builtin; (refine app_u32 rfl _ _ rfl w.heap.size _ 0 (fun _ => 0) rfl ?_ ad n cap f rfl ?_ (by unfold L; omega) ?_ ?_))
    · exact OwnL.made w #[] 0 rfl (by unfold maxLen; omega)
    · intro j hj
      rw [World.cell?_alloc_lt _ _ _ (World.block_lt_of_cell? _ _ (HN.out j hj))]
      exact HN.out j hj
    · simp
    · intro v1 w1 h1 h2 h3 h4
      have HO := Lib.hid (h1.congr (g := f) (fun i _ => by simp [cat]))
      have HB : Hid (Below w.heap.size w w1) := (Zai _).trans h2
      clear h1 h2 h3 h4 hq
      go_wp2
      go_ret
      refine .mk rfl HB.out ?_
      exact HO.out.dg hdig.out
def Ze9 (z : Int) (w' : World) (u : Value) : Prop := IntC w' u z
theorem intC_mk {w : World} {s : Value} {k : Nat} {f : Nat → Int} (h : Dg w s k f) (hc : Zb2 f k) {x : Int} (hv : val f k = x) (neg : Bool) {ng : Bool} (hng : ng = (neg && decide (0 < k))) : IntC w (.agg #[.bool ng, s]) (zof neg x) := by
 have h0 := Zam h.dig
 have h1 := Zc5 h.dig hc
 refine ⟨s, k, f, ?_, h, hc, ?_⟩
 ·subst hng
  congr 3
  cases neg <;> simp [zof] <;> omega
 ·cases neg <;> simp [zof] <;> omega
set_option maxHeartbeats 1000000 in
theorem Zb9 {w : World} {v : Value} {n : Nat} {f : Nat → Int} (neg : Bool) (h : Dg w v n f) (hn : n ≤ L) : Calls Tryz.prog 119 #[.bool neg, v] w (Ret w (Ze9 (zof neg (val f n)))) := by
  have HD := Lib.hid h
  have hn' := Lib.hid hn
  clear h hn
  have fin : ∀ (a : Option Addr) (k cap : Nat) (ng : Bool) (W : World), (Below w.heap.size w W) → k ≤ n → v = .slice a n cap → Zb2 f k → val f k = val f n → ng = (neg && decide (0 < k)) → Ze9 (zof neg (val f n)) W (.agg #[.bool ng, .slice a k cap]) := by
    intro a k cap ng W hb hk e hc hv hng
    subst e
    exact intC_mk ((HD.out.take hk).below hb) hc hv neg hng
  have FIN := Lib.hid fin
  clear fin
  cases neg with
  | false =>
    go_enter Tryz.func119, Tryz.ntmps119
    go_wp2_with fail
    refine (Zbl (HD.out.below (Zai _)) hn'.out).mono ?_
    rintro e w1 ⟨u, rfl, rfl, a, cap, k, hv, rfl, hk, hcap, hc, hx⟩
    have HC := Lib.hid (And.intro hv (And.intro hc hx))
    clear hv hc hx
    go_wp2
    exact bodyPost_ret (v := .agg #[.bool false, .slice a k cap]) (by simp [results, Tryz.results119, go_sem]) rfl
      (.mk rfl (Zai _) (FIN.out _ _ _ false _ (Zai _) hk HC.out.1 HC.out.2.1 HC.out.2.2 rfl))
  | true =>
    go_enter Tryz.func119, Tryz.ntmps119
    go_wp2_with fail
    refine (Zbl (HD.out.below (Zai _)) hn'.out).mono ?_
    rintro e w1 ⟨u, rfl, rfl, a, cap, k, hv, rfl, hk, hcap, hc, hx⟩
    have HC := Lib.hid (And.intro hv (And.intro hc hx))
    have hn1 := hn'.out
    unfold L at hn1
    clear hv hc hx
    by_cases h0 : 0 < k
    · go_wp2
      exact bodyPost_ret (v := .agg #[.bool true, .slice a k cap]) (by simp [results, Tryz.results119, go_sem]) rfl
        (.mk rfl (Zai _) (FIN.out _ _ _ true _ (Zai _) hk HC.out.1 HC.out.2.1 HC.out.2.2 (by simp [h0])))
    · go_wp2
      exact bodyPost_ret (v := .agg #[.bool false, .slice a k cap]) (by simp [results, Tryz.results119, go_sem]) rfl
        (.mk rfl (Zai _) (FIN.out _ _ _ false _ (Zai _) hk HC.out.1 HC.out.2.1 HC.out.2.2 (by simp [h0])))
set_option maxHeartbeats 1000000 in
theorem normal_c {w : World} {u : Value} {z : Int} (h : IntR w u L z) : Calls Tryz.prog 128 #[u] w (Ret w (Ze9 z)) := by
 obtain ⟨neg, s, n, f, rfl, hd, hn, hz⟩ := h
 have HZ := Lib.hid hz
 clear hz
 have HD := Lib.hid hd
 have HN := Lib.hid hn
 clear hd hn
 go_enter Tryz.func128, Tryz.ntmps128
 go_wp2_with fail
 obtain ⟨W0, hW0⟩ : ∃ W0, W0 = (w.alloc (Obj.cells #[Value.bool neg, s] 37)).alloc (Obj.cells #[Value.bool false, Value.slice none 0 0] 37) := ⟨_, rfl⟩
 have hsize : W0.heap.size = w.heap.size + 2 := by subst hW0; simp
 have hr : Za8 W0 (w.heap.size + 1) (Value.bool false) (Value.slice none 0 0) := by subst hW0; rw [show w.heap.size + 1 = (w.alloc (Obj.cells #[Value.bool neg, s] 37)).heap.size from by simp]; exact Za8.new _ _ _ _
 have hB : Hid (Below w.heap.size w W0) := by subst hW0; exact (Zai _).alloc (by simp) _
 have hc0 : ∀ W, Hid (Below (w.heap.size + 1) W0 W) → W.cell? ⟨w.heap.size, 0, none⟩ = some (.bool neg) := fun W h => (h.out.cell (p := ⟨_, _, _⟩) (by simp)).trans (by subst hW0; simp [World.cell?_alloc_lt])
 have hc1 : ∀ W, Hid (Below (w.heap.size + 1) W0 W) → W.cell? ⟨w.heap.size, 1, none⟩ = some s := fun W h => (h.out.cell (p := ⟨_, _, _⟩) (by simp)).trans (by subst hW0; simp [World.cell?_alloc_lt])
 rw [← hW0]
 have HW0 := Lib.hid hW0
 clear hW0
 have hr := hr.drew
 have hs := Lib.hid ((Below.refl (w.heap.size + 1) W0).drew)
 go_region_held3 (fun W => Hid (Below (w.heap.size + 1) W0 W)) (first | assumption | (exact Zgv (by assumption) _ _) | (exact Zbr (by assumption) hb oM))
  (first
   | (go_at_call 147; refine (Zbl (HD.out.below (now hB (by assumption) oM)) HN.out).mono ?_; rintro e w1 ⟨u, rfl, rfl, a, cap, k, hv, rfl, hk, hcap, hc, hx⟩; have HT := Lib.hid (And.intro hv (And.intro hc hx)); have HK := Lib.hid (Nat.le_trans hk HN.out); clear hv hc hx)
   | (go_at_call 155; refine (clone_c ((HD.out.below (now hB (by assumption) oM)).front HT.out.1 hk) HK.out).mono ?_; rintro e w1 ⟨v1, rfl, hb, h1⟩; have hr := hr.below hb; have H1 := Lib.hid h1; clear h1)
   | (go_at_call 119; refine (Zb9 neg H1.out HK.out).mono ?_; rintro e w2 ⟨v2, rfl, hb, h2⟩; have hr := hr.below hb; have H2 : Hid (IntC w2 v2 z) := (by rw [HZ.out, ← HT.out.2.2]; exact h2); clear h2; obtain ⟨a', n', cap', rfl⟩ := H2.out.agg; obtain ⟨q0, q1, q2, q3, q4, q5⟩ := hr.two))
 have HB := Lib.hid (now hB (by assumption) oM : Below w.heap.size w _)
 clear hc0 hc1 hs
 go_wp2
 exact bodyPost_ret (v := .agg #[.bool (decide (z < 0)), .slice a' n' cap']) (by simp [results, Tryz.results128, go_sem, q4, q5]) rfl
  (.mk rfl HB.out (H2.out.far hr (Zay _ _ _ _) Zas))
theorem val_set {f : Nat → Int} {k : Nat} (x : Int) : ∀ {n}, k < n → val (set f k x) n = val f n + (x - f k) * pw k
  | 0, h => oM
  | n + 1, h => by
    simp only [val]
    by_cases e : k = n
    · subst e; rw [Zb5 _ _ (Nat.le_refl k), set_eq]; grind
    · rw [val_set x (n := n) oM, Zdc _ _ oM]; omega
theorem Zf7 {x y : Int} (hx : Zal x) (hy : Zal y) : 0 ≤ x * y ∧ x * y ≤ 18446744065119617025 := by
 obtain ⟨hx0, hx1⟩ := hx
 obtain ⟨hy0, hy1⟩ := hy
 refine ⟨Int.mul_nonneg hx0 hy0, ?_⟩
 have h1 : x * y ≤ 4294967295 * y := Int.mul_le_mul_of_nonneg_right (by unfold B at hx1; omega) hy0
 unfold B at hy1
 omega
structure TimesI (f g : Nat → Int) (n m i j : Nat) (h : Nat → Int) (c : Int) : Prop where
 dig : Digs h (n + m)
 car : Zal c
 eq : val h (n + m) + c * pw (i + j) = val f i * val g m + f i * val g j * pw i
 zero : ∀ t, i + m ≤ t → h t = 0
def TimesO (f g : Nat → Int) (n m i : Nat) (h : Nat → Int) : Prop := Digs h (n + m) ∧ val h (n + m) = val f i * val g m ∧ ∀ t, i + m ≤ t → h t = 0
theorem Zfs : ∀ n, val (fun _ => (0 : Int)) n = 0
 | 0 => rfl
 | n + 1 => by simp [val, Zfs n]
theorem timesO_zero (f g : Nat → Int) (n m : Nat) : TimesO f g n m 0 (fun _ => 0) :=
 ⟨fun _ _ => zero_dig, by rw [Zfs]; simp [val], fun _ _ => rfl⟩
theorem timesO_in {f g h : Nat → Int} {n m i : Nat} (H : TimesO f g n m i h) : TimesI f g n m i 0 h 0 :=
 ⟨H.1, zero_dig, by rw [H.2.1]; simp [val], H.2.2⟩
theorem timesI_step {f g h : Nat → Int} {n m i j : Nat} {c : Int} (hf : Digs f n) (hg : Digs g m) (hi : i < n) (hj : j < m) (H : TimesI f g n m i j h c) :
  TimesI f g n m i (j + 1) (set h (i + j) ((f i * g j + h (i + j) + c) % 4294967296)) ((f i * g j + h (i + j) + c) / 4294967296) := by
 have hm := Zf7 (hf i hi) (hg j hj)
 have hd := H.dig (i + j) oM
 have hc := H.car
 obtain ⟨hd0, hd1⟩ := hd
 obtain ⟨hc0, hc1⟩ := hc
 refine ⟨Zb4 H.dig (Zce _), ?_, ?_, ?_⟩
 ·unfold Zal B at *; omega
 ·rw [val_set _ oM]
  have e := Zdf (f i * g j + h (i + j) + c)
  have h1 := H.eq
  have e2 : pw (i + (j + 1)) = pw (i + j) * B := rfl
  have e3 : pw (i + j) = pw i * pw j := pw_add i j
  rw [e2]
  simp only [val]
  unfold B at e ⊢
  grind
 ·intro t ht
  rw [Zdc _ _ oM]
  exact H.zero t ht
theorem timesI_end {f g h : Nat → Int} {n m i : Nat} {c : Int} (hi : i < n) (H : TimesI f g n m i m h c) : TimesO f g n m (i + 1) (set h (i + m) c) := by
 refine ⟨Zb4 H.dig H.car, ?_, fun t ht => ?_⟩
 ·rw [val_set _ oM, H.zero (i + m) oM]
  have h1 := H.eq
  simp only [val]
  grind
 ·rw [Zdc _ _ oM]
  exact H.zero t oM
def TimesR (n m : Nat) (f g : Nat → Int) (w' : World) (u : Value) : Prop := ∃ k h, Dg w' u k h ∧ k ≤ n + m ∧ val h k = val f n * val g m
set_option maxHeartbeats 1600000 in
theorem times_c {w : World} {va vb : Value} {n m : Nat} {f g : Nat → Int} (ha : Dg w va n f) (hb : Dg w vb m g) (hn : n ≤ L / 2) (hm : m ≤ L / 2) :
  Calls Tryz.prog 151 #[va, vb] w (Ret w (TimesR n m f g)) := by
 have HF := Lib.hid ha.dig
 have HG := Lib.hid hb.dig
 obtain ⟨xa, ca, rfl, hca, hda⟩ := ha
 obtain ⟨xb, cb, rfl, hcb, hdb⟩ := hb
 unfold L at hn hm
 by_cases h0 : n = 0
 ·subst h0
  go_enter Tryz.func151, Tryz.ntmps151
  go_wp2
  go_ret
  exact .mk rfl (Below.refl _ _) ⟨0, _, Dg.nil w f, oM, by simp [val]⟩
 have hb0 : ((n : Int) == 0) = false := by simp; omega
 by_cases h1 : m = 0
 ·subst h1
  go_enter Tryz.func151, Tryz.ntmps151
  go_wp2
  go_ret
  exact .mk rfl (Below.refl _ _) ⟨0, _, Dg.nil w f, oM, by simp [val]⟩
 have hb1 : ((m : Int) == 0) = false := by simp; omega
 rcases hda with hda | ⟨b, off, rfl, hda⟩
 ·omega
 rcases hdb with hdb | ⟨b', off', rfl, hdb⟩
 ·omega
 by_cases h11 : n = 1 ∧ m = 1
 ·obtain ⟨rfl, rfl⟩ := h11
  have hc1 : w.cell? ⟨b, off, none⟩ = some (.int .u32 (f 0)) := hda.cell 0 oM
  have hc2 : w.cell? ⟨b', off', none⟩ = some (.int .u32 (g 0)) := hdb.cell 0 oM
  have hm := Zf7 (HF.out 0 oM) (HG.out 0 oM)
  have hx0 := (HF.out 0 oM).1
  have hx1 : f 0 < 4294967296 := (HF.out 0 oM).2
  have hy0 := (HG.out 0 oM).1
  have hy1 : g 0 < 4294967296 := (HG.out 0 oM).2
  obtain ⟨hm0, hm1⟩ := hm
  have e1 := Za4 hx0 oM
  have e2 := Za4 hy0 oM
  have e3 := Za4 hm0 oM
  have HH : Hid (0 ≤ f 0 * g 0 ∧ f 0 * g 0 < 18446744073709551616) := ⟨hm0, oM⟩
  clear hda hdb
  go_enter Tryz.func151, Tryz.ntmps151
  go_wp2_with fail
  have hk := Lib.hid ((Below.refl w.heap.size w).drew)
  have hq1 : ∀ W, Hid (Below w.heap.size w W) → W.cell? ⟨b, off, none⟩ = some (.int .u32 (f 0)) := fun W h => (h.out.cell (p := ⟨_, _, _⟩) (lt_of_cell hc1)).trans hc1
  have hq2 : ∀ W, Hid (Below w.heap.size w W) → W.cell? ⟨b', off', none⟩ = some (.int .u32 (g 0)) := fun W h => (h.out.cell (p := ⟨_, _, _⟩) (lt_of_cell hc2)).trans hc2
  clear hc1 hc2
  go_region_held3 (fun W => Hid (Below w.heap.size w W)) (first | assumption | exact Zbr (by assumption) hb (Nat.le_refl _))
   (first | (go_at_call 120; refine (wide_c _ _ HH.out.1 HH.out.2).mono ?_; rintro e w1 ⟨v1, rfl, hb, h1⟩; have H1 := Lib.hid h1; clear h1))
  have HB := Lib.hid (Zak (Below.refl w.heap.size w).drew hb)
  clear hq1 hq2 hk hb e1 e2 e3
  go_wp2
  go_ret
  obtain ⟨k, h, d1, d2, d3, d4⟩ := H1.out
  exact .mk rfl HB.out ⟨k, h, d1, d2, by rw [d4]; simp [val, pw]⟩
 have HE : Hid ((((n : Int) == 1) = true ∧ ((m : Int) == 1) = false) ∨ ((n : Int) == 1) = false) := by
  by_cases e : n = 1
  ·left; constructor <;> simp <;> omega
  ·right; simp; omega
 have hmk := mk_u32 (n + m) (by unfold L; omega) w
 rw [show ((n + m : Nat) : Int) = (n : Int) + (m : Int) from oM] at hmk
 have HDA := Lib.hid hda
 have HDB := Lib.hid hdb
 clear h11 hda hdb
 rcases HE with ⟨he1, he2⟩ | he1
 all_goals
  go_enter Tryz.func151, Tryz.ntmps151
  go_wp2_with fail
  clear hmk
  go_loopw [46] (fun i wr => ∃ (k : Nat) (h : Nat → Int), i = .int .i64 k ∧ k ≤ n ∧ Hid (Own wr w.heap.size (n + m) h) ∧ Hid (TimesO f g n m k h) ∧ Hid (Below w.heap.size w wr) ∧ Hid (w.heap.size < wr.heap.size))
   (fun i _ => n - (intOf i).toNat)
  case atStart => exact ⟨0, _, rfl, Nat.zero_le _, Own.made w _ _, timesO_zero f g n m, Zai _, by simp [Hid]⟩
  case round =>
   obtain ⟨k, h, rfl, hk, HO, HI, HB, HS⟩ := hrel
   obtain ⟨wo, rfl⟩ : ∃ wo : World, wo = wr := ⟨_, rfl⟩
   by_cases hlt : k < n
   ·have hcell := (HDA.out.below HB.out).cell k hlt
    have hx0 := (HF.out k hlt).1
    have hx1 : f k < 4294967296 := (HF.out k hlt).2
    go_wp2_with fail
    clear hcell
    go_loopw [8, 53] (fun c j wr => ∃ (q : Nat) (h : Nat → Int) (cc : Int), j = .int .i64 q ∧ q ≤ m ∧ c = .int .u64 cc ∧ Hid (Own wr w.heap.size (n + m) h) ∧ Hid (TimesI f g n m k q h cc) ∧ Hid (Below w.heap.size w wr) ∧ Hid (w.heap.size < wr.heap.size))
     (fun _ j _ => m - (intOf j).toNat)
    case atStart => exact ⟨0, _, 0, rfl, Nat.zero_le _, rfl, HO, timesO_in HI.out, HB, HS⟩
    case round =>
     obtain ⟨q, h', cc, rfl, hq, rfl, HO', HI', HB', HS'⟩ := hrel
     clear HO HI HB HS
     by_cases hlq : q < m
     ·have hcell := (HDB.out.below HB'.out).cell q hlq
      have hown := HO'.out.cell (k + q) oM
      have hfree := HO'.out.free (k + q)
      have HN := Lib.hid (timesI_step HF.out HG.out hlt hlq HI'.out)
      obtain ⟨hm0, hm1⟩ := Zf7 (HF.out k hlt) (HG.out q hlq)
      have hy0 := (HG.out q hlq).1
      have hy1 : g q < 4294967296 := (HG.out q hlq).2
      have ho0 := (HI'.out.dig (k + q) oM).1
      have ho1 : h' (k + q) < 4294967296 := (HI'.out.dig (k + q) oM).2
      have hc0 := HI'.out.car.1
      have hc1 : cc < 4294967296 := HI'.out.car.2
      go_wp2
      go_roundw
      case rel => exact ⟨q + 1, _, _, by go_num, oM, rfl, HO'.out.set oM _, HN.out, HB'.out.setCell (Nat.le_refl _) _, by simpa [Hid] using HS'.out⟩
      case measure => simp [intOf]; omega
     ·obtain rfl : q = m := oM
      have hown := HO'.out.cell (k + q) oM
      have hfree := HO'.out.free (k + q)
      have HN := Lib.hid (timesI_end hlt HI'.out)
      have hc0 := HI'.out.car.1
      have hc1 : cc < 4294967296 := HI'.out.car.2
      go_wp2
      go_roundw
      case rel => exact ⟨k + 1, _, by go_num, oM, HO'.out.set oM _, HN.out, HB'.out.setCell (Nat.le_refl _) _, by simpa [Hid] using HS'.out⟩
      case measure => simp [intOf]; omega
   ·obtain rfl : k = n := oM
    go_wp2
    go_ret
    exact .mk rfl HB.out ⟨k + m, h, HO.out.dg HI.out.1 (Nat.le_refl _), Nat.le_refl _, HI.out.2.1⟩
def Pair (a b : Value) (_ : World) (u : Value) : Prop := u = .tuple #[a, b]
theorem div32_arith {hi lo y : Int} (hhi : Zal hi) (hlo : Zal lo) (hy : hi < y) (hy1 : y < 4294967296) :
  0 ≤ (hi * 4294967296 + lo) / y ∧ (hi * 4294967296 + lo) / y < 4294967296 ∧ 0 ≤ (hi * 4294967296 + lo) % y ∧ (hi * 4294967296 + lo) % y < 4294967296 := by
 obtain ⟨h0, h1⟩ := hhi
 obtain ⟨l0, l1⟩ := hlo
 unfold B at h1 l1
 refine ⟨Int.ediv_nonneg oM oM, Int.ediv_lt_of_lt_mul oM ?_, Int.emod_nonneg _ oM, ?_⟩
 ·omega
 ·have := Int.emod_lt_of_pos (hi * 4294967296 + lo) (b := y) oM
  omega
set_option maxHeartbeats 1000000 in
theorem div32_c (hi lo y : Int) (w : World) (hhi : Zal hi) (hlo : Zal lo) (hy : hi < y) (hy1 : y < 4294967296) :
  Calls Tryz.prog 221 #[.int .u32 hi, .int .u32 lo, .int .u32 y] w (Ret w (Pair (.int .u32 ((hi * 4294967296 + lo) / y)) (.int .u32 ((hi * 4294967296 + lo) % y)))) := by
 obtain ⟨a1, a2, a3, a4⟩ := div32_arith hhi hlo hy hy1
 obtain ⟨h0, h1⟩ := hhi
 obtain ⟨l0, l1⟩ := hlo
 unfold B at h1 l1
 have b0 : (y != 0) = true := by simp; omega
 have b1 : decide (y ≤ hi) = false := by simp; omega
 have e4 := or_join h0 h1 l0 l1
 have e1 := Za4 (x := hi * 4294967296) oM oM
 have y0 : 0 < y := oM
 have z0 : 0 ≤ hi * 4294967296 + lo := oM
 have z1 : hi * 4294967296 + lo < 18446744073709551616 := oM
 have d0 : (y == 0) = false := by simp; omega
 go_enter Tryz.func221, Tryz.ntmps221
 go_wp2
 go_quiet (fail)
 go_wp2
 go_ret2
 exact .mk rfl ⟨rfl, rfl, rfl, Nat.le_refl _, fun _ _ => rfl⟩ rfl
structure ShortI (f : Nat → Int) (n : Nat) (d : Int) (k : Nat) (h : Nat → Int) (r : Int) : Prop where
 dig : Digs h n
 r0 : 0 ≤ r
 r1 : r < d
 zero : ∀ t, t < k → h t = 0
 eq : val h n * d + r * pw k + val f k = val f n
theorem shortI_start {f : Nat → Int} {n : Nat} {d : Int} (hd : 0 < d) : ShortI f n d n (fun _ => 0) 0 :=
 ⟨fun _ _ => zero_dig, Int.le_refl _, hd, fun _ _ => rfl, by rw [Zfs]; omega⟩
theorem shortI_step {f h : Nat → Int} {n k : Nat} {d r : Int} (hf : Digs f n) (hd : Zal d) (hk : k < n) (H : ShortI f n d (k + 1) h r) :
  ShortI f n d k (set h k ((r * 4294967296 + f k) / d)) ((r * 4294967296 + f k) % d) := by
 have hr : Zal r := ⟨H.r0, by have := H.r1; have := hd.2; omega⟩
 obtain ⟨a1, a2, a3, a4⟩ := div32_arith hr (hf k hk) H.r1 hd.2
 have hd0 : 0 < d := by have := H.r0; have := H.r1; omega
 refine ⟨Zb4 H.dig ⟨a1, a2⟩, a3, Int.emod_lt_of_pos _ hd0, fun t ht => ?_, ?_⟩
 ·rw [Zdc _ _ oM]; exact H.zero t oM
 ·rw [val_set _ hk, H.zero k oM]
  have e := H.eq
  have e2 := Int.mul_ediv_add_emod (r * 4294967296 + f k) d
  have e3 : pw (k + 1) = pw k * 4294967296 := rfl
  rw [e3] at e
  simp only [val] at e
  grind
def ShortR (n : Nat) (f : Nat → Int) (d : Int) (w' : World) (u : Value) : Prop :=
 ∃ s h r, u = .tuple #[s, .int .u32 r] ∧ Dg w' s n h ∧ 0 ≤ r ∧ r < d ∧ val h n * d + r = val f n
set_option maxHeartbeats 1000000 in
theorem short_c {w : World} {va : Value} {n : Nat} {f : Nat → Int} {d : Int} (ha : Dg w va n f) (hn : n ≤ L) (hd : Zal d) (hd0 : 0 < d) :
  Calls Tryz.prog 204 #[va, .int .u32 d] w (Ret w (ShortR n f d)) := by
 have HF := Lib.hid ha.dig
 obtain ⟨xa, ca, rfl, hca, hda⟩ := ha
 have hmk := mk_u32 n oM w
 unfold L at hn
 have HD := Lib.hid (And.intro hd hd0)
 have hd1 : d < 4294967296 := hd.2
 clear hd
 go_enter Tryz.func204, Tryz.ntmps204
 go_wp2_with fail
 clear hmk
 go_loopw [7, 8] (fun c i wr => ∃ (k : Nat) (h : Nat → Int) (r : Int), i = .int .i64 ((k : Int) - 1) ∧ k ≤ n ∧ c = .int .u32 r ∧ Hid (Own wr w.heap.size n h) ∧ Hid (ShortI f n d k h r) ∧ Hid (Below w.heap.size w wr) ∧ Hid (w.heap.size < wr.heap.size))
  (fun _ i _ => (intOf i + 1).toNat)
 case atStart => exact ⟨n, _, 0, rfl, Nat.le_refl _, rfl, Own.made w _ _, shortI_start hd0, Zai _, by simp [Hid]⟩
 case round =>
  obtain ⟨k, h, r, rfl, hk, rfl, HO, HI, HB, HS⟩ := hrel
  by_cases h0 : 0 < k
  ·rcases hda with hda | ⟨b, off, rfl, hda⟩
   ·omega
   obtain ⟨j, rfl⟩ : ∃ j, k = j + 1 := ⟨k - 1, oM⟩
   rw [show (((j + 1 : Nat) : Int) - 1) = (j : Int) from oM]
   have hcell := (hda.below HB.out).cell j oM
   have hown := HO.out.cell j oM
   have hfree := HO.out.free j
   have HN := Lib.hid (shortI_step HF.out HD.out.1 (show j < n by omega) HI.out)
   have HR : Hid (Zal r) := ⟨HI.out.r0, Int.lt_trans HI.out.r1 HD.out.1.2⟩
   clear hda
   go_wp2_with fail
   refine (div32_c _ _ _ _ HR.out (HF.out j oM) HI.out.r1 hd1).mono ?_
   rintro e w1 ⟨v, rfl, hb, rfl⟩
   have HB1 := Lib.hid (HB.out.trans (hb.mono (Nat.le_of_lt HS.out)))
   have HO1 := Lib.hid (HO.out.below HS.out hb)
   have HS1 := Lib.hid (Nat.lt_of_lt_of_le HS.out hb.size)
   have hown1 := HO1.out.cell j oM
   have hfree1 := HO1.out.free j
   clear hown hfree hcell hb HB HO HS
   go_wp2
   go_roundw
   case rel => exact ⟨j, _, _, rfl, oM, rfl, HO1.out.set oM _, HN.out, HB1.out.setCell (Nat.le_refl _) _, by simpa [Hid] using HS1.out⟩
   case measure => first | (simp [intOf]; done) | (simp [intOf]; omega)
  ·obtain rfl : k = 0 := oM
   have HE := HI.out.eq
   have HE2 := Lib.hid HE
   clear HE
   go_wp2
   go_ret2
   exact .mk rfl HB.out ⟨_, h, r, rfl, HO.out.dg HI.out.dig (Nat.le_refl _), HI.out.r0, HI.out.r1, by have := HE2.out; simp [val, pw] at this; omega⟩
end Hp
