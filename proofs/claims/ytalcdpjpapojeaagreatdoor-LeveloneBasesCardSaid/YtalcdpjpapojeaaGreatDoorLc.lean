/- Horner's rule of the program, a range over an iterator. -/
import Derived.RangeFuncNested
import Derived.RangeFuncBound
import Derived.RangeFuncCalls
import Derived.RangeFuncLeaves
import Derived.Shelf.Abstract
import Derived.Shelf.RegionOpen
import Derived.WalkKit
import Derived.OwnWalkIn
import Derived.TacticsInMore
import Derived.LoopNIn
import Derived.LoopIn
import Derived.Test.YtalcdpjpapojeaaGreatDoorLb
set_option linter.all false
namespace Hp
open Go Go.RowKit Go.Proofs Go.Shelf
attribute [local go_sem] Oper.semAt_some
structure KpX (n B : Nat) (W W' : World) : Prop where
 size : W.heap.size ≤ W'.heap.size
 same : ∀ b, b < n → b ≠ B → W'.heap[b]? = W.heap[b]?
theorem KpX.refl (n B : Nat) (W : World) : KpX n B W W := ⟨Nat.le_refl _, fun _ _ _ => rfl⟩
theorem KpX.trans {n B : Nat} {X Y Z : World} (h : KpX n B X Y) (k : KpX n B Y Z) : KpX n B X Z := ⟨Nat.le_trans h.size k.size, fun b h1 h2 => (k.same b h1 h2).trans (h.same b h1 h2)⟩
theorem KpX.cell {n B : Nat} {W W' : World} (h : KpX n B W W') {p : Addr} (h1 : p.block < n) (h2 : p.block ≠ B) : W'.cell? p = W.cell? p := World.cell?_of_block (w := W) (h.same p.block h1 h2)
theorem KpX.below {n B : Nat} {W W' : World} (h : Below W.heap.size W W') (hn : n ≤ W.heap.size) : KpX n B W W' := ⟨h.size, fun b h1 _ => h.block b oM⟩
def upD {α : Type} (f : Nat → α) (k : Nat) : List α := (List.range k).map f
theorem upD_succ {α : Type} (f : Nat → α) (k : Nat) : upD f (k + 1) = upD f k ++ [f k] := by simp [upD, List.range_succ]
theorem upD_len {α : Type} (f : Nat → α) (k : Nat) : (upD f k).length = k := by simp [upD]
set_option maxRecDepth 100000 in
set_option maxHeartbeats 4000000 in
theorem back1_in {α : Type} (encs : α → Array Value) (n : Nat) (hn : 1 ≤ n) (l Bs m B b off len cap : Nat) (c : Nat → Nat → Value) (g : Nat → α) (hg : ∀ k, k < len → encs (g k) = #[.int .i64 ((len : Int) - 1 - k), .agg #[c (len - 1 - k) 0, c (len - 1 - k) 1, c (len - 1 - k) 2, c (len - 1 - k) 3]])
  (hreach : len ≤ 1000) (hb : b < m) (hbB : b ≠ B) (hBs : Bs < m) (hBsB : Bs ≠ B) (J Jx : List α → World → Prop)
  (hY : ∀ pre x W, J pre W → pre.length < len → YieldAt Fence.wide (n - 1) Tryz.prog l (encs x) W fun e W' =>
   (e = .returned (.bool true) ∧ J (pre ++ [x]) W' ∧ KpX m B W W') ∨ (e = .returned (.bool false) ∧ Jx (pre ++ [x]) W'))
  (W : World) (hBc : W.cell? ⟨Bs, 0, none⟩ = some (.slice (some ⟨b, off, none⟩) len cap)) (hc : ∀ j i, j < len → i < 4 → W.cell? ⟨b, off + j * 4 + i, none⟩ = some (c j i)) (h0 : J [] W) :
  CallsIn Fence.wide n Tryz.prog 228 #[.func (.yield l) #[] #[], .pointer (some ⟨Bs, 0, none⟩)] W fun e W' => (∃ v, e = .returned v) ∧
   ((∃ ys, ys = upD g len ∧ J ys W') ∨ (∃ pre, (∃ k, k ≤ len ∧ pre = upD g k) ∧ Jx pre W')) := by
 refine callsIn_of_wp Tryz.func228 rfl trivial ?_ rfl
 simp only [Tryz.ntmps228, List.size_toArray, List.length_cons, List.length_nil, Nat.reduceAdd, Nat.reduceSub, Array.replicate_succ, Array.replicate_zero, List.push_toArray, List.append_toArray, List.nil_append, List.cons_append]
 gi_wp2
 gi_loopw [3] (fun i wr => ∃ k : Nat, k ≤ len ∧ i = .int .i64 ((len : Int) - 1 - k) ∧ J (upD g k) wr ∧ KpX m B W wr)
  (fun i _ => (intOf i + 1).toNat)
 case atStart => exact ⟨0, Nat.zero_le _, by simp, h0, KpX.refl _ _ _⟩
 case round =>
  obtain ⟨k, hk, rfl, hJs, hnx⟩ := hrel
  have hbx : wr.cell? ⟨Bs, 0, none⟩ = some (.slice (some ⟨b, off, none⟩) len cap) := (hnx.cell (p := ⟨Bs, 0, none⟩) hBs hBsB).trans hBc
  by_cases hlt : k < len
  ·have hcx : ∀ i, i < 4 → wr.cell? ⟨b, off + (len - 1 - k) * 4 + i, none⟩ = some (c (len - 1 - k) i) := fun i hi => (hnx.cell (p := ⟨b, off + (len - 1 - k) * 4 + i, none⟩) hb hbB).trans (hc _ i oM hi)
   obtain ⟨fn, tmps, assign, body, hy, hR⟩ := hY _ (g k) wr hJs (by rw [upD_len]; exact hlt)
   rw [hg k hlt] at hy
   obtain ⟨j, hj⟩ : ∃ j : Nat, j = len - 1 - k := ⟨_, rfl⟩
   rw [← hj] at hcx hy
   have hji : (len : Int) - 1 - k = (j : Int) := oM
   rw [hji] at hy ⊢
   have hjl : j < len := oM
   have HJK : Hid (j + k + 1 = len) := Lib.hid oM
   clear hj hji
   have hc0 : wr.cell? ⟨b, off + j * 4, none⟩ = some (c j 0) := hcx 0 dC
   have hc1 := hcx 1 dC
   have hc2 := hcx 2 dC
   have hc3 := hcx 3 dC
   clear hcx
   gi_wp2
   refine hR.mono ?_
   rintro e W3 (⟨rfl, hJ3, hk3⟩ | ⟨rfl, hJx3⟩)
   ·gi_wp2
    go_roundw
    case rel => exact ⟨k + 1, oM, by have := HJK.out; simp; omega, by rw [upD_succ]; exact hJ3, hnx.trans hk3⟩
    case measure =>
     have := HJK.out
     simp [intOf]
   ·gi_wp2
    refine bodyPost_ret (results_none rfl _ _ _) rfl ?_
    exact ⟨⟨_, rfl⟩, .inr ⟨_, ⟨k + 1, oM, (upD_succ _ _).symm⟩, hJx3⟩⟩
  ·obtain rfl : k = len := oM
   gi_wp2
   go_end0
   exact ⟨⟨_, rfl⟩, .inl ⟨_, rfl, hJs⟩⟩
set_option maxHeartbeats 1000000 in
theorem back_in (n : Nat) (a : Option Addr) (len cap : Nat) (w : World) :
  CallsIn Fence.wide n Tryz.prog 220 #[.slice a len cap] w fun e w' => e = .returned (.func (.func 228) #[] #[.pointer (some ⟨w.heap.size, 0, none⟩)]) ∧ w' = w.alloc (.cells #[.slice a len cap] 54) := by
 refine callsIn_of_wp Tryz.func220 rfl trivial ?_ rfl
 simp only [Tryz.ntmps220, List.size_toArray, List.length_cons, List.length_nil, Nat.reduceAdd, Nat.reduceSub, Array.replicate_succ, Array.replicate_zero, List.push_toArray, List.append_toArray, List.nil_append, List.cons_append]
 gi_wp2
 go_ret
 exact ⟨rfl, rfl⟩
theorem DgAt.keep {w w' : World} (hc : ∀ p v, w.cell? p = some v → w'.cell? p = some v) {b off n : Nat} {f : Nat → Int} (h : DgAt w b off n f) : DgAt w' b off n f := ⟨fun i hi => hc _ _ (h.cell i hi), h.dig⟩
theorem Dg.keep {w w' : World} (hc : ∀ p v, w.cell? p = some v → w'.cell? p = some v) {v : Value} {n : Nat} {f : Nat → Int} (h : Dg w v n f) : Dg w' v n f := by
 obtain ⟨a, cap, h1, h2, h3 | ⟨b, off, h3, h4⟩⟩ := h
 ·exact ⟨a, cap, h1, h2, .inl h3⟩
 ·exact ⟨a, cap, h1, h2, .inr ⟨b, off, h3, h4.keep hc⟩⟩
theorem IntC.keep {w w' : World} (hc : ∀ p v, w.cell? p = some v → w'.cell? p = some v) {u : Value} {z : Int} (h : IntC w u z) : IntC w' u z := by
 obtain ⟨s, n, f, h1, h2, h3⟩ := h
 exact ⟨s, n, f, h1, h2.keep hc, h3⟩
theorem RatC.keep {w w' : World} (hc : ∀ p v, w.cell? p = some v → w'.cell? p = some v) {u : Value} {q : Rat} (h : RatC w u q) : RatC w' u q := by
 obtain ⟨a0, a1, b0, b1, e, h1, h2⟩ := h
 exact ⟨a0, a1, b0, b1, e, h1.keep hc, h2.keep hc⟩
theorem Slot.grown {w w' : World} {r : Nat} {cs : Array Value} {row : Option Nat} (h : Slot w r cs) (hg : w.grownBy w' row) (hr : ∀ k, row = some k → ∃ o : Obj, w.heap[k]? = some o ∧ o.isCells = false) : Slot w' r cs := by
 obtain ⟨t, ht⟩ := h
 exact ⟨t, (grownBy_keeps_cells hg hr ht rfl).trans ht⟩
theorem keeps_below {W W' : World} (h : Below W.heap.size W W') : KeepsOthers W W' := ⟨h.size, fun k o hk _ => (h.block k (Array.getElem?_eq_some_iff.1 hk).1).trans hk⟩
theorem keeps_put4 {W : World} {r : Nat} {u0 u1 u2 u3 : Value} : KeepsOthers W (put4 W r u0 u1 u2 u3) := (((KeepsOthers.setCell _ _ _).trans (KeepsOthers.setCell _ _ _)).trans (KeepsOthers.setCell _ _ _)).trans (KeepsOthers.setCell _ _ _)
theorem kpx_put4 {n : Nat} {W : World} {r : Nat} {u0 u1 u2 u3 : Value} : KpX n r W (put4 W r u0 u1 u2 u3) := ⟨(Zcp (Below.refl r W) (Nat.le_refl _) u0 u1 u2 u3).size, fun b _ hb => Zbv b hb⟩
def El (w : World) (K : Nat) : Type := { x : Nat × Value × Rat // RatV w x.2.1 K x.2.2 }
def El.q {w : World} {K : Nat} (x : El w K) : Rat := x.1.2.2
def El.encs {w : World} {K : Nat} (x : El w K) : Array Value := #[.int .i64 (x.1.1 : Int), x.1.2.1]
def hql {w : World} {K : Nat} (x : Rat) : List (El w K) → Rat := List.foldl (fun s e => s * x + e.q) 0
theorem hql_snoc {w : World} {K : Nat} (x : Rat) (l : List (El w K)) (e : El w K) : hql x (l ++ [e]) = hql x l * x + e.q := by simp [hql]
theorem ht_hql' {w : World} {K : Nat} {x : Rat} (hK : 1 ≤ K) (hx : Ht x K) : ∀ (l : List (El w K)) (s : Rat) (h : Nat), 1 ≤ h → Ht s h → Ht (l.foldl (fun s e => s * x + e.q) s) (h + l.length * (2 * K + 1))
  | [], _, _, _, hs => by simpa using hs
  | e :: l, s, h, h1, hs => by
    have h2 : Ht (s * x + e.q) (h + (2 * K + 1)) := (Zgy (Zbq hs hx h1) (e.2.ht hK)).mono oM
    exact (ht_hql' hK hx l _ _ oM h2).mono (by rw [List.length_cons, Nat.add_mul]; omega)
theorem ht_hql {w : World} {K : Nat} {x : Rat} (hK : 1 ≤ K) (hx : Ht x K) (l : List (El w K)) : Ht (hql x l) (1 + l.length * (2 * K + 1)) := ht_hql' hK hx l 0 1 (Nat.le_refl _) (Ab.ht0 (k := 1) dC)
attribute [local go_sem] Oper.semAt_some
set_option maxRecDepth 100000 in
set_option maxHeartbeats 16000000 in
theorem eval_c {w : World} {b off len cap K : Nat} {c : Nat → Nat → Value} {f : Nat → Rat} {xv : Value} {x : Rat} (hK : 1 ≤ K ∧ K ≤ 1000) (hl0 : 1 ≤ len) (hlen : len ≤ 1000)
  (hx : RatV w xv K x) (hb : b < w.heap.size) (hc : ∀ j i, j < len → i < 4 → w.cell? ⟨b, off + j * 4 + i, none⟩ = some (c j i)) (hv : ∀ j, j < len → RatV w (.agg #[c j 0, c j 1, c j 2, c j 3]) K (f j)) :
  Calls Tryz.prog 199 #[.slice (some ⟨b, off, none⟩) len cap, xv] w (Ret w (RatP ((upD (fun k => f (len - 1 - k)) len).foldl (fun s e => s * x + e) 0))) := by
 refine (callsIn_wide (n := 5)).1 ?_
 obtain ⟨xa, ya, za, wa, xb, yb, zb, wb, p0, d0, rfl, -, -, -⟩ := hx.open
 refine callsIn_of_wp_marks Tryz.func199 rfl trivial ?_ rfl
 simp only [Tryz.ntmps199, List.size_toArray, List.length_cons, List.length_nil, Nat.reduceAdd, Nat.reduceSub, Array.replicate_succ, Array.replicate_zero, List.push_toArray, List.append_toArray, List.nil_append, List.cons_append]
 gi_wp2_with fail
 refine ⟨trivial, (callsIn_wide.2 (rof_c 0 _ dC dC)).mono ?_⟩
 rintro e w1 ⟨v1, rfl, hb1, h1⟩
 have h1 : RatC w1 v1 0 := h1
 have S3 : Slot (w.alloc (.cells #[.bool xa, .slice ya za wa, .bool xb, .slice yb zb wb] 39)) w.heap.size #[.bool xa, .slice ya za wa, .bool xb, .slice yb zb wb] := Slot.new _ _ _
 have S4 : Slot ((w.alloc (.cells #[.bool xa, .slice ya za wa, .bool xb, .slice yb zb wb] 39)).alloc (.cells #[.bool false, .slice none 0 0, .bool false, .slice none 0 0] 39)) (w.heap.size + 1) #[.bool false, .slice none 0 0, .bool false, .slice none 0 0] := by
  have := Slot.new (w.alloc (.cells #[.bool xa, .slice ya za wa, .bool xb, .slice yb zb wb] 39)) #[.bool false, .slice none 0 0, .bool false, .slice none 0 0] 39
  rwa [World.size_alloc] at this
 have S3 := (S3.alloc (.cells #[.bool false, .slice none 0 0, .bool false, .slice none 0 0] 39)).below hb1
 have S4 := S4.below hb1
 have hB : Below w.heap.size w w1 := ((Zai _).trans ((Zai _).mono (by simp))).trans (hb1.mono (by simp; omega))
 have hsz : w.heap.size + 2 ≤ w1.heap.size := by have := hb1.size; simp at this; omega
 clear hb1
 obtain ⟨y0, y1, y2, y3, y4, y5, y6, y7, rfl⟩ := h1.agg
 have S5 := Slot.new w1 #[.bool false, .slice none 0 0, .bool false, .slice none 0 0] 39
 obtain ⟨t0, t1, t2, t3, t4, t5, t6, t7, r0, r1, r2, r3⟩ := S5.four
 gi_wp2_with fail
 refine ⟨trivial, (back_in _ _ _ _ _).mono ?_⟩
 rintro e w2 ⟨rfl, rfl⟩
 gi_wp2_with fail
 clear t0 t1 t2 t3 t4 t5 t6 t7 r0 r1 r2 r3 S5
 have hnew := @Slot.new
 have S3 := (S3.alloc (.cells #[.bool y0, .slice y1 y2 y3, .bool y4, .slice y5 y6 y7] 39)).alloc (.cells #[.slice (some ⟨b, off, none⟩) len cap] 54)
 have S4 := (S4.alloc (.cells #[.bool y0, .slice y1 y2 y3, .bool y4, .slice y5 y6 y7] 39)).alloc (.cells #[.slice (some ⟨b, off, none⟩) len cap] 54)
 have S5 := (Slot.new w1 #[.bool y0, .slice y1 y2 y3, .bool y4, .slice y5 y6 y7] 39).alloc (.cells #[.slice (some ⟨b, off, none⟩) len cap] 54)
 have S6 := Slot.new (w1.alloc (.cells #[.bool y0, .slice y1 y2 y3, .bool y4, .slice y5 y6 y7] 39)) #[.slice (some ⟨b, off, none⟩) len cap] 54
 rw [World.size_alloc] at S6
 have hB2 : Below w1.heap.size w1 ((w1.alloc (.cells #[.bool y0, .slice y1 y2 y3, .bool y4, .slice y5 y6 y7] 39)).alloc (.cells #[.slice (some ⟨b, off, none⟩) len cap] 54)) := (Zai _).trans ((Zai _).mono (by simp))
 have h1 := h1.below hB2
 have hB := hB.trans (hB2.mono oM)
 have hs2 : ((w1.alloc (.cells #[.bool y0, .slice y1 y2 y3, .bool y4, .slice y5 y6 y7] 39)).alloc (.cells #[.slice (some ⟨b, off, none⟩) len cap] 54)).heap.size = w1.heap.size + 2 := by simp
 generalize hW1 : (w1.alloc (.cells #[.bool y0, .slice y1 y2 y3, .bool y4, .slice y5 y6 y7] 39)).alloc (.cells #[.slice (some ⟨b, off, none⟩) len cap] 54) = W1 at *
 clear hW1 hB2 hnew
 generalize w1.heap.size = B5 at *
 have hxq : Ht x K := hx.ht hK.1
 obtain ⟨g, hgd⟩ : ∃ g : Nat → El w K, ∀ k, g k = ⟨(len - 1 - k, .agg #[c (len - 1 - k) 0, c (len - 1 - k) 1, c (len - 1 - k) 2, c (len - 1 - k) 3], f (len - 1 - k)), hv _ oM⟩ := ⟨fun k => ⟨_, hv (len - 1 - k) oM⟩, fun _ => rfl⟩
 have hgq : hql x (upD g len) = (upD (fun k => f (len - 1 - k)) len).foldl (fun s e => s * x + e) 0 := by
  unfold hql upD
  rw [List.foldl_map, List.foldl_map]
  congr 1
  funext s k
  rw [hgd]
  rfl
 have hseq : SeqStopsK Fence.wide 4 Tryz.prog 228 #[.pointer (some ⟨B5 + 1, 0, none⟩)] (El.encs (w := w) (K := K)) (KpX (B5 + 2) B5) (fun ys => ys = upD g len) (fun _ => True) len W1 := fun l J Jx W hW _ _ hY h0 => by
  refine (back1_in (α := El w K) El.encs 4 dC l (B5 + 1) (B5 + 2) B5 b off len cap c g (fun k hk => ?_) hlen oM oM oM oM J Jx hY W ?_ (fun j i hj hi => ?_) h0).mono ?_
  ·rw [hgd]
   show #[Value.int .i64 ((len - 1 - k : Nat) : Int), _] = _
   rw [show ((len - 1 - k : Nat) : Int) = (len : Int) - 1 - k by omega]
  ·exact (hW.cell (p := ⟨B5 + 1, 0, none⟩) (by show B5 + 1 < _; omega)).trans (S6.cell 0)
  ·exact ((hB.trans (hW.mono hB.size)).cell (p := ⟨b, off + j * 4 + i, none⟩) hb).trans (hc j i hj hi)
  ·rintro e W' ⟨he, ⟨ys, hy, hj⟩ | ⟨pre, -, hj⟩⟩
   ·exact ⟨he, .inl ⟨ys, hy, hj⟩⟩
   ·exact ⟨he, .inr ⟨pre, trivial, hj⟩⟩
 refine wpIn_rangeFunc_ownH rfl dC (gf := 228) (lb := #[.pointer (some ⟨B5 + 1, 0, none⟩)]) rfl trivial (enters_of Tryz.func228 (by kernel_rfl) rfl)
  hseq (fun h k => h.trans k) (fun W l o o' hl h ho _ => ⟨by simp [World.putObj], fun b' h1 h2 => World.putObj_heap_other oM⟩) (Below.refl _ _) (fun _ => rfl)
  (fun pre W => (∃ r0 r1 r2 r3, Slot W B5 #[r0, r1, r2, r3] ∧ RatC W (.agg #[r0, r1, r2, r3]) (hql x pre)) ∧ KpX (B5 + 2) B5 W1 W ∧ Below w.heap.size w W)
  (fun _ _ _ => False)
  (fun s A B row hs hg hr => ?own) (fun _ _ _ _ _ hs _ _ => hs)
  ⟨⟨_, _, _, _, S5, h1⟩, KpX.refl _ _ _, hB⟩
  (fun e a' W => ∃ B7 c0 c1 c2 c3, e.1.2.1 = .agg #[c0, c1, c2, c3] ∧ Slot W B7 #[c0, c1, c2, c3] ∧ B5 + 2 ≤ B7 ∧ a' = { tmps := #[.slice (some ⟨b, off, none⟩) len cap, .agg #[.bool xa, .slice ya za wa, .bool xb, .slice yb zb wb], undef, .pointer (some ⟨w.heap.size, 0, none⟩), .pointer (some ⟨w.heap.size + 1, 0, none⟩), .pointer (some ⟨B5, 0, none⟩), undef, .pointer (some ⟨B7, 0, none⟩), .agg #[.bool y0, .slice y1 y2 y3, .bool y4, .slice y5 y6 y7], .slice (some ⟨b, off, none⟩) len cap, .func (.func 228) #[] #[.pointer (some ⟨B5 + 1, 0, none⟩)], .int .i64 (e.1.1 : Int), .agg #[c0, c1, c2, c3], undef, undef, undef, undef, undef, undef], defers := [] })
  (fun e a' s A B row hs hg hr => ?ax) ?assign ?body ?done ?stop
 case own =>
  obtain ⟨⟨r0, r1, r2, r3, k1, k2⟩, k3, k4⟩ := hs
  have hr' := fun r e => (hr r e).2
  refine ⟨⟨r0, r1, r2, r3, k1.grown hg hr', k2.keep fun p v h => cell_kept h hg hr'⟩, ⟨Nat.le_trans k3.size hg.size, fun b' h1 h2 => ?_⟩, ownFrom_below (β := Unit) (Nat.le_refl _) oM () A B row k4 hg hr⟩
  rw [← k3.same b' h1 h2]
  refine hg.block b' (by have := k3.size; omega) (fun e => ?_)
  have := (hr b' e.symm).1
  omega
 case ax =>
  obtain ⟨B7, c0, c1, c2, c3, k1, k2, k3, k4⟩ := hs
  exact ⟨B7, c0, c1, c2, c3, k1, k2.grown hg fun r e => (hr r e).2, k3, k4⟩
 case assign =>
  rintro l pre ⟨⟨j, v, q⟩, hvx⟩ W Kk hi hKk
  obtain ⟨va, vb, vc, vd, ve, vf, vg, vh, p1, d1, e1, -, -, -⟩ := RatV.open hvx
  have e1 : v = _ := e1
  subst e1
  have S7 := Slot.new W #[.bool false, .slice none 0 0, .bool false, .slice none 0 0] 39
  have hB7 : B5 + 2 ≤ W.heap.size := by have := hi.2.1.size; omega
  obtain ⟨t0, t1, t2, t3, t4, t5, t6, t7, r0, r1, r2, r3⟩ := S7.four
  simp only [El.encs]
  gi_wp2
  have S8 := Slot.new W #[.bool va, .slice vb vc vd, .bool ve, .slice vf vg vh] 39
  have hk1 : KeepsOthers W (W.alloc (.cells #[.bool va, .slice vb vc vd, .bool ve, .slice vf vg vh] 39)) := KeepsOthers.alloc _ _
  obtain ⟨⟨r0', r1', r2', r3', k1, k2⟩, k3, k4⟩ := hi
  refine hKk _ _ (hk1.from _) (KpX.below (Zai _) hB7) ⟨⟨_, _, _, _, k1.alloc _, k2.below (Zai _)⟩, k3.trans (KpX.below (Zai _) hB7), k4.trans ((Zai _).mono k4.size)⟩ ⟨W.heap.size, _, _, _, _, rfl, S8, hB7, ?_⟩
  rfl
 case body =>
  rintro l pre e a' W hl ⟨r, hlr⟩ ⟨⟨r0, r1, r2, r3, k1, k2⟩, k3, k4⟩ ⟨B7, c0, c1, c2, c3, he, S7, hB7, rfl⟩ hlt
  obtain ⟨ra, rb, rc, rd, re, rf, rg, rh, hz⟩ := k2.agg
  simp at hz
  obtain ⟨rfl, rfl, rfl, rfl⟩ := hz
  have ht5 := ht_hql hK.1 hxq pre
  have hkk : 1 + pre.length * (2 * K + 1) ≤ 10000000 := by
   have : pre.length * (2 * K + 1) ≤ 1000 * 2001 := Nat.mul_le_mul oM oM
   omega
  have HV5 := Lib.hid (k2.v ht5)
  have HVx := Lib.hid (hx.below k4)
  have HVe : Hid (RatV W (.agg #[c0, c1, c2, c3]) K e.q) := Lib.hid (by have h := e.2; rw [he] at h; exact h.below k4)
  have HTm := Lib.hid (Zbq ht5 hxq oM)
  have HQ := Lib.hid (hql_snoc x pre e)
  have HK5 := Lib.hid hkk
  have HK := Lib.hid hK
  have S3' := (S3.other (k3.same _ oM oM) : Slot W w.heap.size _)
  have HS5 := Lib.hid k1
  have HS7 := Lib.hid S7
  have H3 := Lib.hid k3
  have H4 := Lib.hid k4
  have HB7 := Lib.hid hB7
  have HSZ := Lib.hid (show B5 + 2 ≤ W.heap.size by have := k3.size; omega)
  have HN0 := Lib.hid (show w.heap.size ≤ B5 by omega)
  obtain ⟨q0, q1, q2, q3, q4, -, -, -, -, -, -, -⟩ := k1.four
  obtain ⟨p0', p1', p2', p3', p4', -, -, -, -, -, -, -⟩ := S3'.four
  obtain ⟨s0', s1', s2', s3', s4', -, -, -, -, -, -, -⟩ := S7.four
  clear k1 S7 k3 k4 hB7 S3' hkk ht5 hseq hgq hgd hc hv hx hxq h1 hB S3 S4 S5 S6 hlr he hlt hl hsz hs2 hb hlen hl0 hK
  gi_wp2
  have hm := Ab.mixed
  have hbd : Below W.heap.size W W.drew := (Below.refl _ W).drew
  have HV5 := Lib.hid (HV5.out.below hbd)
  have HVx := Lib.hid (HVx.out.below hbd)
  have HVe := Lib.hid (HVe.out.below hbd)
  have HS5 := Lib.hid (HS5.out.below hbd)
  have HS7 := Lib.hid (HS7.out.below hbd)
  clear hbd
  gi_region_with_o
   (first
    | (refine ⟨trivial, ?_⟩; gi_at_call 92; refine (CallsIn.inRound l (callsIn_wide.2 (rmul_c HV5.out (Nat.le_trans HK5.out dC) HVx.out (by have := HK.out; omega)))).mono ?_; rintro e1 w3 ⟨v3, rfl, hb3, h3⟩; have HR := Lib.hid (show RatC w3 v3 (hql x pre * x) from h3); have HB3 := Lib.hid (show Below W.drew.heap.size W.drew w3 from hb3); have s0'' := (HS7.out.below HB3.out).four.c0; have s1'' := (HS7.out.below HB3.out).four.c1; have s2'' := (HS7.out.below HB3.out).four.c2; have s3'' := (HS7.out.below HB3.out).four.c3; clear hb3 h3)
    | (refine ⟨trivial, ?_⟩; gi_at_call 89; refine (CallsIn.inRound l (callsIn_wide.2 (radd_c (HR.out.v HTm.out) (by have := HK5.out; have := HK.out; omega) (HVe.out.below HB3.out) (by have := HK.out; omega)))).mono ?_; rintro e1 w4 ⟨v4, rfl, hb4, h4⟩; have HR4 := Lib.hid (show RatC w4 v4 (hql x pre * x + e.q) from h4); have HB4 := Lib.hid (HB3.out.trans (hb4.mono HB3.out.size)); obtain ⟨z0, z1, z2, z3, z4, z5, z6, z7, rfl⟩ := HR4.out.agg; have HF := (HS5.out.below HB4.out).four; have g0 := HF.c0; have g1 := HF.fr; have g2 := HF.s1; have g3 := HF.s2; have g4 := HF.s3; have g5 := HF.f0; have g6 := HF.f1; have g7 := HF.f2; have g8 := HF.f3; clear HF hb4 h4))
  all_goals
   have hdr : Below W.heap.size W W.drew := (Below.refl _ W).drew
   have hW4 : Below W.heap.size W w4 := hdr.trans (HB4.out.mono hdr.size)
   have hS := HS5.out.below HB4.out
   have hk := (KpX.below hW4 HSZ.out).trans (kpx_put4 (n := B5 + 2) (W := w4) (r := B5) (u0 := .bool z0) (u1 := .slice z1 z2 z3) (u2 := .bool z4) (u3 := .slice z5 z6 z7))
   refine id (α := KeepsFrom W1.heap.size W (put4 w4 B5 (.bool z0) (.slice z1 z2 z3) (.bool z4) (.slice z5 z6 z7)) ∧ KpX (B5 + 2) B5 W (put4 w4 B5 (.bool z0) (.slice z1 z2 z3) (.bool z4) (.slice z5 z6 z7)) ∧ (∃ r0 r1 r2 r3, Slot (put4 w4 B5 (.bool z0) (.slice z1 z2 z3) (.bool z4) (.slice z5 z6 z7)) B5 #[r0, r1, r2, r3] ∧ RatC (put4 w4 B5 (.bool z0) (.slice z1 z2 z3) (.bool z4) (.slice z5 z6 z7)) (.agg #[r0, r1, r2, r3]) (hql x (pre ++ [e]))) ∧ KpX (B5 + 2) B5 W1 (put4 w4 B5 (.bool z0) (.slice z1 z2 z3) (.bool z4) (.slice z5 z6 z7)) ∧ Below w.heap.size w (put4 w4 B5 (.bool z0) (.slice z1 z2 z3) (.bool z4) (.slice z5 z6 z7))) ?_
   exact ⟨((keeps_below hW4).trans keeps_put4).from _, hk, ⟨_, _, _, _, hS.put4 _ _ _ _, by rw [HQ.out]; exact RatC.far HR4.out hS (Zb0 _ _ _ _ _ _ _ _) Zbv⟩, H3.out.trans hk, Zcp (H4.out.trans (hW4.mono H4.out.size)) HN0.out _ _ _ _⟩
 case done =>
  rintro D ys W hD rfl ⟨⟨r0, r1, r2, r3, k1, k2⟩, k3, k4⟩ hKD
  obtain ⟨ra, rb, rc, rd, re, rf, rg, rh, hz⟩ := k2.agg
  simp at hz
  obtain ⟨rfl, rfl, rfl, rfl⟩ := hz
  have S4' := (S4.other (k3.same _ oM oM) : Slot W (w.heap.size + 1) _)
  obtain ⟨q0, q1, q2, q3, q4, -, -, -, -, -, -, -⟩ := k1.four
  obtain ⟨t0, t1, t2, t3, t4, t5, t6, t7, e0, e1, e2, e3⟩ := S4'.four
  gi_wp2
  have hKD' : (put4 W (w.heap.size + 1) (.bool ra) (.slice rb rc rd) (.bool re) (.slice rf rg rh)).heap[D]? = some (.deferred (some [])) := keeps_put4.same D _ hKD rfl
  have hkc : ∀ p v, (put4 W (w.heap.size + 1) (.bool ra) (.slice rb rc rd) (.bool re) (.slice rf rg rh)).cell? p = some v → ((put4 W (w.heap.size + 1) (.bool ra) (.slice rb rc rd) (.bool re) (.slice rf rg rh)).putObj D (.deferred none)).cell? p = some v := fun p v h => cell_kept h (grownBy_putObj' _ D (.deferred none)) (fun r e => by cases e; exact ⟨_, hKD', rfl⟩)
  have u0 := hkc _ _ (e0 (.bool ra) (.slice rb rc rd) (.bool re) (.slice rf rg rh))
  have u1 := hkc _ _ (e1 (.bool ra) (.slice rb rc rd) (.bool re) (.slice rf rg rh))
  have u2 := hkc _ _ (e2 (.bool ra) (.slice rb rc rd) (.bool re) (.slice rf rg rh))
  have u3 := hkc _ _ (e3 (.bool ra) (.slice rb rc rd) (.bool re) (.slice rf rg rh))
  have k5 := (RatC.far k2 S4' (Zb0 _ _ _ _ _ _ _ _) (Zbv (u0 := .bool ra) (u1 := .slice rb rc rd) (u2 := .bool re) (u3 := .slice rf rg rh))).keep hkc
  rw [hgq] at k5
  refine ⟨by simp, .inl ⟨_, _, rfl, run_takeDeferred hKD', ?_⟩⟩
  refine ⟨.agg #[.bool ra, .slice rb rc rd, .bool re, .slice rf rg rh], ?_, _, rfl, (Zcp k4 (Nat.le_succ _) _ _ _ _).trans (belowK_b (w := w) (Nat.le_refl _) _ D _ _ oM hKD' rfl rfl), k5⟩
  unfold put4 at u0 u1 u2 u3
  simp [results, Tryz.results199, go_sem, u0, u1, u2, u3]
 case stop =>
  rintro D cc pre W _ _ h _
  exact h.elim
end Hp
namespace Ab
open Go Go.RowKit Go.Proofs Hp
set_option maxRecDepth 100000
theorem ev_ok : EvOK := fun k hk => by
  have hK : ∀ q, q ∈ plL k → Ht q 2 := Ze1 fun i hi => (bh_get hk oM).2.1
  have hlen : ((plL k).map encQ).length = k + 1 := by simp [plL]
  refine ⟨Zdg Tryz.func199 rfl rfl, fun w M hM vs hvs => ?_⟩
  obtain ⟨v, u, rfl, hv, hu⟩ := reps2 hvs
  have hx : RatV w u 2 1 := Zdi (isV_mono (Zad ht1) dC) hu
  generalize he : (plL k).map encQ = es at hv hlen
  cases hv with
  | emp a cap => simp at hlen
  | sl _ b off cap sz F hcap hM' hsz h1 hc hr =>
    have hz : sz = 4 := by
      obtain ⟨e, hem⟩ : ∃ e, e ∈ es := ⟨es[0]'oM, List.getElem_mem _⟩
      have := hsz e hem
      rw [← he] at hem
      rw [← this, encs_cells _ e hem]
    subst hz
    have hlt : b < w.heap.size := lt_of_cell (hc 0 0 oM dC)
    have hel : ∀ j, j < k + 1 → RatV w (.agg #[F j 0, F j 1, F j 2, F j 3]) 2 (plB k j) := fun j hj => by
      have hej : es[j]? = some (encQ (plB k j)) := by rw [← he]; exact enc_tk hj
      refine Zdi (Zad ((bh_get hk oM).2.1)) (?_ : Rep w M (encQ (plB k j)) _)
      refine .agg _ _ rfl (fun c hcm => ?_) (fun i c v hi hv => ?_)
      · have := h1 _ (List.mem_of_getElem? hej) c hcm
        exact this
      · have h4 : i < 4 := (List.getElem?_eq_some_iff.1 hi).1
        have hr' := hr j _ i c hej hi
        have hvv : v = F j i := by
          rcases i with _ | _ | _ | _ | i
          · simp at hv; exact hv.symm
          · simp at hv; exact hv.symm
          · simp at hv; exact hv.symm
          · simp at hv; exact hv.symm
          · omega
        rw [hvv]
        exact hr'
    refine (eval_c (b := b) (off := off) (len := es.length) (cap := cap) (K := 2) (c := F) (f := plB k) dC oM oM hx hlt (fun j i hj hi => hc j i hj hi) (fun j hj => hel j oM)).mono ?_
    rintro e w' ⟨v', rfl, hb, hq⟩
    refine ⟨v', rfl, hb, ?_⟩
    have e2 : (Hp.upD (fun j => plB k (es.length - 1 - j)) es.length).foldl (fun s e => s * 1 + e) 0 = bqP k := by
      rw [hlen]
      have key : ∀ n, n ≤ k + 1 → (Hp.upD (fun j => plB k (k + 1 - 1 - j)) n).foldl (fun s e => s * 1 + e) 0 = hrn (plL k) 1 n := fun n => by
        induction n with
        | zero => intro _; rfl
        | succ n ih =>
          intro hn
          rw [Hp.upD_succ, List.foldl_append, ih oM, hrn]
          have hl : (plL k).length = k + 1 := by simp [plL]
          rw [hl]
          show _ + plB k (k + 1 - 1 - n) = _ + (tk (plB k) (k + 1)).getD (k + 1 - 1 - n) 0
          rw [Zda oM]
      exact key (k + 1) (Nat.le_refl _)
    have hq : RatC w' v' ((Hp.upD (fun j => plB k (es.length - 1 - j)) es.length).foldl (fun s e => s * 1 + e) 0) := hq
    rw [e2] at hq
    exact Zdn hq (Zbz hM hb)
theorem bq_ok : BqOK := bq_of_ev ev_ok
end Ab
