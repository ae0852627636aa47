/- append on a slice of digits that the call itself has made; no condition but lengths. -/
import Derived.Test.YtmcfohngblbpbaaBigC
namespace Hp
open Go Go.RowKit Go.Proofs

def cells32 (f : Nat → Int) (n : Nat) : List Value := (List.range n).map fun i => Value.int .u32 (f i)
theorem cells32_length (f : Nat → Int) (n : Nat) : (cells32 f n).length = n := by simp [cells32]
theorem cells32_get {f : Nat → Int} {n i : Nat} (h : i < n) : (cells32 f n)[i]? = some (.int .u32 (f i)) := by simp [cells32, h]
/-- f, and g behind its first n -/
def cat (f : Nat → Int) (n : Nat) (g : Nat → Int) : Nat → Int := fun i => if i < n then f i else g (i - n)
theorem cells32_cat (f g : Nat → Int) (n m : Nat) : cells32 f n ++ cells32 g m = cells32 (cat f n g) (n + m) := by
  apply List.ext_getElem?
  intro i
  by_cases h : i < n
  · rw [List.getElem?_append_left (by rw [cells32_length]; exact h), cells32_get h, cells32_get (by omega)]; simp [cat, h]
  · rw [List.getElem?_append_right (by rw [cells32_length]; omega), cells32_length]
    by_cases h2 : i - n < m
    · rw [cells32_get h2, cells32_get (by omega)]; simp [cat, h]
    · rw [List.getElem?_eq_none (by rw [cells32_length]; omega), List.getElem?_eq_none (by rw [cells32_length]; omega)]
theorem cat_lt {f g : Nat → Int} {n i : Nat} (h : i < n) : cat f n g i = f i := by simp [cat, h]
theorem cat_at (f g : Nat → Int) (n i : Nat) : cat f n g (n + i) = g i := by unfold cat; rw [if_neg (by omega), Nat.add_sub_cancel_left]

/-- the slice value v of n digits f is the call's own -/
def OwnL (w : World) (base : Nat) (v : Value) (n : Nat) (f : Nat → Int) : Prop := w.ownsRow base 83 1 v n (cells32 f n)
theorem OwnL.nil (w : World) (base : Nat) (f : Nat → Int) : OwnL w base (.slice none 0 0) 0 f := World.ownsRow_nil w base _ _
theorem OwnL.made (w : World) (cur : Array Value) (cap : Nat) (hs : cur.size = cap) (hm : cap ≤ maxLen) : OwnL (w.alloc (.cells cur 83)) w.heap.size (.slice (some ⟨w.heap.size, 0, none⟩) 0 cap) 0 (fun _ => 0) :=
  World.ownsRow_made w cur cap (Nat.le_refl _) hm (by omega)
theorem OwnL.congr {w : World} {base n : Nat} {v : Value} {f g : Nat → Int} (h : OwnL w base v n f) (e : ∀ i, i < n → f i = g i) : OwnL w base v n g := by
  have : cells32 f n = cells32 g n := List.map_congr_left fun i hi => by rw [e i (List.mem_range.1 hi)]
  unfold OwnL; rw [← this]; exact h
theorem OwnL.dg {w : World} {base n : Nat} {v : Value} {f : Nat → Int} (h : OwnL w base v n f) (hd : Digs f n) : Dg w v n f := by
  obtain ⟨_, ⟨rfl, rfl⟩ | ⟨g, cap, cur, rfl, _, hh, hn, _, _, ht⟩⟩ := h
  · exact Dg.nil w f
  · refine ⟨_, cap, rfl, hn, .inr ⟨g, 0, rfl, fun i hi => ?_, hd⟩⟩
    have h1 : cur.toList[i]? = some (.int .u32 (f i)) := by
      rw [← cells32_get hi, ← ht, List.getElem?_take_of_lt (by omega)]
    simp only [World.cell?, hh, Nat.zero_add]
    simpa using h1
theorem grown_below {base : Nat} {w w' : World} {v : Value} {e : TypeId} {size n : Nat} {xs : List Value} (h : w.ownsRow base e size v n xs) (hg : w.grownBy w' v.ownBlock) (hb : base ≤ w.heap.size) : Below base w w' := by
  refine (Below.refl base w).grown hg hb fun k hk => ?_
  obtain ⟨_, ⟨rfl, _⟩ | ⟨g, cap, cur, rfl, hbg, _⟩⟩ := h
  · simp [Value.ownBlock] at hk
  · simp [Value.ownBlock] at hk; omega

section
variable {ops : Array Oper} {rest : List Oper} {o : Oper} {a : Act} {Q : Exit → Act → World → Prop} {w : World}
/-- append(out, src...) -/
theorem app_u32 (hgd : o.guard = none) (s x : Operand) (ho : o.op = .call { callee := .builtin .append, args := #[s, x], argTypes := #[33, 33] })
    (base : Nat) (v : Value) (n : Nat) (f : Nat → Int) (hs : a.eval s = v) (hown : OwnL w base v n f) (ad : Addr) (m c : Nat) (g : Nat → Int) (hx : a.eval x = .slice (some ad) m c)
    (hnews : ∀ j, j < m → w.cell? (ad.add j) = some (.int .u32 (g j))) (hnm : n + m ≤ 2 * L) (hbase : base ≤ w.heap.size)
    (h : ∀ v' w', OwnL w' base v' (n + m) (cat f n g) → Below base w w' → w.heap.size ≤ w'.heap.size → (∀ k, k < w.heap.size → some k ≠ v.ownBlock → w'.heap[k]? = w.heap[k]?) → wpList Try.prog ops Q rest (a.put o.dst v') w') :
    wpList Try.prog ops Q (o :: rest) a w := by
  obtain ⟨i0, hi, hz0, hz1, hz2⟩ := info_parts info_u32
  unfold L at hnm
  refine wpList_append_own w hgd s x 33 ho base 83 i0 _ 1 4 Try.underlying33 hi hz0 hz1 hz2 rfl (by omega) v n _ hs hown ad m c (cells32 g m) hx
    (by rw [cells32_length]; omega) ?_ ?_ (by unfold maxLen; omega) (by omega) hbase ?_
  · intro j u hj
    by_cases hjm : j < m
    · rw [cells32_get hjm] at hj; rw [hnews j hjm]; exact hj
    · rw [List.getElem?_eq_none (by rw [cells32_length]; omega)] at hj; exact absurd hj (by simp)
  · intro u hu
    simp only [cells32, List.mem_map] at hu
    obtain ⟨i, _, rfl⟩ := hu
    rfl
  · intro v' w' h1 h2 h3
    refine h v' w' ?_ (grown_below hown h2 hbase) h2.size h2.block
    unfold OwnL
    rw [← cells32_cat]
    exact h1
end
end Hp
