/- Abstract values, memory of a call's own, and how a frame. -/
import Derived.Test.YtalcdpjpapojeaaGreatDoorOwnF
import Derived.WalkKit
import Derived.Deep.Draws
import Derived.Orders
import Derived.Deep.LoopGhost
set_option linter.all false
namespace Ab
variable {dm : Bool}
open Go Go.RowKit
inductive AV where
 | p (v : Value)
 | sl (es : List AV)
 | agg (cs : List AV)
 | tup (vs : List AV)
def AV.cells : AV → List AV
 | .agg cs => cs
 | a => [a]
def AV.one : AV → Bool
 | .p _ => true
 | .sl _ => true
 | _ => false
inductive Rep (w : World) (M : Nat → Prop) : AV → Value → Prop where
 | p (v : Value) (h : v.oneCell' = true) : Rep w M (.p v) v
 | emp (a : Option Addr) (cap : Nat) : Rep w M (.sl []) (.slice a 0 cap)
 | sl (es : List AV) (b off cap sz : Nat) (f : Nat → Nat → Value) (hcap : es.length ≤ cap) (hM : ∀ i j, i < es.length → j < sz → ¬ M b) (hsz : ∀ e, e ∈ es → e.cells.length = sz) (h1 : ∀ e, e ∈ es → ∀ c, c ∈ e.cells → c.one = true)
   (hc : ∀ i j, i < es.length → j < sz → w.cell? ⟨b, off + i * sz + j, none⟩ = some (f i j))
   (hr : ∀ (i : Nat) (e : AV) (j : Nat) (c : AV), es[i]? = some e → e.cells[j]? = some c → Rep w M c (f i j)) : Rep w M (.sl es) (.slice (some ⟨b, off, none⟩) es.length cap)
 | agg (cs : List AV) (vs : Array Value) (hl : vs.size = cs.length) (h1 : ∀ c, c ∈ cs → c.one = true) (hr : ∀ (i : Nat) (c : AV) (v : Value), cs[i]? = some c → vs[i]? = some v → Rep w M c v) : Rep w M (.agg cs) (.agg vs)
 | tup (cs : List AV) (vs : Array Value) (hl : vs.size = cs.length) (hr : ∀ (i : Nat) (c : AV) (v : Value), cs[i]? = some c → vs[i]? = some v → Rep w M c v) : Rep w M (.tup cs) (.tuple vs)
theorem Rep.p_inv {w : World} {M : Nat → Prop} {v u : Value} (h : Rep w M (.p v) u) : u = v := by cases h; rfl
def Zbn (M : Nat → Prop) (w w' : World) : Prop := w.heap.size ≤ w'.heap.size ∧ ∀ b, b < w.heap.size → ¬ M b → w'.heap[b]? = w.heap[b]?
theorem Zbn.cell {M : Nat → Prop} {w w' : World} (h : Zbn M w w') {b i : Nat} {v : Value} (hM : ¬ M b) (hc : w.cell? ⟨b, i, none⟩ = some v) : w'.cell? ⟨b, i, none⟩ = some v := by
 have hl := World.block_lt_of_cell? w _ hc
 rw [← hc]
 exact World.cell?_of_block (w := w) (w' := w') (h.2 b hl hM)
theorem lt_of_cell {w : World} {b o : Nat} {v : Value} (h : w.cell? ⟨b, o, none⟩ = some v) : b < w.heap.size := World.block_lt_of_cell? w _ h
theorem Rep.mono {w w' : World} {M M' : Nat → Prop} (hk : Zbn M w w') (hM' : ∀ b, b < w.heap.size → M' b → M b) {a : AV} {v : Value} (h : Rep w M a v) : Rep w' M' a v := by
  induction h with
  | p v h => exact .p v h
  | emp a cap => exact .emp a cap
  | sl es b off cap sz f hcap hM hsz h1 hc hr ih =>
    refine .sl es b off cap sz f hcap (fun i j hi hj hm => hM i j hi hj (hM' b (lt_of_cell (hc i j hi hj)) hm)) hsz h1 (fun i j hi hj => hk.cell (hM i j hi hj) (hc i j hi hj)) ih
  | agg cs vs hl h1 hr ih => exact .agg cs vs hl h1 ih
  | tup cs vs hl hr ih => exact .tup cs vs hl ih
theorem Zbn.refl (M : Nat → Prop) (w : World) : Zbn M w w := ⟨Nat.le_refl _, fun _ _ _ => rfl⟩
theorem Zbn.below {M : Nat → Prop} {w w' : World} (h : Below w.heap.size w w') : Zbn M w w' := ⟨h.size, fun b hb _ => h.block b hb⟩
theorem Rep.cells {w : World} {M : Nat → Prop} {a : AV} {v : Value} (h : Rep w M a v) (h1 : ∀ l, a ≠ .tup l) : v.cells.size = a.cells.length ∧ ∀ (j : Nat) c, a.cells[j]? = some c → ∃ x, v.cells[j]? = some x ∧ Rep w M c x := by
  cases h with
  | p v h =>
    have e : v.cells = #[v] := by cases v <;> first | rfl | cases h
    rw [e]
    refine ⟨rfl, fun j c hj => ?_⟩
    rcases j with _ | j
    · simp [AV.cells] at hj; subst hj; exact ⟨v, rfl, .p v h⟩
    · simp [AV.cells] at hj
  | emp a cap =>
    refine ⟨rfl, fun j c hj => ?_⟩
    rcases j with _ | j
    · simp [AV.cells] at hj; subst hj; exact ⟨_, rfl, .emp a cap⟩
    · simp [AV.cells] at hj
  | sl es b off cap sz f hcap hM hsz h2 hc hr =>
    refine ⟨rfl, fun j c hj => ?_⟩
    rcases j with _ | j
    · simp [AV.cells] at hj; subst hj; exact ⟨_, rfl, .sl es b off cap sz f hcap hM hsz h2 hc hr⟩
    · simp [AV.cells] at hj
  | agg cs vs hl h1 hr =>
    refine ⟨hl, fun j c hj => ?_⟩
    have hlt : j < vs.size := by rw [hl]; exact (List.getElem?_eq_some_iff.1 hj).1
    exact ⟨vs[j], by simp [Value.cells, hlt], hr j c _ hj (by simp [hlt])⟩
  | tup cs vs hl hr => exact absurd rfl (h1 _)
theorem Rep.oneCell {w : World} {M : Nat → Prop} {a : AV} {v : Value} (h : Rep w M a v) (h1 : a.one = true) : v.oneCell' = true := by
 cases h with
 | p v h => exact h
 | emp => rfl
 | sl => rfl
 | agg => cases h1
 | tup => cases h1
theorem Rep.ones {w : World} {M : Nat → Prop} {a : AV} {v : Value} (h : Rep w M a v) (h1 : ∀ l, a ≠ .tup l) : ∀ c, c ∈ a.cells → c.one = true := by
 intro c hc
 cases h with
 | p v h => simp [AV.cells] at hc; subst hc; rfl
 | emp => simp [AV.cells] at hc; subst hc; rfl
 | sl => simp [AV.cells] at hc; subst hc; rfl
 | agg cs vs hl h2 hr => exact h2 c hc
 | tup => exact absurd rfl (h1 _)
inductive TV where
 | v (a : AV)
 | ptr (s o : Nat)
 | own (s n : Nat)
 | ep (e : AV) (o : Nat)
 | op (s n i o : Nat)
 | st (pre : List AV) (s n : Nat) (post : List AV)
 | fn (f : FuncId) (cs : List (Nat × Nat))
 | mp (s : Nat)
 | ot (s n : Nat)
 | opt (s n i : Nat)
 | bm (f : FuncId) (s o : Nat)
 | em
inductive Blk where
 | var (cs : List TV)
 | lst (sz : Nat) (ty : TypeId) (es : List AV)
 | mp (es : List (AV × AV))
 | tl (ty : TypeId) (cs : List TV)
structure AS where
 t : Nat → Option TV
 m : Nat → Option Blk
 nt : Nat
 nd : Bool
 k : List Nat := []
def upd {α : Type} (f : Nat → Option α) (k : Nat) (x : α) : Nat → Option α := fun j => bif Nat.beq k j then some x else f j
theorem Zat {α : Type} (f : Nat → Option α) (k : Nat) (x : α) : upd f k x k = some x := by simp [upd]
theorem Zav {α : Type} (f : Nat → Option α) {k j : Nat} (x : α) (h : k ≠ j) : upd f k x j = f j := by
 have : Nat.beq k j = false := by
  cases e : Nat.beq k j with
  | false => rfl
  | true => exact absurd (Nat.eq_of_beq_eq_true e) h
 simp [upd, this]
theorem upd_comm {α : Type} (f : Nat → Option α) {k j : Nat} (x y : α) (h : k ≠ j) : upd (upd f k x) j y = upd (upd f j y) k x := by
 funext i
 by_cases h1 : j = i
 ·subst h1; rw [Zat, Zav _ _ h, Zat]
 ·rw [Zav _ _ h1]
  by_cases h2 : k = i
  ·subst h2; rw [Zat, Zat]
  ·rw [Zav _ _ h2, Zav _ _ h2, Zav _ _ h1]
def TRep (w : World) (M : Nat → Prop) (ρ : Nat → Option (Nat × Nat)) (m : Nat → Option Blk) : TV → Value → Prop
 | .v a, u => Rep w M a u
 | .ptr s o, u => (∃ cs, m s = some (.var cs)) ∧ ∃ b k, ρ s = some (b, k) ∧ u = .pointer (some ⟨b, o, none⟩)
 | .bm f s o, u => (∃ cs, m s = some (.var cs)) ∧ ∃ b k, ρ s = some (b, k) ∧ u = .func (.func f) #[.pointer (some ⟨b, o, none⟩)] #[]
 | .em, u => ∃ a, u = .slice a 0 0
 | .own s n, u => ∃ sz ty es, m s = some (.lst sz ty es) ∧ n ≤ es.length ∧ (∃ ad l c, u = .slice ad l c) ∧ (es.length = n → (ρ s = none ∧ n = 0 ∧ u = .slice none 0 0) ∨ ∃ b k, ρ s = some (b, k) ∧ u = .slice (some ⟨b, 0, none⟩) n k)
 | .ep e o, u => ∃ b off, u = .pointer (some ⟨b, off + o, none⟩) ∧ ∀ (j : Nat) c, e.cells[j]? = some c → c.one = true ∧ ¬ M b ∧ ∃ x, w.cell? ⟨b, off + j, none⟩ = some x ∧ Rep w M c x
 | .op s n i o, u => ∃ sz ty es, m s = some (.lst sz ty es) ∧ n ≤ es.length ∧ ∃ b off, u = .pointer (some ⟨b, off + o, none⟩) ∧ (es.length = n → off = i * sz ∧ ∃ k, ρ s = some (b, k))
 | .st pre s n post, u => ∃ vs : Array Value, u = .agg vs ∧ vs.size = pre.length + 1 + post.length ∧ (∀ (j : Nat) c, pre[j]? = some c → c.one = true ∧ ∃ v, vs[j]? = some v ∧ Rep w M c v) ∧ (∀ (j : Nat) c, post[j]? = some c → c.one = true ∧ ∃ v, vs[pre.length + 1 + j]? = some v ∧ Rep w M c v) ∧
   ∃ v, vs[pre.length]? = some v ∧ ∃ sz ty es, m s = some (.lst sz ty es) ∧ n ≤ es.length ∧ (∃ ad l c, v = .slice ad l c) ∧ (es.length = n → (ρ s = none ∧ n = 0 ∧ v = .slice none 0 0) ∨ ∃ b k, ρ s = some (b, k) ∧ v = .slice (some ⟨b, 0, none⟩) n k)
 | .fn f cs, u => ∃ vs : Array Value, u = .func (.func f) #[] vs ∧ vs.size = cs.length ∧ ∀ (j : Nat) p, cs[j]? = some p → (∃ c, m p.1 = some (.var c)) ∧ ∃ b k, ρ p.1 = some (b, k) ∧ vs[j]? = some (.pointer (some ⟨b, p.2, none⟩))
 | .mp s, u => (∃ es, m s = some (.mp es)) ∧ ∃ b k, ρ s = some (b, k) ∧ u = .map (some b)
 | .ot s n, u => ∃ ty cs, m s = some (.tl ty cs) ∧ n ≤ cs.length ∧ (∃ ad l c, u = .slice ad l c) ∧ (cs.length = n → (ρ s = none ∧ n = 0 ∧ u = .slice none 0 0) ∨ ∃ b k, ρ s = some (b, k) ∧ u = .slice (some ⟨b, 0, none⟩) n k)
 | .opt s n i, u => ∃ ty cs, m s = some (.tl ty cs) ∧ n ≤ cs.length ∧ ∃ b off, u = .pointer (some ⟨b, off, none⟩) ∧ (cs.length = n → off = i ∧ ∃ k, ρ s = some (b, k))
def NoDg (row : Array Value) : Prop := ∀ (i : Nat) (d : Int), row[i]? ≠ some (Value.int .u32 d)
def Zc0 (w : World) (M : Nat → Prop) (ρ : Nat → Option (Nat × Nat)) (m : Nat → Option Blk) (nd : Bool) (i : Nat) : Blk → Prop
 | .var cs => ∃ b k t row, ρ i = some (b, k) ∧ w.heap[b]? = some (.cells row t (0, 0)) ∧ row.size = cs.length ∧ (∀ (j : Nat) c, cs[j]? = some c → ∃ v, row[j]? = some v ∧ v.oneCell' = true ∧ TRep w M ρ m c v) ∧ (nd = true → NoDg row)
 | .lst sz ty es => (ρ i = none ∧ es = []) ∨ ∃ b cap row, ρ i = some (b, cap) ∧ w.heap[b]? = some (.cells row ty (0, 0)) ∧ es.length ≤ cap ∧ cap ≤ maxLen ∧ row.size = cap * sz ∧
   (∀ (k : Nat) e, es[k]? = some e → e.cells.length = sz ∧ ∀ (j : Nat) c, e.cells[j]? = some c → c.one = true ∧ ∃ v, row[k * sz + j]? = some v ∧ Rep w M c v) ∧ (nd = true → NoDg row)
 | .mp es => ∃ b k clock arr, ρ i = some (b, k) ∧ w.heap[b]? = some (.map arr clock) ∧ arr.size = es.length ∧ ∀ (j : Nat) p, es[j]? = some p → ∃ en, arr[j]? = some en ∧ Rep w M p.1 en.key ∧ Rep w M p.2 en.val
 | .tl ty cs => (ρ i = none ∧ cs = []) ∨ ∃ b cap row, ρ i = some (b, cap) ∧ w.heap[b]? = some (.cells row ty (0, 0)) ∧ cs.length ≤ cap ∧ cap ≤ maxLen ∧ row.size = cap ∧ (∀ (j : Nat) c, cs[j]? = some c → ∃ v, row[j]? = some v ∧ v.oneCell' = true ∧ TRep w M ρ m c v) ∧ (nd = true → NoDg row)
structure Cx where
 M : Nat → Prop
 m0 : Nat → Option Blk
 ρ0 : Nat → Option (Nat × Nat)
 df : List Deferred := []
def Cx.of (M : Nat → Prop) : Cx := { M := M, m0 := fun _ => none, ρ0 := fun _ => none }
def Cx.P (C : Cx) (b : Nat) : Prop := ∃ i k, (C.m0 i).isSome = true ∧ C.ρ0 i = some (b, k)
theorem Cx.P_of {M : Nat → Prop} {b : Nat} (h : (Cx.of M).P b) : False := by obtain ⟨i, k, h, -⟩ := h; cases h
def MM (M0 : Cx) (ρ : Nat → Option (Nat × Nat)) (m : Nat → Option Blk) (b : Nat) : Prop := M0.M b ∨ ∃ i k, (m i).isSome = true ∧ ρ i = some (b, k)
structure BelowX (X : Nat → Prop) (w w' : World) : Prop where
 os : w'.os = w.os
 tape : w'.tape = w.tape
 output : w'.output = w.output
 size : w.heap.size ≤ w'.heap.size
 block : ∀ b, b < w.heap.size → ¬ X b → w'.heap[b]? = w.heap[b]?
theorem BelowX.refl (X : Nat → Prop) (w : World) : BelowX X w w := ⟨rfl, rfl, rfl, Nat.le_refl _, fun _ _ _ => rfl⟩
theorem BelowX.and {X : Nat → Prop} {w0 w w' : World} (h : BelowX X w0 w) (k : Below w.heap.size w w') : BelowX X w0 w' :=
 ⟨k.os.trans h.os, k.tape.trans h.tape, k.output.trans h.output, Nat.le_trans h.size k.size, fun b hb hx => (k.block b (Nat.lt_of_lt_of_le hb h.size)).trans (h.block b hb hx)⟩
theorem BelowX.to {M : Nat → Prop} {w w' : World} (h : BelowX (Cx.of M).P w w') : Below w.heap.size w w' := ⟨h.os, h.tape, h.output, h.size, fun b hb => h.block b hb Cx.P_of⟩
theorem BelowX.cell {X : Nat → Prop} {w w' : World} (h : BelowX X w w') {p : Addr} (hp : p.block < w.heap.size) (hx : ¬ X p.block) : w'.cell? p = w.cell? p := World.cell?_of_block (w := w) (h.block p.block hp hx)
def Zfa (ρ ρ' : Nat → Option (Nat × Nat)) (m m' : Nat → Option Blk) : Prop :=
 ∀ i x, m i = some x → ∃ x', m' i = some x' ∧ (∀ cs, x = .var cs → (∃ cs', x' = .var cs') ∧ ρ' i = ρ i) ∧ (∀ sz ty es, x = .lst sz ty es → ∃ es', x' = .lst sz ty es' ∧ (es'.length = es.length → ρ' i = ρ i) ∧ es.length ≤ es'.length) ∧ (∀ es, x = .mp es → (∃ es', x' = .mp es') ∧ ρ' i = ρ i) ∧ (∀ ty cs, x = .tl ty cs → ∃ cs', x' = .tl ty cs' ∧ (cs'.length = cs.length → ρ' i = ρ i) ∧ cs.length ≤ cs'.length)
theorem Zfa.refl (ρ : Nat → Option (Nat × Nat)) (m : Nat → Option Blk) : Zfa ρ ρ m m := fun i x h =>
 ⟨x, h, fun cs e => ⟨⟨cs, e⟩, rfl⟩, fun sz ty es e => ⟨es, e, fun _ => rfl, Nat.le_refl _⟩, fun es e => ⟨⟨es, e⟩, rfl⟩, fun ty cs e => ⟨cs, e, fun _ => rfl, Nat.le_refl _⟩⟩
theorem Zfa.trans {ρ ρ' ρ'' : Nat → Option (Nat × Nat)} {m m' m'' : Nat → Option Blk} (h : Zfa ρ ρ' m m') (k : Zfa ρ' ρ'' m' m'') : Zfa ρ ρ'' m m'' := fun i x hi => by
 obtain ⟨x', h1, h2, h3, hmp, htl⟩ := h i x hi
 obtain ⟨x'', k1, k2, k3, kmp, ktl⟩ := k i x' h1
 refine ⟨x'', k1, fun cs e => ?_, fun sz ty es e => ?_, fun es e => ?_, fun ty cs e => ?_⟩
 ·obtain ⟨⟨cs', e'⟩, h4⟩ := h2 cs e
  obtain ⟨h5, h6⟩ := k2 cs' e'
  exact ⟨h5, h6.trans h4⟩
 ·obtain ⟨es', e', h4, h5⟩ := h3 sz ty es e
  obtain ⟨es'', e'', h6, h7⟩ := k3 sz ty es' e'
  exact ⟨es'', e'', fun hl => (h6 oM).trans (h4 oM), Nat.le_trans h5 h7⟩
 ·obtain ⟨⟨es', e'⟩, h4⟩ := hmp es e
  obtain ⟨h5, h6⟩ := kmp es' e'
  exact ⟨h5, h6.trans h4⟩
 ·obtain ⟨cs', e', h4, h5⟩ := htl ty cs e
  obtain ⟨cs'', e'', h6, h7⟩ := ktl ty cs' e'
  exact ⟨cs'', e'', fun hl => (h6 oM).trans (h4 oM), Nat.le_trans h5 h7⟩
structure RelR (w0 : World) (M0 : Cx) (ρ : Nat → Option (Nat × Nat)) (s : AS) (a : Act) (w : World) : Prop where
 below : BelowX M0.P w0 w
 defers : a.defers = M0.df
 nt : a.tmps.size = s.nt
 base : ∀ i b k, (s.m i).isSome = true → ρ i = some (b, k) → (w0.heap.size ≤ b ∨ M0.P b) ∧ b < w.heap.size
 inj : ∀ i j b k l, (s.m i).isSome = true → (s.m j).isSome = true → ρ i = some (b, k) → ρ j = some (b, l) → i = j
 slots : ∀ i x, s.m i = some x → Zc0 w (MM M0 ρ s.m) ρ s.m s.nd i x
 tmps : ∀ i x, s.t i = some x → ∃ v, a.tmps[i]? = some v ∧ TRep w (MM M0 ρ s.m) ρ s.m x v
 pas : Zfa M0.ρ0 ρ M0.m0 s.m
 kid : ∀ i, (M0.m0 i).isSome = true → i ∈ s.k
def Rel (w0 : World) (M0 : Cx) (s : AS) (a : Act) (w : World) : Prop := ∃ ρ, RelR w0 M0 ρ s a w
def OKB (dm : Bool) (M0 : Nat → Prop) (w0 : World) : Prop := ∀ b, M0 b → b < w0.heap.size ∧ (dm = true → ∀ i d, w0.cell? ⟨b, i, none⟩ ≠ some (Value.int .u32 d))
def TabOK (M : Nat → Prop) (w : World) : Prop := ∀ b l, Tabs b = some l → ¬ M b ∧ b < w.heap.size ∧ ∀ (j : Nat) v, l[j]? = some v → w.cell? ⟨b, j, none⟩ = some v
def OKM (dm : Bool) (M0 : Nat → Prop) (w0 : World) : Prop := OKB dm M0 w0 ∧ TabOK M0 w0
theorem OKM.weak {dm : Bool} {M0 : Nat → Prop} {w0 : World} (h : OKM dm M0 w0) : OKM false M0 w0 := ⟨fun b hb => ⟨(h.1 b hb).1, fun e => by cases e⟩, h.2⟩
def OKC (dm : Bool) (M0 : Cx) (w0 : World) : Prop := OKM dm M0.M w0 ∧ ∀ b, M0.P b → b < w0.heap.size ∧ ¬ M0.M b ∧ Tabs b = none
theorem OKC.weak {dm : Bool} {M0 : Cx} {w0 : World} (h : OKC dm M0 w0) : OKC false M0 w0 := ⟨h.1.weak, h.2⟩
theorem OKC.of {dm : Bool} {M : Nat → Prop} {w0 : World} (h : OKM dm M w0) : OKC dm (.of M) w0 := ⟨h, fun b hb => (Cx.P_of hb).elim⟩
theorem TRep.mono {w w' : World} {M M' : Nat → Prop} {ρ ρ' : Nat → Option (Nat × Nat)} {m m' : Nat → Option Blk} (hk : Zbn M w w') (hM' : ∀ b, b < w.heap.size → M' b → M b)
    (hm : ∀ i x, m i = some x → ∃ x', m' i = some x' ∧ (∀ cs, x = .var cs → (∃ cs', x' = .var cs') ∧ ρ' i = ρ i) ∧ (∀ sz ty es, x = .lst sz ty es → ∃ es', x' = .lst sz ty es' ∧ (es'.length = es.length → ρ' i = ρ i) ∧ es.length ≤ es'.length) ∧ (∀ es, x = .mp es → (∃ es', x' = .mp es') ∧ ρ' i = ρ i) ∧ (∀ ty cs, x = .tl ty cs → ∃ cs', x' = .tl ty cs' ∧ (cs'.length = cs.length → ρ' i = ρ i) ∧ cs.length ≤ cs'.length))
    {x : TV} {v : Value} (h : TRep w M ρ m x v) : TRep w' M' ρ' m' x v := by
  cases x with
  | v a => exact Rep.mono hk hM' h
  | ptr s o =>
    obtain ⟨⟨cs, h1⟩, b, k, h2, h3⟩ := h
    obtain ⟨x', e, h4, -⟩ := hm s _ h1
    obtain ⟨⟨cs', rfl⟩, h5⟩ := h4 cs rfl
    exact ⟨⟨cs', e⟩, b, k, h5.trans h2, h3⟩
  | em => exact h
  | bm f s o =>
    obtain ⟨⟨cs, h1⟩, b, k, h2, h3⟩ := h
    obtain ⟨x', e, h4, -⟩ := hm s _ h1
    obtain ⟨⟨cs', rfl⟩, h5⟩ := h4 cs rfl
    exact ⟨⟨cs', e⟩, b, k, h5.trans h2, h3⟩
  | own s n =>
    obtain ⟨sz, ty, es, h1, h0, h9, h2⟩ := h
    obtain ⟨x', e, -, h4, -⟩ := hm s _ h1
    obtain ⟨es', rfl, h5, h6⟩ := h4 sz ty es rfl
    refine ⟨sz, ty, es', e, oM, h9, fun he => ?_⟩
    have e1 : es'.length = es.length := oM
    rw [h5 e1]
    exact h2 oM
  | ep e o =>
    obtain ⟨b, off, h1, h2⟩ := h
    refine ⟨b, off, h1, fun j c hj => ?_⟩
    obtain ⟨h3, h4, x, h5, h6⟩ := h2 j c hj
    exact ⟨h3, fun hm => h4 (hM' b (lt_of_cell h5) hm), x, hk.cell h4 h5, Rep.mono hk hM' h6⟩
  | op s n i o =>
    obtain ⟨sz, ty, es, h1, h0, b, off, h2, h3⟩ := h
    obtain ⟨x', e, -, h4, -⟩ := hm s _ h1
    obtain ⟨es', rfl, h5, h6⟩ := h4 sz ty es rfl
    refine ⟨sz, ty, es', e, oM, b, off, h2, fun he => ?_⟩
    have e1 : es'.length = es.length := oM
    rw [h5 e1]
    exact h3 oM
  | st pre s n post =>
    obtain ⟨vs, h1, h2, h3, h4, u, h5, sz, ty, es, h6, h0, h9, h7⟩ := h
    obtain ⟨x', e, -, h8, -⟩ := hm s _ h6
    obtain ⟨es', rfl, k5, k6⟩ := h8 sz ty es rfl
    refine ⟨vs, h1, h2, fun j c hj => ⟨(h3 j c hj).1, ?_⟩, fun j c hj => ⟨(h4 j c hj).1, ?_⟩, u, h5, sz, ty, es', e, oM, h9, fun he => ?_⟩
    · obtain ⟨x, g1, g2⟩ := (h3 j c hj).2
      exact ⟨x, g1, Rep.mono hk hM' g2⟩
    · obtain ⟨x, g1, g2⟩ := (h4 j c hj).2
      exact ⟨x, g1, Rep.mono hk hM' g2⟩
    · have e1 : es'.length = es.length := oM
      rw [k5 e1]
      exact h7 oM
  | fn f cs =>
    obtain ⟨vs, h1, h2, h3⟩ := h
    refine ⟨vs, h1, h2, fun j p hj => ?_⟩
    obtain ⟨⟨c, g1⟩, b, k, g2, g3⟩ := h3 j p hj
    obtain ⟨x', e, h4, -⟩ := hm p.1 _ g1
    obtain ⟨⟨cs', rfl⟩, h5⟩ := h4 c rfl
    exact ⟨⟨cs', e⟩, b, k, h5.trans g2, g3⟩
  | mp s =>
    obtain ⟨⟨es, h1⟩, b, k, h2, h3⟩ := h
    obtain ⟨x', e, -, -, h4, -⟩ := hm s _ h1
    obtain ⟨⟨es', rfl⟩, h5⟩ := h4 es rfl
    exact ⟨⟨es', e⟩, b, k, h5.trans h2, h3⟩
  | ot s n =>
    obtain ⟨ty, cs, h1, h0, h9, h2⟩ := h
    obtain ⟨x', e, -, -, -, h4⟩ := hm s _ h1
    obtain ⟨cs', rfl, h5, h6⟩ := h4 ty cs rfl
    refine ⟨ty, cs', e, oM, h9, fun he => ?_⟩
    have e1 : cs'.length = cs.length := oM
    rw [h5 e1]
    exact h2 oM
  | opt s n i =>
    obtain ⟨ty, cs, h1, h0, b, off, h2, h3⟩ := h
    obtain ⟨x', e, -, -, -, h4⟩ := hm s _ h1
    obtain ⟨cs', rfl, h5, h6⟩ := h4 ty cs rfl
    refine ⟨ty, cs', e, oM, b, off, h2, fun he => ?_⟩
    have e1 : cs'.length = cs.length := oM
    rw [h5 e1]
    exact h3 oM
end Ab
namespace Ab
variable {dm : Bool}
open Go Go.RowKit
theorem Zc0.mono {w w' : World} {M M' : Nat → Prop} {ρ ρ' : Nat → Option (Nat × Nat)} {m m' : Nat → Option Blk} {nd : Bool} {i : Nat} {x : Blk} (h : Zc0 w M ρ m nd i x) (hk : Zbn M w w') (hM' : ∀ b, b < w.heap.size → M' b → M b)
    (hm : Zfa ρ ρ' m m') (hρ : ρ' i = ρ i) (hb : ∀ b k, ρ i = some (b, k) → w'.heap[b]? = w.heap[b]?) : Zc0 w' M' ρ' m' nd i x := by
  cases x with
  | var cs =>
    obtain ⟨b, k, t, row, h1, h2, h3, h4, h5⟩ := h
    refine ⟨b, k, t, row, hρ.trans h1, (hb b k h1).trans h2, h3, fun j c hj => ?_, h5⟩
    obtain ⟨v, g1, g2, g3⟩ := h4 j c hj
    exact ⟨v, g1, g2, TRep.mono hk hM' hm g3⟩
  | lst sz ty es =>
    rcases h with ⟨h1, h2⟩ | ⟨b, cap, row, h1, h2, h3, h4, h5, h6, h7⟩
    · exact .inl ⟨hρ.trans h1, h2⟩
    · refine .inr ⟨b, cap, row, hρ.trans h1, (hb b cap h1).trans h2, h3, h4, h5, fun k e hk' => ?_, h7⟩
      obtain ⟨g1, g2⟩ := h6 k e hk'
      refine ⟨g1, fun j c hj => ?_⟩
      obtain ⟨g3, v, g4, g5⟩ := g2 j c hj
      exact ⟨g3, v, g4, Rep.mono hk hM' g5⟩
  | mp es =>
    obtain ⟨b, k, clock, arr, h1, h2, h3, h4⟩ := h
    refine ⟨b, k, clock, arr, hρ.trans h1, (hb b k h1).trans h2, h3, fun j p hj => ?_⟩
    obtain ⟨en, g1, g2, g3⟩ := h4 j p hj
    exact ⟨en, g1, Rep.mono hk hM' g2, Rep.mono hk hM' g3⟩
  | tl ty cs =>
    rcases h with ⟨h1, h2⟩ | ⟨b, cap, row, h1, h2, h3, h4, h5, h6, h7⟩
    · exact .inl ⟨hρ.trans h1, h2⟩
    · refine .inr ⟨b, cap, row, hρ.trans h1, (hb b cap h1).trans h2, h3, h4, h5, fun j c hj => ?_, h7⟩
      obtain ⟨v, g1, g2, g3⟩ := h6 j c hj
      exact ⟨v, g1, g2, TRep.mono hk hM' hm g3⟩
theorem RelR.step {w0 : World} {M0 : Cx} {ρ ρ' : Nat → Option (Nat × Nat)} {s : AS} {a : Act} {w w' : World} {m' : Nat → Option Blk} (h : RelR w0 M0 ρ s a w)
  (hk : Zbn (MM M0 ρ s.m) w w') (hb : BelowX M0.P w0 w') (hm : Zfa ρ ρ' s.m m') (hM' : ∀ b, b < w.heap.size → MM M0 ρ' m' b → MM M0 ρ s.m b)
  (base : ∀ i b k, (m' i).isSome = true → ρ' i = some (b, k) → (w0.heap.size ≤ b ∨ M0.P b) ∧ b < w'.heap.size)
  (inj : ∀ i j b k l, (m' i).isSome = true → (m' j).isSome = true → ρ' i = some (b, k) → ρ' j = some (b, l) → i = j)
  (slots : ∀ i x, m' i = some x → Zc0 w' (MM M0 ρ' m') ρ' m' s.nd i x) : RelR w0 M0 ρ' { s with m := m' } a w' where
 below := hb
 defers := h.defers
 nt := h.nt
 base := base
 inj := inj
 slots := slots
 tmps := fun i x hi => by
  obtain ⟨v, h1, h2⟩ := h.tmps i x hi
  exact ⟨v, h1, TRep.mono hk hM' hm h2⟩
 pas := h.pas.trans hm
 kid := h.kid
theorem RelR.ext {w0 : World} {M0 : Cx} {ρ : Nat → Option (Nat × Nat)} {s : AS} {a : Act} {w w' : World} (h : RelR w0 M0 ρ s a w) (hb : Below w.heap.size w w') : RelR w0 M0 ρ s a w' := by
 refine h.step (Zbn.below hb) (h.below.and hb) (Zfa.refl _ _) (fun _ _ hx => hx) (fun i b k h1 h2 => ?_) h.inj (fun i x hx => ?_)
 ·obtain ⟨h3, h4⟩ := h.base i b k h1 h2
  exact ⟨h3, Nat.lt_of_lt_of_le h4 hb.size⟩
 ·refine (h.slots i x hx).mono (Zbn.below hb) (fun _ _ hx => hx) (Zfa.refl _ _) rfl (fun b k h1 => ?_)
  exact hb.block b (h.base i b k (by rw [hx]; rfl) h1).2
def updo (f : Nat → Option TV) (dst : Option Tmp) (x : TV) : Nat → Option TV := match dst with | some d => upd f d x | none => f
def AS.put (s : AS) (dst : Option Tmp) (x : TV) : AS := { s with t := updo s.t dst x }
def InB (s : AS) (dst : Option Tmp) : Prop := match dst with | some d => d < s.nt | none => True
theorem RelR.put {w0 : World} {M0 : Cx} {ρ : Nat → Option (Nat × Nat)} {s : AS} {a : Act} {w : World} {dst : Option Tmp} {x : TV} {v : Value} (h : RelR w0 M0 ρ s a w) (hd : InB s dst) (hx : TRep w (MM M0 ρ s.m) ρ s.m x v) :
    RelR w0 M0 ρ (s.put dst x) (a.put dst v) w := by
  cases dst with
  | none => exact h
  | some d =>
    refine ⟨h.below, h.defers, by simp [Act.put, AS.put, h.nt], h.base, h.inj, h.slots, fun i y hi => ?_, h.pas, h.kid⟩
    by_cases hdi : d = i
    · subst hdi
      simp only [AS.put, updo] at hi
      rw [Zat] at hi
      injection hi with hi
      subst hi
      refine ⟨v, ?_, hx⟩
      have : d < a.tmps.size := by rw [h.nt]; exact hd
      simp [Act.put, this]
    · simp only [AS.put, updo] at hi
      rw [Zav _ _ hdi] at hi
      obtain ⟨u, h1, h2⟩ := h.tmps i y hi
      exact ⟨u, by simp [Act.put, Array.getElem?_setIfInBounds_ne hdi, h1], h2⟩
def cav : Value → AV
 | .agg vs => .agg (vs.toList.map .p)
 | v => .p v
def cok : Value → Bool
 | .agg vs => vs.toList.all (·.oneCell')
 | .tuple _ => false
 | v => v.oneCell'
def AS.ev (s : AS) : Operand → Option TV
 | .tmp t => s.t t
 | .const v => bif cok v then some (.v (cav v)) else none
 | .func f => some (.fn f [])
 | _ => none
theorem rep_cav {w : World} {M : Nat → Prop} {v : Value} (h : cok v = true) : Rep w M (cav v) v := by
  cases v with
  | agg vs =>
    refine .agg _ _ (by simp) (fun c hc => ?_) (fun i c x h1 h2 => ?_)
    · simp at hc; obtain ⟨u, -, rfl⟩ := hc; rfl
    · rw [List.getElem?_map, Array.getElem?_toList, h2] at h1
      simp at h1; subst h1
      exact .p x (by simp only [cok, List.all_eq_true] at h; exact h x (by simpa using Array.mem_of_getElem? h2))
  | tuple vs => cases h
  | _ => exact .p _ h
theorem RelR.ev {w0 : World} {M0 : Cx} {ρ : Nat → Option (Nat × Nat)} {s : AS} {a : Act} {w : World} (h : RelR w0 M0 ρ s a w) {x : Operand} {y : TV} (hx : s.ev x = some y) : TRep w (MM M0 ρ s.m) ρ s.m y (a.eval x) := by
  cases x with
  | tmp t =>
    obtain ⟨v, h1, h2⟩ := h.tmps t y hx
    have : a.eval (.tmp t) = v := by simp [Act.eval, h1]
    rw [this]; exact h2
  | const v =>
    simp only [AS.ev] at hx
    cases hc : cok v with
    | false => rw [hc] at hx; cases hx
    | true =>
      rw [hc] at hx
      injection hx with hx
      subst hx
      exact rep_cav hc
  | global g => cases hx
  | func f =>
    injection hx with hx
    subst hx
    exact ⟨#[], rfl, rfl, fun j p hj => by cases hj⟩
theorem RelR.new {w0 : World} {M0 : Cx} {ρ : Nat → Option (Nat × Nat)} {s : AS} {a : Act} {w w' : World} {id : Nat} {x : Blk} {r : Option (Nat × Nat)} (h : RelR w0 M0 ρ s a w) (hM0 : OKC dm M0 w0) (hb : Below w.heap.size w w') (hid : s.m id = none)
  (hr : ∀ b k, r = some (b, k) → w.heap.size ≤ b ∧ b < w'.heap.size)
  (hs : ∀ M' m', Zfa ρ (fun j => bif Nat.beq id j then r else ρ j) s.m m' → (∀ b, b < w.heap.size → M' b → MM M0 ρ s.m b) → Zc0 w' M' (fun j => bif Nat.beq id j then r else ρ j) m' s.nd id x) :
  RelR w0 M0 (fun j => bif Nat.beq id j then r else ρ j) { s with m := upd s.m id x } a w' := by
 have hρ : ∀ j, j ≠ id → (fun j => bif Nat.beq id j then r else ρ j) j = ρ j := fun j hj => by
  have : Nat.beq id j = false := by
   cases e : Nat.beq id j with
   | false => rfl
   | true => exact absurd (Nat.eq_of_beq_eq_true e) (Ne.symm hj)
  simp [this]
 have hρi : (fun j => bif Nat.beq id j then r else ρ j) id = r := by simp
 generalize (fun j => bif Nat.beq id j then r else ρ j) = ρ' at *
 have hm : Zfa ρ ρ' s.m (upd s.m id x) := fun i y hi => by
  have hne : i ≠ id := fun e => by rw [e, hid] at hi; cases hi
  exact ⟨y, by rw [Zav _ _ (Ne.symm hne)]; exact hi, fun cs e => ⟨⟨cs, e⟩, hρ i hne⟩, fun sz ty es e => ⟨es, e, fun _ => hρ i hne, Nat.le_refl _⟩, fun es e => ⟨⟨es, e⟩, hρ i hne⟩, fun ty cs e => ⟨cs, e, fun _ => hρ i hne, Nat.le_refl _⟩⟩
 have hM' : ∀ b, b < w.heap.size → MM M0 ρ' (upd s.m id x) b → MM M0 ρ s.m b := by
  intro b hbl hmm
  rcases hmm with h0 | ⟨i, k, h1, h2⟩
  ·exact .inl h0
  ·by_cases hi : i = id
   ·subst hi
    rw [hρi] at h2
    have := (hr b k h2).1
    omega
   ·rw [Zav _ _ (Ne.symm hi)] at h1
    rw [hρ i hi] at h2
    exact .inr ⟨i, k, h1, h2⟩
 refine h.step (Zbn.below hb) (h.below.and hb) hm hM' (fun i b k h1 h2 => ?_) (fun i j b k l h1 h2 h3 h4 => ?_) (fun i y hy => ?_)
 ·by_cases hi : i = id
  ·subst hi
   rw [hρi] at h2
   have := hr b k h2
   exact ⟨.inl (Nat.le_trans h.below.size this.1), this.2⟩
  ·rw [Zav _ _ (Ne.symm hi)] at h1
   rw [hρ i hi] at h2
   have := h.base i b k h1 h2
   exact ⟨this.1, Nat.lt_of_lt_of_le this.2 hb.size⟩
 ·by_cases hi : i = id
  ·subst hi
   by_cases hj : j = i
   ·exact hj.symm
   ·rw [Zav _ _ (Ne.symm hj)] at h2
    rw [hρ j hj] at h4
    rw [hρi] at h3
    have := (hr b k h3).1
    have := (h.base j b l h2 h4).2
    omega
  ·by_cases hj : j = id
   ·subst hj
    rw [Zav _ _ (Ne.symm hi)] at h1
    rw [hρ i hi] at h3
    rw [hρi] at h4
    have := (hr b l h4).1
    have := (h.base i b k h1 h3).2
    omega
   ·rw [Zav _ _ (Ne.symm hi)] at h1
    rw [Zav _ _ (Ne.symm hj)] at h2
    rw [hρ i hi] at h3
    rw [hρ j hj] at h4
    exact h.inj i j b k l h1 h2 h3 h4
 ·by_cases hi : i = id
  ·subst hi
   rw [Zat] at hy
   injection hy with hy
   subst hy
   exact hs _ _ hm hM'
  ·rw [Zav _ _ (Ne.symm hi)] at hy
   refine (h.slots i y hy).mono (Zbn.below hb) hM' hm (hρ i hi) (fun b k h1 => ?_)
   exact hb.block b (h.base i b k (by rw [hy]; rfl) h1).2
theorem RelR.set {w0 : World} {M0 : Cx} {ρ : Nat → Option (Nat × Nat)} {s : AS} {a : Act} {w w' : World} {id : Nat} {x y : Blk} {r : Option (Nat × Nat)} (h : RelR w0 M0 ρ s a w) (hM0 : OKC dm M0 w0) (hid : s.m id = some x)
  (hsize : w.heap.size ≤ w'.heap.size) (hother : ∀ b, b < w.heap.size → (∀ k, ρ id ≠ some (b, k)) → w'.heap[b]? = w.heap[b]?) (hos : w'.os = w.os) (htape : w'.tape = w.tape) (hout : w'.output = w.output)
  (hr : ∀ b k, r = some (b, k) → (∃ l, ρ id = some (b, l)) ∨ (w.heap.size ≤ b ∧ b < w'.heap.size))
  (hv : ∀ cs, x = .var cs → (∃ cs', y = .var cs') ∧ r = ρ id) (hl : ∀ sz ty es, x = .lst sz ty es → ∃ es', y = .lst sz ty es' ∧ (es'.length = es.length → r = ρ id) ∧ es.length ≤ es'.length)
  (hs : ∀ M' m', Zbn (MM M0 ρ s.m) w w' → Zfa ρ (fun j => bif Nat.beq id j then r else ρ j) s.m m' → (∀ b, b < w.heap.size → M' b → MM M0 ρ s.m b) → Zc0 w' M' (fun j => bif Nat.beq id j then r else ρ j) m' s.nd id y)
  (hmp : ∀ es, x = .mp es → (∃ es', y = .mp es') ∧ r = ρ id := by intro es e; cases e)
  (htl : ∀ ty cs, x = .tl ty cs → ∃ cs', y = .tl ty cs' ∧ (cs'.length = cs.length → r = ρ id) ∧ cs.length ≤ cs'.length := by intro ty cs e; cases e) :
  RelR w0 M0 (fun j => bif Nat.beq id j then r else ρ j) { s with m := upd s.m id y } a w' := by
 have hρ : ∀ j, j ≠ id → (fun j => bif Nat.beq id j then r else ρ j) j = ρ j := fun j hj => by
  have : Nat.beq id j = false := by
   cases e : Nat.beq id j with
   | false => rfl
   | true => exact absurd (Nat.eq_of_beq_eq_true e) (Ne.symm hj)
  simp [this]
 have hρi : (fun j => bif Nat.beq id j then r else ρ j) id = r := by simp
 generalize (fun j => bif Nat.beq id j then r else ρ j) = ρ' at *
 have hsome : (s.m id).isSome = true := by rw [hid]; rfl
 have hm : Zfa ρ ρ' s.m (upd s.m id y) := fun i z hi => by
  by_cases hii : i = id
  ·subst hii
   rw [hid] at hi
   injection hi with hi
   subst hi
   exact ⟨y, Zat _ _ _, fun cs e => ⟨(hv cs e).1, hρi.trans (hv cs e).2⟩, fun sz ty es e => by
    obtain ⟨es', e1, e2, e3⟩ := hl sz ty es e
    exact ⟨es', e1, fun e4 => hρi.trans (e2 e4), e3⟩, fun es e => ⟨(hmp es e).1, hρi.trans (hmp es e).2⟩, fun ty cs e => by
     obtain ⟨cs', e1, e2, e3⟩ := htl ty cs e
     exact ⟨cs', e1, fun e4 => hρi.trans (e2 e4), e3⟩⟩
  ·exact ⟨z, by rw [Zav _ _ (Ne.symm hii)]; exact hi, fun cs e => ⟨⟨cs, e⟩, hρ i hii⟩, fun sz ty es e => ⟨es, e, fun _ => hρ i hii, Nat.le_refl _⟩, fun es e => ⟨⟨es, e⟩, hρ i hii⟩, fun ty cs e => ⟨cs, e, fun _ => hρ i hii, Nat.le_refl _⟩⟩
 have hM' : ∀ b, b < w.heap.size → MM M0 ρ' (upd s.m id y) b → MM M0 ρ s.m b := by
  intro b hbl hmm
  rcases hmm with h0 | ⟨i, k, h1, h2⟩
  ·exact .inl h0
  ·by_cases hi : i = id
   ·subst hi
    rw [hρi] at h2
    rcases hr b k h2 with ⟨l, h3⟩ | h3
    ·exact .inr ⟨i, l, hsome, h3⟩
    ·omega
   ·rw [Zav _ _ (Ne.symm hi)] at h1
    rw [hρ i hi] at h2
    exact .inr ⟨i, k, h1, h2⟩
 have hk : Zbn (MM M0 ρ s.m) w w' := ⟨hsize, fun b hbl hnm => hother b hbl fun k hk => hnm (.inr ⟨id, k, hsome, hk⟩)⟩
 have hbl : BelowX M0.P w0 w' := ⟨hos.trans h.below.os, htape.trans h.below.tape, hout.trans h.below.output, Nat.le_trans h.below.size hsize, fun b hb hx => (hother b (Nat.lt_of_lt_of_le hb h.below.size) fun k hk => by
  rcases (h.base id b k hsome hk).1 with h1 | h1
  ·omega
  ·exact hx h1).trans (h.below.block b hb hx)⟩
 refine h.step hk hbl hm hM' (fun i b k h1 h2 => ?_) (fun i j b k l h1 h2 h3 h4 => ?_) (fun i z hz => ?_)
 ·by_cases hi : i = id
  ·subst hi
   rw [hρi] at h2
   rcases hr b k h2 with ⟨l, h3⟩ | h3
   ·have := h.base i b l hsome h3
    exact ⟨this.1, Nat.lt_of_lt_of_le this.2 hsize⟩
   ·exact ⟨.inl (Nat.le_trans h.below.size h3.1), h3.2⟩
  ·rw [Zav _ _ (Ne.symm hi)] at h1
   rw [hρ i hi] at h2
   have := h.base i b k h1 h2
   exact ⟨this.1, Nat.lt_of_lt_of_le this.2 hsize⟩
 ·by_cases hi : i = id
  ·subst hi
   by_cases hj : j = i
   ·exact hj.symm
   ·rw [Zav _ _ (Ne.symm hj)] at h2
    rw [hρ j hj] at h4
    rw [hρi] at h3
    rcases hr b k h3 with ⟨l', h5⟩ | h5
    ·exact h.inj i j b l' l hsome h2 h5 h4
    ·have := (h.base j b l h2 h4).2
     omega
  ·by_cases hj : j = id
   ·subst hj
    rw [Zav _ _ (Ne.symm hi)] at h1
    rw [hρ i hi] at h3
    rw [hρi] at h4
    rcases hr b l h4 with ⟨l', h5⟩ | h5
    ·exact h.inj i j b k l' h1 hsome h3 h5
    ·have := (h.base i b k h1 h3).2
     omega
   ·rw [Zav _ _ (Ne.symm hi)] at h1
    rw [Zav _ _ (Ne.symm hj)] at h2
    rw [hρ i hi] at h3
    rw [hρ j hj] at h4
    exact h.inj i j b k l h1 h2 h3 h4
 ·by_cases hi : i = id
  ·subst hi
   rw [Zat] at hz
   injection hz with hz
   subst hz
   exact hs _ _ hk hm hM'
  ·rw [Zav _ _ (Ne.symm hi)] at hz
   refine (h.slots i z hz).mono hk hM' hm (hρ i hi) (fun b k h1 => ?_)
   have hiz : (s.m i).isSome = true := by rw [hz]; rfl
   exact hother b (h.base i b k hiz h1).2 fun l hl' => hi (h.inj i id b k l hiz hsome h1 hl')
end Ab
namespace Ab
variable {dm : Bool}
open Go Go.RowKit
inductive Eff where
 | none
 | new (id : Nat) (x : Blk)
 | set (id : Nat) (x : Blk)
def mact (m : Nat → Option Blk) : Eff → Nat → Option Blk
 | .none => m
 | .new id x => upd m id x
 | .set id x => upd m id x
def AS.act (s : AS) (dst : Option Tmp) (x : TV) (e : Eff) : AS := { t := updo s.t dst x, m := mact s.m e, nt := s.nt, nd := s.nd, k := s.k }
def memB : Op → Bool
 | .alloc _ | .box .. | .buildSlice .. | .makeSlice .. | .load .. | .store .. | .indexAddr .. | .slice .. | .call _ | .makeMap .. | .mapUpdate .. | .lookup .. => true
 | _ => false
def newB : Op → Bool
 | .alloc _ | .box .. | .buildSlice .. | .makeSlice .. | .makeMap .. => true
 | .call { callee := .value (.func f), .. } => ownF f
 | _ => false
def effB : Op → Bool
 | .store .. | .mapUpdate .. => true
 | .call { callee := .builtin .append, .. } => true
 | _ => false
def Zgn : Op → Bool
 | .alloc _ => false
 | .buildSlice .. => false
 | .makeSlice .. => false
 | o => memB o
def adOf : Op → Option Operand
 | .store _ y _ => some y
 | .load _ y => some y
 | .call { callee := .builtin .append, args := zs, .. } => zs.toList.head?
 | _ => none
def keepB : Op → Bool
 | .store .. => true
 | .load .. => true
 | _ => false
def stB (o : Op) : Bool := (adOf o).isSome
def ownTV : Option TV → Bool
 | some (.ot ..) => true
 | some (.own ..) => true
 | some (.st ..) => true
 | none => true
 | _ => false
def idxB : Op → Bool
 | .indexAddr .. => true
 | .call { callee := .builtin .len, .. } => true
 | _ => false
def dims : Blk → Option (Nat × TypeId × Nat)
 | .lst sz ty es => some (sz, ty, es.length)
 | .tl ty cs => some (1, ty, cs.length)
 | _ => none
def quietB (s : AS) : Op → Bool
  | .indexAddr _ y _ => !ownTV (s.ev y)
  | .call { callee := .builtin .len, args := zs, .. } => (match zs.toList with
    | [y] => !ownTV (s.ev y)
    | _ => false)
  | _ => false
def RefTV : Option TV → Nat → Prop
 | some (.ptr k _), id => k = id
 | some (.op k _ _ _), id => k = id
 | some (.own k _), id => k = id
 | some (.ot k _), id => k = id
 | some (.opt k _ _), id => k = id
 | _, _ => False
structure Agree (ops : Array Oper) (o : Oper) (s s' : AS) : Prop where
 t : ∀ x, x ∈ o.looksAt ops → s'.t x = s.t x
 nt : s'.nt = s.nt
 nd : s'.nd = s.nd
 m : Zgn o.op = true → stB o.op = false → idxB o.op = false → quietB s o.op = false → ∀ i x, s.m i = some x → s'.m i = some x
 ml : idxB o.op = true → quietB s o.op = false → ∀ i x, s.m i = some x → ∃ x', s'.m i = some x' ∧ dims x' = dims x
 ms : ∀ y, adOf o.op = some y → ∀ i, RefTV (s.ev y) i → ∀ x, s.m i = some x → s'.m i = some x
theorem Agree.refl (ops : Array Oper) (o : Oper) (s : AS) : Agree ops o s s := ⟨fun _ _ => rfl, rfl, rfl, fun _ _ _ _ _ _ h => h, fun _ _ _ x h => ⟨x, h, rfl⟩, fun _ _ _ _ _ h => h⟩
def Za9 (dm : Bool) (P : Program) (ops : Array Oper) (o : Oper) (s : AS) (x : TV) (e : Eff) : Prop :=
 (∀ id b, e = .new id b → newB o.op = true ∧ s.m id = none) ∧ (∀ id b, e = .set id b → effB o.op = true ∧ (∃ y, s.m id = some y) ∧ (∀ y, adOf o.op = some y → RefTV (s.ev y) id) ∧ (keepB o.op = true → ∀ y, s.m id = some y → dims b = dims y)) ∧
 ∀ s', Agree ops o s s' → (∀ id b, e = .new id b → s'.m id = none) → ∀ w0 M0 a w, OKC dm M0 w0 → Rel w0 M0 s' a w →
  ∀ (next : Act → World → Prop) (Q : Exit → Act → World → Prop), (∀ a' w', Rel w0 M0 (s'.act o.dst x e) a' w' → next a' w') → o.wp P a w next Q
def StepG (dm : Bool) (P : Program) (ops : Array Oper) (o : Oper) (s : AS) (x : TV) (e : Eff) : Prop :=
 match o.guard with
 | none => Za9 dm P ops o s x e
 | some (j, want) => ∃ d b, (ops[j]?).bind (·.dst) = some d ∧ s.t d = some (.v (.p (.bool b))) ∧ ((b = want ∧ Za9 dm P ops o s x e) ∨ (b ≠ want ∧ x = .v (.tup []) ∧ e = .none ∧ InB s o.dst))
theorem rep_undef (w : World) (M : Nat → Prop) : Rep w M (.tup []) undef := .tup [] #[] rfl (fun i c v h => by simp at h)
theorem Za0 {P : Program} {ops : Array Oper} {o : Oper} {s : AS} {x : TV} {e : Eff} (h : StepG dm P ops o s x e) : (∀ id b, e = .new id b → newB o.op = true ∧ s.m id = none) ∧ (∀ id b, e = .set id b → effB o.op = true ∧ (∃ y, s.m id = some y) ∧ (∀ y, adOf o.op = some y → RefTV (s.ev y) id) ∧ (keepB o.op = true → ∀ y, s.m id = some y → dims b = dims y)) := by
 unfold StepG at h
 split at h
 ·exact ⟨h.1, h.2.1⟩
 ·obtain ⟨d, b, -, -, ⟨-, h⟩ | ⟨-, -, rfl, -⟩⟩ := h
  ·exact ⟨h.1, h.2.1⟩
  ·refine ⟨fun id b h => ?_, fun id b h => ?_⟩ <;> cases h
theorem stepG_wp {P : Program} {ops : Array Oper} {o : Oper} {s s' : AS} {x : TV} {e : Eff} (h : StepG dm P ops o s x e) (hag : Agree ops o s s') (hnew : ∀ id b, e = .new id b → s'.m id = none) {w0 : World} {M0 : Cx} {a : Act} {w : World} (hM : OKC dm M0 w0) (hr : Rel w0 M0 s' a w)
  (next : Act → World → Prop) (Q : Exit → Act → World → Prop) (hn : ∀ a' w', Rel w0 M0 (s'.act o.dst x e) a' w' → next a' w') : if Region.wanted o (yielded ops a.tmps) then o.wp P a w next Q else next (a.put o.dst undef) w := by
 unfold StepG at h
 split at h
 ·rename_i hg
  have : Region.wanted o (yielded ops a.tmps) = true := by simp [Region.wanted, hg]
  rw [if_pos this]
  exact h.2.2 s' hag hnew w0 M0 a w hM hr next Q hn
 ·rename_i j want hg
  obtain ⟨d, b, h1, h2, h3⟩ := h
  have hd : d ∈ o.looksAt ops := by simp [Oper.looksAt, hg, h1]
  have h2' : s'.t d = some (.v (.p (.bool b))) := (hag.t d hd).trans h2
  obtain ⟨ρ, hr'⟩ := hr
  obtain ⟨v, h4, h5⟩ := hr'.tmps d _ h2'
  obtain rfl : v = .bool b := Rep.p_inv h5
  have hy : yielded ops a.tmps j = some b := by simp [yielded, h1, h4]
  rcases h3 with ⟨rfl, h3⟩ | ⟨hne, rfl, rfl, hin⟩
  ·have : Region.wanted o (yielded ops a.tmps) = true := by simp [Region.wanted, hg, hy]
   rw [if_pos this]
   exact h3.2.2 s' hag hnew w0 M0 a w hM ⟨ρ, hr'⟩ next Q hn
  ·have : ¬ Region.wanted o (yielded ops a.tmps) = true := by simp [Region.wanted, hg, hy, hne]
   rw [if_neg this]
   have hin' : InB s' o.dst := by unfold InB at *; rw [hag.nt]; exact hin
   exact hn _ _ ⟨ρ, hr'.put hin' (rep_undef _ _)⟩
def MStep (dm : Bool) (P : Program) (ops : Array Oper) (o : Oper) (s : AS) (K : AS → Prop) : Prop :=
 ∀ w0 M0, OKC dm M0 w0 → ∀ a w, Rel w0 M0 s a w → ∀ (next : Act → World → Prop) (Q : Exit → Act → World → Prop), (∀ s' a' w', K s' → Rel w0 M0 s' a' w' → next a' w') →
  if Region.wanted o (yielded ops a.tmps) then o.wp P a w next Q else next (a.put o.dst undef) w
def EvX (dm mc : Bool) (P : Program) (ops : Array Oper) : List Oper → AS → (AS → Prop) → Prop
 | [], s, K => K s
 | o :: r, s, K => (∃ x e, StepG dm P ops o s x e ∧ EvX dm mc P ops r (s.act o.dst x e) K) ∨ (mc = true ∧ MStep dm P ops o s (fun s' => EvX dm mc P ops r s' K))
abbrev EvL (dm : Bool) (P : Program) (ops : Array Oper) : List Oper → AS → (AS → Prop) → Prop := EvX dm true P ops
theorem Zds {P : Program} {ops : Array Oper} {w0 : World} {M0 : Cx} (hM : OKC dm M0 w0) {K : AS → Prop} {Q : Exit → Act → World → Prop} (hK : ∀ s a w, K s → Rel w0 M0 s a w → Q .normal a w) :
    ∀ (l : List Oper) (s : AS) (a : Act) (w : World), EvL dm P ops l s K → Rel w0 M0 s a w → wpList P ops Q l a w
  | [], s, a, w, h, hr => wpList_nil (hK s a w h hr)
  | o :: r, s, a, w, h, hr => by
    rcases h with ⟨x, e, h1, h2⟩ | ⟨-, h⟩
    · refine wpList_step fun K' hK' => ?_
      exact stepG_wp h1 (Agree.refl _ _ _) (fun id b he => ((Za0 h1).1 id b he).2) hM hr K' Q (fun a' w' hr' => hK' a' w' (Zds hM hK r _ a' w' h2 hr'))
    · refine wpList_step fun K' hK' => ?_
      exact h w0 M0 hM a w hr K' Q (fun s' a' w' hs hr' => hK' a' w' (Zds hM hK r s' a' w' hs hr'))
def T (dm : Bool) (P : Program) (c : Code) (s : AS) (Q : Exit → AS → Prop) : Prop :=
 ∀ w0 M0, OKC dm M0 w0 → ∀ a w, Rel w0 M0 s a w → c.wp P (fun x a' w' => ∃ s', Q x s' ∧ Rel w0 M0 s' a' w') a w
def Ent (s s' : AS) : Prop := ∀ w0 M0 a w, OKC false M0 w0 → Rel w0 M0 s a w → Rel w0 M0 s' a w
theorem T.weak {P : Program} {c : Code} {s s' : AS} {Q : Exit → AS → Prop} (he : Ent s s') (h : T dm P c s' Q) : T dm P c s Q := fun w0 M0 hM a w hr => h w0 M0 hM a w (he w0 M0 a w hM.weak hr)
theorem T.mono {P : Program} {c : Code} {s : AS} {Q Q' : Exit → AS → Prop} (h : T dm P c s Q) (hq : ∀ x s, Q x s → Q' x s) : T dm P c s Q' := fun w0 M0 hM a w hr =>
 Code.wp_mono (fun x a' w' ⟨s', h1, h2⟩ => ⟨s', hq _ _ h1, h2⟩) (h w0 M0 hM a w hr)
def seqQ (dm : Bool) (P : Program) (y : Code) (Q : Exit → AS → Prop) : Exit → AS → Prop
 | .normal, s => T dm P y s Q
 | x, s => Q x s
theorem T.seq {P : Program} {x y : Code} {s : AS} {Q : Exit → AS → Prop} (h : T dm P x s (seqQ dm P y Q)) : T dm P (.seq x y) s Q := fun w0 M0 hM a w hr => by
 refine wp_seq (Code.wp_mono (fun e a' w' he => ?_) (h w0 M0 hM a w hr))
 obtain ⟨s', h1, h2⟩ := he
 cases e with
 | normal => exact h1 w0 M0 hM a' w' h2
 | _ => exact ⟨s', h1, h2⟩
theorem T.skip {P : Program} {s : AS} {Q : Exit → AS → Prop} (h : Q .normal s) : T dm P .skip s Q := fun _ _ _ _ _ hr => wp_skip ⟨s, h, hr⟩
theorem T.ret {P : Program} {s : AS} {Q : Exit → AS → Prop} (h : Q .ret s) : T dm P .ret s Q := fun _ _ _ _ _ hr => wp_ret ⟨s, h, hr⟩
theorem T.exit {P : Program} {id : Nat} {s : AS} {Q : Exit → AS → Prop} (h : Q (.exit id) s) : T dm P (.exit id) s Q := fun _ _ _ _ _ hr => wp_exit ⟨s, h, hr⟩
def blockQ (id : Nat) (Q : Exit → AS → Prop) : Exit → AS → Prop
 | .exit j, s => bif Nat.beq j id then Q .normal s else Q (.exit j) s
 | x, s => Q x s
theorem T.block {P : Program} {id : Nat} {c : Code} {s : AS} {Q : Exit → AS → Prop} (h : T dm P c s (blockQ id Q)) : T dm P (.block id c) s Q := fun w0 M0 hM a w hr => by
  refine wp_block (Code.wp_mono (fun e a' w' he => ?_) (h w0 M0 hM a w hr))
  obtain ⟨s', h1, h2⟩ := he
  cases e with
  | exit j =>
    show if j = id then _ else _
    by_cases hj : j = id
    · subst hj; rw [if_pos rfl]; exact ⟨s', by simpa [blockQ] using h1, h2⟩
    · rw [if_neg hj]
      have : Nat.beq j id = false := by
        cases e : Nat.beq j id with
        | false => rfl
        | true => exact absurd (Nat.eq_of_beq_eq_true e) hj
      exact ⟨s', by simpa [blockQ, this] using h1, h2⟩
  | _ => exact ⟨s', h1, h2⟩
theorem T.cond {P : Program} {c : Operand} {x y : Code} {s : AS} {Q : Exit → AS → Prop} {b : Bool} (hc : s.ev c = some (.v (.p (.bool b)))) (ht : b = true → T dm P x s Q) (hf : b = false → T dm P y s Q) : T dm P (.cond c x y) s Q := fun w0 M0 hM a w hr => by
 obtain ⟨ρ, hr'⟩ := hr
 have h1 := hr'.ev hc
 have hv : a.eval c = .bool b := Rep.p_inv h1
 refine wp_cond_split hv (fun h => ht h w0 M0 hM a w ⟨ρ, hr'⟩) (fun h => hf h w0 M0 hM a w ⟨ρ, hr'⟩)
def loopQ (I : Nat → AS → Prop) (n : Nat) (Q : Exit → AS → Prop) : Exit → AS → Prop
 | .normal, s => ∃ k s', k < n ∧ Ent s s' ∧ I k s'
 | x, s => Q x s
theorem T.loop {P : Program} {c : Code} {s s' : AS} {Q : Exit → AS → Prop} (I : Nat → AS → Prop) (n0 : Nat) (he : Ent s s') (h0 : I n0 s') (hround : ∀ n s, I n s → T dm P c s (loopQ I n Q)) : T dm P (.loop c) s Q := fun w0 M0 hM a w hr => by
  refine wp_loop_ghost (fun n a w => ∃ s, I n s ∧ Rel w0 M0 s a w) n0 ⟨s', h0, he w0 M0 a w hM.weak hr⟩ (fun n a w hI => ?_)
  obtain ⟨s1, h1, h2⟩ := hI
  refine Code.wp_mono (fun e a' w' he => ?_) (hround n s1 h1 w0 M0 hM a w h2)
  obtain ⟨s2, h3, h4⟩ := he
  cases e with
  | normal =>
    obtain ⟨k, s3, h5, h6, h7⟩ := h3
    exact ⟨k, h5, s3, h7, h6 w0 M0 a' w' hM.weak h4⟩
  | _ => exact ⟨s2, h3, h4⟩
theorem T.region {P : Program} {id : Nat} {l : List Oper} {s : AS} {Q : Exit → AS → Prop} (h : EvL dm P l.toArray l s (Q .normal)) : T dm P (.region id l.toArray false) s Q := fun w0 M0 hM a w hr =>
 wp_region_lit (Zds hM (fun s' a' w' h1 h2 => ⟨s', h1, h2⟩) l s a w h hr)
inductive Reps (w : World) (M : Nat → Prop) : List AV → List Value → Prop where
 | nil : Reps w M [] []
 | cons (a : AV) (v : Value) (l : List AV) (vs : List Value) (h : Rep w M a v) (t : Reps w M l vs) : Reps w M (a :: l) (v :: vs)
def PCalls (dm : Bool) (P : Program) (f : FuncId) (args : List AV) (r : AV) : Prop :=
 ∀ w M, OKM dm M w → ∀ vs : List Value, Reps w M args vs → Calls P f vs.toArray w (fun e w' => ∃ v, e = .returned v ∧ Below w.heap.size w w' ∧ Rep w' M r v)
theorem Reps.len {w : World} {M : Nat → Prop} {l : List AV} {vs : List Value} (h : Reps w M l vs) : vs.length = l.length := by
 induction h with
 | nil => rfl
 | cons a v l vs h t ih => simp [ih]
theorem Reps.get {w : World} {M : Nat → Prop} {l : List AV} {vs : List Value} (h : Reps w M l vs) : ∀ (i : Nat) a, l[i]? = some a → ∃ v, vs[i]? = some v ∧ Rep w M a v := by
  induction h with
  | nil => intro i a h; simp at h
  | cons a v l vs h t ih =>
    intro i b hi
    rcases i with _ | i
    · simp at hi; subst hi; exact ⟨v, rfl, h⟩
    · simpa using ih i b (by simpa using hi)
def Zgj (args : List AV) (nt : Nat) (nd : Bool) : AS := { t := fun i => (args[i]?).map TV.v, m := fun _ => none, nt := nt, nd := nd }
theorem Zfg {w : World} {M : Nat → Prop} {args : List AV} {vs : List Value} {nt : Nat} (nd : Bool) (h : Reps w M args vs) (hn : args.length ≤ nt) : Rel w (.of M) (Zgj args nt nd) { tmps := vs.toArray ++ Array.replicate (nt - vs.toArray.size) undef, defers := [] } w := by
 refine ⟨fun _ => none, BelowX.refl _ _, rfl, ?_, fun i b k h1 => by simp [Zgj] at h1, fun i j b k l h1 => by simp [Zgj] at h1, fun i x h1 => by simp [Zgj] at h1, fun i x h1 => ?_, fun i x h1 => (by cases h1), fun i h1 => (by cases h1)⟩
 ·simp [Zgj, h.len]; omega
 ·simp only [Zgj, Option.map_eq_some_iff] at h1
  obtain ⟨a, h1, rfl⟩ := h1
  obtain ⟨v, h2, h3⟩ := h.get i a h1
  refine ⟨v, ?_, ?_⟩
  ·have : i < vs.length := (List.getElem?_eq_some_iff.1 h2).1
   rw [Array.getElem?_append_left (by simpa using this)]
   simpa using h2
  ·exact Rep.mono (Zbn.refl _ _) (fun b _ hm => by rcases hm with hm | ⟨i, k, h4, -⟩; exact hm; simp [Zgj] at h4) h3
end Ab
namespace Ab
variable {dm : Bool}
open Go Go.RowKit
section
variable {P : Program} {ops : Array Oper} {o : Oper} {s : AS}
theorem Agree.ev {s' : AS} (h : Agree ops o s s') {y : Operand} (hy : y ∈ o.op.operands) : s'.ev y = s.ev y := by
 cases y with
 | tmp t => exact h.t t (by simp only [Oper.looksAt, List.mem_append, List.mem_filterMap]; exact .inl ⟨.tmp t, by simpa using hy, rfl⟩)
 | _ => rfl
theorem InB.agree {s' : AS} (h : Agree ops o s s') {d : Option Tmp} (hd : InB s d) : InB s' d := by unfold InB at *; rw [h.nt]; exact hd
theorem ss_val {x : TV} (hin : InB s o.dst) (h : ∀ s', Agree ops o s s' → ∀ w0 M0 ρ a w, OKC dm M0 w0 → RelR w0 M0 ρ s' a w → ∃ v w', (execOp a.eval o).run P w = .ok (.value v) w' ∧ Below w.heap.size w w' ∧ TRep w' (MM M0 ρ s'.m) ρ s'.m x v) : Za9 dm P ops o s x .none := by
 refine ⟨fun id b h => (by cases h), fun id b h => (by cases h), fun s' hag _ w0 M0 a w hM hr next Q hn => ?_⟩
 obtain ⟨ρ, hr⟩ := hr
 obtain ⟨v, w', h1, h2, h3⟩ := h s' hag w0 M0 ρ a w hM hr
 unfold Oper.wp
 rw [h1]
 exact hn _ _ ⟨ρ, (hr.ext h2).put (hin.agree hag) h3⟩
theorem Za6 {x : TV} (hin : InB s o.dst) (h : ∀ s', Agree ops o s s' → ∀ w0 M0 ρ a w, OKC dm M0 w0 → RelR w0 M0 ρ s' a w → ∃ v, (execOp a.eval o).run P w = .ok (.value v) w ∧ TRep w (MM M0 ρ s'.m) ρ s'.m x v) : Za9 dm P ops o s x .none :=
 ss_val hin fun s' hag w0 M0 ρ a w hM hr => by
  obtain ⟨v, h1, h2⟩ := h s' hag w0 M0 ρ a w hM hr
  exact ⟨v, w, h1, Below.refl _ _, h2⟩
variable {dst : Option Tmp} {ty : TypeId} {pos : String} {after : Array Edge} {g : Option (Nat × Bool)}
theorem ss_move {y : Operand} {x : TV} (hin : InB s dst) (hy : s.ev y = some x) : Za9 dm P ops ⟨dst, .move y, ty, pos, after, g⟩ s x .none :=
 Za6 hin fun s' hag w0 M0 ρ a w _ hr => ⟨a.eval y, rfl, hr.ev ((hag.ev (by simp [Op.operands])).trans hy)⟩
theorem Zgm {y : Operand} {x : TV} (hin : InB s dst) (hy : s.ev y = some x) : Za9 dm P ops ⟨dst, .assign y, ty, pos, after, g⟩ s x .none :=
 Za6 hin fun s' hag w0 M0 ρ a w _ hr => ⟨a.eval y, rfl, hr.ev ((hag.ev (by simp [Op.operands])).trans hy)⟩
theorem Zgk {c y z : Operand} {x : TV} {b : Bool} (hin : InB s dst) (hc : s.ev c = some (.v (.p (.bool b)))) (hb : b = true) (hy : s.ev y = some x) : Za9 dm P ops ⟨dst, .pick c y z, ty, pos, after, g⟩ s x .none :=
 Za6 hin fun s' hag w0 M0 ρ a w _ hr => by
  have h1 := Rep.p_inv (hr.ev ((hag.ev (by simp [Op.operands])).trans hc))
  refine ⟨a.eval y, ?_, hr.ev ((hag.ev (by simp [Op.operands])).trans hy)⟩
  simp [execOp, h1, asBool, hb]
theorem Zgl {c y z : Operand} {x : TV} {b : Bool} (hin : InB s dst) (hc : s.ev c = some (.v (.p (.bool b)))) (hb : b = false) (hy : s.ev z = some x) : Za9 dm P ops ⟨dst, .pick c y z, ty, pos, after, g⟩ s x .none :=
 Za6 hin fun s' hag w0 M0 ρ a w _ hr => by
  have h1 := Rep.p_inv (hr.ev ((hag.ev (by simp [Op.operands])).trans hc))
  refine ⟨a.eval z, ?_, hr.ev ((hag.ev (by simp [Op.operands])).trans hy)⟩
  simp [execOp, h1, asBool, hb]
theorem ss_bin {op : BinOp} {xt yt : TypeId} {y z : Operand} {u v r : Value} (hin : InB s dst) (hy : s.ev y = some (.v (.p u))) (hz : s.ev z = some (.v (.p v))) (hr1 : r.oneCell' = true)
  (hrun : ∀ w, (do eqGuard op xt y z u v; binOp op xt u v : Sem Value).run P w = .ok r w) : Za9 dm P ops ⟨dst, .binOp op xt y z yt, ty, pos, after, g⟩ s (.v (.p r)) .none :=
 Za6 hin fun s' hag w0 M0 ρ a w _ hr => by
  have h1 := Rep.p_inv (hr.ev ((hag.ev (by simp [Op.operands])).trans hy))
  have h2 := Rep.p_inv (hr.ev ((hag.ev (by simp [Op.operands])).trans hz))
  refine ⟨r, ?_, .p _ hr1⟩
  have := hrun w
  simp only [execOp, h1, h2]
  rw [Sem.run_bind, this]
  rfl
theorem Zb3 {op : BinOp} {k : IntKind} {xt yt : TypeId} {y z : Operand} {p q c : Int} (hin : InB s dst) (hy : s.ev y = some (.v (.p (.int k p)))) (hz : s.ev z = some (.v (.p (.int k q))))
  (hc : (match op with | .add => k.wrap (p + q) = c | .sub => k.wrap (p - q) = c | .mul => k.wrap (p * q) = c | _ => False)) : Za9 dm P ops ⟨dst, .binOp op xt y z yt, ty, pos, after, g⟩ s (.v (.p (.int k c))) .none :=
 ss_bin hin hy hz rfl fun w => by
  cases op <;> simp at hc <;> simp [eqGuard, binOp, Op.intArith, hc]
theorem ss_cmp {op : BinOp} {k : IntKind} {xt yt : TypeId} {y z : Operand} {p q : Int} {c : Bool} (hin : InB s dst) (hy : s.ev y = some (.v (.p (.int k p)))) (hz : s.ev z = some (.v (.p (.int k q))))
  (hc : (match op with | .eql => some (p == q) | .neq => some (p != q) | .lss => some (decide (p < q)) | .leq => some (decide (p ≤ q)) | .gtr => some (decide (p > q)) | .geq => some (decide (p ≥ q)) | _ => none) = some c) : Za9 dm P ops ⟨dst, .binOp op xt y z yt, ty, pos, after, g⟩ s (.v (.p (.bool c))) .none :=
 ss_bin hin hy hz rfl fun w => by
  cases op <;> simp at hc <;> subst hc <;> simp [eqGuard, binOp, Op.intCmp]
theorem Zbx {op : BinOp} {k : IntKind} {xt yt : TypeId} {y z : Operand} {p q c : Int} (hin : InB s dst) (hy : s.ev y = some (.v (.p (.int k p)))) (hz : s.ev z = some (.v (.p (.int k q)))) (hq : q ≠ 0)
  (hc : (match op with | .quo => k.wrap (p.tdiv q) = c | .rem => p.tmod q = c | _ => False)) : Za9 dm P ops ⟨dst, .binOp op xt y z yt, ty, pos, after, g⟩ s (.v (.p (.int k c))) .none :=
 ss_bin hin hy hz rfl fun w => by
  cases op <;> simp at hc <;> simp [eqGuard, binOp, Op.intDiv, hq, hc]
theorem Zfh {k yk : IntKind} {xt yt : TypeId} {y z : Operand} {p q c : Int} (hin : InB s dst) (hy : s.ev y = some (.v (.p (.int k p)))) (hz : s.ev z = some (.v (.p (.int yk q)))) (hq : 0 ≤ q)
  (hc : p.fdiv (2 ^ (min q.toNat k.bits)) = c) : Za9 dm P ops ⟨dst, .binOp .shr xt y z yt, ty, pos, after, g⟩ s (.v (.p (.int k c))) .none :=
 ss_bin hin hy hz rfl fun w => by
  have : ¬ q < 0 := oM
  simp [eqGuard, binOp, Op.shift, this, hc]
theorem ss_eqb {op : BinOp} {xt yt : TypeId} {y z : Operand} {p q c : Bool} (hin : InB s dst) (hx : P.underlying xt = some .bool) (hy : s.ev y = some (.v (.p (.bool p)))) (hz : s.ev z = some (.v (.p (.bool q))))
  (hc : (match op with | .eql => some (p == q) | .neq => some (!(p == q)) | _ => none) = some c) : Za9 dm P ops ⟨dst, .binOp op xt y z yt, ty, pos, after, g⟩ s (.v (.p (.bool c))) .none :=
 ss_bin hin hy hz rfl fun w => by
  cases op <;> simp only [Option.some.injEq, reduceCtorEq] at hc <;> subst hc
  ·rw [Sem.run_bind]; simp only [eqGuard]; simp [run_eql_bool w xt p q hx]
  ·rw [Sem.run_bind]; simp only [eqGuard]; simp [run_neq_bool w xt p q hx]
theorem ss_neg {k : IntKind} {xt : TypeId} {y : Operand} {p c : Int} (hin : InB s dst) (hy : s.ev y = some (.v (.p (.int k p)))) (hc : k.wrap (0 - p) = c) : Za9 dm P ops ⟨dst, .unOp .neg xt y, ty, pos, after, g⟩ s (.v (.p (.int k c))) .none :=
 Za6 hin fun s' hag w0 M0 ρ a w _ hr => by
  have h1 := Rep.p_inv (hr.ev ((hag.ev (by simp [Op.operands])).trans hy))
  refine ⟨.int k c, ?_, .p _ rfl⟩
  simp at hc
  simp [execOp, h1, Op.unary, Op.intArith, hc]
theorem ss_not {xt : TypeId} {y : Operand} {p : Bool} (hin : InB s dst) (hy : s.ev y = some (.v (.p (.bool p)))) : Za9 dm P ops ⟨dst, .unOp .not xt y, ty, pos, after, g⟩ s (.v (.p (.bool (!p)))) .none :=
 Za6 hin fun s' hag w0 M0 ρ a w _ hr => by
  have h1 := Rep.p_inv (hr.ev ((hag.ev (by simp [Op.operands])).trans hy))
  refine ⟨.bool !p, ?_, .p _ rfl⟩
  simp [execOp, h1, Op.unary]
theorem Zbf {src dt : TypeId} {k k' : IntKind} {sd : TypeDesc} {y : Operand} {p c : Int} (hin : InB s dst) (hs : P.underlying src = some sd) (hd : P.underlying dt = some (.int k')) (hy : s.ev y = some (.v (.p (.int k p)))) (hc : k'.wrap p = c) : Za9 dm P ops ⟨dst, .convert src dt y, ty, pos, after, g⟩ s (.v (.p (.int k' c))) .none :=
 Za6 hin fun s' hag w0 M0 ρ a w _ hr => by
  have h1 := Rep.p_inv (hr.ev ((hag.ev (by simp [Op.operands])).trans hy))
  refine ⟨.int k' c, ?_, .p _ rfl⟩
  simp [execOp, h1, convert, run_underlying hs, run_underlying hd, Conv.intToInt, hc]
theorem tup_inv {w : World} {M : Nat → Prop} {l : List AV} {v : Value} (h : Rep w M (.tup l) v) : ∃ vs, v = .tuple vs ∧ vs.size = l.length ∧ ∀ (i : Nat) a, l[i]? = some a → ∃ u, vs[i]? = some u ∧ Rep w M a u := by
  cases h with
  | tup cs vs hl hr =>
    refine ⟨vs, rfl, hl, fun i a hi => ?_⟩
    have : i < vs.size := by rw [hl]; exact (List.getElem?_eq_some_iff.1 hi).1
    exact ⟨vs[i], by simp [this], hr i a _ hi (by simp [this])⟩
theorem agg_inv {w : World} {M : Nat → Prop} {l : List AV} {v : Value} (h : Rep w M (.agg l) v) : ∃ vs, v = .agg vs ∧ vs.size = l.length ∧ (∀ c, c ∈ l → c.one = true) ∧ ∀ (i : Nat) a, l[i]? = some a → ∃ u, vs[i]? = some u ∧ Rep w M a u := by
  cases h with
  | agg cs vs hl h1 hr =>
    refine ⟨vs, rfl, hl, h1, fun i a hi => ?_⟩
    have : i < vs.size := by rw [hl]; exact (List.getElem?_eq_some_iff.1 hi).1
    exact ⟨vs[i], by simp [this], hr i a _ hi (by simp [this])⟩
theorem Zfv {y : Operand} {i : Nat} {l : List AV} {x : AV} (hin : InB s dst) (hy : s.ev y = some (.v (.tup l))) (hi : l[i]? = some x) : Za9 dm P ops ⟨dst, .extract y i, ty, pos, after, g⟩ s (.v x) .none :=
 Za6 hin fun s' hag w0 M0 ρ a w _ hr => by
  obtain ⟨vs, h1, h2, h3⟩ := tup_inv (hr.ev ((hag.ev (by simp [Op.operands])).trans hy))
  obtain ⟨u, h4, h5⟩ := h3 i x hi
  refine ⟨u, ?_, h5⟩
  simp [execOp, h1, Instr.extract, h4]
theorem ss_min {ts : Array TypeId} {k : IntKind} {y z : Operand} {p q : Int} (hin : InB s dst) (hy : s.ev y = some (.v (.p (.int k p)))) (hz : s.ev z = some (.v (.p (.int k q)))) : Za9 dm P ops ⟨dst, .call ⟨.builtin .min, #[y, z], ts⟩, ty, pos, after, g⟩ s (.v (.p (.int k (min p q)))) .none :=
 Za6 hin fun s' hag w0 M0 ρ a w _ hr => by
  have h1 := Rep.p_inv (hr.ev ((hag.ev (by simp [Op.operands, Call.operands])).trans hy))
  have h2 := Rep.p_inv (hr.ev ((hag.ev (by simp [Op.operands, Call.operands])).trans hz))
  refine ⟨.int k (min p q), ?_, .p _ rfl⟩
  have e : (if q < p then q else p) = min p q := oM
  simp [execOp, resolve, invoke, builtin, h1, h2, run_min_int2, e]
theorem ss_max {ts : Array TypeId} {k : IntKind} {y z : Operand} {p q : Int} (hin : InB s dst) (hy : s.ev y = some (.v (.p (.int k p)))) (hz : s.ev z = some (.v (.p (.int k q)))) : Za9 dm P ops ⟨dst, .call ⟨.builtin .max, #[y, z], ts⟩, ty, pos, after, g⟩ s (.v (.p (.int k (max p q)))) .none :=
 Za6 hin fun s' hag w0 M0 ρ a w _ hr => by
  have h1 := Rep.p_inv (hr.ev ((hag.ev (by simp [Op.operands, Call.operands])).trans hy))
  have h2 := Rep.p_inv (hr.ev ((hag.ev (by simp [Op.operands, Call.operands])).trans hz))
  refine ⟨.int k (max p q), ?_, .p _ rfl⟩
  have e : (if q > p then q else p) = max p q := oM
  simp [execOp, resolve, invoke, builtin, h1, h2, run_max_int2, e]
theorem ss_min3 {ts : Array TypeId} {k : IntKind} {y z t : Operand} {p q r : Int} (hin : InB s dst) (hy : s.ev y = some (.v (.p (.int k p)))) (hz : s.ev z = some (.v (.p (.int k q)))) (ht : s.ev t = some (.v (.p (.int k r)))) : Za9 dm P ops ⟨dst, .call ⟨.builtin .min, #[y, z, t], ts⟩, ty, pos, after, g⟩ s (.v (.p (.int k (min (min p q) r)))) .none :=
 Za6 hin fun s' hag w0 M0 ρ a w _ hr => by
  have h1 := Rep.p_inv (hr.ev ((hag.ev (by simp [Op.operands, Call.operands])).trans hy))
  have h2 := Rep.p_inv (hr.ev ((hag.ev (by simp [Op.operands, Call.operands])).trans hz))
  have h3 := Rep.p_inv (hr.ev ((hag.ev (by simp [Op.operands, Call.operands])).trans ht))
  refine ⟨.int k (min (min p q) r), ?_, .p _ rfl⟩
  have e : (if q < p then q else p) = min p q := oM
  have e2 : (if r < min p q then r else min p q) = min (min p q) r := oM
  simp [execOp, resolve, invoke, builtin, h1, h2, h3, Builtin.min_, Builtin.min2, e, e2]
theorem sl_inv {w : World} {M : Nat → Prop} {l : List AV} {v : Value} (h : Rep w M (.sl l) v) : ∃ a cap, v = .slice a l.length cap ∧ l.length ≤ cap ∧ (l = [] ∨ ∃ b off sz, a = some ⟨b, off, none⟩ ∧ (∀ e, e ∈ l → e.cells.length = sz) ∧
    ∀ (i : Nat) e, l[i]? = some e → ∀ (j : Nat) c, e.cells[j]? = some c → c.one = true ∧ ¬ M b ∧ ∃ x, w.cell? ⟨b, off + i * sz + j, none⟩ = some x ∧ Rep w M c x) := by
  cases h with
  | emp a cap => exact ⟨a, cap, rfl, Nat.zero_le _, .inl rfl⟩
  | sl es b off cap sz f hcap hM hsz h1 hc hr =>
    refine ⟨_, cap, rfl, hcap, .inr ⟨b, off, sz, rfl, hsz, fun i e hi j c hj => ?_⟩⟩
    have hil := (List.getElem?_eq_some_iff.1 hi).1
    have he := List.mem_of_getElem? hi
    have hjl : j < sz := by rw [← hsz e he]; exact (List.getElem?_eq_some_iff.1 hj).1
    exact ⟨h1 e he c (List.mem_of_getElem? hj), hM i j hil hjl, f i j, hc i j hil hjl, hr i e j c hi hj⟩
theorem ss_len {ts : Array TypeId} {t e : TypeId} {y : Operand} {l : List AV} (hin : InB s dst) (ht : ts[0]? = some t) (hu : P.underlying t = some (.slice e)) (hy : s.ev y = some (.v (.sl l))) : Za9 dm P ops ⟨dst, .call ⟨.builtin .len, #[y], ts⟩, ty, pos, after, g⟩ s (.v (.p (.int .i64 l.length))) .none :=
 Za6 hin fun s' hag w0 M0 ρ a w _ hr => by
  obtain ⟨ad, cap, h1, -⟩ := sl_inv (hr.ev ((hag.ev (by simp [Op.operands, Call.operands])).trans hy))
  refine ⟨.int .i64 l.length, ?_, .p _ rfl⟩
  simp [execOp, resolve, invoke, builtin, h1, Builtin.len_, ht, run_underlying hu, goInt]
theorem Zfu {ts : Array TypeId} {t e : TypeId} {y : Operand} (hin : InB s dst) (ht : ts[0]? = some t) (hu : P.underlying t = some (.slice e)) (hy : s.ev y = some (.v (.p (.slice none 0 0)))) : Za9 dm P ops ⟨dst, .call ⟨.builtin .len, #[y], ts⟩, ty, pos, after, g⟩ s (.v (.p (.int .i64 0))) .none :=
 Za6 hin fun s' hag w0 M0 ρ a w _ hr => by
  have h1 := Rep.p_inv (hr.ev ((hag.ev (by simp [Op.operands, Call.operands])).trans hy))
  refine ⟨.int .i64 0, ?_, .p _ rfl⟩
  simp [execOp, resolve, invoke, builtin, h1, Builtin.len_, ht, run_underlying hu, goInt]
theorem Zel {ts : Array TypeId} {t e : TypeId} {y : Operand} {id n sz : Nat} {et : TypeId} {es : List AV} (hin : InB s dst) (ht : ts[0]? = some t) (hu : P.underlying t = some (.slice e)) (hy : s.ev y = some (.own id n)) (hm : s.m id = some (.lst sz et es)) (hn : es.length = n) : Za9 dm P ops ⟨dst, .call ⟨.builtin .len, #[y], ts⟩, ty, pos, after, g⟩ s (.v (.p (.int .i64 n))) .none :=
 Za6 hin fun s' hag w0 M0 ρ a w _ hr => by
  obtain ⟨sz', et', es', h1, h2, -, h3⟩ := hr.ev ((hag.ev (by simp [Op.operands, Call.operands])).trans hy)
  obtain ⟨x', g1, g2⟩ := hag.ml rfl (by show (!ownTV (s.ev y)) = false; rw [hy]; rfl) id _ hm
  rw [g1] at h1
  injection h1 with h1
  subst h1
  injection g2 with g2
  have hn : es'.length = n := (congrArg (fun x : Nat × TypeId × Nat => x.2.2) g2).trans hn
  refine ⟨.int .i64 n, ?_, .p _ rfl⟩
  rcases h3 hn with ⟨-, rfl, h4⟩ | ⟨b, k, -, h4⟩
  ·simp [execOp, resolve, invoke, builtin, h4, Builtin.len_, ht, run_underlying hu, goInt]
  ·simp [execOp, resolve, invoke, builtin, h4, Builtin.len_, ht, run_underlying hu, goInt]
end
end Ab
namespace Ab
variable {dm : Bool}
open Go Go.RowKit
def Zgg (P : Program) (t : TypeId) (f off : Nat) : Prop := ∃ fs fd i, P.underlying t = some (.struct fs) ∧ fs[f]? = some fd ∧ fd.offset = off ∧ P.info? fd.type = some i ∧ i.size ≠ 0
def AggT (P : Program) (t : TypeId) (n : Nat) : Prop := ∃ fs i, P.underlying t = some (.struct fs) ∧ P.info? t = some i ∧ i.size = n
def OneT (P : Program) (t : TypeId) : Prop := ∃ d i, P.underlying t = some d ∧ (match d with | .struct _ => False | .array _ _ => False | _ => True) ∧ P.info? t = some i ∧ i.size = 1
def ElemT (P : Program) (t e : TypeId) (n : Nat) : Prop := P.underlying t = some (.slice e) ∧ ∃ i, P.info? e = some i ∧ i.size = n
section
variable {P : Program} {w : World}
theorem isAgg_agg {t : TypeId} {n : Nat} (h : AggT P t n) : (isAgg t).run P w = .ok true w ∧ (Go.sizeOf t).run P w = .ok n w := by
 obtain ⟨fs, i, h1, h2, h3⟩ := h
 exact ⟨by simp [isAgg, run_underlying h1], by simp [Go.sizeOf, typeInfo, h2, h3]⟩
theorem isAgg_one {t : TypeId} (h : OneT P t) : (isAgg t).run P w = .ok false w ∧ (Go.sizeOf t).run P w = .ok 1 w := by
 obtain ⟨d, i, h1, h2, h3, h4⟩ := h
 refine ⟨?_, by simp [Go.sizeOf, typeInfo, h3, h4]⟩
 simp only [isAgg, Sem.run_bind, run_underlying h1, Result.andThen_ok]
 cases d <;> first | exact h2.elim | rfl
theorem addr_add (b o i : Nat) : (⟨b, o, none⟩ : Addr).add i = ⟨b, o + i, none⟩ := by unfold Addr.add; split <;> simp_all
theorem Zd8 {t : TypeId} {n b o : Nat} (h : AggT P t n) (vs : List Value) (hl : vs.length = n) (hc : ∀ (j : Nat) v, vs[j]? = some v → w.cell? ⟨b, o + j, none⟩ = some v) :
  (Instr.loadAt t (.pointer (some ⟨b, o, none⟩))).run P w = .ok (.agg vs.toArray) w := by
 have h1 := run_loadCells_list (P := P) (w := w) ⟨b, o, none⟩ vs (fun j v hj => by rw [addr_add]; exact hc j v hj)
 rw [hl] at h1
 simp [Instr.loadAt, Instr.sureAddr, loadVar, (isAgg_agg (w := w) h).1, (isAgg_agg (w := w) h).2, h1]
theorem Zd7 {t : TypeId} {b o : Nat} {v : Value} (h : OneT P t) (hc : w.cell? ⟨b, o, none⟩ = some v) :
  (Instr.loadAt t (.pointer (some ⟨b, o, none⟩))).run P w = .ok v w := by
 simp [Instr.loadAt, Instr.sureAddr, loadVar, (isAgg_one (w := w) h).1, hc]
end
def AV.dn : AV → AV
 | .p (.slice none 0 0) => .sl []
 | a => a
theorem Rep.dn {w : World} {M : Nat → Prop} {a : AV} {v : Value} (h : Rep w M a v) : Rep w M a.dn v := by
 unfold AV.dn
 split
 ·rw [Rep.p_inv h]; exact .emp none 0
 ·exact h
theorem AV.dn_one {a : AV} (h : a.one = true) : a.dn.one = true := by
 unfold AV.dn
 split
 ·rfl
 ·exact h
def Zcx : List TV → Option (List AV)
 | [] => some []
 | .v a :: r => bif a.one then (match Zcx r with | some l => some (a.dn :: l) | none => none) else none
 | _ :: _ => none
theorem Zdp : ∀ {cs : List TV} {l : List AV}, Zcx cs = some l → cs.length = l.length ∧ ∀ (j : Nat) c, l[j]? = some c → c.one = true ∧ ∃ a, cs[j]? = some (.v a) ∧ c = a.dn
  | [], l, h => by simp [Zcx] at h; subst h; exact ⟨rfl, fun j c hj => by simp at hj⟩
  | .v a :: r, l, h => by
    simp only [Zcx] at h
    cases ha : a.one with
    | false => rw [ha] at h; cases h
    | true =>
      rw [ha] at h
      cases hr : Zcx r with
      | none => rw [hr] at h; cases h
      | some l' =>
        rw [hr] at h
        simp at h
        subst h
        obtain ⟨h1, h2⟩ := Zdp hr
        refine ⟨by simp [h1], fun j c hj => ?_⟩
        rcases j with _ | j
        · simp at hj; subst hj; exact ⟨AV.dn_one ha, a, rfl, rfl⟩
        · simpa using h2 j c (by simpa using hj)
  | .ptr _ _ :: _, l, h => by cases h
  | .own _ _ :: _, l, h => by cases h
  | .ep _ _ :: _, l, h => by cases h
  | .op _ _ _ _ :: _, l, h => by cases h
section
variable {P : Program} {ops : Array Oper} {s : AS} {dst : Option Tmp} {ty : TypeId} {pos : String} {after : Array Edge} {g : Option (Nat × Bool)}
theorem Zd6 {t : TypeId} {y : Operand} {f off id o : Nat} (hin : InB s dst) (hf : Zgg P t f off) (hy : s.ev y = some (.ptr id o)) : Za9 dm P ops ⟨dst, .fieldAddr t y f, ty, pos, after, g⟩ s (.ptr id (o + off)) .none :=
 Za6 hin fun s' hag w0 M0 ρ a w _ hr => by
  obtain ⟨fs, fd, i, h1, h2, h3, h4, h5⟩ := hf
  obtain ⟨h6, b, k, h7, h8⟩ := hr.ev ((hag.ev (by simp [Op.operands])).trans hy)
  refine ⟨.pointer (some ⟨b, o + off, none⟩), ?_, h6, b, k, h7, rfl⟩
  simp [execOp, h8, Instr.fieldAt, run_underlying h1, h2, Instr.sureAddr, fieldPlace, Go.sizeOf, typeInfo, h4, h5, addr_add, h3]
theorem Zev {t : TypeId} {y : Operand} {f off o : Nat} {e : AV} (hin : InB s dst) (hf : Zgg P t f off) (hy : s.ev y = some (.ep e o)) : Za9 dm P ops ⟨dst, .fieldAddr t y f, ty, pos, after, g⟩ s (.ep e (o + off)) .none :=
 Za6 hin fun s' hag w0 M0 ρ a w _ hr => by
  obtain ⟨fs, fd, i, h1, h2, h3, h4, h5⟩ := hf
  obtain ⟨b, bo, h7, h8⟩ := hr.ev ((hag.ev (by simp [Op.operands])).trans hy)
  refine ⟨.pointer (some ⟨b, bo + (o + off), none⟩), ?_, b, bo, rfl, h8⟩
  simp [execOp, h7, Instr.fieldAt, run_underlying h1, h2, Instr.sureAddr, fieldPlace, Go.sizeOf, typeInfo, h4, h5, addr_add, h3, Nat.add_assoc]
theorem Zbh {t e : TypeId} {n : Nat} {y z : Operand} {k : IntKind} {i : Int} {l : List AV} {x : AV} (hin : InB s dst) (ht : ElemT P t e n) (hy : s.ev y = some (.v (.sl l))) (hz : s.ev z = some (.v (.p (.int k i)))) (h0 : 0 ≤ i) (hx : l[i.toNat]? = some x) (hc : x.cells.length = n) :
  Za9 dm P ops ⟨dst, .indexAddr t y z, ty, pos, after, g⟩ s (.ep x 0) .none :=
 Za6 hin fun s' hag w0 M0 ρ a w _ hr => by
  obtain ⟨h1, ei, h2, h3⟩ := ht
  obtain ⟨ad, cap, h4, h5, h6⟩ := sl_inv (hr.ev ((hag.ev (by simp [Op.operands])).trans hy))
  have h7 := Rep.p_inv (hr.ev ((hag.ev (by simp [Op.operands])).trans hz))
  have hlt := (List.getElem?_eq_some_iff.1 hx).1
  rcases h6 with h6 | ⟨b, off, sz, rfl, h8, h9⟩
  ·subst h6; simp at hlt
  ·have hsz : sz = n := (h8 x (List.mem_of_getElem? hx)).symm.trans hc
   subst hsz
   refine ⟨.pointer (some ⟨b, off + i.toNat * sz, none⟩), ?_, b, off + i.toNat * sz, rfl, h9 _ x hx⟩
   have hi : 0 ≤ i ∧ i < (l.length : Int) := ⟨h0, oM⟩
   simp [execOp, h4, h7, Instr.indexAt, asIntOf, run_underlying h1, hi, Go.sizeOf, typeInfo, h2, h3, addr_add]
theorem Zah {t e : TypeId} {n : Nat} {y z : Operand} {k : IntKind} {i : Int} {id m : Nat} {et : TypeId} {es : List AV} (hin : InB s dst) (ht : ElemT P t e n) (hy : s.ev y = some (.own id m)) (hm : s.m id = some (.lst n et es)) (hlen : es.length = m) (hz : s.ev z = some (.v (.p (.int k i)))) (h0 : 0 ≤ i) (hi : i < m) :
  Za9 dm P ops ⟨dst, .indexAddr t y z, ty, pos, after, g⟩ s (.op id m i.toNat 0) .none :=
 Za6 hin fun s' hag w0 M0 ρ a w _ hr => by
  obtain ⟨h1, ei, h2, h3⟩ := ht
  obtain ⟨sz', et', es', h4, h5, -, h6⟩ := hr.ev ((hag.ev (by simp [Op.operands])).trans hy)
  obtain ⟨x', g1, g2⟩ := hag.ml rfl (by show (!ownTV (s.ev y)) = false; rw [hy]; rfl) id _ hm
  have hm' := g1
  rw [hm'] at h4
  injection h4 with h4
  subst h4
  injection g2 with g2
  have e1 : sz' = n := congrArg (fun x : Nat × TypeId × Nat => x.1) g2
  subst e1
  have hlen : es'.length = m := (congrArg (fun x : Nat × TypeId × Nat => x.2.2) g2).trans hlen
  have h7 := Rep.p_inv (hr.ev ((hag.ev (by simp [Op.operands])).trans hz))
  rcases h6 hlen with ⟨-, h8, -⟩ | ⟨b, kk, h8, h9⟩
  ·omega
  ·refine ⟨.pointer (some ⟨b, i.toNat * sz', none⟩), ?_, sz', et', es', hm', oM, b, i.toNat * sz', rfl, fun _ => ⟨rfl, kk, h8⟩⟩
   have hi' : 0 ≤ i ∧ i < (m : Int) := ⟨h0, hi⟩
   simp [execOp, h9, h7, Instr.indexAt, asIntOf, run_underlying h1, hi', Go.sizeOf, typeInfo, h2, h3, addr_add]
theorem Zd5 {t : TypeId} {y : Operand} {id o : Nat} {cs : List TV} {x : TV} (hin : InB s dst) (ht : OneT P t) (hy : s.ev y = some (.ptr id o)) (hm : s.m id = some (.var cs)) (hx : cs[o]? = some x) : Za9 dm P ops ⟨dst, .load t y, ty, pos, after, g⟩ s x .none :=
 Za6 hin fun s' hag w0 M0 ρ a w _ hr => by
  obtain ⟨-, b, k, h1, h2⟩ := hr.ev ((hag.ev (by simp [Op.operands])).trans hy)
  obtain ⟨b', k', t', row, h3, h4, h5, h6, -⟩ := hr.slots id _ (hag.ms _ rfl id (by rw [hy]; rfl) _ hm)
  rw [h1] at h3
  injection h3 with h3
  injection h3 with e1 e2
  subst e1 e2
  obtain ⟨v, h7, h8, h9⟩ := h6 o x hx
  refine ⟨v, ?_, h9⟩
  have := Zd7 (P := P) (w := w) (b := b) (o := o) ht (v := v) (by simp [World.cell?, h4, h7])
  simp [execOp, h2, this]
theorem Zdb {t : TypeId} {n : Nat} {y : Operand} {id o : Nat} {cs : List TV} {l : List AV} (hin : InB s dst) (ht : AggT P t n) (hy : s.ev y = some (.ptr id o)) (hm : s.m id = some (.var cs)) (hl : Zcx ((cs.drop o).take n) = some l) (hn : l.length = n) : Za9 dm P ops ⟨dst, .load t y, ty, pos, after, g⟩ s (.v (.agg l)) .none :=
 Za6 hin fun s' hag w0 M0 ρ a w _ hr => by
  obtain ⟨-, b, k, h1, h2⟩ := hr.ev ((hag.ev (by simp [Op.operands])).trans hy)
  obtain ⟨b', k', t', row, h3, h4, h5, h6, -⟩ := hr.slots id _ (hag.ms _ rfl id (by rw [hy]; rfl) _ hm)
  rw [h1] at h3
  injection h3 with h3
  injection h3 with e1 e2
  subst e1 e2
  obtain ⟨h7, h8⟩ := Zdp hl
  have key : ∀ (j : Nat) c, l[j]? = some c → c.one = true ∧ ∃ v, row[o + j]? = some v ∧ Rep w (MM M0 ρ s'.m) c v := by
   intro j c hj
   obtain ⟨h9, a', h10, rfl⟩ := h8 j c hj
   have hjn : j < n := by rw [← hn]; exact (List.getElem?_eq_some_iff.1 hj).1
   rw [List.getElem?_take_of_lt hjn, List.getElem?_drop] at h10
   obtain ⟨v, h11, -, h13⟩ := h6 _ _ h10
   exact ⟨h9, v, h11, Rep.dn h13⟩
  have hsize : ∀ j, j < n → o + j < row.size := fun j hj => by
   obtain ⟨-, v, h9, -⟩ := key j l[j] (by simp)
   exact (Array.getElem?_eq_some_iff.1 h9).1
  let vs : List Value := (List.range n).map fun j => row.getD (o + j) undef
  have hvs : ∀ j, j < n → vs[j]? = row[o + j]? := fun j hj => by simp [vs, hj, hsize j hj]
  have hlen : vs.length = n := by simp [vs]
  refine ⟨.agg vs.toArray, ?_, .agg _ _ (by simp [hlen, hn]) (fun c hc => ?_) (fun i c v h9 h10 => ?_)⟩
  ·have := Zd8 (P := P) (w := w) (b := b) (o := o) ht vs hlen (fun j v hj => by
    have hjn : j < n := by rw [← hlen]; exact (List.getElem?_eq_some_iff.1 hj).1
    simp only [World.cell?, h4]
    rw [← hvs j hjn]
    simpa using hj)
   simp [execOp, h2, this]
  ·obtain ⟨j, hj⟩ := List.getElem?_of_mem hc
   exact (key j c hj).1
  ·obtain ⟨-, u, h11, h12⟩ := key i c h9
   have hin' : i < n := by rw [← hn]; exact (List.getElem?_eq_some_iff.1 h9).1
   have : vs[i]? = some v := by simpa using h10
   rw [hvs i hin', h11] at this
   injection this with this
   subst this
   exact h12
theorem Zeu {t : TypeId} {y : Operand} {o : Nat} {e c : AV} (hin : InB s dst) (ht : OneT P t) (hy : s.ev y = some (.ep e o)) (hx : e.cells[o]? = some c) : Za9 dm P ops ⟨dst, .load t y, ty, pos, after, g⟩ s (.v c) .none :=
 Za6 hin fun s' hag w0 M0 ρ a w _ hr => by
  obtain ⟨b, bo, h7, h8⟩ := hr.ev ((hag.ev (by simp [Op.operands])).trans hy)
  obtain ⟨h9, -, x, h10, h11⟩ := h8 o c hx
  refine ⟨x, ?_, h11⟩
  have := Zd7 (P := P) (w := w) (b := b) (o := bo + o) ht h10
  simp [execOp, h7, this]
theorem Zdm {t : TypeId} {n : Nat} {y : Operand} {o : Nat} {e : AV} {l : List AV} (hin : InB s dst) (ht : AggT P t n) (hy : s.ev y = some (.ep e o)) (hl : (e.cells.drop o).take n = l) (hn : l.length = n) : Za9 dm P ops ⟨dst, .load t y, ty, pos, after, g⟩ s (.v (.agg l)) .none :=
 Za6 hin fun s' hag w0 M0 ρ a w _ hr => by
  obtain ⟨b, bo, h7, h8⟩ := hr.ev ((hag.ev (by simp [Op.operands])).trans hy)
  have key : ∀ (j : Nat) c, l[j]? = some c → c.one = true ∧ ∃ v, w.cell? ⟨b, bo + o + j, none⟩ = some v ∧ Rep w (MM M0 ρ s'.m) c v := by
   intro j c hj
   have hjn : j < n := by rw [← hn]; exact (List.getElem?_eq_some_iff.1 hj).1
   rw [← hl, List.getElem?_take_of_lt hjn, List.getElem?_drop] at hj
   obtain ⟨h9, -, x, h10, h11⟩ := h8 _ c hj
   exact ⟨h9, x, by rw [Nat.add_assoc]; exact h10, h11⟩
  let vs : List Value := (List.range n).map fun j => (w.cell? ⟨b, bo + o + j, none⟩).getD undef
  have hlen : vs.length = n := by simp [vs]
  have hvs : ∀ j, j < n → vs[j]? = w.cell? ⟨b, bo + o + j, none⟩ := fun j hj => by
   obtain ⟨-, v, h9, -⟩ := key j l[j] (by simp)
   simp [vs, hj, h9]
  refine ⟨.agg vs.toArray, ?_, .agg _ _ (by simp [hlen, hn]) (fun c hc => ?_) (fun i c v h9 h10 => ?_)⟩
  ·have := Zd8 (P := P) (w := w) (b := b) (o := bo + o) ht vs hlen (fun j v hj => by
    have hjn : j < n := by rw [← hlen]; exact (List.getElem?_eq_some_iff.1 hj).1
    rw [← hvs j hjn]; exact hj)
   simp [execOp, h7, this]
  ·obtain ⟨j, hj⟩ := List.getElem?_of_mem hc
   exact (key j c hj).1
  ·obtain ⟨-, u, h11, h12⟩ := key i c h9
   have hin' : i < n := by rw [← hn]; exact (List.getElem?_eq_some_iff.1 h9).1
   have : vs[i]? = some v := by simpa using h10
   rw [hvs i hin', h11] at this
   injection this with this
   subst this
   exact h12
theorem own_cell {w0 w : World} {M0 : Cx} {ρ : Nat → Option (Nat × Nat)} {a : Act} {id n i o b k : Nat} {et : TypeId} {es : List AV} {e c : AV} (hr : RelR w0 M0 ρ s a w) (hm : s.m id = some (.lst n et es)) (hρ : ρ id = some (b, k)) (he : es[i]? = some e) (hc : e.cells[o]? = some c) :
  c.one = true ∧ ∃ v, w.cell? ⟨b, i * n + o, none⟩ = some v ∧ Rep w (MM M0 ρ s.m) c v := by
 rcases hr.slots id _ hm with ⟨h1, -⟩ | ⟨b', cap, row, h1, h2, h3, h4, h5, h6, h7⟩
 ·rw [hρ] at h1; cases h1
 ·rw [hρ] at h1
  injection h1 with h1
  injection h1 with e1 e2
  subst e1 e2
  obtain ⟨-, h8⟩ := h6 i e he
  obtain ⟨h9, v, h10, h11⟩ := h8 o c hc
  exact ⟨h9, v, by simp [World.cell?, h2, h10], h11⟩
theorem ss_load_op1 {t : TypeId} {y : Operand} {id m i o n : Nat} {et : TypeId} {es : List AV} {e c : AV} (hin : InB s dst) (ht : OneT P t) (hy : s.ev y = some (.op id m i o)) (hm : s.m id = some (.lst n et es)) (hlen : es.length = m) (he : es[i]? = some e) (hx : e.cells[o]? = some c) : Za9 dm P ops ⟨dst, .load t y, ty, pos, after, g⟩ s (.v c) .none :=
 Za6 hin fun s' hag w0 M0 ρ a w _ hr => by
  have hm' := hag.ms _ rfl id (by rw [hy]; rfl) _ hm
  obtain ⟨sz', et', es', h4, h5, b, bo, h8, h6⟩ := hr.ev ((hag.ev (by simp [Op.operands])).trans hy)
  rw [hm'] at h4
  injection h4 with h4
  injection h4 with e1 e2 e3
  subst e1 e2 e3
  obtain ⟨rfl, k, h7⟩ := h6 hlen
  obtain ⟨-, v, h10, h11⟩ := own_cell hr hm' h7 he hx
  refine ⟨v, ?_, h11⟩
  have := Zd7 (P := P) (w := w) (b := b) (o := i * n + o) ht h10
  simp [execOp, h8, this]
theorem Zan {t : TypeId} {y : Operand} {id m i n : Nat} {et : TypeId} {es : List AV} {l : List AV} (hin : InB s dst) (ht : AggT P t n) (hy : s.ev y = some (.op id m i 0)) (hm : s.m id = some (.lst n et es)) (hlen : es.length = m) (he : es[i]? = some (.agg l)) : Za9 dm P ops ⟨dst, .load t y, ty, pos, after, g⟩ s (.v (.agg l)) .none :=
 Za6 hin fun s' hag w0 M0 ρ a w _ hr => by
  have hm' := hag.ms _ rfl id (by rw [hy]; rfl) _ hm
  obtain ⟨sz', et', es', h4, h5, b, bo, h8, h6⟩ := hr.ev ((hag.ev (by simp [Op.operands])).trans hy)
  rw [hm'] at h4
  injection h4 with h4
  injection h4 with e1 e2 e3
  subst e1 e2 e3
  obtain ⟨rfl, k, h7⟩ := h6 hlen
  have hn : l.length = n := by
   rcases hr.slots id _ hm' with ⟨h1, -⟩ | ⟨b', cap, row, h1, h2, h3, h4, h5, h6, h7⟩
   ·rw [h7] at h1; cases h1
   ·exact (h6 i _ he).1
  have key : ∀ (j : Nat) c, l[j]? = some c → c.one = true ∧ ∃ v, w.cell? ⟨b, i * n + j, none⟩ = some v ∧ Rep w (MM M0 ρ s'.m) c v := fun j c hj => own_cell hr hm' h7 he hj
  let vs : List Value := (List.range n).map fun j => (w.cell? ⟨b, i * n + j, none⟩).getD undef
  have hlen' : vs.length = n := by simp [vs]
  have hvs : ∀ j, j < n → vs[j]? = w.cell? ⟨b, i * n + j, none⟩ := fun j hj => by
   obtain ⟨-, v, h9, -⟩ := key j l[j] (by simp)
   simp [vs, hj, h9]
  refine ⟨.agg vs.toArray, ?_, .agg _ _ (by simp [hlen', hn]) (fun c hc => ?_) (fun i c v h9 h10 => ?_)⟩
  ·have := Zd8 (P := P) (w := w) (b := b) (o := i * n) ht vs hlen' (fun j v hj => by
    have hjn : j < n := by rw [← hlen']; exact (List.getElem?_eq_some_iff.1 hj).1
    rw [← hvs j hjn]; exact hj)
   simp [execOp, h8, this]
  ·obtain ⟨j, hj⟩ := List.getElem?_of_mem hc
   exact (key j c hj).1
  ·obtain ⟨-, u, h11, h12⟩ := key i c h9
   have hin' : i < n := by rw [← hn]; exact (List.getElem?_eq_some_iff.1 h9).1
   have : vs[i]? = some v := by simpa using h10
   rw [hvs i hin', h11] at this
   injection this with this
   subst this
   exact h12
end
end Ab
namespace Ab
variable {dm : Bool}
open Go Go.RowKit
theorem Rep.sub {w : World} {M : Nat → Prop} {l : List AV} {a : Option Addr} {n cap sz lo hi : Nat} (h : Rep w M (.sl l) (.slice a n cap)) (hsz : ∀ e, e ∈ l → e.cells.length = sz) (h1 : lo ≤ hi) (h2 : hi ≤ l.length) :
    Rep w M (.sl ((l.take hi).drop lo)) (.slice (if cap = lo then a else a.map (·.add (lo * sz))) (hi - lo) (cap - lo)) := by
  have hlen : ((l.take hi).drop lo).length = hi - lo := by simp; omega
  cases h with
  | emp a cap =>
    have e1 : lo = 0 := by simp at h2; omega
    have e2 : hi = 0 := by simp at h2; omega
    subst e1 e2
    simpa using Rep.emp _ _
  | sl es b off cap sz' f hcap hM hsz' h3 hc hr =>
    by_cases hemp : hi = lo
    · subst hemp
      have : (l.take hi).drop hi = [] := by apply List.eq_nil_of_length_eq_zero; omega
      rw [this, Nat.sub_self]
      have key : ∀ off', Rep w M (.sl []) (.slice (some ⟨b, off', none⟩) 0 (cap - hi)) := fun off' => .sl [] b off' _ 0 (fun _ _ => undef) (Nat.zero_le _) (fun i j hi => absurd hi (Nat.not_lt_zero _)) (fun e he => absurd he (by simp)) (fun e he => absurd he (by simp)) (fun i j hi => absurd hi (Nat.not_lt_zero _)) (fun i e j c hi => by simp at hi)
      split
      · exact key off
      · simp only [Option.map_some, addr_add]; exact key _
    · have hne : cap ≠ lo := oM
      have hz : sz' = sz := by
        have : 0 < l.length := oM
        have hm := List.getElem_mem this
        rw [← hsz' _ hm, hsz _ hm]
      subst hz
      rw [if_neg hne, ← hlen]
      simp only [Option.map_some, addr_add]
      have hget : ∀ (i : Nat) e, ((l.take hi).drop lo)[i]? = some e → l[lo + i]? = some e := fun i e hi' => by
        rw [List.getElem?_drop] at hi'
        have : lo + i < hi := by
          have := (List.getElem?_eq_some_iff.1 hi').1
          simp at this; omega
        rwa [List.getElem?_take_of_lt this] at hi'
      have hmem : ∀ e, e ∈ (l.take hi).drop lo → e ∈ l := fun e he => List.mem_of_mem_take (List.mem_of_mem_drop he)
      refine .sl _ b (off + lo * sz') _ sz' (fun i j => f (lo + i) j) oM (fun i j hi' hj => hM (lo + i) j oM hj) (fun e he => hsz' e (hmem e he)) (fun e he => h3 e (hmem e he)) (fun i j hi' hj => ?_) (fun i e j c hi' hj => hr (lo + i) e j c (hget i e hi') hj)
      have := hc (lo + i) j oM hj
      rw [Nat.add_mul, ← Nat.add_assoc] at this
      exact this
section
variable {P : Program} {ops : Array Oper} {s : AS} {dst : Option Tmp} {ty : TypeId} {pos : String} {after : Array Edge} {g : Option (Nat × Bool)}
theorem Zek {t e : TypeId} {n : Nat} {y z : Operand} {k : IntKind} {hi : Int} {l : List AV} (hin : InB s dst) (ht : ElemT P t e n) (hy : s.ev y = some (.v (.sl l))) (hsz : ∀ x, x ∈ l → x.cells.length = n) (hz : s.ev z = some (.v (.p (.int k hi)))) (h0 : 0 ≤ hi) (h1 : hi ≤ l.length) :
  Za9 dm P ops ⟨dst, .slice t y none (some z) none, ty, pos, after, g⟩ s (.v (.sl (l.take hi.toNat))) .none :=
 Za6 hin fun s' hag w0 M0 ρ a w _ hr => by
  obtain ⟨h2, ei, h3, h4⟩ := ht
  have h5 := hr.ev ((hag.ev (by simp [Op.operands])).trans hy)
  obtain ⟨ad, cap, h6, h7, -⟩ := sl_inv h5
  have h8 := Rep.p_inv (hr.ev ((hag.ev (by simp [Op.operands])).trans hz))
  rw [h6] at h5
  have h9 := Rep.sub h5 hsz (Nat.zero_le hi.toNat) (by omega : hi.toNat ≤ l.length)
  rw [List.drop_zero] at h9
  refine ⟨_, ?_, h9⟩
  have hb : 0 ≤ hi ∧ hi ≤ (cap : Int) := ⟨h0, oM⟩
  simp [execOp, h6, h8, Instr.sliceAt, Instr.slice, run_underlying h2, Instr.sliceBounds, Instr.sliceBound, asIntOf, hb, Go.sizeOf, typeInfo, h3, h4]
theorem ss_slice_l {t e : TypeId} {n : Nat} {y z : Operand} {k : IntKind} {lo : Int} {l : List AV} (hin : InB s dst) (ht : ElemT P t e n) (hy : s.ev y = some (.v (.sl l))) (hsz : ∀ x, x ∈ l → x.cells.length = n) (hz : s.ev z = some (.v (.p (.int k lo)))) (h0 : 0 ≤ lo) (h1 : lo ≤ l.length) :
  Za9 dm P ops ⟨dst, .slice t y (some z) none none, ty, pos, after, g⟩ s (.v (.sl (l.drop lo.toNat))) .none :=
 Za6 hin fun s' hag w0 M0 ρ a w _ hr => by
  obtain ⟨h2, ei, h3, h4⟩ := ht
  have h5 := hr.ev ((hag.ev (by simp [Op.operands])).trans hy)
  obtain ⟨ad, cap, h6, h7, -⟩ := sl_inv h5
  have h8 := Rep.p_inv (hr.ev ((hag.ev (by simp [Op.operands])).trans hz))
  rw [h6] at h5
  have h9 := Rep.sub h5 hsz (by omega : lo.toNat ≤ l.length) (Nat.le_refl _)
  rw [List.take_length] at h9
  refine ⟨_, ?_, h9⟩
  have hb : 0 ≤ lo ∧ lo ≤ (l.length : Int) := ⟨h0, oM⟩
  simp [execOp, h6, h8, Instr.sliceAt, Instr.slice, run_underlying h2, Instr.sliceBounds, Instr.sliceBound, asIntOf, hb, Go.sizeOf, typeInfo, h3, h4]
end
def AV.nu : AV → Bool
 | .p (.int .u32 _) => false
 | _ => true
def TV.nu : TV → Bool
 | .v a => a.nu
 | _ => true
theorem Rep.nu {w : World} {M : Nat → Prop} {a : AV} {v : Value} (h : Rep w M a v) (hn : a.nu = true) : ∀ d, v ≠ .int .u32 d := by
 rintro d rfl
 cases h with
 | p v h => cases hn
theorem TRep.nu {w : World} {M : Nat → Prop} {ρ : Nat → Option (Nat × Nat)} {m : Nat → Option Blk} {x : TV} {v : Value} (h : TRep w M ρ m x v) (hn : x.nu = true) : ∀ d, v ≠ .int .u32 d := by
  rintro d rfl
  cases x with
  | v a => exact Rep.nu h hn d rfl
  | ptr s o => obtain ⟨-, b, k, -, h⟩ := h; cases h
  | bm f s o => obtain ⟨-, b, k, -, h⟩ := h; cases h
  | em => obtain ⟨a, h⟩ := h; cases h
  | own s n =>
    obtain ⟨sz, ty, es, -, -, ⟨ad, l, c, h⟩, -⟩ := h
    cases h
  | ep e o => obtain ⟨b, off, h, -⟩ := h; cases h
  | op s n i o => obtain ⟨sz, ty, es, -, -, b, off, h, -⟩ := h; cases h
  | st pre s n post => obtain ⟨vs, h, -⟩ := h; cases h
  | fn f cs => obtain ⟨vs, h, -⟩ := h; cases h
  | mp s => obtain ⟨-, b, k, -, h⟩ := h; cases h
  | ot s n =>
    obtain ⟨ty, cs, -, -, ⟨ad, l, c, h⟩, -⟩ := h
    cases h
  | opt s n i => obtain ⟨ty, cs, -, -, b, off, h, -⟩ := h; cases h
theorem TRep.oneCell {w : World} {M : Nat → Prop} {ρ : Nat → Option (Nat × Nat)} {m : Nat → Option Blk} {x : TV} {v : Value} (h : TRep w M ρ m x v) (hn : ∀ a, x = .v a → a.one = true) (hs : ∀ p s n q, x ≠ .st p s n q) : v.oneCell' = true := by
 cases x with
 | v a => exact Rep.oneCell h (hn a rfl)
 | ptr s o => obtain ⟨-, b, k, -, rfl⟩ := h; rfl
 | bm f s o => obtain ⟨-, b, k, -, rfl⟩ := h; rfl
 | em => obtain ⟨a, rfl⟩ := h; rfl
 | own s n => obtain ⟨sz, ty, es, -, -, ⟨ad, l, c, rfl⟩, -⟩ := h; rfl
 | ep e o => obtain ⟨b, off, rfl, -⟩ := h; rfl
 | op s n i o => obtain ⟨sz, ty, es, -, -, b, off, rfl, -⟩ := h; rfl
 | st pre s n post => exact absurd rfl (hs _ _ _ _)
 | fn f cs => obtain ⟨vs, rfl, -⟩ := h; rfl
 | mp s => obtain ⟨-, b, k, -, rfl⟩ := h; rfl
 | ot s n => obtain ⟨ty, cs, -, -, ⟨ad, l, c, rfl⟩, -⟩ := h; rfl
 | opt s n i => obtain ⟨ty, cs, -, -, b, off, rfl, -⟩ := h; rfl
def Zcd : TV → Option (List TV)
 | .v (.tup _) => none
 | .v a => some (a.cells.map .v)
 | .st pre s n post => some (pre.map .v ++ .own s n :: post.map .v)
 | x => some [x]
theorem Zet {w : World} {M : Nat → Prop} {ρ : Nat → Option (Nat × Nat)} {m : Nat → Option Blk} {x : TV} {v : Value} {xs : List TV} (h : TRep w M ρ m x v) (hx : Zcd x = some xs) :
    v.cells.size = xs.length ∧ (∀ u, u ∈ v.cells.toList → u.oneCell' = true) ∧ ∀ (j : Nat) c, xs[j]? = some c → ∃ u, v.cells[j]? = some u ∧ u.oneCell' = true ∧ TRep w M ρ m c u := by
  have single : ∀ y : TV, y = x → xs = [y] → v.oneCell' = true → v.cells.size = xs.length ∧ (∀ u, u ∈ v.cells.toList → u.oneCell' = true) ∧ ∀ (j : Nat) c, xs[j]? = some c → ∃ u, v.cells[j]? = some u ∧ u.oneCell' = true ∧ TRep w M ρ m c u := by
    rintro y rfl rfl h1
    have e : v.cells = #[v] := by cases v <;> first | rfl | cases h1
    rw [e]
    refine ⟨rfl, fun u hu => by simp at hu; subst hu; exact h1, fun j c hj => ?_⟩
    rcases j with _ | j
    · simp at hj; subst hj; exact ⟨v, rfl, h1, h⟩
    · simp at hj
  cases x with
  | v a =>
    have hnt : ∀ l, a ≠ .tup l := by rintro l rfl; cases hx
    have hx' : xs = a.cells.map .v := by
      cases a <;> first | (simp [Zcd] at hx; exact hx.symm) | cases hx
    subst hx'
    obtain ⟨h1, h2⟩ := Rep.cells h hnt
    have h3 := Rep.ones h hnt
    have key : ∀ (j : Nat) c, (a.cells.map TV.v)[j]? = some c → ∃ u, v.cells[j]? = some u ∧ u.oneCell' = true ∧ TRep w M ρ m c u := by
      intro j c hj
      rw [List.getElem?_map] at hj
      cases hc : a.cells[j]? with
      | none => rw [hc] at hj; cases hj
      | some c' =>
        rw [hc] at hj
        simp at hj
        subst hj
        obtain ⟨u, h4, h5⟩ := h2 j c' hc
        exact ⟨u, h4, Rep.oneCell h5 (h3 c' (List.mem_of_getElem? hc)), h5⟩
    refine ⟨by simp [h1], fun u hu => ?_, key⟩
    obtain ⟨j, hj⟩ := List.getElem?_of_mem hu
    have hjl : j < a.cells.length := by rw [← h1]; simpa using (List.getElem?_eq_some_iff.1 hj).1
    obtain ⟨u', h4, h5, -⟩ := key j (.v a.cells[j]) (by simp [hjl])
    rw [Array.getElem?_toList] at hj
    rw [h4] at hj
    injection hj with hj
    subst hj
    exact h5
  | ptr s o => exact single _ rfl (by simp [Zcd] at hx; exact hx.symm) (TRep.oneCell h (fun a e => by cases e) (fun p s n q e => by cases e))
  | bm f s o => exact single _ rfl (by simp [Zcd] at hx; exact hx.symm) (TRep.oneCell h (fun a e => by cases e) (fun p s n q e => by cases e))
  | em => exact single _ rfl (by simp [Zcd] at hx; exact hx.symm) (TRep.oneCell h (fun a e => by cases e) (fun p s n q e => by cases e))
  | own s n => exact single _ rfl (by simp [Zcd] at hx; exact hx.symm) (TRep.oneCell h (fun a e => by cases e) (fun p s n q e => by cases e))
  | ep e o => exact single _ rfl (by simp [Zcd] at hx; exact hx.symm) (TRep.oneCell h (fun a e => by cases e) (fun p s n q e => by cases e))
  | op s n i o => exact single _ rfl (by simp [Zcd] at hx; exact hx.symm) (TRep.oneCell h (fun a e => by cases e) (fun p s n q e => by cases e))
  | fn f cs => exact single _ rfl (by simp [Zcd] at hx; exact hx.symm) (TRep.oneCell h (fun a e => by cases e) (fun p s n q e => by cases e))
  | mp s => exact single _ rfl (by simp [Zcd] at hx; exact hx.symm) (TRep.oneCell h (fun a e => by cases e) (fun p s n q e => by cases e))
  | ot s n => exact single _ rfl (by simp [Zcd] at hx; exact hx.symm) (TRep.oneCell h (fun a e => by cases e) (fun p s n q e => by cases e))
  | opt s n i => exact single _ rfl (by simp [Zcd] at hx; exact hx.symm) (TRep.oneCell h (fun a e => by cases e) (fun p s n q e => by cases e))
  | st pre s n post =>
    simp only [Zcd, Option.some.injEq] at hx
    subst hx
    obtain ⟨vs, rfl, h2, h3, h4, u, h5, sz, ty, es, h6⟩ := h
    have key : ∀ (j : Nat) c, (pre.map TV.v ++ TV.own s n :: post.map TV.v)[j]? = some c → ∃ u, vs[j]? = some u ∧ u.oneCell' = true ∧ TRep w M ρ m c u := by
      intro j c hj
      by_cases c1 : j < pre.length
      · rw [List.getElem?_append_left (by simpa using c1), List.getElem?_map, Option.map_eq_some_iff] at hj
        obtain ⟨c', e1, rfl⟩ := hj
        obtain ⟨k1, x, k2, k3⟩ := h3 j c' e1
        exact ⟨x, k2, Rep.oneCell k3 k1, k3⟩
      · rw [List.getElem?_append_right (by simpa using c1), List.length_map] at hj
        obtain ⟨q, rfl⟩ : ∃ q, j = pre.length + q := ⟨j - pre.length, oM⟩
        rw [show pre.length + q - pre.length = q by omega] at hj
        rcases q with _ | q
        · simp at hj
          subst hj
          have h7 : TRep w M ρ m (.own s n) u := ⟨sz, ty, es, h6⟩
          exact ⟨u, h5, TRep.oneCell h7 (fun a e => by cases e) (fun p s n q e => by cases e), h7⟩
        · rw [List.getElem?_cons_succ, List.getElem?_map, Option.map_eq_some_iff] at hj
          obtain ⟨c', e1, rfl⟩ := hj
          obtain ⟨k1, x, k2, k3⟩ := h4 q c' e1
          exact ⟨x, by rw [show pre.length + (q + 1) = pre.length + 1 + q by omega]; exact k2, Rep.oneCell k3 k1, k3⟩
    have hl : (pre.map TV.v ++ TV.own s n :: post.map TV.v).length = vs.size := by simp; omega
    refine ⟨hl.symm, fun x hx => ?_, key⟩
    obtain ⟨j, hj⟩ := List.getElem?_of_mem hx
    have hj : vs[j]? = some x := by simpa [Value.cells] using hj
    have hjl : j < (pre.map TV.v ++ TV.own s n :: post.map TV.v).length := by rw [hl]; exact (Array.getElem?_eq_some_iff.1 hj).1
    obtain ⟨u', k4, k5, -⟩ := key j _ (List.getElem?_eq_getElem hjl)
    rw [k4] at hj
    injection hj with hj
    subst hj
    exact k5
theorem ss_new {P : Program} {ops : Array Oper} {o : Oper} {s : AS} {id : Nat} {x : TV} {b : Blk} (hin : InB s o.dst) (hnew : newB o.op = true) (hid : s.m id = none)
  (h : ∀ s', Agree ops o s s' → s'.m id = none → ∀ w0 M0 ρ a w, OKC dm M0 w0 → RelR w0 M0 ρ s' a w → ∃ v w' r, (execOp a.eval o).run P w = .ok (.value v) w' ∧ Below w.heap.size w w' ∧ (∀ b k, r = some (b, k) → w.heap.size ≤ b ∧ b < w'.heap.size) ∧
   (∀ M' m', Zfa ρ (fun j => bif Nat.beq id j then r else ρ j) s'.m m' → (∀ b, b < w.heap.size → M' b → MM M0 ρ s'.m b) → Zc0 w' M' (fun j => bif Nat.beq id j then r else ρ j) m' s'.nd id b) ∧
   (∀ M', TRep w' M' (fun j => bif Nat.beq id j then r else ρ j) (upd s'.m id b) x v)) : Za9 dm P ops o s x (.new id b) := by
 refine ⟨fun id' b' e => ?_, fun id b h => (by cases h), fun s' hag hn w0 M0 a w hM hr next Q hnx => ?_⟩
 ·cases e; exact ⟨hnew, hid⟩
 ·obtain ⟨ρ, hr⟩ := hr
  have hid' := hn id b rfl
  obtain ⟨v, w', r, h1, h2, h3, h4, h5⟩ := h s' hag hid' w0 M0 ρ a w hM hr
  unfold Oper.wp
  rw [h1]
  refine hnx _ _ ⟨_, RelR.put (s := { s' with m := upd s'.m id b }) (hr.new hM h2 hid' h3 h4) ?_ (h5 _)⟩
  unfold InB at *
  simp only [hag.nt]
  exact hin
end Ab
namespace Ab
variable {dm : Bool}
open Go Go.RowKit
theorem Zbw {α : Type} {l vs : List α} {o : Nat} (h : o + vs.length ≤ l.length) (k : Nat) : (l.take o ++ vs ++ l.drop (o + vs.length))[k]? = if k < o then l[k]? else if k < o + vs.length then vs[k - o]? else l[k]? := by
 by_cases h1 : k < o
 ·rw [if_pos h1, List.append_assoc, List.getElem?_append_left (by simp; omega), List.getElem?_take_of_lt h1]
 ·rw [if_neg h1]
  by_cases h2 : k < o + vs.length
  ·rw [if_pos h2, List.append_assoc, List.getElem?_append_right (by simp; omega), List.getElem?_append_left (by simp; omega)]
   congr 1; simp; omega
  ·rw [if_neg h2, List.getElem?_append_right (by simp; omega), List.getElem?_drop]
   congr 1; simp; omega
theorem Zco {α : Type} {l vs : List α} {o : Nat} (h : o + vs.length ≤ l.length) : (l.take o ++ vs ++ l.drop (o + vs.length)).length = l.length := by simp; omega
def ZeroT (P : Program) (e : TypeId) (z : List Value) : Prop := ∃ i v, P.info? e = some i ∧ i.zero = some v ∧ v.cells.toList = z
def SizeT (P : Program) (t : TypeId) (n : Nat) : Prop := ∃ i, P.info? t = some i ∧ i.size = n
def nuV : Value → Bool
 | .int .u32 _ => false
 | _ => true
theorem nuV_spec {v : Value} (h : nuV v = true) : ∀ d, v ≠ .int .u32 d := by rintro d rfl; cases h
theorem Zef {row : Array Value} (h : ∀ u, u ∈ row.toList → ∀ d, u ≠ .int .u32 d) : NoDg row := by
 intro i d hd
 exact h (.int .u32 d) (List.mem_of_getElem? (i := i) (by simpa using hd)) d rfl
theorem Zfm {row : Array Value} (h : NoDg row) : ∀ u, u ∈ row.toList → ∀ d, u ≠ .int .u32 d := by
 rintro u hu d rfl
 obtain ⟨i, hi⟩ := List.getElem?_of_mem hu
 exact h i d (by simpa using hi)
theorem beq_ite {id : Nat} {ρ : Nat → Option (Nat × Nat)} {r : Option (Nat × Nat)} : (fun j => bif Nat.beq id j then r else ρ j) id = r := by simp
section
variable {P : Program} {ops : Array Oper} {s : AS} {dst : Option Tmp} {ty : TypeId} {pos : String} {after : Array Edge} {g : Option (Nat × Bool)}
theorem ss_alloc (id : Nat) {e : TypeId} {z : List Value} (hin : InB s dst) (ht : ZeroT P e z) (hid : s.m id = none) (h1 : z.all (·.oneCell') = true) (hn : (!s.nd || z.all nuV) = true) :
    Za9 dm P ops ⟨dst, .alloc e, ty, pos, after, g⟩ s (.ptr id 0) (.new id (.var (z.map fun u => .v (.p u)))) :=
  ss_new hin rfl hid fun s' hag hid' w0 M0 ρ a w _ hr => by
    obtain ⟨i, v, h2, h3, h4⟩ := ht
    have hrun : (execOp a.eval ⟨dst, .alloc e, ty, pos, after, g⟩).run P w = .ok (.value (.pointer (some ⟨w.heap.size, 0, none⟩))) (w.alloc (.cells v.cells e)) := by
      simp [execOp, Instr.alloc, zeroValue, typeInfo, h2, h3, newVar, newRow]
    refine ⟨_, _, some (w.heap.size, 1), hrun, (Below.refl _ _).alloc (Nat.le_refl _) _, ?_, fun M' m' hm hM' => ?_, fun M' => ?_⟩
    · rintro b k e; injection e with e; injection e with e1 e2; subst e1; exact ⟨Nat.le_refl _, by simp⟩
    · refine ⟨w.heap.size, 1, e, v.cells, beq_ite, heap_alloc_new w _, ?_, fun j c hj => ?_, fun hnd => ?_⟩
      · rw [List.length_map, ← h4, Array.length_toList]
      · rw [List.getElem?_map] at hj
        cases hz : z[j]? with
        | none => rw [hz] at hj; cases hj
        | some u =>
          rw [hz] at hj
          simp at hj
          subst hj
          have hu : u.oneCell' = true := by simp only [List.all_eq_true] at h1; exact h1 u (List.mem_of_getElem? hz)
          exact ⟨u, by rw [← h4, Array.getElem?_toList] at hz; exact hz, hu, .p u hu⟩
      · rw [hag.nd] at hnd
        rw [hnd] at hn
        simp only [Bool.not_true, Bool.false_or, List.all_eq_true] at hn
        exact Zef fun u hu => nuV_spec (hn u (by rw [← h4]; exact hu))
    · exact ⟨⟨_, Zat _ _ _⟩, w.heap.size, 1, beq_ite, rfl⟩
theorem ss_box (id : Nat) {e : TypeId} {y : Operand} {x : TV} {xs : List TV} (hin : InB s dst) (hid : s.m id = none) (hy : s.ev y = some x) (hx : Zcd x = some xs) (hn : (!s.nd || xs.all TV.nu) = true) :
  Za9 dm P ops ⟨dst, .box e y, ty, pos, after, g⟩ s (.ptr id 0) (.new id (.var xs)) :=
 ss_new hin rfl hid fun s' hag hid' w0 M0 ρ a w _ hr => by
  have h1 := hr.ev ((hag.ev (by simp [Op.operands])).trans hy)
  obtain ⟨h2, h3, h4⟩ := Zet h1 hx
  have hrun : (execOp a.eval ⟨dst, .box e y, ty, pos, after, g⟩).run P w = .ok (.value (.pointer (some ⟨w.heap.size, 0, none⟩))) (w.alloc (.cells (a.eval y).cells e)) := by
   simp [execOp, Instr.box, newVar, newRow]
  have hb : Below w.heap.size w (w.alloc (.cells (a.eval y).cells e)) := (Below.refl _ _).alloc (Nat.le_refl _) _
  refine ⟨_, _, some (w.heap.size, 1), hrun, hb, ?_, fun M' m' hm hM' => ?_, fun M' => ?_⟩
  ·rintro b k e; injection e with e; injection e with e1 e2; subst e1; exact ⟨Nat.le_refl _, by simp⟩
  ·refine ⟨w.heap.size, 1, e, (a.eval y).cells, beq_ite, heap_alloc_new w _, h2, fun j c hj => ?_, fun hnd => ?_⟩
   ·obtain ⟨u, h5, h6, h7⟩ := h4 j c hj
    exact ⟨u, h5, h6, TRep.mono (Zbn.below hb) hM' hm h7⟩
   ·rw [hag.nd] at hnd
    rw [hnd] at hn
    simp only [Bool.not_true, Bool.false_or, List.all_eq_true] at hn
    intro i d hd
    have hi : i < xs.length := by rw [← h2]; exact (Array.getElem?_eq_some_iff.1 hd).1
    obtain ⟨u, h5, -, h7⟩ := h4 i xs[i] (by simp [hi])
    rw [h5] at hd
    injection hd with hd
    exact TRep.nu h7 (hn _ (List.getElem_mem hi)) d hd
  ·exact ⟨⟨_, Zat _ _ _⟩, w.heap.size, 1, beq_ite, rfl⟩
theorem run_store {w : World} {t : TypeId} {n b o : Nat} {v : Value} {row : Array Value} {et : TypeId} (ht : SizeT P t n) (hb : w.heap[b]? = some (.cells row et (0, 0))) (hn : v.cells.size = n) (hl : o + n ≤ row.size) (h1 : ∀ u, u ∈ v.cells.toList → u.oneCell' = true) :
  (Instr.storeAt t (.pointer (some ⟨b, o, none⟩)) v).run P w = .ok () (w.setRow b (row.toList.take o ++ v.cells.toList ++ row.toList.drop (o + v.cells.toList.length)).toArray) := by
 obtain ⟨i, h2, h3⟩ := ht
 have h4 := run_storeCells_at P b o et v.cells.toList 0 row w hb (by simpa [hn] using hl) h1
 simp only [Nat.add_zero] at h4
 simp [Instr.storeAt, Instr.sureAddr, storeVar, Go.sizeOf, typeInfo, h2, h3, hn, h4]
theorem Zd4 {t : TypeId} {n : Nat} {y z : Operand} {id o : Nat} {cs xs : List TV} {x : TV} (hd : dst = none) (ht : SizeT P t n) (hy : s.ev y = some (.ptr id o)) (hm : s.m id = some (.var cs)) (hz : s.ev z = some x) (hx : Zcd x = some xs) (hlen : xs.length = n) (hfit : o + n ≤ cs.length) (hn : (!s.nd || xs.all TV.nu) = true) :
  Za9 dm P ops ⟨dst, .store t y z, ty, pos, after, g⟩ s (.v (.tup [])) (.set id (.var (cs.take o ++ xs ++ cs.drop (o + xs.length)))) := by
 subst hd
 refine ⟨fun id b h => (by cases h), fun i b h => (by injection h with h1 hblk; subst h1; exact ⟨rfl, ⟨_, hm⟩, fun y h => by injection h with h2; subst h2; rw [hy]; rfl, fun _ y h => by rw [hm] at h; injection h with h; rw [← h, ← hblk]; rfl⟩), fun s' hag _ w0 M0 a w hM hr next Q hnx => ?_⟩
 obtain ⟨ρ, hr⟩ := hr
 have hm' := hag.ms _ rfl id (by rw [hy]; rfl) _ hm
 obtain ⟨-, b, k, h1, h2⟩ := hr.ev ((hag.ev (by simp [Op.operands])).trans hy)
 have h3 := hr.ev ((hag.ev (by simp [Op.operands])).trans hz)
 obtain ⟨h4, h5, h6⟩ := Zet h3 hx
 obtain ⟨b', k', t', row, g1, g2, g3, g4, g5⟩ := hr.slots id _ hm'
 rw [h1] at g1
 injection g1 with g1
 injection g1 with e1 e2
 subst e1 e2
 have hvl : (a.eval z).cells.toList.length = xs.length := by simpa using h4
 have hrun := run_store (P := P) (w := w) (b := b) (o := o) (v := a.eval z) ht g2 (h4.trans hlen) oM h5
 have hfit' : o + (a.eval z).cells.toList.length ≤ row.toList.length := by rw [hvl, hlen, Array.length_toList, g3]; exact hfit
 have hsp : ∀ k : Nat, (row.toList.take o ++ (a.eval z).cells.toList ++ row.toList.drop (o + (a.eval z).cells.toList.length))[k]? = if k < o then row.toList[k]? else if k < o + xs.length then (a.eval z).cells.toList[k - o]? else row.toList[k]? := fun k => by
  rw [Zbw hfit' k, hvl]
 unfold Oper.wp
 have hexec : (execOp a.eval ⟨none, .store t y z, ty, pos, after, g⟩).run P w = .ok .skip (w.setRow b (row.toList.take o ++ (a.eval z).cells.toList ++ row.toList.drop (o + (a.eval z).cells.toList.length)).toArray) := by
  simp only [execOp, h2]
  rw [Sem.run_bind, hrun]
  rfl
 rw [hexec]
 refine hnx _ _ ⟨_, hr.set (y := .var (cs.take o ++ xs ++ cs.drop (o + xs.length))) (r := some (b, k)) hM hm' (by simp) (fun c hc hne => setRow_other w b c _ (fun e => hne k (by rw [h1, e]))) rfl rfl rfl (fun c l e => ?_) (fun cs' _ => ⟨⟨_, rfl⟩, h1.symm⟩) (fun sz ty es e => by cases e) (fun M' m' hk hmv hM' => ?_)⟩
 ·injection e with e; injection e with e1 e2; subst e1; exact .inl ⟨k, h1⟩
 ·refine ⟨b, k, t', _, beq_ite, setRow_heap w b row _ _ _ g2, ?_, fun j c hj => ?_, fun hnd => ?_⟩
  ·rw [List.size_toArray, Zco hfit', Array.length_toList, g3]
   rw [Zco (by rw [hlen]; exact hfit)]
  ·rw [Zbw (by rw [hlen]; exact hfit)] at hj
   rw [List.getElem?_toArray, hsp]
   by_cases c1 : j < o
   ·rw [if_pos c1] at hj ⊢
    obtain ⟨u, h7, h8, h9⟩ := g4 j c hj
    exact ⟨u, by rw [Array.getElem?_toList]; exact h7, h8, TRep.mono hk hM' hmv h9⟩
   ·rw [if_neg c1] at hj ⊢
    by_cases c2 : j < o + xs.length
    ·rw [if_pos c2] at hj ⊢
     obtain ⟨u, h7, h8, h9⟩ := h6 _ c hj
     exact ⟨u, by rw [Array.getElem?_toList]; exact h7, h8, TRep.mono hk hM' hmv h9⟩
    ·rw [if_neg c2] at hj ⊢
     obtain ⟨u, h7, h8, h9⟩ := g4 j c hj
     exact ⟨u, by rw [Array.getElem?_toList]; exact h7, h8, TRep.mono hk hM' hmv h9⟩
  ·have hnd' := hnd
   rw [hag.nd] at hnd
   rw [hnd] at hn
   simp only [Bool.not_true, Bool.false_or, List.all_eq_true] at hn
   have hold := Zfm (g5 hnd')
   refine Zef fun u hu => ?_
   simp only [List.mem_append] at hu
   rcases hu with (hu | hu) | hu
   ·exact hold u (List.mem_of_mem_take hu)
   ·obtain ⟨j, hj⟩ := List.getElem?_of_mem hu
    have hjl : j < xs.length := by rw [← hvl]; exact (List.getElem?_eq_some_iff.1 hj).1
    obtain ⟨u', h7, -, h9⟩ := h6 j xs[j] (by simp [hjl])
    rw [Array.getElem?_toList, h7] at hj
    injection hj with hj
    subst hj
    exact TRep.nu h9 (hn _ (List.getElem_mem hjl))
   ·exact hold u (List.mem_of_mem_drop hu)
theorem Zbd {t : TypeId} {n : Nat} {y z : Operand} {id m i : Nat} {et : TypeId} {es : List AV} {x : AV} (hd : dst = none) (ht : SizeT P t n) (hy : s.ev y = some (.op id m i 0)) (hm : s.m id = some (.lst n et es)) (hlen : es.length = m) (hi : i < m) (hz : s.ev z = some (.v x)) (hxn : x.cells.length = n) (hx : ∀ l, x ≠ .tup l) (hn : (!s.nd || x.cells.all AV.nu) = true) :
  Za9 dm P ops ⟨dst, .store t y z, ty, pos, after, g⟩ s (.v (.tup [])) (.set id (.lst n et (es.set i x))) := by
 subst hd
 refine ⟨fun id b h => (by cases h), fun i b h => (by injection h with h1 hblk; subst h1; exact ⟨rfl, ⟨_, hm⟩, fun y h => by injection h with h2; subst h2; rw [hy]; rfl, fun _ y h => by rw [hm] at h; injection h with h; rw [← h, ← hblk]; simp only [dims, List.length_set]⟩), fun s' hag _ w0 M0 a w hM hr next Q hnx => ?_⟩
 obtain ⟨ρ, hr⟩ := hr
 have hm' := hag.ms _ rfl id (by rw [hy]; rfl) _ hm
 obtain ⟨sz', et', es', h4, h5, b, bo, h2, h6⟩ := hr.ev ((hag.ev (by simp [Op.operands])).trans hy)
 rw [hm'] at h4
 injection h4 with h4
 injection h4 with e1 e2 e3
 subst e1 e2 e3
 obtain ⟨rfl, k, h1⟩ := h6 hlen
 have h3 : Rep w (MM M0 ρ s'.m) x (a.eval z) := hr.ev ((hag.ev (by simp [Op.operands])).trans hz)
 obtain ⟨c1, c2⟩ := Rep.cells h3 hx
 have c3 := Rep.ones h3 hx
 have c4 : ∀ u, u ∈ (a.eval z).cells.toList → u.oneCell' = true := fun u hu => by
  obtain ⟨j, hj⟩ := List.getElem?_of_mem hu
  have hjl : j < x.cells.length := by rw [← c1]; simpa using (List.getElem?_eq_some_iff.1 hj).1
  obtain ⟨u', h7, h8⟩ := c2 j x.cells[j] (by simp [hjl])
  rw [Array.getElem?_toList, h7] at hj
  injection hj with hj
  subst hj
  exact Rep.oneCell h8 (c3 _ (List.getElem_mem hjl))
 rcases hr.slots id _ hm' with ⟨g1, -⟩ | ⟨b', cap, row, g1, g2, g3, g4, g5, g6, g7⟩
 ·rw [h1] at g1; cases g1
 rw [h1] at g1
 injection g1 with g1
 injection g1 with e1 e2
 subst e1 e2
 have hvl : (a.eval z).cells.toList.length = n := by rw [Array.length_toList, c1, hxn]
 have hin : i * n + n ≤ row.size := by
  rw [g5]
  have : (i + 1) * n ≤ k * n := Nat.mul_le_mul_right _ oM
  rwa [Nat.add_mul, Nat.one_mul] at this
 have hfit' : i * n + (a.eval z).cells.toList.length ≤ row.toList.length := by rw [hvl, Array.length_toList]; exact hin
 have hrun := run_store (P := P) (w := w) (b := b) (o := i * n) (v := a.eval z) ht g2 (c1.trans hxn) hin c4
 unfold Oper.wp
 have hexec : (execOp a.eval ⟨none, .store t y z, ty, pos, after, g⟩).run P w = .ok .skip (w.setRow b (row.toList.take (i * n) ++ (a.eval z).cells.toList ++ row.toList.drop (i * n + (a.eval z).cells.toList.length)).toArray) := by
  simp only [execOp, h2, Nat.add_zero]
  rw [Sem.run_bind, hrun]
  rfl
 rw [hexec]
 refine hnx _ _ ⟨_, hr.set (y := .lst n et (es.set i x)) (r := some (b, k)) hM hm' (by simp) (fun c hc hne => setRow_other w b c _ (fun e => hne k (by rw [h1, e]))) rfl rfl rfl (fun c l e => ?_) (fun cs' e => by cases e) (fun sz ty es0 e => ?_) (fun M' m' hk hmv hM' => ?_)⟩
 ·injection e with e; injection e with e1 e2; subst e1; exact .inl ⟨k, h1⟩
 ·injection e with e1 e2 e3
  subst e1 e2 e3
  exact ⟨_, rfl, fun _ => h1.symm, by simp⟩
 ·refine .inr ⟨b, k, _, beq_ite, setRow_heap w b row _ _ _ g2, by simpa using g3, g4, ?_, fun q e he => ?_, fun hnd => ?_⟩
  ·rw [List.size_toArray, Zco hfit', Array.length_toList, g5]
  ·by_cases hq : q = i
   ·subst hq
    have : e = x := by
     have hl : q < es.length := oM
     simp [hl] at he; exact he.symm
    subst this
    refine ⟨hxn, fun j c hj => ?_⟩
    have hjn : j < n := by rw [← hxn]; exact (List.getElem?_eq_some_iff.1 hj).1
    obtain ⟨u, h7, h8⟩ := c2 j c hj
    refine ⟨c3 c (List.mem_of_getElem? hj), u, ?_, Rep.mono hk hM' h8⟩
    rw [List.getElem?_toArray, Zbw hfit', hvl, if_neg oM, if_pos oM, Array.getElem?_toList]
    rw [show q * n + j - q * n = j by omega]; exact h7
   ·rw [List.getElem?_set_ne (Ne.symm hq)] at he
    obtain ⟨h7, h8⟩ := g6 q e he
    refine ⟨h7, fun j c hj => ?_⟩
    have hjn : j < n := by rw [← h7]; exact (List.getElem?_eq_some_iff.1 hj).1
    obtain ⟨h9, u, h10, h11⟩ := h8 j c hj
    refine ⟨h9, u, ?_, Rep.mono hk hM' h11⟩
    rw [List.getElem?_toArray, Zbw hfit', hvl]
    rcases Nat.lt_or_gt_of_ne hq with hlt | hgt
    ·have : (q + 1) * n ≤ i * n := Nat.mul_le_mul_right _ hlt
     rw [Nat.add_mul, Nat.one_mul] at this
     rw [if_pos oM, Array.getElem?_toList]; exact h10
    ·have : (i + 1) * n ≤ q * n := Nat.mul_le_mul_right _ hgt
     rw [Nat.add_mul, Nat.one_mul] at this
     rw [if_neg oM, if_neg oM, Array.getElem?_toList]; exact h10
  ·have hnd' := hnd
   rw [hag.nd] at hnd
   rw [hnd] at hn
   simp only [Bool.not_true, Bool.false_or, List.all_eq_true] at hn
   have hold := Zfm (g7 hnd')
   refine Zef fun u hu => ?_
   simp only [List.mem_append] at hu
   rcases hu with (hu | hu) | hu
   ·exact hold u (List.mem_of_mem_take hu)
   ·obtain ⟨j, hj⟩ := List.getElem?_of_mem hu
    have hjl : j < x.cells.length := by rw [hxn, ← hvl]; exact (List.getElem?_eq_some_iff.1 hj).1
    obtain ⟨u', h7, h9⟩ := c2 j x.cells[j] (by simp [hjl])
    rw [Array.getElem?_toList, h7] at hj
    injection hj with hj
    subst hj
    exact Rep.nu h9 (hn _ (List.getElem_mem hjl))
   ·exact hold u (List.mem_of_mem_drop hu)
end
end Ab
namespace Ab
variable {dm : Bool}
open Go Go.RowKit
def CallOK (P : Program) (f : FuncId) : Prop := ∃ fn, P.funcs[f]? = some fn ∧ (fn.name == "runtime.NumGoroutine") = false ∧ fn.body.isNone = false
def PCD (dm : Bool) (P : Program) (f : FuncId) (args : List AV) (r : AV) : Prop := CallOK P f ∧ PCalls dm P f args r
abbrev PC (P : Program) (f : FuncId) (args : List AV) (r : AV) : Prop := PCD true P f args r
theorem PCD.up {P : Program} {f : FuncId} {args : List AV} {r : AV} (h : PCD false P f args r) : PCD dm P f args r := ⟨h.1, fun w M hM => h.2 w M hM.weak⟩
def Zd0 (s : AS) : List Operand → Option (List AV)
  | [] => some []
  | x :: r => match s.ev x with
    | some (.v a) => match Zd0 s r with
      | some l => some (a.dn :: l)
      | none => none
    | _ => none
theorem Zge {w0 w : World} {M0 : Cx} {ρ : Nat → Option (Nat × Nat)} {s s' : AS} {a : Act} (hr : RelR w0 M0 ρ s' a w) : ∀ (l : List Operand), (∀ x, x ∈ l → s'.ev x = s.ev x) → ∀ avs, Zd0 s l = some avs → Reps w (MM M0 ρ s'.m) avs (l.map a.eval)
  | [], _, avs, h => by simp [Zd0] at h; subst h; exact .nil
  | x :: r, hag, avs, h => by
    simp only [Zd0] at h
    cases hx : s.ev x with
    | none => rw [hx] at h; cases h
    | some y =>
      rw [hx] at h
      cases y with
      | v av =>
        cases ht : Zd0 s r with
        | none => rw [ht] at h; cases h
        | some l =>
          rw [ht] at h
          simp at h
          subst h
          exact .cons _ _ _ _ (Rep.dn (hr.ev ((hag x (by simp)).trans hx))) (Zge hr r (fun z hz => hag z (by simp [hz])) l ht)
      | _ => cases h
theorem okm_of {w0 w : World} {M0 : Cx} {ρ : Nat → Option (Nat × Nat)} {s : AS} {a : Act} (hM : OKC dm M0 w0) (hr : RelR w0 M0 ρ s a w) (hnd : (!dm || s.nd) = true) : OKM dm (MM M0 ρ s.m) w := by
  refine ⟨?_, fun b l hb => ?_⟩
  case refine_2 =>
    obtain ⟨h1, h2, h3⟩ := hM.1.2 b l hb
    have hnp : ¬ M0.P b := fun hp => by rw [(hM.2 b hp).2.2] at hb; cases hb
    refine ⟨?_, Nat.lt_of_lt_of_le h2 hr.below.size, fun j v hj => ?_⟩
    · rintro (h | ⟨i, k, g1, g2⟩)
      · exact h1 h
      · rcases (hr.base i b k g1 g2).1 with g | g
        · omega
        · exact hnp g
    · rw [hr.below.cell (p := ⟨b, j, none⟩) h2 hnp]; exact h3 j v hj
  rintro b (hb | ⟨i, k, h1, h2⟩)
  · obtain ⟨h3, h4⟩ := hM.1.1 b hb
    refine ⟨Nat.lt_of_lt_of_le h3 hr.below.size, fun e i d => ?_⟩
    rw [hr.below.cell (p := ⟨b, i, none⟩) h3 (fun hp => (hM.2 b hp).2.1 hb)]; exact h4 e i d
  · refine ⟨(hr.base i b k h1 h2).2, fun e j d => ?_⟩
    have hnd : s.nd = true := by subst e; exact hnd
    obtain ⟨x, hx⟩ := Option.isSome_iff_exists.1 h1
    have := hr.slots i x hx
    cases x with
    | var cs =>
      obtain ⟨b', k', t, row, g1, g2, -, -, g5⟩ := this
      rw [h2] at g1; injection g1 with g1; injection g1 with e1 e2; subst e1 e2
      simp only [World.cell?, g2]
      exact g5 hnd j d
    | lst sz ty es =>
      rcases this with ⟨g1, -⟩ | ⟨b', cap, row, g1, g2, -, -, -, -, g7⟩
      · rw [h2] at g1; cases g1
      · rw [h2] at g1; injection g1 with g1; injection g1 with e1 e2; subst e1 e2
        simp only [World.cell?, g2]
        exact g7 hnd j d
    | mp es =>
      obtain ⟨b', k', clock, arr, g1, g2, -⟩ := this
      rw [h2] at g1; injection g1 with g1; injection g1 with e1 e2; subst e1 e2
      simp [World.cell?, g2]
    | tl ty cs =>
      rcases this with ⟨g1, -⟩ | ⟨b', cap, row, g1, g2, -, -, -, -, g7⟩
      · rw [h2] at g1; cases g1
      · rw [h2] at g1; injection g1 with g1; injection g1 with e1 e2; subst e1 e2
        simp only [World.cell?, g2]
        exact g7 hnd j d
section
variable {P : Program} {ops : Array Oper} {s : AS} {dst : Option Tmp} {ty : TypeId} {pos : String} {after : Array Edge} {g : Option (Nat × Bool)}
theorem ss_call {f : FuncId} {l : List Operand} {ts : Array TypeId} {avs : List AV} {r : AV} (hin : InB s dst) (hnd : (!dm || s.nd) = true) (ha : Zd0 s l = some avs) (hc : PCD dm P f avs r) :
  Za9 dm P ops ⟨dst, .call ⟨.value (.func f), l.toArray, ts⟩, ty, pos, after, g⟩ s (.v r) .none := by
 refine ⟨fun id b h => (by cases h), fun id b h => (by cases h), fun s' hag _ w0 M0 a w hM hr next Q hn => ?_⟩
 obtain ⟨ρ, hr⟩ := hr
 obtain ⟨⟨fn, h1, h2, h3⟩, hc⟩ := hc
 have hreps := Zge (s := s) hr l (fun x hx => hag.ev (by simp [Op.operands, Call.operands, hx])) avs ha
 have hcall := hc w _ (okm_of hM hr (by rw [hag.nd]; exact hnd)) _ hreps
 have hrun : (execOp a.eval ⟨dst, .call ⟨.value (.func f), l.toArray, ts⟩, ty, pos, after, g⟩).run P w = .ok (.enter f (l.map a.eval).toArray) w := by
  simp only [execOp, resolve, Deferred.ofValue, invoke, callFunc, Sem.run_bind, Sem.run_pure, Result.andThen_ok, run_program, h1, h2, h3, Act.eval, Bool.false_eq_true, if_false, List.map_toArray, Array.append_empty, Array.empty_append]
  first | done | rfl
 unfold Oper.wp
 rw [hrun, Oper.upon_enter]
 refine hcall.mono fun e w' he => ?_
 obtain ⟨v, rfl, hb, hv⟩ := he
 exact hn _ _ ⟨ρ, (hr.ext hb).put (hin.agree hag) hv⟩
theorem ss_set {o : Oper} {id : Nat} {y : Blk} {x : TV} (hin : InB s o.dst) (heff : effB o.op = true) (hst : ∀ y', adOf o.op = some y' → RefTV (s.ev y') id) (hkp : keepB o.op = false) (hid : ∃ y, s.m id = some y)
  (h : ∀ s', Agree ops o s s' → ∀ w0 M0 ρ a w, OKC dm M0 w0 → RelR w0 M0 ρ s' a w → ∃ v w' ρ', (execOp a.eval o).run P w = .ok (.value v) w' ∧ RelR w0 M0 ρ' { s' with m := upd s'.m id y } a w' ∧ TRep w' (MM M0 ρ' (upd s'.m id y)) ρ' (upd s'.m id y) x v) : Za9 dm P ops o s x (.set id y) := by
 refine ⟨fun id b h => (by cases h), fun i b h => (by injection h with h1 _; subst h1; exact ⟨heff, hid, hst, fun h => (by rw [hkp] at h; cases h)⟩), fun s' hag _ w0 M0 a w hM hr next Q hnx => ?_⟩
 obtain ⟨ρ, hr⟩ := hr
 obtain ⟨v, w', ρ', h1, h2, h3⟩ := h s' hag w0 M0 ρ a w hM hr
 unfold Oper.wp
 rw [h1]
 refine hnx _ _ ⟨ρ', RelR.put (s := { s' with m := upd s'.m id y }) h2 ?_ h3⟩
 unfold InB at *
 simp only [hag.nt]
 exact hin
end
def MakeT (P : Program) (t e : TypeId) (n bytes : Nat) (z : List Value) : Prop := P.underlying t = some (.slice e) ∧ ∃ i v, P.info? e = some i ∧ i.size = n ∧ i.bytes = bytes ∧ i.zero = some v ∧ v.cells.toList = z ∧ z.length = n
def Zcn (w : World) (M : Nat → Prop) (n : Nat) (es : List AV) (get : Nat → Option Value) : Prop := ∀ (q : Nat) e, es[q]? = some e → e.cells.length = n ∧ ∀ (j : Nat) c, e.cells[j]? = some c → c.one = true ∧ ∃ v, get (q * n + j) = some v ∧ Rep w M c v
theorem Zcn.mono {w w' : World} {M M' : Nat → Prop} {n : Nat} {es : List AV} {get : Nat → Option Value} (h : Zcn w M n es get) (hk : Zbn M w w') (hM' : ∀ b, b < w.heap.size → M' b → M b) : Zcn w' M' n es get := fun q e he =>
 ⟨(h q e he).1, fun j c hj => by
  obtain ⟨h1, v, h2, h3⟩ := (h q e he).2 j c hj
  exact ⟨h1, v, h2, Rep.mono hk hM' h3⟩⟩
theorem Zcn.app {w : World} {M : Nat → Prop} {n : Nat} {es xs : List AV} {row : Array Value} {A news C : List Value} (h : Zcn w M n es (fun k => row[k]?)) (hx : Zcn w M n xs (fun k => news[k]?)) (hA : A.length = es.length * n) (hAk : ∀ k, k < es.length * n → A[k]? = row[k]?) :
  Zcn w M n (es ++ xs) (fun k => (A ++ (news ++ C)).toArray[k]?) := by
 intro q e he
 by_cases hq : q < es.length
 ·rw [List.getElem?_append_left hq] at he
  obtain ⟨h1, h2⟩ := h q e he
  refine ⟨h1, fun j c hj => ?_⟩
  obtain ⟨h3, v, h4, h5⟩ := h2 j c hj
  have hjn : j < n := by rw [← h1]; exact (List.getElem?_eq_some_iff.1 hj).1
  have hlt : q * n + j < es.length * n := by
   have : (q + 1) * n ≤ es.length * n := Nat.mul_le_mul_right _ hq
   rw [Nat.add_mul, Nat.one_mul] at this; omega
  refine ⟨h3, v, ?_, h5⟩
  show (A ++ (news ++ C)).toArray[q * n + j]? = some v
  rw [List.getElem?_toArray, List.getElem?_append_left oM, hAk _ hlt]
  exact h4
 ·rw [List.getElem?_append_right oM] at he
  obtain ⟨h1, h2⟩ := hx _ e he
  refine ⟨h1, fun j c hj => ?_⟩
  obtain ⟨h3, v, h4, h5⟩ := h2 j c hj
  have hjn : j < n := by rw [← h1]; exact (List.getElem?_eq_some_iff.1 hj).1
  have e1 : (q - es.length) * n + es.length * n = q * n := by rw [← Nat.add_mul]; congr 1; omega
  refine ⟨h3, v, ?_, h5⟩
  show (A ++ (news ++ C)).toArray[q * n + j]? = some v
  rw [List.getElem?_toArray, List.getElem?_append_right oM, show q * n + j - A.length = (q - es.length) * n + j by omega]
  have h4' : news[(q - es.length) * n + j]? = some v := h4
  rw [List.getElem?_append_left (List.getElem?_eq_some_iff.1 h4').1]
  exact h4'
theorem sl_news {w : World} {M : Nat → Prop} {l : List AV} {v : Value} {n : Nat} (h : Rep w M (.sl l) v) (hl : ∀ e, e ∈ l → e.cells.length = n) (h0 : 0 < l.length) :
  ∃ (b off cap : Nat) (news : List Value), v = .slice (some ⟨b, off, none⟩) l.length cap ∧ news.length = l.length * n ∧ (∀ (j : Nat) u, news[j]? = some u → w.cell? ⟨b, off + j, none⟩ = some u) ∧ Zcn w M n l (fun k => news[k]?) ∧ ∀ u, u ∈ news → u.oneCell' = true := by
 obtain ⟨a, cap, h1, h2, h3⟩ := sl_inv h
 rcases h3 with h3 | ⟨b, off, sz, rfl, h4, h5⟩
 ·subst h3; simp at h0
 have hsz : sz = n := by
  have hm := List.getElem_mem h0
  rw [← h4 _ hm, hl _ hm]
 subst hsz
 have key : ∀ q j, q < l.length → j < sz → ∃ u, w.cell? ⟨b, off + (q * sz + j), none⟩ = some u ∧ u.oneCell' = true := by
  intro q j hq hj
  have he := List.getElem_mem hq
  have hj' : j < (l[q]).cells.length := by rw [hl _ he]; exact hj
  obtain ⟨g1, -, u, g2, g3⟩ := h5 q l[q] (by simp [hq]) j (l[q]).cells[j] (by simp [hj'])
  exact ⟨u, by rw [← Nat.add_assoc]; exact g2, Rep.oneCell g3 g1⟩
 have key2 : ∀ k, k < l.length * sz → ∃ u, w.cell? ⟨b, off + k, none⟩ = some u ∧ u.oneCell' = true := by
  intro k hk
  have hsz : 0 < sz := by
   rcases Nat.eq_zero_or_pos sz with e | e
   ·subst e; omega
   ·exact e
  have h1 : k / sz < l.length := Nat.div_lt_of_lt_mul (by rw [Nat.mul_comm]; exact hk)
  have := key (k / sz) (k % sz) h1 (Nat.mod_lt _ hsz)
  rwa [Nat.mul_comm, Nat.div_add_mod] at this
 let news : List Value := (List.range (l.length * sz)).map fun k => (w.cell? ⟨b, off + k, none⟩).getD undef
 have hn : ∀ k, k < l.length * sz → news[k]? = w.cell? ⟨b, off + k, none⟩ := fun k hk => by
  obtain ⟨u, hu, -⟩ := key2 k hk
  simp [news, hk, hu]
 have hlen : news.length = l.length * sz := by simp [news]
 refine ⟨b, off, cap, news, h1, hlen, fun j u hj => ?_, fun q e he => ⟨hl e (List.mem_of_getElem? he), fun j c hj => ?_⟩, fun u hu => ?_⟩
 ·have : j < l.length * sz := by rw [← hlen]; exact (List.getElem?_eq_some_iff.1 hj).1
  rw [← hn j this]; exact hj
 ·have hq := (List.getElem?_eq_some_iff.1 he).1
  have hjn : j < sz := by rw [← hl e (List.mem_of_getElem? he)]; exact (List.getElem?_eq_some_iff.1 hj).1
  obtain ⟨g1, -, u, g2, g3⟩ := h5 q e he j c hj
  have hlt : q * sz + j < l.length * sz := by
   have : (q + 1) * sz ≤ l.length * sz := Nat.mul_le_mul_right _ hq
   rw [Nat.add_mul, Nat.one_mul] at this; omega
  refine ⟨g1, u, ?_, g3⟩
  show news[q * sz + j]? = some u
  rw [hn _ hlt, ← Nat.add_assoc]; exact g2
 ·obtain ⟨j, hj⟩ := List.getElem?_of_mem hu
  have : j < l.length * sz := by rw [← hlen]; exact (List.getElem?_eq_some_iff.1 hj).1
  obtain ⟨u', h6, h7⟩ := key2 j this
  rw [hn j this, h6] at hj
  injection hj with hj
  subst hj
  exact h7
theorem lies_nu {w : World} {M : Nat → Prop} {l : List AV} {n : Nat} {news : List Value} (h : Zcn w M n l (fun k => news[k]?)) (hlen : news.length = l.length * n) (hnu : ∀ e, e ∈ l → ∀ c, c ∈ e.cells → c.nu = true) : ∀ u, u ∈ news → ∀ d, u ≠ Value.int .u32 d := by
 intro u hu
 obtain ⟨k, hk⟩ := List.getElem?_of_mem hu
 have hkl : k < l.length * n := by rw [← hlen]; exact (List.getElem?_eq_some_iff.1 hk).1
 have hn : 0 < n := by
  rcases Nat.eq_zero_or_pos n with e | e
  ·subst e; omega
  ·exact e
 have h1 : k / n < l.length := Nat.div_lt_of_lt_mul (by rw [Nat.mul_comm]; exact hkl)
 obtain ⟨h2, h3⟩ := h (k / n) l[k / n] (by simp [h1])
 have hj : k % n < (l[k / n]).cells.length := by rw [h2]; exact Nat.mod_lt _ hn
 obtain ⟨-, v, h4, h5⟩ := h3 (k % n) (l[k / n]).cells[k % n] (by simp [hj])
 rw [Nat.mul_comm, Nat.div_add_mod] at h4
 have : some u = some v := hk.symm.trans h4
 injection this with this
 subst this
 exact Rep.nu h5 (hnu _ (List.getElem_mem h1) _ (List.getElem_mem hj))
theorem zero_nu {z : Array Value} {n : Nat} (hz : z.toList.all nuV = true) (h0 : 0 < z.size) : ∀ u, u ∈ (Builtin.zeroCells z n).toList → ∀ d, u ≠ Value.int .u32 d := by
 intro u hu
 simp only [Builtin.zeroCells, Array.toList_map, List.mem_map] at hu
 obtain ⟨i, -, rfl⟩ := hu
 have hi : i % z.size < z.size := Nat.mod_lt _ h0
 simp only [List.all_eq_true] at hz
 have : z[i % z.size]! = z[i % z.size] := by simp [hi]
 rw [this]
 exact nuV_spec (hz _ (by simp))
end Ab
namespace Ab
variable {dm : Bool}
open Go Go.RowKit
section
variable {P : Program} {ops : Array Oper} {s : AS} {dst : Option Tmp} {ty : TypeId} {pos : String} {after : Array Edge} {g : Option (Nat × Bool)}
theorem app_none {w : World} {t e : TypeId} {i : TypeInfo} (ht : P.underlying t = some (.slice e)) (hi : P.info? e = some i) (base : Option Addr) (n cap : Nat) (hn : n ≤ cap) (a : Option Addr) (c : Nat) (ty : TypeId) :
  (Builtin.append_ #[t, t] ty #[.slice base n cap, .slice a 0 c]).run P w = .ok (.slice base n cap) w := by
 cases base <;> cases a <;> simp [Builtin.append_, run_underlying ht, Go.sizeOf, typeInfo, hi, Builtin.lenOf, hn, Builtin.firstCells, loadCells, loadCellsFrom, storeCells]
theorem Zcj {t e : TypeId} {n bytes : Nat} {z : List Value} {y x : Operand} {id m : Nat} {es xs : List AV} (hin : InB s dst) (ht : MakeT P t e n bytes z) (hy : s.ev y = some (.own id m)) (hm : s.m id = some (.lst n e es)) (hlen : es.length = m) (hx : s.ev x = some (.v (.sl xs))) (hxs : ∀ a, a ∈ xs → a.cells.length = n)
  (hn0 : 0 < n) (h63 : m + xs.length ≤ maxLen) (hby : (m + xs.length) * bytes ≤ 140737488355328) (hz : (!s.nd || z.all nuV) = true) (hnu : s.nd = true → ∀ a, a ∈ xs → ∀ c, c ∈ a.cells → c.nu = true) :
  Za9 dm P ops ⟨dst, .call ⟨.builtin .append, #[y, x], #[t, t]⟩, ty, pos, after, g⟩ s (.own id (m + xs.length)) (.set id (.lst n e (es ++ xs))) := by
 refine ss_set hin rfl (fun y' h => by injection h with h; subst h; rw [hy]; exact rfl) rfl ⟨_, hm⟩ fun s' hag w0 M0 ρ a w hM hr => ?_
 have hm' := hag.ms y rfl id (by rw [hy]; exact rfl) _ hm
 obtain ⟨h1, i, zv, h2, h3, h4, h5, h6, h7⟩ := ht
 obtain ⟨sz', et', es', g1, g2, -, g3⟩ := hr.ev ((hag.ev (by simp [Op.operands, Call.operands])).trans hy)
 rw [hm'] at g1
 injection g1 with g1
 injection g1 with e1 e2 e3
 subst e1 e2 e3
 have hX := hr.ev ((hag.ev (by simp [Op.operands, Call.operands])).trans hx)
 have hexec : ∀ u w', (Builtin.append_ #[t, t] ty #[a.eval y, a.eval x]).run P w = .ok u w' → (execOp a.eval ⟨dst, .call ⟨.builtin .append, #[y, x], #[t, t]⟩, ty, pos, after, g⟩).run P w = .ok (.value u) w' := by
  intro u w' h
  simp only [execOp, resolve, invoke, builtin, Sem.run_bind, Sem.run_pure, Result.andThen_ok, List.map_toArray, List.map_cons, List.map_nil, h]
 have hzs : zv.cells.size = n := by rw [← Array.length_toList, h6, h7]
 by_cases h0 : xs.length = 0
 ·have hxe : xs = [] := List.eq_nil_of_length_eq_zero h0
  subst hxe
  obtain ⟨ad, cap, k1, -, -⟩ := sl_inv hX
  have hself : ({ s' with m := upd s'.m id (.lst n e (es ++ [])) } : AS) = s' := by
   have : upd s'.m id (.lst n e (es ++ [])) = s'.m := by
    funext j
    by_cases hj : id = j
    ·subst hj; rw [Zat, List.append_nil, hm']
    ·rw [Zav _ _ hj]
   rw [this]
  have hself2 : upd s'.m id (.lst n e (es ++ [])) = s'.m := congrArg AS.m hself
  rcases g3 hlen with ⟨c1, c2, c3⟩ | ⟨b, cap', c1, c2⟩
  ·refine ⟨a.eval y, w, ρ, hexec _ _ ?_, by rw [hself]; exact hr, by rw [hself2]; exact hr.ev ((hag.ev (by simp [Op.operands, Call.operands])).trans hy)⟩
   rw [c3, k1]
   exact app_none h1 h2 _ _ _ (Nat.le_refl _) _ _ _
  ·rcases hr.slots id _ hm' with ⟨d1, -⟩ | ⟨b', cap2, row, d1, d2, d3, d4, d5, d6, d7⟩
   ·rw [c1] at d1; cases d1
   rw [c1] at d1; injection d1 with d1; injection d1 with e1 e2; subst e1 e2
   refine ⟨a.eval y, w, ρ, hexec _ _ ?_, by rw [hself]; exact hr, by rw [hself2]; exact hr.ev ((hag.ev (by simp [Op.operands, Call.operands])).trans hy)⟩
   rw [c2, k1]
   exact app_none h1 h2 _ _ _ oM _ _ _
 obtain ⟨yb, yo, yc, news, k1, k2, k3, k4, k5⟩ := sl_news hX hxs oM
 have hnews : ∀ (j : Nat) v, news[j]? = some v → w.cell? ((⟨yb, yo, none⟩ : Addr).add j) = some v := fun j v hj => by rw [addr_add]; exact k3 j v hj
 have hlx : (es ++ xs).length = m + xs.length := by simp [hlen]
 have hmove : ∀ r, (m + xs.length ≠ m) → ∀ sz ty0 es0, Blk.lst n e es = .lst sz ty0 es0 → ∃ es', Blk.lst n e (es ++ xs) = .lst sz ty0 es' ∧ (es'.length = es0.length → r = ρ id) ∧ es0.length ≤ es'.length := by
  intro r hne sz ty0 es0 e
  injection e with e1 e2 e3
  subst e1 e2 e3
  exact ⟨_, rfl, fun h => by rw [hlx, hlen] at h; exact absurd h hne, by rw [hlx]; omega⟩
 have hsz : i.size = n := h3
 -- where the result lies
 have newrow : ∀ (w' : World) (A C : List Value) (cap : Nat) (row : Array Value), w' = w.drew.alloc (.cells (A ++ (news ++ C)).toArray e) → m + xs.length ≤ cap → cap ≤ maxLen → (A ++ (news ++ C)).length = cap * n → A.length = es.length * n → (∀ k, k < es.length * n → A[k]? = row[k]?) →
   Zcn w (MM M0 ρ s'.m) n es (fun k => row[k]?) → (s.nd = true → ∀ u, u ∈ A ++ (news ++ C) → ∀ d, u ≠ Value.int .u32 d) →
   (Builtin.append_ #[t, t] ty #[a.eval y, a.eval x]).run P w = .ok (.slice (some ⟨w.heap.size, 0, none⟩) (m + xs.length) cap) w' →
   ∃ v w' ρ', (execOp a.eval ⟨dst, .call ⟨.builtin .append, #[y, x], #[t, t]⟩, ty, pos, after, g⟩).run P w = .ok (.value v) w' ∧ RelR w0 M0 ρ' { s' with m := upd s'.m id (.lst n e (es ++ xs)) } a w' ∧ TRep w' (MM M0 ρ' (upd s'.m id (.lst n e (es ++ xs)))) ρ' (upd s'.m id (.lst n e (es ++ xs))) (.own id (m + xs.length)) v := by
  rintro w' A C cap row rfl q1 q2 q3 q4 q5 q6 q7 q8
  have hb : Below w.heap.size w (w.drew.alloc (.cells (A ++ (news ++ C)).toArray e)) := (Below.refl _ _).drew.alloc (Nat.le_refl _) _
  refine ⟨_, _, _, hexec _ _ q8, hr.set (y := .lst n e (es ++ xs)) (r := some (w.heap.size, cap)) hM hm' hb.size (fun b hbl _ => hb.block b hbl) rfl rfl rfl ?_ (fun cs e => by cases e) (hmove _ oM) (fun M' m' hk hmv hM' => ?_), ?_⟩
  ·rintro b k e; injection e with e; injection e with e1 e2; subst e1; exact .inr ⟨Nat.le_refl _, by simp⟩
  ·refine .inr ⟨w.heap.size, cap, _, beq_ite, heap_alloc_new w.drew _, by rw [hlx]; exact q1, q2, by rw [List.size_toArray]; exact q3, ?_, fun hnd => Zef ?_⟩
   ·exact Zcn.app (q6.mono hk hM') (k4.mono hk hM') q4 q5
   ·exact q7 (by rw [← hag.nd]; exact hnd)
  ·exact ⟨n, e, es ++ xs, Zat _ _ _, by rw [hlx]; exact Nat.le_refl _, ⟨_, _, _, rfl⟩, fun _ => .inr ⟨_, _, beq_ite, rfl⟩⟩
 have hz1 : ∀ k, (Builtin.zeroCells zv.cells k).toList.length = k * n := fun k => by simp [size_zeroCells, hzs]
 have hrl : ∀ (row : Array Value) (cap : Nat), row.size = cap * n → row.toList.length = cap * n := fun row cap h => by simp [h]
 have hznu : s.nd = true → zv.cells.toList.all nuV = true := fun hnd => by rw [h6]; rw [hnd] at hz; simpa using hz
 have hnewnu : s.nd = true → ∀ u, u ∈ news → ∀ d, u ≠ Value.int .u32 d := fun hnd => lies_nu k4 k2 (hnu hnd)
 rcases g3 hlen with ⟨c1, c2, c3⟩ | ⟨b, cap, c1, c2⟩
 ·subst c2
  have hes : es = [] := List.eq_nil_of_length_eq_zero hlen
  rw [Nat.zero_add] at hby h63
  have hrun := run_append_nil (P := P) w t ty e i zv h1 h2 h5 ⟨yb, yo, none⟩ xs.length yc news (by rw [hsz]; exact k2) hnews oM (by unfold maxLen at h63; omega) (by rw [h4]; omega)
  have hge := grownCap_ge w xs.length 0 e
  have harr : news.toArray ++ Builtin.zeroCells zv.cells (grownCap w xs.length 0 e - xs.length) = (([] : List Value) ++ (news ++ (Builtin.zeroCells zv.cells (grownCap w xs.length 0 e - xs.length)).toList)).toArray := by apply Array.ext'; simp
  rw [harr] at hrun
  refine newrow _ [] (Builtin.zeroCells zv.cells (grownCap w xs.length 0 e - xs.length)).toList (grownCap w xs.length 0 e) #[] rfl oM (grownCap_le_maxLen w xs.length 0 e oM) ?_ (by rw [hes]; simp) (fun k hk => by rw [hes] at hk; simp at hk) (by rw [hes]; intro q e he; simp at he) (fun hnd u hu => ?_) ?_
  ·rw [List.nil_append, List.length_append, k2, hz1, ← Nat.add_mul]
   congr 1; omega
  ·simp only [List.nil_append, List.mem_append] at hu
   rcases hu with hu | hu
   ·exact hnewnu hnd u hu
   ·exact zero_nu (hznu hnd) oM u hu
  ·rw [c3, k1, hrun, Nat.zero_add]
 ·rcases hr.slots id _ hm' with ⟨d1, -⟩ | ⟨b', cap2, row, d1, d2, d3, d4, d5, d6, d7⟩
  ·rw [c1] at d1; cases d1
  rw [c1] at d1; injection d1 with d1; injection d1 with e1 e2; subst e1 e2
  by_cases hroom : m + xs.length ≤ cap
  ·have hfit : m * n + news.length ≤ row.toList.length := by
    rw [k2, hrl row cap d5, ← Nat.add_mul]; exact Nat.mul_le_mul_right _ hroom
   have hrun := run_append_room (P := P) w t ty e i h1 h2 b m cap row d2 ⟨yb, yo, none⟩ xs.length yc news (by rw [hsz]; exact k2) hnews k5 hroom (by rw [hsz]; simpa using hfit)
   rw [hsz] at hrun
   refine ⟨_, _, _, hexec _ _ (by rw [c2, k1]; exact hrun), hr.set (y := .lst n e (es ++ xs)) (r := some (b, cap)) hM hm' (by simp) (fun c hc hne => setRow_other w b c _ (fun e => hne cap (by rw [c1, e]))) rfl rfl rfl ?_ (fun cs e => by cases e) (fun sz ty0 es0 e => ?_) (fun M' m' hk hmv hM' => ?_), ?_⟩
   ·rintro b' k e; injection e with e; injection e with e1 e2; subst e1; exact .inl ⟨cap, c1⟩
   ·injection e with e1 e2 e3
    subst e1 e2 e3
    exact ⟨_, rfl, fun _ => c1.symm, by rw [hlx]; omega⟩
   ·refine .inr ⟨b, cap, _, beq_ite, setRow_heap w b row _ _ _ d2, by rw [hlx]; exact hroom, d4, ?_, ?_, fun hnd => Zef fun u hu => ?_⟩
    ·rw [List.size_toArray, Zco hfit, hrl row cap d5]
    ·have hA : (row.toList.take (m * n)).length = es.length * n := by rw [List.length_take, hrl row cap d5, hlen]; have := Nat.mul_le_mul_right n (show m ≤ cap by omega); omega
     have := Zcn.app (C := row.toList.drop (m * n + news.length)) (Zcn.mono (show Zcn w (MM M0 ρ s'.m) n es (fun k => row[k]?) from d6) hk hM') (k4.mono hk hM') hA (fun k hk => by rw [List.getElem?_take_of_lt (by rw [← hlen]; exact hk), Array.getElem?_toList])
     rw [← List.append_assoc] at this
     exact this
    ·rw [hag.nd] at hnd
     have hold := Zfm (d7 (by rw [hag.nd]; exact hnd))
     simp only [List.mem_append] at hu
     rcases hu with (hu | hu) | hu
     ·exact hold u (List.mem_of_mem_take hu)
     ·exact hnewnu hnd u hu
     ·exact hold u (List.mem_of_mem_drop hu)
   ·exact ⟨n, e, es ++ xs, Zat _ _ _, by rw [hlx]; exact Nat.le_refl _, ⟨_, _, _, rfl⟩, fun _ => .inr ⟨b, cap, beq_ite, rfl⟩⟩
  ·have hmc : m * n ≤ row.toList.length := by rw [hrl row cap d5]; exact Nat.mul_le_mul_right n (show m ≤ cap by omega)
   have hA : (row.toList.take (m * n)).length = m * n := by rw [List.length_take]; omega
   have holds : ∀ (j : Nat) v, (row.toList.take (m * n))[j]? = some v → w.cell? ((⟨b, 0, none⟩ : Addr).add j) = some v := fun j v hj => by
    have hjl : j < m * n := by rw [← hA]; exact (List.getElem?_eq_some_iff.1 hj).1
    rw [List.getElem?_take_of_lt hjl, Array.getElem?_toList] at hj
    rw [addr_add, Nat.zero_add]
    simp [World.cell?, d2, hj]
   have hrun := run_append_grow (P := P) w t ty e i zv h1 h2 h5 ⟨b, 0, none⟩ m cap (row.toList.take (m * n)) (by rw [hsz]; exact hA) holds ⟨yb, yo, none⟩ xs.length yc news (by rw [hsz]; exact k2) hnews oM (by unfold maxLen at h63; omega) (growslice_fits oM (by rw [h4]; exact hby))
   have hge := grownCap_ge w (m + xs.length) cap e
   have harr : (row.toList.take (m * n)).toArray ++ news.toArray ++ Builtin.zeroCells zv.cells (grownCap w (m + xs.length) cap e - (m + xs.length)) = (row.toList.take (m * n) ++ (news ++ (Builtin.zeroCells zv.cells (grownCap w (m + xs.length) cap e - (m + xs.length))).toList)).toArray := by apply Array.ext'; simp [List.append_assoc]
   rw [harr] at hrun
   refine newrow _ (row.toList.take (m * n)) (Builtin.zeroCells zv.cells (grownCap w (m + xs.length) cap e - (m + xs.length))).toList (grownCap w (m + xs.length) cap e) row rfl hge (grownCap_le_maxLen w (m + xs.length) cap e h63) ?_ (by rw [hlen]; exact hA) (fun k hk => by rw [List.getElem?_take_of_lt (by rw [← hlen]; exact hk), Array.getElem?_toList]) d6 (fun hnd u hu => ?_) (by rw [c2, k1]; exact hrun)
   ·rw [List.length_append, List.length_append, hA, k2, hz1, ← Nat.add_mul, ← Nat.add_mul]
    congr 1; omega
   ·simp only [List.mem_append] at hu
    rcases hu with hu | hu | hu
    ·exact Zfm (d7 (by rw [hag.nd]; exact hnd)) u (List.mem_of_mem_take hu)
    ·exact hnewnu hnd u hu
    ·exact zero_nu (hznu hnd) oM u hu
theorem made_get {z : Array Value} {n c q j : Nat} (hz : z.size = n) (hj : j < n) (hq : q < c) : (madeCells z (c * n))[q * n + j]? = z[j]? := by
 have hlt : q * n + j < c * n := by
  have : (q + 1) * n ≤ c * n := Nat.mul_le_mul_right _ hq
  rw [Nat.add_mul, Nat.one_mul] at this; omega
 have hmod : (q * n + j) % n = j := by rw [Nat.mul_comm, Nat.mul_add_mod, Nat.mod_eq_of_lt hj]
 simp [madeCells, hlt, hz, hmod, hj]
theorem Zdv (id : Nat) {t e : TypeId} {n bytes : Nat} {z : List Value} {e0 : AV} {y x : Operand} {k k' : IntKind} {l c : Int} (hin : InB s dst) (ht : MakeT P t e n bytes z) (hid : s.m id = none) (hy : s.ev y = some (.v (.p (.int k l)))) (hx : s.ev x = some (.v (.p (.int k' c)))) (h0 : 0 ≤ l) (hlc : l ≤ c) (h63 : c ≤ 9223372036854775807) (hby : (bytes : Int) * c ≤ 281474976710656)
    (he0 : e0.cells = z.map fun u => (AV.p u).dn) (h1 : z.all (·.oneCell') = true) (hz : (!s.nd || z.all nuV) = true) :
    Za9 dm P ops ⟨dst, .makeSlice t y x, ty, pos, after, g⟩ s (.own id l.toNat) (.new id (.lst n e (List.replicate l.toNat e0))) :=
  ss_new hin rfl hid fun s' hag hid' w0 M0 ρ a w _ hr => by
    obtain ⟨g1, i, zv, h2, h3, h4, h5, h6, h7⟩ := ht
    have k1 := Rep.p_inv (hr.ev ((hag.ev (by simp [Op.operands])).trans hy))
    have k2 := Rep.p_inv (hr.ev ((hag.ev (by simp [Op.operands])).trans hx))
    have hzs : zv.cells.size = n := by rw [← Array.length_toList, h6, h7]
    have hrun := run_make (P := P) w t e i zv g1 h2 h5 k k' l c h0 hlc (by rw [h4]; exact hby) h63
    have hexec : (execOp a.eval ⟨dst, .makeSlice t y x, ty, pos, after, g⟩).run P w = .ok (.value (.slice (some ⟨w.heap.size, 0, none⟩) l.toNat c.toNat)) (w.alloc (.cells (madeCells zv.cells (c.toNat * i.size)) e)) := by
      simp only [execOp, k1, k2]
      rw [Sem.run_bind, hrun]
      rfl
    refine ⟨_, _, some (w.heap.size, c.toNat), hexec, (Below.refl _ _).alloc (Nat.le_refl _) _, ?_, fun M' m' hm hM' => ?_, fun M' => ?_⟩
    · rintro b kk e; injection e with e; injection e with e1 e2; subst e1; exact ⟨Nat.le_refl _, by simp⟩
    · refine .inr ⟨w.heap.size, c.toNat, _, beq_ite, heap_alloc_new w _, by simp; omega, by unfold maxLen; omega, by rw [size_madeCells, h3], fun q e1 he => ?_, fun hnd => Zef fun u hu => ?_⟩
      · have hql : q < l.toNat := by simpa using (List.getElem?_eq_some_iff.1 he).1
        have : e1 = e0 := by
          rw [List.getElem?_replicate, if_pos hql] at he
          injection he with he; exact he.symm
        subst this
        refine ⟨by rw [he0, List.length_map, h7], fun j cc hj => ?_⟩
        rw [he0, List.getElem?_map] at hj
        cases hzj : z[j]? with
        | none => rw [hzj] at hj; cases hj
        | some u =>
          rw [hzj] at hj
          simp at hj
          subst hj
          have hjn : j < n := by rw [← h7]; exact (List.getElem?_eq_some_iff.1 hzj).1
          have hu : u.oneCell' = true := by simp only [List.all_eq_true] at h1; exact h1 u (List.mem_of_getElem? hzj)
          refine ⟨AV.dn_one rfl, u, ?_, Rep.dn (.p u hu)⟩
          rw [h3, made_get hzs hjn oM]
          rw [← h6, Array.getElem?_toList] at hzj
          exact hzj
      · rw [hag.nd] at hnd
        rw [hnd] at hz
        simp only [Bool.not_true, Bool.false_or, List.all_eq_true] at hz
        simp only [madeCells, Array.toList_map, List.mem_map] at hu
        obtain ⟨q, hq, rfl⟩ := hu
        have hqs : 0 < n := by
          rcases Nat.eq_zero_or_pos n with e | e
          · subst e; rw [h3] at hq; simp at hq
          · exact e
        have hi : q % zv.cells.size < zv.cells.size := Nat.mod_lt _ oM
        have : zv.cells[q % zv.cells.size]! = zv.cells[q % zv.cells.size] := by simp [hi]
        rw [this]
        exact nuV_spec (hz _ (by rw [← h6]; simp))
    · exact ⟨n, e, _, Zat _ _ _, by simp, ⟨_, _, _, rfl⟩, fun _ => .inr ⟨_, _, beq_ite, rfl⟩⟩
end
end Ab
namespace Ab
variable {dm : Bool}
open Go Go.RowKit
theorem foldl_put (off : Nat) : ∀ (l : List Value) (k : Nat) (cs : Array Value), off + k + l.length ≤ cs.size →
    ((l.zipIdx k).foldl (fun (cs : Array Value) (x : Value × Nat) => cs.setIfInBounds (off + x.2) x.1) cs).toList = cs.toList.take (off + k) ++ l ++ cs.toList.drop (off + k + l.length)
  | [], k, cs, _ => by simp
  | v :: l, k, cs, h => by
    simp only [List.length_cons] at h
    rw [List.zipIdx_cons, List.foldl_cons, foldl_put off l (k + 1) _ (by simp; omega)]
    have hk : off + k < cs.toList.length := by rw [Array.length_toList]; omega
    apply List.ext_getElem?
    intro i
    rw [Array.toList_setIfInBounds]
    have e1 : off + (k + 1) = off + k + 1 := oM
    rw [e1]
    have h1 : off + k + (v :: l).length ≤ cs.toList.length := by simp; omega
    have h2 : off + k + 1 + l.length ≤ (cs.toList.set (off + k) v).length := by simp; omega
    rw [Zbw h2, Zbw h1]
    by_cases c1 : i < off + k
    · rw [if_pos oM, if_pos c1, List.getElem?_set_ne oM]
    · rw [if_neg c1]
      by_cases c2 : i = off + k
      · subst c2
        rw [if_pos oM, if_pos (by simp), List.getElem?_set_self hk]
        simp
      · rw [if_neg oM]
        by_cases c3 : i < off + k + 1 + l.length
        · rw [if_pos c3, if_pos (by simp; omega)]
          obtain ⟨q, rfl⟩ : ∃ q, i = off + k + 1 + q := ⟨i - (off + k + 1), oM⟩
          rw [show off + k + 1 + q - (off + k + 1) = q by omega, show off + k + 1 + q - (off + k) = q + 1 by omega]
          simp
        · rw [if_neg c3, if_neg (by simp; omega), List.getElem?_set_ne oM]
theorem fill_cons {place : Nat → Option (Nat × Nat)} {cells : Array Value} {i off size : Nat} {v : Value} {rest : List (Nat × Value)} (hp : place i = some (off, size)) (hs : v.cells.size = size) (hf : off + size ≤ cells.size) :
  Instr.fill place cells ((i, v) :: rest) = Instr.fill place (cells.toList.take off ++ v.cells.toList ++ cells.toList.drop (off + v.cells.toList.length)).toArray rest := by
 have h1 : ¬ (v.cells.size ≠ size || decide (off + v.cells.size > cells.size)) = true := by simp [hs]; omega
 have h2 := foldl_put off v.cells.toList 0 cells (by simp; omega)
 simp only [Nat.add_zero] at h2
 simp only [Instr.fill, hp]
 rw [if_neg h1]
 congr 1
 apply Array.ext'
 rw [List.toList_toArray, ← h2]
 congr 1
 rw [← Array.foldl_toList, Array.toList_zipIdx]
def afill (places : List (Nat × Nat)) : List AV → List (Nat × AV) → Option (List AV)
  | cells, [] => some cells
  | cells, (i, a) :: r => match places[i]? with
    | some (off, size) => bif (Nat.beq a.cells.length size && Nat.ble (off + size) cells.length && a.cells.all AV.one) then afill places (cells.take off ++ a.cells ++ cells.drop (off + a.cells.length)) r else none
    | none => none
def Zgd (s : AS) : List (Nat × Operand) → Option (List (Nat × AV))
  | [] => some []
  | (i, x) :: r => match s.ev x with
    | some (.v a) => match Zgd s r with
      | some l => some ((i, a.dn) :: l)
      | none => none
    | _ => none
def CRep (w : World) (M : Nat → Prop) (cs : List AV) (row : Array Value) : Prop := row.size = cs.length ∧ ∀ (j : Nat) c, cs[j]? = some c → c.one = true ∧ ∃ v, row[j]? = some v ∧ Rep w M c v
theorem not_tup {a : AV} (h : a.cells.all AV.one = true) : ∀ l, a ≠ .tup l := by rintro l rfl; cases h
theorem crep_of {w : World} {M : Nat → Prop} {a : AV} {v : Value} (h : Rep w M a v) (h1 : ∀ l, a ≠ .tup l) : CRep w M a.cells v.cells := by
 obtain ⟨h2, h3⟩ := Rep.cells h h1
 refine ⟨h2, fun j c hj => ⟨Rep.ones h h1 c (List.mem_of_getElem? hj), h3 j c hj⟩⟩
theorem crep_splice {w : World} {M : Nat → Prop} {cs xs : List AV} {row vs : Array Value} {off : Nat} (h : CRep w M cs row) (hx : CRep w M xs vs) (hf : off + xs.length ≤ cs.length) :
  CRep w M (cs.take off ++ xs ++ cs.drop (off + xs.length)) (row.toList.take off ++ vs.toList ++ row.toList.drop (off + vs.toList.length)).toArray := by
 have hvl : vs.toList.length = xs.length := by rw [Array.length_toList]; exact hx.1
 have hrl : row.toList.length = cs.length := by rw [Array.length_toList]; exact h.1
 have hf' : off + vs.toList.length ≤ row.toList.length := by rw [hvl, hrl]; exact hf
 refine ⟨by rw [List.size_toArray, Zco hf', Zco hf, hrl], fun j c hj => ?_⟩
 rw [Zbw hf] at hj
 rw [List.getElem?_toArray, Zbw hf', hvl]
 by_cases c1 : j < off
 ·rw [if_pos c1] at hj ⊢; rw [Array.getElem?_toList]; exact h.2 j c hj
 ·rw [if_neg c1] at hj ⊢
  by_cases c2 : j < off + xs.length
  ·rw [if_pos c2] at hj ⊢; rw [Array.getElem?_toList]; exact hx.2 _ c hj
  ·rw [if_neg c2] at hj ⊢; rw [Array.getElem?_toList]; exact h.2 j c hj
theorem fill_rep {w0 w : World} {M0 : Cx} {ρ : Nat → Option (Nat × Nat)} {s s' : AS} {a : Act} {places : List (Nat × Nat)} (hr : RelR w0 M0 ρ s' a w) :
    ∀ (parts : List (Nat × Operand)) (cs : List AV) (row : Array Value), (∀ x, x ∈ parts → s'.ev x.2 = s.ev x.2) → CRep w (MM M0 ρ s'.m) cs row → ∀ l r, Zgd s parts = some l → afill places cs l = some r → ∃ row', Instr.fill (places.toArray[·]?) row (parts.map fun x => (x.1, a.eval x.2)) = some row' ∧ CRep w (MM M0 ρ s'.m) r row'
  | [], cs, row, _, hc, l, r, h1, h2 => by
    simp [Zgd] at h1
    subst h1
    simp [afill] at h2
    subst h2
    exact ⟨row, rfl, hc⟩
  | (i, x) :: parts, cs, row, hag, hc, l, r, h1, h2 => by
    simp only [Zgd] at h1
    cases hx : s.ev x with
    | none => rw [hx] at h1; cases h1
    | some y =>
      rw [hx] at h1
      cases y with
      | v av =>
        cases ht : Zgd s parts with
        | none => rw [ht] at h1; cases h1
        | some l' =>
          rw [ht] at h1
          simp at h1
          subst h1
          simp only [afill] at h2
          cases hp : places[i]? with
          | none => rw [hp] at h2; cases h2
          | some os =>
            obtain ⟨off, size⟩ := os
            rw [hp] at h2
            simp only at h2
            cases hb : (Nat.beq av.dn.cells.length size && Nat.ble (off + size) cs.length && av.dn.cells.all AV.one) with
            | false => rw [hb] at h2; cases h2
            | true =>
              rw [hb] at h2
              simp only [Bool.and_eq_true] at hb
              obtain ⟨⟨b1, b2⟩, b3⟩ := hb
              have b1 := Nat.eq_of_beq_eq_true b1
              have b2 := Nat.le_of_ble_eq_true b2
              have hrep : Rep w (MM M0 ρ s'.m) av.dn (a.eval x) := Rep.dn (hr.ev ((hag (i, x) (by simp)).trans hx))
              have hcr := crep_of hrep (not_tup b3)
              have hnew := crep_splice hc hcr (by rw [b1]; exact b2)
              obtain ⟨row', h3, h4⟩ := fill_rep hr parts _ _ (fun z hz => hag z (by simp [hz])) hnew l' r ht h2
              refine ⟨row', ?_, h4⟩
              rw [List.map_cons, fill_cons (off := off) (size := size) (by simpa using hp) (by rw [hcr.1]; exact b1) (by rw [hc.1]; exact b2)]
              exact h3
      | _ => cases h1
def BuildT (P : Program) (t : TypeId) (zs : List Value) (places : List (Nat × Nat)) : Prop := ∃ fs i v, P.underlying t = some (.struct fs) ∧ P.info? t = some i ∧ i.zero = some v ∧ v.cells.toList = zs ∧ ∀ w, (fs.mapM (fun f => do pure (f.offset, ← Go.sizeOf f.type)) : Sem (Array (Nat × Nat))).run P w = .ok places.toArray w
section
variable {P : Program} {ops : Array Oper} {s : AS} {dst : Option Tmp} {ty : TypeId} {pos : String} {after : Array Edge} {g : Option (Nat × Bool)}
theorem crep_zero {w : World} {M : Nat → Prop} {row : Array Value} (h : row.toList.all (·.oneCell') = true) : CRep w M (row.toList.map fun u => (AV.p u).dn) row := by
  refine ⟨by simp, fun j c hj => ?_⟩
  rw [List.getElem?_map] at hj
  cases hz : row.toList[j]? with
  | none => rw [hz] at hj; cases hj
  | some u =>
    rw [hz] at hj
    simp at hj
    subst hj
    have hu : u.oneCell' = true := by simp only [List.all_eq_true] at h; exact h u (List.mem_of_getElem? hz)
    exact ⟨AV.dn_one rfl, u, by rw [Array.getElem?_toList] at hz; exact hz, Rep.dn (.p u hu)⟩
theorem ss_build {t : TypeId} {zs : List Value} {places : List (Nat × Nat)} {parts : List (Nat × Operand)} {l : List (Nat × AV)} {r : List AV} (hin : InB s dst) (ht : BuildT P t zs places) (hz : zs.all (·.oneCell') = true) (hp : Zgd s parts = some l) (hf : afill places (zs.map fun u => (AV.p u).dn) l = some r) :
  Za9 dm P ops ⟨dst, .build t parts.toArray, ty, pos, after, g⟩ s (.v (.agg r)) .none :=
 Za6 hin fun s' hag w0 M0 ρ a w _ hr => by
  obtain ⟨fs, i, v, h1, h2, h3, h4, h5⟩ := ht
  subst h4
  obtain ⟨row, h6, h7⟩ := fill_rep (s := s) (places := places) hr parts _ v.cells (fun x hx => hag.ev (by
   simp only [Op.operands, List.mem_toArray, List.mem_map]
   exact ⟨x, hx, rfl⟩)) (crep_zero hz) l r hp hf
  refine ⟨.agg row, ?_, .agg _ _ h7.1 (fun c hc => ?_) (fun i c u hi hu => ?_)⟩
  ·have hmap : ((parts.toArray.map fun x => (x.1, a.eval x.2)).toList) = parts.map fun x => (x.1, a.eval x.2) := by simp
   have hrun : (Instr.build t (parts.toArray.map fun x => (x.1, a.eval x.2))).run P w = .ok (.agg row) w := by
    simp only [Instr.build, Sem.run_bind, zeroValue, typeInfo, run_program, Result.andThen_ok, h2, h3, Sem.run_pure, run_underlying h1, h5, hmap]
    rw [h6]
    rfl
   simp only [execOp]
   rw [Sem.run_bind]
   have : (fun (x : Nat × Operand) => match x with | (i, x) => (i, a.eval x)) = fun x => (x.1, a.eval x.2) := by funext x; rfl
   rw [this, hrun]
   rfl
  ·obtain ⟨j, hj⟩ := List.getElem?_of_mem hc
   exact (h7.2 j c hj).1
  ·obtain ⟨-, u', h8, h9⟩ := h7.2 i c hi
   rw [hu] at h8
   injection h8 with h8
   subst h8
   exact h9
theorem crep_raw {w : World} {M : Nat → Prop} {row : Array Value} (h : row.toList.all (·.oneCell') = true) : CRep w M (row.toList.map AV.p) row := by
  refine ⟨by simp, fun j c hj => ?_⟩
  rw [List.getElem?_map] at hj
  cases hz : row.toList[j]? with
  | none => rw [hz] at hj; cases hj
  | some u =>
    rw [hz] at hj
    simp at hj
    subst hj
    have hu : u.oneCell' = true := by simp only [List.all_eq_true] at h; exact h u (List.mem_of_getElem? hz)
    exact ⟨rfl, u, by rw [Array.getElem?_toList] at hz; exact hz, .p u hu⟩
theorem ss_build_raw {t : TypeId} {zs : List Value} {places : List (Nat × Nat)} {parts : List (Nat × Operand)} {l : List (Nat × AV)} {r : List AV} (hin : InB s dst) (ht : BuildT P t zs places) (hz : zs.all (·.oneCell') = true) (hp : Zgd s parts = some l) (hf : afill places (zs.map AV.p) l = some r) :
  Za9 dm P ops ⟨dst, .build t parts.toArray, ty, pos, after, g⟩ s (.v (.agg r)) .none :=
 Za6 hin fun s' hag w0 M0 ρ a w _ hr => by
  obtain ⟨fs, i, v, h1, h2, h3, h4, h5⟩ := ht
  subst h4
  obtain ⟨row, h6, h7⟩ := fill_rep (s := s) (places := places) hr parts _ v.cells (fun x hx => hag.ev (by
   simp only [Op.operands, List.mem_toArray, List.mem_map]
   exact ⟨x, hx, rfl⟩)) (crep_raw hz) l r hp hf
  refine ⟨.agg row, ?_, .agg _ _ h7.1 (fun c hc => ?_) (fun i c u hi hu => ?_)⟩
  ·have hmap : ((parts.toArray.map fun x => (x.1, a.eval x.2)).toList) = parts.map fun x => (x.1, a.eval x.2) := by simp
   have hrun : (Instr.build t (parts.toArray.map fun x => (x.1, a.eval x.2))).run P w = .ok (.agg row) w := by
    simp only [Instr.build, Sem.run_bind, zeroValue, typeInfo, run_program, Result.andThen_ok, h2, h3, Sem.run_pure, run_underlying h1, h5, hmap]
    rw [h6]
    rfl
   simp only [execOp]
   rw [Sem.run_bind]
   have : (fun (x : Nat × Operand) => match x with | (i, x) => (i, a.eval x)) = fun x => (x.1, a.eval x.2) := by funext x; rfl
   rw [this, hrun]
   rfl
  ·obtain ⟨j, hj⟩ := List.getElem?_of_mem hc
   exact (h7.2 j c hj).1
  ·obtain ⟨-, u', h8, h9⟩ := h7.2 i c hi
   rw [hu] at h8
   injection h8 with h8
   subst h8
   exact h9
end
end Ab
namespace Ab
variable {dm : Bool}
open Go Go.RowKit
theorem Zcn.snoc {w : World} {M : Nat → Prop} {n : Nat} {es : List AV} {x : AV} {row vs : Array Value} (h : Zcn w M n es (fun k => row[k]?)) (hx : CRep w M x.cells vs) (hn : x.cells.length = n) (hs : es.length * n + n ≤ row.size) :
  Zcn w M n (es ++ [x]) (fun k => (row.toList.take (es.length * n) ++ vs.toList ++ row.toList.drop (es.length * n + vs.toList.length)).toArray[k]?) := by
 have hvl : vs.toList.length = n := by rw [Array.length_toList, hx.1]; exact hn
 have hrl : row.toList.length = row.size := by simp
 have hf : es.length * n + vs.toList.length ≤ row.toList.length := by rw [hvl, hrl]; exact hs
 intro q e he
 by_cases hq : q < es.length
 ·rw [List.getElem?_append_left hq] at he
  obtain ⟨h1, h2⟩ := h q e he
  refine ⟨h1, fun j c hj => ?_⟩
  obtain ⟨h3, v, h4, h5⟩ := h2 j c hj
  have hjn : j < n := by rw [← h1]; exact (List.getElem?_eq_some_iff.1 hj).1
  have hlt : q * n + j < es.length * n := by
   have : (q + 1) * n ≤ es.length * n := Nat.mul_le_mul_right _ hq
   rw [Nat.add_mul, Nat.one_mul] at this; omega
  refine ⟨h3, v, ?_, h5⟩
  show (row.toList.take (es.length * n) ++ vs.toList ++ row.toList.drop (es.length * n + vs.toList.length)).toArray[q * n + j]? = some v
  rw [List.getElem?_toArray, Zbw hf, if_pos hlt, Array.getElem?_toList]
  exact h4
 ·have hlen := (List.getElem?_eq_some_iff.1 he).1
  simp at hlen
  have hqe : q = es.length := oM
  subst hqe
  simp at he
  subst he
  refine ⟨hn, fun j c hj => ?_⟩
  have hjn : j < n := by rw [← hn]; exact (List.getElem?_eq_some_iff.1 hj).1
  obtain ⟨h3, v, h4, h5⟩ := hx.2 j c hj
  refine ⟨h3, v, ?_, h5⟩
  show (row.toList.take (es.length * n) ++ vs.toList ++ row.toList.drop (es.length * n + vs.toList.length)).toArray[es.length * n + j]? = some v
  rw [List.getElem?_toArray, Zbw hf, if_neg oM, if_pos oM, Array.getElem?_toList]
  rw [show es.length * n + j - es.length * n = j by omega]
  exact h4
theorem fillS {w0 w : World} {M0 : Cx} {ρ : Nat → Option (Nat × Nat)} {s s' : AS} {a : Act} {n : Nat} (hr : RelR w0 M0 ρ s' a w) :
    ∀ (parts : List Operand) (es : List AV) (row : Array Value), (∀ x, x ∈ parts → s'.ev x = s.ev x) → Zcn w (MM M0 ρ s'.m) n es (fun k => row[k]?) → row.size = (es.length + parts.length) * n → ∀ xs, Zd0 s parts = some xs → (∀ x, x ∈ xs → x.cells.length = n ∧ x.cells.all AV.one = true) →
      ∃ row', Instr.fill (fun i => some (i * n, n)) row ((parts.zipIdx es.length).map fun x => (x.2, a.eval x.1)) = some row' ∧ row'.size = row.size ∧ Zcn w (MM M0 ρ s'.m) n (es ++ xs) (fun k => row'[k]?)
  | [], es, row, _, hl, _, xs, h1, _ => by
    simp [Zd0] at h1
    subst h1
    exact ⟨row, rfl, rfl, by rw [List.append_nil]; exact hl⟩
  | x :: parts, es, row, hag, hl, hs, xs, h1, h2 => by
    simp only [Zd0] at h1
    cases hx : s.ev x with
    | none => rw [hx] at h1; cases h1
    | some y =>
      rw [hx] at h1
      cases y with
      | v av =>
        cases ht : Zd0 s parts with
        | none => rw [ht] at h1; cases h1
        | some l' =>
          rw [ht] at h1
          simp at h1
          subst h1
          obtain ⟨h3, h4⟩ := h2 av.dn (by simp)
          have hrep : Rep w (MM M0 ρ s'.m) av.dn (a.eval x) := Rep.dn (hr.ev ((hag x (by simp)).trans hx))
          have hcr := crep_of hrep (not_tup h4)
          have hfit : es.length * n + n ≤ row.size := by
            rw [hs, List.length_cons]
            have : (es.length + 1) * n ≤ (es.length + (parts.length + 1)) * n := Nat.mul_le_mul_right _ oM
            rw [Nat.add_mul, Nat.one_mul] at this
            exact this
          have hsn := Zcn.snoc hl hcr h3 hfit
          have hvl : (a.eval x).cells.size = n := hcr.1.trans h3
          have hvl' : (a.eval x).cells.toList.length = n := by simp [hvl]
          have hrl : row.toList.length = row.size := by simp
          have hsz : (row.toList.take (es.length * n) ++ (a.eval x).cells.toList ++ row.toList.drop (es.length * n + (a.eval x).cells.toList.length)).toArray.size = row.size := by
            rw [List.size_toArray, Zco (by rw [hvl', hrl]; exact hfit), hrl]
          obtain ⟨row', h5, h6, h7⟩ := fillS hr parts (es ++ [av.dn]) _ (fun z hz => hag z (by simp [hz])) hsn (by rw [hsz, hs]; simp; congr 1; omega) l' ht (fun z hz => h2 z (by simp [hz]))
          refine ⟨row', ?_, h6.trans hsz, by rw [List.append_assoc] at h7; exact h7⟩
          rw [List.zipIdx_cons, List.map_cons, fill_cons (off := es.length * n) (size := n) rfl hvl hfit]
          rw [List.length_append, List.length_singleton] at h5
          exact h5
      | _ => cases h1
section
variable {P : Program} {ops : Array Oper} {s : AS} {dst : Option Tmp} {ty : TypeId} {pos : String} {after : Array Edge} {g : Option (Nat × Bool)}
theorem bslice_run {w0 w : World} {M0 : Cx} {ρ : Nat → Option (Nat × Nat)} {s' : AS} {a : Act} {t e : TypeId} {n bytes : Nat} {z : List Value} {parts : List Operand} {xs : List AV} (hr : RelR w0 M0 ρ s' a w) (ht : MakeT P t e n bytes z) (hag : ∀ x, x ∈ parts → s'.ev x = s.ev x) (hp : Zd0 s parts = some xs)
  (hx : ∀ x, x ∈ xs → x.cells.length = n ∧ x.cells.all AV.one = true) (hb : parts.length * n ≤ 16777216) :
  ∃ row, (execOp a.eval ⟨dst, .buildSlice t parts.length ((parts.zipIdx.map fun x => (x.2, x.1)).toArray), ty, pos, after, g⟩).run P w = .ok (.value (.slice (some ⟨w.heap.size, 0, none⟩) parts.length parts.length)) (w.alloc (.cells row e)) ∧
   row.size = parts.length * n ∧ Zcn w (MM M0 ρ s'.m) n xs (fun k => row[k]?) := by
 obtain ⟨h1, i, zv, h2, h3, h4, h5, h6, h7⟩ := ht
 have hmk : ∀ Z : Array Value, ∃ row', Instr.fill (fun i => some (i * n, n)) (madeCells Z (parts.length * n)) ((parts.zipIdx 0).map fun x => (x.2, a.eval x.1)) = some row' ∧ row'.size = (madeCells Z (parts.length * n)).size ∧ Zcn w (MM M0 ρ s'.m) n ([] ++ xs) (fun k => row'[k]?) := fun Z =>
  fillS (s := s) hr parts [] (madeCells Z (parts.length * n)) hag (fun q e he => by simp at he) (by simp [size_madeCells]) xs hp hx
 have hmap : ((((parts.zipIdx.map fun x => (x.2, x.1)).toArray).map fun (x : Nat × Operand) => (x.1, a.eval x.2)).toList) = (parts.zipIdx 0).map fun x => (x.2, a.eval x.1) := by simp
 have hlam : (fun (x : Nat × Operand) => match x with | (i, x) => (i, a.eval x)) = fun x => (x.1, a.eval x.2) := by funext x; rfl
 have hle : ¬ parts.length * n > 2 ^ 24 := oM
 by_cases h0 : parts.length * n = 0
 ·obtain ⟨row, k1, k2, k3⟩ := hmk #[]
  refine ⟨row, ?_, by rw [k2, size_madeCells], by simpa using k3⟩
  have hrun : (Instr.buildSlice t parts.length (((parts.zipIdx.map fun x => (x.2, x.1)).toArray).map fun (x : Nat × Operand) => (x.1, a.eval x.2))).run P w = .ok (.slice (some ⟨w.heap.size, 0, none⟩) parts.length parts.length) (w.alloc (.cells row e)) := by
   simp only [madeCells] at k1
   simp only [Instr.buildSlice, Sem.run_bind, run_underlying h1, Result.andThen_ok, Go.sizeOf, typeInfo, run_program, h2, Sem.run_pure, h3, hle, if_false, h0, if_true, hmap]
   rw [h0] at k1
   rw [if_neg dC]
   simp only [Sem.run_bind, Sem.run_pure, Result.andThen_ok]
   rw [k1]
   simp [newRow]
  simp only [execOp, hlam]
  rw [Sem.run_bind, hrun]
  rfl
 ·obtain ⟨row, k1, k2, k3⟩ := hmk zv.cells
  refine ⟨row, ?_, by rw [k2, size_madeCells], by simpa using k3⟩
  have hrun : (Instr.buildSlice t parts.length (((parts.zipIdx.map fun x => (x.2, x.1)).toArray).map fun (x : Nat × Operand) => (x.1, a.eval x.2))).run P w = .ok (.slice (some ⟨w.heap.size, 0, none⟩) parts.length parts.length) (w.alloc (.cells row e)) := by
   simp only [madeCells] at k1
   simp only [Instr.buildSlice, Sem.run_bind, run_underlying h1, Result.andThen_ok, Go.sizeOf, typeInfo, run_program, h2, Sem.run_pure, h3, hle, if_false, h0, zeroValue, h5, hmap]
   rw [k1]
   simp [newRow]
  simp only [execOp, hlam]
  rw [Sem.run_bind, hrun]
  rfl
theorem Zaw {t e : TypeId} {n bytes len : Nat} {z : List Value} {parts : List (Nat × Operand)} {xs : List AV} (hin : InB s dst) (ht : MakeT P t e n bytes z) (hpar : parts = ((parts.map (·.2)).zipIdx.map fun x => (x.2, x.1))) (hlen : len = parts.length) (hp : Zd0 s (parts.map (·.2)) = some xs) (hxl : xs.length = parts.length)
  (hx : ∀ x, x ∈ xs → x.cells.length = n ∧ x.cells.all AV.one = true) (hb : parts.length * n ≤ 16777216) : Za9 dm P ops ⟨dst, .buildSlice t len parts.toArray, ty, pos, after, g⟩ s (.v (.sl xs)) .none := by
 subst hlen
 refine ss_val hin fun s' hag w0 M0 ρ a w hM hr => ?_
 obtain ⟨row, h1, h2, h3⟩ := bslice_run (s := s) (dst := dst) (ty := ty) (pos := pos) (after := after) (g := g) hr ht (parts := parts.map (·.2)) (fun x hxm => hag.ev (by
  simp only [Op.operands, List.mem_toArray]; exact hxm)) hp hx (by rw [List.length_map]; exact hb)
 rw [← hpar, List.length_map] at h1
 rw [List.length_map] at h2
 have hbl : Below w.heap.size w (w.alloc (.cells row e)) := (Below.refl _ _).alloc (Nat.le_refl _) _
 refine ⟨_, _, h1, hbl, ?_⟩
 have hnM : ¬ MM M0 ρ s'.m w.heap.size := by
  rintro (hm | ⟨i, k, g1, g2⟩)
  ·have := (hM.1.1 _ hm).1; have := hr.below.size; omega
  ·have := (hr.base i _ k g1 g2).2; omega
 have hget : ∀ i j, i < xs.length → j < n → ∃ v, row[i * n + j]? = some v := by
  intro i j hi hj
  obtain ⟨g1, g2⟩ := h3 i xs[i] (by simp [hi])
  obtain ⟨-, v, g3, -⟩ := g2 j (xs[i]).cells[j] (by simp [g1, hj])
  exact ⟨v, g3⟩
 have := Rep.sl (w := w.alloc (.cells row e)) (M := MM M0 ρ s'.m) xs w.heap.size 0 parts.length n (fun i j => row.getD (i * n + j) undef) oM (fun _ _ _ _ => hnM) (fun x hxm => (hx x hxm).1) (fun x hxm c hc => by have := (hx x hxm).2; simp only [List.all_eq_true] at this; exact this c hc)
  (fun i j hi hj => by
   obtain ⟨v, hv⟩ := hget i j hi hj
   rw [Nat.zero_add, World.cell?_alloc_new, hv]
   simp [hv])
  (fun i x j c hi hj => by
   obtain ⟨g1, g2⟩ := h3 i x hi
   obtain ⟨-, v, g3, g4⟩ := g2 j c hj
   have g3' : row[i * n + j]? = some v := g3
   have : row.getD (i * n + j) undef = v := by simp [g3']
   rw [this]
   exact Rep.mono (Zbn.below hbl) (fun _ _ h => h) g4)
 rw [hxl] at this
 exact this
theorem Zb8 (id : Nat) {t e : TypeId} {n bytes len : Nat} {z : List Value} {parts : List (Nat × Operand)} {xs : List AV} (hin : InB s dst) (hid : s.m id = none) (ht : MakeT P t e n bytes z) (hpar : parts = ((parts.map (·.2)).zipIdx.map fun x => (x.2, x.1))) (hlen : len = parts.length) (hp : Zd0 s (parts.map (·.2)) = some xs) (hxl : xs.length = parts.length)
  (hx : ∀ x, x ∈ xs → x.cells.length = n ∧ x.cells.all AV.one = true) (hb : parts.length * n ≤ 16777216) (h63 : parts.length ≤ maxLen) (hnu : s.nd = true → ∀ a, a ∈ xs → ∀ c, c ∈ a.cells → c.nu = true) : Za9 dm P ops ⟨dst, .buildSlice t len parts.toArray, ty, pos, after, g⟩ s (.own id xs.length) (.new id (.lst n e xs)) := by
 subst hlen
 refine ss_new hin rfl hid fun s' hag hid' w0 M0 ρ a w hM hr => ?_
 obtain ⟨row, h1, h2, h3⟩ := bslice_run (s := s) (dst := dst) (ty := ty) (pos := pos) (after := after) (g := g) hr ht (parts := parts.map (·.2)) (fun x hxm => hag.ev (by
  simp only [Op.operands, List.mem_toArray]; exact hxm)) hp hx (by rw [List.length_map]; exact hb)
 rw [← hpar, List.length_map] at h1
 rw [List.length_map] at h2
 have hbl : Below w.heap.size w (w.alloc (.cells row e)) := (Below.refl _ _).alloc (Nat.le_refl _) _
 refine ⟨_, _, some (w.heap.size, parts.length), h1, hbl, ?_, fun M' m' hm hM' => ?_, fun M' => ?_⟩
 ·rintro b kk e; injection e with e; injection e with e1 e2; subst e1; exact ⟨Nat.le_refl _, by simp⟩
 ·refine .inr ⟨w.heap.size, parts.length, row, beq_ite, heap_alloc_new w _, oM, h63, h2, Zcn.mono h3 (Zbn.below hbl) hM', fun hnd => Zef (lies_nu (l := xs) (n := n) (w := w) (M := MM M0 ρ s'.m) ?_ ?_ (hnu (by rw [← hag.nd]; exact hnd)))⟩
  ·intro q x hq
   obtain ⟨g1, g2⟩ := h3 q x hq
   refine ⟨g1, fun j c hj => ?_⟩
   obtain ⟨g3, v, g4, g5⟩ := g2 j c hj
   exact ⟨g3, v, by show row.toList[q * n + j]? = some v; rw [Array.getElem?_toList]; exact g4, g5⟩
  ·rw [Array.length_toList, h2, hxl]
 ·exact ⟨n, e, _, Zat _ _ _, Nat.le_refl _, ⟨_, _, _, rfl⟩, fun _ => .inr ⟨_, _, beq_ite, by rw [hxl]⟩⟩
end
def resV (s : AS) : ResultVar → Option AV
  | .tmp t => match s.t t with
    | some (.v a) => some a.dn
    | _ => none
  | .cell a _ => match s.t a with
    | some (.ptr i 0) => match s.m i with
      | some (.var cs) => match Zcx cs with
        | some l => some (.agg l)
        | none => none
      | _ => none
    | _ => none
def resL (s : AS) : List ResultVar → Option (List AV)
  | [] => some []
  | r :: l => match resV s r with
    | some a => match resL s l with
      | some q => some (a :: q)
      | none => none
    | none => none
def wrapR : List AV → AV
 | [a] => a
 | l => .tup l
end Ab
namespace Ab
variable {dm : Bool}
open Go Go.RowKit
def Za5 {α : Type} : List (Nat × α) → Nat → Option α
 | [], _ => none
 | (k, x) :: r, i => bif Nat.beq k i then some x else Za5 r i
def AllP {α : Type} (p : α → Prop) : List α → Prop
 | [] => True
 | x :: r => p x ∧ AllP p r
theorem Zd2 {α : Type} {p : Nat × α → Prop} : ∀ {l : List (Nat × α)}, AllP p l → ∀ i x, Za5 l i = some x → p (i, x)
  | [], _, i, x, h => by simp [Za5] at h
  | (k, y) :: r, hp, i, x, h => by
    simp only [Za5] at h
    cases hb : Nat.beq k i with
    | true =>
      rw [hb] at h
      simp at h
      subst h
      have := Nat.eq_of_beq_eq_true hb
      subst this
      exact hp.1
    | false => rw [hb] at h; exact Zd2 hp.2 i x h
def mkS (L : List (Nat × TV)) (Lm : List (Nat × Blk)) (nt : Nat) (nd : Bool) : AS := { t := Za5 L, m := Za5 Lm, nt := nt, nd := nd }
def mkP (L : List (Nat × TV)) (Lm : List (Nat × Blk)) (nt : Nat) (nd : Bool) (k : List Nat) : AS := { t := Za5 L, m := Za5 Lm, nt := nt, nd := nd, k := k }
def refsOK (m' : Nat → Option Blk) : List (Nat × Nat) → Prop
 | [] => True
 | p :: l => (∃ b, m' p.1 = some b) ∧ refsOK m' l
theorem refsOK.get {m' : Nat → Option Blk} : ∀ {l : List (Nat × Nat)}, refsOK m' l → ∀ (j : Nat) p, l[j]? = some p → ∃ b, m' p.1 = some b
  | [], _, j, p, hj => by simp at hj
  | q :: l, h, j, p, hj => by
    rcases j with _ | j
    · simp at hj; subst hj; exact h.1
    · exact refsOK.get h.2 j p (by simpa using hj)
def refOK (m' : Nat → Option Blk) : TV → Prop
 | .ot k _ => ∃ b, m' k = some b
 | .opt k _ _ => ∃ b, m' k = some b
 | .fn _ cs => refsOK m' cs
 | .mp k => ∃ b, m' k = some b
 | .ptr k _ => ∃ b, m' k = some b
 | .bm _ k _ => ∃ b, m' k = some b
 | .own k _ => ∃ b, m' k = some b
 | .op k _ _ _ => ∃ b, m' k = some b
 | .st _ k _ _ => ∃ b, m' k = some b
 | _ => True
def nilV : Value := .slice none 0 0
def Conv (s : AS) (m' : Nat → Option Blk) (x y : TV) : Prop :=
 (x = y ∧ refOK m' y) ∨ (x = .v (.p nilV) ∧ y = .v (.sl [])) ∨ (∃ k sz ty es n, s.m k = some (.lst sz ty es) ∧ x = .own k n ∧ es.length = n ∧ m' k = none ∧ y = .v (.sl es)) ∨ (∃ k sz ty, x = .v (.p nilV) ∧ y = .own k 0 ∧ s.m k = none ∧ m' k = some (.lst sz ty []))
def ConvL (s : AS) (m' : Nat → Option Blk) : List TV → List TV → Prop
 | [], [] => True
 | x :: r, y :: q => Conv s m' x y ∧ ConvL s m' r q
 | _, _ => False
theorem ConvL.get {s : AS} {m' : Nat → Option Blk} : ∀ {l q : List TV}, ConvL s m' l q → l.length = q.length ∧ ∀ (j : Nat) y, q[j]? = some y → ∃ x, l[j]? = some x ∧ Conv s m' x y
  | [], [], _ => ⟨rfl, fun j y h => by simp at h⟩
  | x :: r, y :: q, h => by
    obtain ⟨h1, h2⟩ := ConvL.get h.2
    refine ⟨by simp [h1], fun j z hj => ?_⟩
    rcases j with _ | j
    · simp at hj; subst hj; exact ⟨x, rfl, h.1⟩
    · simpa using h2 j z (by simpa using hj)
  | [], _ :: _, h => h.elim
  | _ :: _, [], h => h.elim
def ConvB (s : AS) (m' : Nat → Option Blk) : Option Blk → Blk → Prop
 | some (.var cs), .var cs' => ConvL s m' cs cs'
 | some (.lst sz ty es), b => b = .lst sz ty es
 | some (.mp es), b => b = .mp es
 | some (.tl ty cs), .tl ty' cs' => ty' = ty ∧ ConvL s m' cs cs'
 | none, .lst _ _ es => es = []
 | none, .tl _ cs => cs = []
 | _, _ => False
theorem own_sl {w0 w : World} {M0 : Cx} {M' : Nat → Prop} {ρ : Nat → Option (Nat × Nat)} {s : AS} {a : Act} {k sz : Nat} {ty : TypeId} {es : List AV} {u : Value} (hr : RelR w0 M0 ρ s a w) (hm : s.m k = some (.lst sz ty es)) (h : TRep w (MM M0 ρ s.m) ρ s.m (.own k es.length) u)
  (hM' : ∀ b, M' b → MM M0 ρ s.m b) (hk : ∀ b c, ρ k = some (b, c) → ¬ M' b) : Rep w M' (.sl es) u := by
 obtain ⟨sz', ty', es', h1, -, -, h2⟩ := h
 rw [hm] at h1
 injection h1 with h1
 injection h1 with e1 e2 e3
 subst e1 e2 e3
 rcases h2 rfl with ⟨h3, h4, rfl⟩ | ⟨b, c, h3, rfl⟩
 ·have : es = [] := List.eq_nil_of_length_eq_zero h4
  subst this
  exact .emp _ _
 ·rcases hr.slots k _ hm with ⟨g1, -⟩ | ⟨b', cap, row, g1, g2, g3, g4, g5, g6, -⟩
  ·rw [h3] at g1; cases g1
  ·rw [h3] at g1; injection g1 with g1; injection g1 with e1 e2; subst e1 e2
   refine .sl es b 0 c sz (fun i j => row.getD (i * sz + j) undef) g3 (fun _ _ _ _ => hk b c h3) (fun e he => ?_) (fun e he x hx => ?_) (fun i j hi hj => ?_) (fun i e j x hi hj => ?_)
   ·obtain ⟨q, hq⟩ := List.getElem?_of_mem he
    exact (g6 q e hq).1
   ·obtain ⟨q, hq⟩ := List.getElem?_of_mem he
    obtain ⟨j, hj⟩ := List.getElem?_of_mem hx
    exact ((g6 q e hq).2 j x hj).1
   ·obtain ⟨g7, g8⟩ := g6 i es[i] (by simp [hi])
    obtain ⟨-, v, g9, -⟩ := g8 j (es[i]).cells[j] (by simp [g7, hj])
    rw [Nat.zero_add]
    simp [World.cell?, g2, g9]
   ·obtain ⟨g7, g8⟩ := g6 i e hi
    obtain ⟨-, v, g9, g10⟩ := g8 j x hj
    have : row.getD (i * sz + j) undef = v := by simp [g9]
    rw [this]
    exact Rep.mono (Zbn.refl _ _) (fun b _ h => hM' b h) g10
theorem Ent.mkP {s : AS} {L : List (Nat × TV)} {Lm : List (Nat × Blk)} {nt : Nat} {nd : Bool} {k : List Nat} (hk : s.k = k) (hkm : (k.all fun i => (Za5 Lm i).isSome) = true) (hnt : s.nt = nt) (hnd : (!nd || s.nd || Lm.isEmpty) = true)
    (hm : AllP (fun p : Nat × Blk => ConvB s (Za5 Lm) (s.m p.1) p.2) Lm) (ht : AllP (fun p : Nat × TV => ∃ x, s.t p.1 = some x ∧ Conv s (Za5 Lm) x p.2) L) : Ent s (mkP L Lm nt nd k) := by
  rintro w0 M0 a w hM ⟨ρ, hr⟩
  have hm' := Zd2 hm
  have ht' := Zd2 ht
  let ρ' : Nat → Option (Nat × Nat) := fun i => if (s.m i).isSome then ρ i else none
  have hρ : ∀ i b k, ρ' i = some (b, k) → (s.m i).isSome = true ∧ ρ i = some (b, k) := by
    intro i b k h
    simp only [ρ'] at h
    split at h
    · exact ⟨by assumption, h⟩
    · cases h
  have hρs : ∀ i x, s.m i = some x → ρ' i = ρ i := fun i x h => by simp [ρ', h]
  have hMM : ∀ b, MM M0 ρ' (Za5 Lm) b → MM M0 ρ s.m b := by
    rintro b (h | ⟨i, k, -, h⟩)
    · exact .inl h
    · exact .inr ⟨i, k, (hρ i b k h).1, (hρ i b k h).2⟩
  have conv : ∀ x y u, Conv s (Za5 Lm) x y → TRep w (MM M0 ρ s.m) ρ s.m x u → TRep w (MM M0 ρ' (Za5 Lm)) ρ' (Za5 Lm) y u := by
    intro x y u hc hx
    rcases hc with ⟨rfl, hk⟩ | ⟨rfl, rfl⟩ | ⟨k, sz, ty, es, n, h1, rfl, rfl, h2, rfl⟩ | ⟨k, sz, ty, rfl, rfl, h1, h2⟩
    · cases x with
      | v av => exact Rep.mono (Zbn.refl _ _) (fun b _ h => hMM b h) hx
      | ptr k o =>
        obtain ⟨⟨cs, h1⟩, b, c, h2, h3⟩ := hx
        obtain ⟨b', hb'⟩ := hk
        have := hm' k b' hb'
        simp only [h1] at this
        cases b' with
        | var cs' => exact ⟨⟨cs', hb'⟩, b, c, (hρs k _ h1).trans h2, h3⟩
        | lst => exact this.elim
        | mp => exact this.elim
        | tl => exact this.elim
      | em => exact hx
      | bm f k o =>
        obtain ⟨⟨cs, h1⟩, b, c, h2, h3⟩ := hx
        obtain ⟨b', hb'⟩ := hk
        have := hm' k b' hb'
        simp only [h1] at this
        cases b' with
        | var cs' => exact ⟨⟨cs', hb'⟩, b, c, (hρs k _ h1).trans h2, h3⟩
        | lst => exact this.elim
        | mp => exact this.elim
        | tl => exact this.elim
      | fn f cs =>
        obtain ⟨vs, h1, h2, h3⟩ := hx
        refine ⟨vs, h1, h2, fun j p hj => ?_⟩
        obtain ⟨⟨c0, g1⟩, b, c, g2, g3⟩ := h3 j p hj
        obtain ⟨b', hb'⟩ := refsOK.get hk j p hj
        have := hm' p.1 b' hb'
        simp only [g1] at this
        cases b' with
        | var cs' => exact ⟨⟨cs', hb'⟩, b, c, (hρs p.1 _ g1).trans g2, g3⟩
        | lst => exact this.elim
        | mp => exact this.elim
        | tl => exact this.elim
      | ot k n =>
        obtain ⟨ty, cs, h1, h2, h3, h4⟩ := hx
        obtain ⟨b', hb'⟩ := hk
        have := hm' k b' hb'
        simp only [h1] at this
        cases b' with
        | tl ty' cs' =>
          obtain ⟨rfl, h5⟩ := this
          have h6 := (ConvL.get h5).1
          exact ⟨ty', cs', hb', oM, h3, fun hn => by rw [hρs k _ h1]; exact h4 oM⟩
        | lst => exact this.elim
        | mp => exact this.elim
        | var => exact this.elim
      | opt k n i =>
        obtain ⟨ty, cs, h1, h2, b, off, h3, h4⟩ := hx
        obtain ⟨b', hb'⟩ := hk
        have := hm' k b' hb'
        simp only [h1] at this
        cases b' with
        | tl ty' cs' =>
          obtain ⟨rfl, h5⟩ := this
          have h6 := (ConvL.get h5).1
          exact ⟨ty', cs', hb', oM, b, off, h3, fun hn => by rw [hρs k _ h1]; exact h4 oM⟩
        | lst => exact this.elim
        | mp => exact this.elim
        | var => exact this.elim
      | mp k =>
        obtain ⟨⟨es, h1⟩, b, c, h2, h3⟩ := hx
        obtain ⟨b', hb'⟩ := hk
        have := hm' k b' hb'
        simp only [h1] at this
        have e : b' = .mp es := this
        subst e
        exact ⟨⟨es, hb'⟩, b, c, (hρs k _ h1).trans h2, h3⟩
      | own k n =>
        obtain ⟨sz, ty, es, h1, h2, h3, h4⟩ := hx
        obtain ⟨b', hb'⟩ := hk
        have := hm' k b' hb'
        simp only [h1] at this
        have e : b' = .lst sz ty es := this
        subst e
        exact ⟨sz, ty, es, hb', h2, h3, fun hn => by rw [hρs k _ h1]; exact h4 hn⟩
      | ep e o =>
        obtain ⟨b, off, h1, h2⟩ := hx
        refine ⟨b, off, h1, fun j c hj => ?_⟩
        obtain ⟨h3, h4, x, h5, h6⟩ := h2 j c hj
        exact ⟨h3, fun h => h4 (hMM b h), x, h5, Rep.mono (Zbn.refl _ _) (fun b _ h => hMM b h) h6⟩
      | op k n i o =>
        obtain ⟨sz, ty, es, h1, h2, b, off, h3, h4⟩ := hx
        obtain ⟨b', hb'⟩ := hk
        have := hm' k b' hb'
        simp only [h1] at this
        have e : b' = .lst sz ty es := this
        subst e
        exact ⟨sz, ty, es, hb', h2, b, off, h3, fun hn => by rw [hρs k _ h1]; exact h4 hn⟩
      | st pre k n post =>
        obtain ⟨vs, h1, h2, h3, h4, u', h5, sz, ty, es, h6, h7, h8, h9⟩ := hx
        obtain ⟨b', hb'⟩ := hk
        have := hm' k b' hb'
        simp only [h6] at this
        have e : b' = .lst sz ty es := this
        subst e
        refine ⟨vs, h1, h2, fun j c hj => ⟨(h3 j c hj).1, ?_⟩, fun j c hj => ⟨(h4 j c hj).1, ?_⟩, u', h5, sz, ty, es, hb', h7, h8, fun hn => by rw [hρs k _ h6]; exact h9 hn⟩
        · obtain ⟨x, g1, g2⟩ := (h3 j c hj).2
          exact ⟨x, g1, Rep.mono (Zbn.refl _ _) (fun b _ h => hMM b h) g2⟩
        · obtain ⟨x, g1, g2⟩ := (h4 j c hj).2
          exact ⟨x, g1, Rep.mono (Zbn.refl _ _) (fun b _ h => hMM b h) g2⟩
    · rw [Rep.p_inv hx]; exact Rep.emp _ _
    · refine own_sl hr h1 hx hMM (fun b c hbc => ?_)
      rintro (h | ⟨i, k', h3, h4⟩)
      · have h9 := (hM.1.1 b h).1
        rcases (hr.base k b c (by rw [h1]; rfl) hbc).1 with h8 | h8
        · omega
        · exact (hM.2 b h8).2.1 h
      · obtain ⟨h5, h6⟩ := hρ i b k' h4
        have := hr.inj i k b k' c h5 (by rw [h1]; rfl) h6 hbc
        subst this
        rw [h2] at h3
        cases h3
    · have hu := Rep.p_inv hx
      subst hu
      have : ρ' k = none := by simp [ρ', h1]
      exact ⟨sz, ty, [], h2, Nat.zero_le _, ⟨_, _, _, rfl⟩, fun _ => .inl ⟨this, rfl, rfl⟩⟩
  refine ⟨ρ', hr.below, hr.defers, hr.nt.trans hnt, fun i b k _ h => hr.base i b k (hρ i b k h).1 (hρ i b k h).2, fun i j b k l _ _ h1 h2 => hr.inj i j b k l (hρ i b k h1).1 (hρ j b l h2).1 (hρ i b k h1).2 (hρ j b l h2).2, fun i x hx => ?_, fun i x hx => ?_, fun i x hx => ?_, fun i hi => by have := hr.kid i hi; rw [hk] at this; exact this⟩
  · have hc := hm' i x hx
    have hndimp : nd = true → s.nd = true := fun h => by
      subst h
      cases Lm with
      | nil => cases hx
      | cons p l => simpa using hnd
    simp only at hc
    cases hsi : s.m i with
    | none =>
      rw [hsi] at hc
      cases x with
      | var => exact hc.elim
      | lst sz ty es => exact .inl ⟨by simp [ρ', hsi], hc⟩
      | mp => exact hc.elim
      | tl ty cs => exact .inl ⟨by simp [ρ', hsi], hc⟩
    | some y =>
      rw [hsi] at hc
      have hso := hr.slots i y hsi
      cases y with
      | var cs =>
        cases x with
        | lst => exact hc.elim
        | mp => exact hc.elim
        | tl => exact hc.elim
        | var cs' =>
          obtain ⟨b, k, t, row, g1, g2, g3, g4, g5⟩ := hso
          obtain ⟨c1, c2⟩ := ConvL.get hc
          refine ⟨b, k, t, row, (hρs i _ hsi).trans g1, g2, g3.trans c1, fun j c hj => ?_, fun h => g5 (hndimp h)⟩
          obtain ⟨x, c3, c4⟩ := c2 j c hj
          obtain ⟨v, g6, g7, g8⟩ := g4 j x c3
          exact ⟨v, g6, g7, conv x c v c4 g8⟩
      | lst sz ty es =>
        have e : x = .lst sz ty es := hc
        subst e
        rcases hso with ⟨g1, g2⟩ | ⟨b, cap, row, g1, g2, g3, g4, g5, g6, g7⟩
        · exact .inl ⟨(hρs i _ hsi).trans g1, g2⟩
        · exact .inr ⟨b, cap, row, (hρs i _ hsi).trans g1, g2, g3, g4, g5, fun q e he => ⟨(g6 q e he).1, fun j c hj => by
            obtain ⟨k1, v, k2, k3⟩ := (g6 q e he).2 j c hj
            exact ⟨k1, v, k2, Rep.mono (Zbn.refl _ _) (fun b _ h => hMM b h) k3⟩⟩, fun h => g7 (hndimp h)⟩
      | mp es =>
        have e : x = .mp es := hc
        subst e
        obtain ⟨b, k, clock, arr, g1, g2, g3, g4⟩ := hso
        refine ⟨b, k, clock, arr, (hρs i _ hsi).trans g1, g2, g3, fun j p hj => ?_⟩
        obtain ⟨en, k1, k2, k3⟩ := g4 j p hj
        exact ⟨en, k1, Rep.mono (Zbn.refl _ _) (fun b _ h => hMM b h) k2, Rep.mono (Zbn.refl _ _) (fun b _ h => hMM b h) k3⟩
      | tl ty cs =>
        cases x with
        | lst => exact hc.elim
        | mp => exact hc.elim
        | var => exact hc.elim
        | tl ty' cs' =>
          obtain ⟨rfl, hc⟩ := hc
          obtain ⟨c1, c2⟩ := ConvL.get hc
          rcases hso with ⟨g1, g2⟩ | ⟨b, cap, row, g1, g2, g3, g4, g5, g6, g7⟩
          · subst g2
            exact .inl ⟨(hρs i _ hsi).trans g1, List.eq_nil_of_length_eq_zero (by rw [← c1]; rfl)⟩
          · refine .inr ⟨b, cap, row, (hρs i _ hsi).trans g1, g2, oM, g4, g5, fun j c hj => ?_, fun h => g7 (hndimp h)⟩
            obtain ⟨x, c3, c4⟩ := c2 j c hj
            obtain ⟨v, k1, k2, k3⟩ := g6 j x c3
            exact ⟨v, k1, k2, conv x c v c4 k3⟩
  · obtain ⟨y, h1, h2⟩ := ht' i x hx
    obtain ⟨v, h3, h4⟩ := hr.tmps i y h1
    exact ⟨v, h3, conv y x v h2 h4⟩
  · have hik : i ∈ k := by have := hr.kid i (by rw [hx]; rfl); rw [hk] at this; exact this
    have hsome : (Za5 Lm i).isSome = true := by simp only [List.all_eq_true] at hkm; exact hkm i hik
    obtain ⟨y, hy⟩ := Option.isSome_iff_exists.1 hsome
    obtain ⟨x', g1, g2, g3, g4, g5⟩ := hr.pas i x hx
    have hc := hm' i y hy
    simp only [g1] at hc
    refine ⟨y, hy, fun cs e => ?_, fun sz ty es e => ?_, fun es e => ?_, fun ty cs e => ?_⟩
    · obtain ⟨⟨cs', rfl⟩, h5⟩ := g2 cs e
      cases y with
      | var cs'' => exact ⟨⟨cs'', rfl⟩, (hρs i _ g1).trans h5⟩
      | lst => exact hc.elim
      | mp => exact hc.elim
      | tl => exact hc.elim
    · obtain ⟨es', rfl, h5, h6⟩ := g3 sz ty es e
      have e : y = .lst sz ty es' := hc
      exact ⟨es', e, fun hl => (hρs i _ g1).trans (h5 hl), h6⟩
    · obtain ⟨⟨es', rfl⟩, h5⟩ := g4 es e
      have e : y = .mp es' := hc
      exact ⟨⟨es', e⟩, (hρs i _ g1).trans h5⟩
    · obtain ⟨cs', rfl, h5, h6⟩ := g5 ty cs e
      cases y with
      | tl ty' cs'' =>
        obtain ⟨rfl, hc⟩ := hc
        have h7 := (ConvL.get hc).1
        exact ⟨cs'', rfl, fun hl => (hρs i _ g1).trans (h5 oM), oM⟩
      | lst => exact hc.elim
      | mp => exact hc.elim
      | var => exact hc.elim
theorem Ent.mk {s : AS} {L : List (Nat × TV)} {Lm : List (Nat × Blk)} {nt : Nat} {nd : Bool} (hnt : s.nt = nt) (hnd : (!nd || s.nd || Lm.isEmpty) = true)
  (hm : AllP (fun p : Nat × Blk => ConvB s (Za5 Lm) (s.m p.1) p.2) Lm) (ht : AllP (fun p : Nat × TV => ∃ x, s.t p.1 = some x ∧ Conv s (Za5 Lm) x p.2) L) (hk : s.k = [] := by rfl) : Ent s (mkS L Lm nt nd) :=
 Ent.mkP hk rfl hnt hnd hm ht
section
variable {P : Program}
theorem Zez {w0 w : World} {M0 : Cx} {ρ : Nat → Option (Nat × Nat)} {s : AS} {a : Act} {rv : ResultVar} {r : AV} (hr : RelR w0 M0 ρ s a w) (h : resV s rv = some r) (ht : ∀ ad t, rv = .cell ad t → ∃ l, r = .agg l ∧ AggT P t l.length) :
    ∃ v, (match rv with | .tmp t => (pure (a.tmps.getD t undef) : Sem Value) | .cell ad t => do loadVar t (← asAddr (a.tmps.getD ad undef))).run P w = .ok v w ∧ Rep w (MM M0 ρ s.m) r v := by
  cases rv with
  | tmp t =>
    simp only [resV] at h
    cases hx : s.t t with
    | none => rw [hx] at h; cases h
    | some x =>
      rw [hx] at h
      cases x with
      | v av =>
        simp at h
        subst h
        obtain ⟨v, h1, h2⟩ := hr.tmps t _ hx
        exact ⟨v, by simp [h1], Rep.dn h2⟩
      | _ => cases h
  | cell ad t =>
    obtain ⟨l, rfl, hagg⟩ := ht ad t rfl
    simp only [resV] at h
    cases hx : s.t ad with
    | none => rw [hx] at h; cases h
    | some x =>
      rw [hx] at h
      cases x with
      | ptr i o =>
        cases o with
        | succ o => cases h
        | zero =>
          simp only at h
          cases hm : s.m i with
          | none => rw [hm] at h; cases h
          | some b =>
            rw [hm] at h
            cases b with
            | lst => cases h
            | mp => cases h
            | tl => cases h
            | var cs =>
              simp only at h
              cases hp : Zcx cs with
              | none => rw [hp] at h; cases h
              | some l' =>
                rw [hp] at h
                simp at h
                subst h
                obtain ⟨v, h1, h2⟩ := hr.tmps ad _ hx
                have hst : s.ev (.tmp ad) = some (.ptr i 0) := hx
                have hin : InB s (some ad) := by
                  have := (Array.getElem?_eq_some_iff.1 h1).1
                  rw [hr.nt] at this
                  exact this
                -- as the load of the variable
                have hss := Zdb (dm := false) (P := P) (ops := #[]) (dst := some ad) (ty := 0) (pos := "x") (after := #[]) (g := none) hin hagg hst hm (o := 0) (l := l') (by
                  rw [List.drop_zero, List.take_of_length_le (by rw [(Zdp hp).1]; exact Nat.le_refl _)]; exact hp) rfl
                obtain ⟨-, b, k, h3, h4⟩ := h2
                obtain ⟨b', k', t', row, g1, g2, g3, g4, -⟩ := hr.slots i _ hm
                rw [h3] at g1
                injection g1 with g1
                injection g1 with e1 e2
                subst e1 e2
                obtain ⟨c1, c2⟩ := Zdp hp
                have key : ∀ (j : Nat) c, l'[j]? = some c → c.one = true ∧ ∃ v, row[j]? = some v ∧ Rep w (MM M0 ρ s.m) c v := by
                  intro j c hj
                  obtain ⟨k1, a', k2, rfl⟩ := c2 j c hj
                  obtain ⟨v, k3, -, k4⟩ := g4 j _ k2
                  exact ⟨k1, v, k3, Rep.dn k4⟩
                have hrl : row.toList.length = l'.length := by rw [Array.length_toList, g3, c1]
                have hload := Zd8 (P := P) (w := w) (b := b) (o := 0) hagg row.toList hrl (fun j v hj => by
                  rw [Array.getElem?_toList] at hj
                  rw [Nat.zero_add]
                  simp [World.cell?, g2, hj])
                simp only [Instr.loadAt, Instr.sureAddr, Sem.run_bind, Sem.run_pure, Result.andThen_ok] at hload
                have hv : a.tmps.getD ad undef = v := by simp [h1]
                refine ⟨.agg row, ?_, .agg l' row (by rw [g3, c1]) (fun c hc => ?_) (fun j c u hj hu => ?_)⟩
                · simp only [hv, h4, asAddr, Sem.run_bind, Sem.run_pure, Result.andThen_ok]
                  simpa using hload
                · obtain ⟨j, hj⟩ := List.getElem?_of_mem hc
                  exact (key j c hj).1
                · obtain ⟨-, u', k5, k6⟩ := key j c hj
                  rw [hu] at k5
                  injection k5 with k5
                  subst k5
                  exact k6
      | _ => cases h
def resQ (rs : List ResultVar) (r : AV) : Exit → AS → Prop
 | .normal, s => (resL s rs).map wrapR = some r
 | .ret, s => (resL s rs).map wrapR = some r
 | _, _ => False
theorem Zaz {f : FuncId} {fn : Func} {c : Code} {args : List AV} {r : AV} {rv : ResultVar} (nd : Bool) (hf : P.funcs[f]? = some fn) (hname : (fn.name == "runtime.NumGoroutine") = false) (hb : fn.body = some c) (hres : fn.results = #[rv]) (hn : args.length ≤ fn.ntmps) (hrt : ∀ ad t, rv = .cell ad t → ∃ l, r = .agg l ∧ AggT P t l.length)
    (hT : T dm P c (Zgj args fn.ntmps nd) (resQ [rv] r)) : PCD dm P f args r := by
  refine ⟨⟨fn, hf, hname, by rw [hb]; rfl⟩, fun w M hM vs hvs => ?_⟩
  refine calls_of_wp hf hb (Code.wp_mono (fun x a' w' hx => ?_) (hT w (.of M) (.of hM) _ w (Zfg nd hvs hn)))
  obtain ⟨s', h1, ρ, h2⟩ := hx
  have key : (resL s' [rv]).map wrapR = some r → a'.defers = [] ∧ ∃ v, (results fn a'.tmps).run P w' = .ok v w' ∧ ∃ v', Ending.returned v = .returned v' ∧ Below w.heap.size w w' ∧ Rep w' M r v' := by
    intro h
    have hrv : resV s' rv = some r := by
      simp only [resL] at h
      cases hq : resV s' rv with
      | none => rw [hq] at h; cases h
      | some q => rw [hq] at h; simpa [wrapR] using h
    obtain ⟨v, h3, h4⟩ := Zez (P := P) h2 hrv hrt
    refine ⟨h2.defers, v, ?_, v, rfl, h2.below.to, Rep.mono (Zbn.refl _ _) (fun b _ h => .inl h) h4⟩
    cases rv with
    | tmp t =>
      simp only [results, hres]
      simp at h3 ⊢
      exact h3
    | cell ad t =>
      simp only [results, hres]
      simp at h3 ⊢
      rw [h3]
  cases x with
  | normal => exact key h1
  | ret => exact key h1
  | _ => exact h1.elim
def Zej (a : Act) (rv : ResultVar) : Sem Value := match rv with | .tmp t => pure (a.tmps.getD t undef) | .cell ad t => do loadVar t (← asAddr (a.tmps.getD ad undef))
theorem results2 {fn : Func} {r1 r2 : ResultVar} {a : Act} {w : World} {v1 v2 : Value} (hres : fn.results = #[r1, r2]) (h1 : (Zej a r1).run P w = .ok v1 w) (h2 : (Zej a r2).run P w = .ok v2 w) : (results fn a.tmps).run P w = .ok (.tuple #[v1, v2]) w := by
 have e : results fn a.tmps = (do let vs ← fn.results.mapM (Zej a); pure (if h : vs.size = 1 then vs[0] else .tuple vs)) := rfl
 rw [e, hres]
 simp [h1, h2]
theorem results3 {fn : Func} {r1 r2 r3 : ResultVar} {a : Act} {w : World} {v1 v2 v3 : Value} (hres : fn.results = #[r1, r2, r3]) (h1 : (Zej a r1).run P w = .ok v1 w) (h2 : (Zej a r2).run P w = .ok v2 w) (h3 : (Zej a r3).run P w = .ok v3 w) : (results fn a.tmps).run P w = .ok (.tuple #[v1, v2, v3]) w := by
 have e : results fn a.tmps = (do let vs ← fn.results.mapM (Zej a); pure (if h : vs.size = 1 then vs[0] else .tuple vs)) := rfl
 rw [e, hres]
 simp [h1, h2, h3]
theorem Zfk {s : AS} {rv : ResultVar} {rs : List ResultVar} {l : List AV} (h : resL s (rv :: rs) = some l) : ∃ a q, l = a :: q ∧ resV s rv = some a ∧ resL s rs = some q := by
  simp only [resL] at h
  cases h1 : resV s rv with
  | none => rw [h1] at h; cases h
  | some a =>
    rw [h1] at h
    cases h2 : resL s rs with
    | none => rw [h2] at h; cases h
    | some q => rw [h2] at h; simp at h; exact ⟨a, q, h.symm, rfl, rfl⟩
def Zac (P : Program) (rv : ResultVar) (r : AV) : Prop := ∀ ad t, rv = .cell ad t → ∃ l, r = .agg l ∧ AggT P t l.length
theorem Zac.tmp {t : Tmp} {r : AV} : Zac P (.tmp t) r := fun _ _ h => by cases h
theorem Zac.agg {ad : Tmp} {t : TypeId} {l : List AV} (h : AggT P t l.length) : Zac P (.cell ad t) (.agg l) := fun _ _ e => by cases e; exact ⟨l, rfl, h⟩
theorem pc_body2 {f : FuncId} {fn : Func} {c : Code} {args : List AV} {a1 a2 : AV} {r1 r2 : ResultVar} (nd : Bool) (hf : P.funcs[f]? = some fn) (hname : (fn.name == "runtime.NumGoroutine") = false) (hb : fn.body = some c) (hres : fn.results = #[r1, r2]) (hn : args.length ≤ fn.ntmps) (ht1 : Zac P r1 a1) (ht2 : Zac P r2 a2)
    (hT : T dm P c (Zgj args fn.ntmps nd) (resQ [r1, r2] (.tup [a1, a2]))) : PCD dm P f args (.tup [a1, a2]) := by
  refine ⟨⟨fn, hf, hname, by rw [hb]; rfl⟩, fun w M hM vs hvs => ?_⟩
  refine calls_of_wp hf hb (Code.wp_mono (fun x a' w' hx => ?_) (hT w (.of M) (.of hM) _ w (Zfg nd hvs hn)))
  obtain ⟨s', h1, ρ, h2⟩ := hx
  have key : (resL s' [r1, r2]).map wrapR = some (.tup [a1, a2]) → a'.defers = [] ∧ ∃ v, (results fn a'.tmps).run P w' = .ok v w' ∧ ∃ v', Ending.returned v = .returned v' ∧ Below w.heap.size w w' ∧ Rep w' M (.tup [a1, a2]) v' := by
    intro h
    cases hq : resL s' [r1, r2] with
    | none => rw [hq] at h; cases h
    | some l =>
      rw [hq] at h
      obtain ⟨b1, q1, rfl, g1, g2⟩ := Zfk hq
      obtain ⟨b2, q2, rfl, g3, g4⟩ := Zfk g2
      simp [resL] at g4
      subst g4
      simp [wrapR] at h
      obtain ⟨rfl, rfl⟩ := h
      obtain ⟨v1, k1, k2⟩ := Zez (P := P) h2 g1 ht1
      obtain ⟨v2, k3, k4⟩ := Zez (P := P) h2 g3 ht2
      refine ⟨h2.defers, _, results2 (P := P) (a := a') hres k1 k3, _, rfl, h2.below.to, ?_⟩
      refine .tup _ _ rfl (fun i c v hi hv => ?_)
      rcases i with _ | _ | i
      · simp at hi hv; subst hi hv; exact Rep.mono (Zbn.refl _ _) (fun b _ h => .inl h) k2
      · simp at hi hv; subst hi hv; exact Rep.mono (Zbn.refl _ _) (fun b _ h => .inl h) k4
      · simp at hi
  cases x with
  | normal => exact key h1
  | ret => exact key h1
  | _ => exact h1.elim
theorem pc_body3 {f : FuncId} {fn : Func} {c : Code} {args : List AV} {a1 a2 a3 : AV} {r1 r2 r3 : ResultVar} (nd : Bool) (hf : P.funcs[f]? = some fn) (hname : (fn.name == "runtime.NumGoroutine") = false) (hb : fn.body = some c) (hres : fn.results = #[r1, r2, r3]) (hn : args.length ≤ fn.ntmps) (ht1 : Zac P r1 a1) (ht2 : Zac P r2 a2) (ht3 : Zac P r3 a3)
    (hT : T dm P c (Zgj args fn.ntmps nd) (resQ [r1, r2, r3] (.tup [a1, a2, a3]))) : PCD dm P f args (.tup [a1, a2, a3]) := by
  refine ⟨⟨fn, hf, hname, by rw [hb]; rfl⟩, fun w M hM vs hvs => ?_⟩
  refine calls_of_wp hf hb (Code.wp_mono (fun x a' w' hx => ?_) (hT w (.of M) (.of hM) _ w (Zfg nd hvs hn)))
  obtain ⟨s', h1, ρ, h2⟩ := hx
  have key : (resL s' [r1, r2, r3]).map wrapR = some (.tup [a1, a2, a3]) → a'.defers = [] ∧ ∃ v, (results fn a'.tmps).run P w' = .ok v w' ∧ ∃ v', Ending.returned v = .returned v' ∧ Below w.heap.size w w' ∧ Rep w' M (.tup [a1, a2, a3]) v' := by
    intro h
    cases hq : resL s' [r1, r2, r3] with
    | none => rw [hq] at h; cases h
    | some l =>
      rw [hq] at h
      obtain ⟨b1, q1, rfl, g1, g2⟩ := Zfk hq
      obtain ⟨b2, q2, rfl, g3, g4⟩ := Zfk g2
      obtain ⟨b3, q3, rfl, g5, g6⟩ := Zfk g4
      simp [resL] at g6
      subst g6
      simp [wrapR] at h
      obtain ⟨rfl, rfl, rfl⟩ := h
      obtain ⟨v1, k1, k2⟩ := Zez (P := P) h2 g1 ht1
      obtain ⟨v2, k3, k4⟩ := Zez (P := P) h2 g3 ht2
      obtain ⟨v3, k5, k6⟩ := Zez (P := P) h2 g5 ht3
      refine ⟨h2.defers, _, results3 (P := P) (a := a') hres k1 k3 k5, _, rfl, h2.below.to, ?_⟩
      refine .tup _ _ rfl (fun i c v hi hv => ?_)
      rcases i with _ | _ | _ | i
      · simp at hi hv; subst hi hv; exact Rep.mono (Zbn.refl _ _) (fun b _ h => .inl h) k2
      · simp at hi hv; subst hi hv; exact Rep.mono (Zbn.refl _ _) (fun b _ h => .inl h) k4
      · simp at hi hv; subst hi hv; exact Rep.mono (Zbn.refl _ _) (fun b _ h => .inl h) k6
      · simp at hi
  cases x with
  | normal => exact key h1
  | ret => exact key h1
  | _ => exact h1.elim
end
end Ab
namespace Ab
variable {dm : Bool}
open Go Go.RowKit
section
variable {P : Program} {l : List Oper} {x : Nat → TV} {e : Nat → Eff} {s : AS}
def runD (l : List Oper) (x : Nat → TV) (e : Nat → Eff) (D : Nat → Bool) (s : AS) : Nat → AS
  | 0 => s
  | k + 1 => match l[k]? with
    | some o => bif D k then (runD l x e D s k).act o.dst (x k) (e k) else runD l x e D s k
    | none => runD l x e D s k
def allD : Nat → Bool := fun _ => true
theorem Zbe {D : Nat → Bool} {k : Nat} {o : Oper} (ho : l[k]? = some o) (hd : D k = true) : runD l x e D s (k + 1) = (runD l x e D s k).act o.dst (x k) (e k) := by simp [runD, ho, hd]
theorem Zby {D : Nat → Bool} {k : Nat} (hd : D k = false) : runD l x e D s (k + 1) = runD l x e D s k := by
 simp only [runD]
 cases l[k]? <;> simp [hd]
theorem runD_nt {D : Nat → Bool} : ∀ k, (runD l x e D s k).nt = s.nt ∧ (runD l x e D s k).nd = s.nd
  | 0 => ⟨rfl, rfl⟩
  | k + 1 => by
    have ih := runD_nt (D := D) k
    simp only [runD]
    cases l[k]? with
    | none => exact ih
    | some o => cases D k <;> exact ih
theorem runD_shift {o : Oper} {l : List Oper} {x : Nat → TV} {e : Nat → Eff} {y : TV} {f : Eff} : ∀ k, runD (o :: l) (fun j => match j with | 0 => y | j + 1 => x j) (fun j => match j with | 0 => f | j + 1 => e j) allD s (k + 1) = runD l x e allD (s.act o.dst y f) k
  | 0 => by simp [runD, allD]
  | k + 1 => by
    have ih := runD_shift (o := o) (l := l) (x := x) (e := e) (y := y) (f := f) k
    cases h : l[k]? with
    | none =>
      have h1 : (o :: l)[k + 1]? = none := by simpa using h
      rw [runD, h1, ih, runD, h]
    | some q =>
      have h1 : (o :: l)[k + 1]? = some q := by simpa using h
      rw [runD, h1, ih, runD, h]
      rfl
theorem evL_data {ops : Array Oper} {K : AS → Prop} : ∀ (l : List Oper) (s : AS), EvX dm false P ops l s K → ∃ (x : Nat → TV) (e : Nat → Eff), (∀ j o, l[j]? = some o → StepG dm P ops o (runD l x e allD s j) (x j) (e j)) ∧ K (runD l x e allD s l.length)
  | [], s, h => ⟨fun _ => .v (.tup []), fun _ => .none, fun j o h => by simp at h, h⟩
  | o :: l, s, h => by
    obtain ⟨y, f, h1, h2⟩ | ⟨h, -⟩ := h
    rotate_left
    · cases h
    obtain ⟨x, e, h3, h4⟩ := evL_data l _ h2
    refine ⟨fun j => match j with | 0 => y | j + 1 => x j, fun j => match j with | 0 => f | j + 1 => e j, fun j q hj => ?_, ?_⟩
    · rcases j with _ | j
      · simp at hj; subst hj; exact h1
      · rw [runD_shift]
        exact h3 j q (by simpa using hj)
    · rw [List.length_cons, runD_shift]; exact h4
theorem newB_mem {o : Op} (h : newB o = true) : memB o = true := by cases o <;> first | rfl | cases h
theorem effB_mem {o : Op} (h : effB o = true) : memB o = true := by cases o <;> first | rfl | cases h
def slotB (s : AS) (l : List Oper) (o : Op) : Option Nat := match adOf o with
  | some (.tmp a) => (match s.t a with
    | some (.ptr k _) => bif l.all fun r => !(r.dst == some a) then some k else none
    | _ => none)
  | _ => none
def farB (s : AS) (l : List Oper) (p q : Op) : Bool := match slotB s l p, slotB s l q with
 | some i, some j => !Nat.beq i j
 | _, _ => false
def noGrow (l : List Oper) : Bool := l.all fun o => !effB o.op || keepB o.op
def okX (l : List Oper) (p q : Op) : Bool := idxB q && (keepB p && noGrow l)
def indep (s : AS) (l : List Oper) (p q : Oper) : Bool := p.apart l.toArray q && !(effB p.op && Zgn q.op && !farB s l p.op q.op && !okX l p.op q.op) && !(Zgn p.op && effB q.op && !farB s l p.op q.op && !okX l q.op p.op) && !(newB p.op && Zgn q.op && !stB q.op)
def bit (A : Array Nat) (j i : Nat) : Bool := (A.getD j 0).testBit i
def okR (s : AS) (l : List Oper) (A : Array Nat) : Bool :=
  (List.range l.length).all fun j => match l[j]? with
    | none => true
    | some o => (o.after.all fun ed => !Region.binds .any ed || Nat.blt ed.on j) &&
      (List.range j).all fun i => match l[i]? with
        | none => true
        | some p => bif bit A j i then o.after.any (fun ed => Region.binds .any ed && (ed.on == i || (Nat.blt i ed.on && bit A ed.on i))) else indep s l p o
structure Far (l : List Oper) (x : Nat → TV) (e : Nat → Eff) (s : AS) (i j : Nat) (p q : Op) : Prop where
 sp : stB p = true
 sq : stB q = true
 ne : ∀ y y' id id', adOf p = some y → adOf q = some y' → RefTV ((runD l x e allD s i).ev y) id → RefTV ((runD l x e allD s j).ev y') id' → id ≠ id'
structure Ind (l : List Oper) (x : Nat → TV) (e : Nat → Eff) (s : AS) (i j : Nat) (p q : Oper) : Prop where
 ap : p.apart l.toArray q = true
 es : effB p.op = true → Zgn q.op = true → quietB (runD l x e allD s j) q.op = false → okX l p.op q.op = false → Far l x e s i j p.op q.op
 se : Zgn p.op = true → quietB (runD l x e allD s i) p.op = false → effB q.op = true → okX l q.op p.op = false → Far l x e s i j p.op q.op
 nw : newB p.op = true → Zgn q.op = true → quietB (runD l x e allD s j) q.op = false → stB q.op = true
structure OkS (l : List Oper) (x : Nat → TV) (e : Nat → Eff) (s : AS) (A : Array Nat) : Prop where
 edge : ∀ j o, l[j]? = some o → ∀ ed, ed ∈ o.after → Region.binds .any ed = true → ed.on < j
 anc : ∀ j o i p, l[j]? = some o → l[i]? = some p → i < j → bit A j i = true → ∃ ed, ed ∈ o.after ∧ Region.binds .any ed = true ∧ (ed.on = i ∨ (i < ed.on ∧ bit A ed.on i = true))
 ind : ∀ j o i p, l[j]? = some o → l[i]? = some p → i < j → bit A j i = false → Ind l x e s i j p o
structure OkR (s : AS) (l : List Oper) (A : Array Nat) : Prop where
 edge : ∀ j o, l[j]? = some o → ∀ ed, ed ∈ o.after → Region.binds .any ed = true → ed.on < j
 anc : ∀ j o i p, l[j]? = some o → l[i]? = some p → i < j → bit A j i = true → ∃ ed, ed ∈ o.after ∧ Region.binds .any ed = true ∧ (ed.on = i ∨ (i < ed.on ∧ bit A ed.on i = true))
 ind : ∀ j o i p, l[j]? = some o → l[i]? = some p → i < j → bit A j i = false → indep s l p o = true
theorem okR_spec {s : AS} {A : Array Nat} (h : okR s l A = true) : OkR s l A := by
 simp only [okR, List.all_eq_true, List.mem_range] at h
 have key : ∀ j o, l[j]? = some o → _ := fun j o ho => h j (List.getElem?_eq_some_iff.1 ho).1
 refine ⟨fun j o ho ed hed hb => ?_, fun j o i p ho hi hij hb => ?_, fun j o i p ho hi hij hb => ?_⟩
 ·have := key j o ho
  rw [ho] at this
  simp only [Bool.and_eq_true, List.all_eq_true, List.mem_range, Array.all_eq_true_iff_forall_mem] at this
  have h1 := this.1 ed hed
  rw [hb] at h1
  simp at h1
  exact h1
 ·have := key j o ho
  rw [ho] at this
  simp only [Bool.and_eq_true, List.all_eq_true, List.mem_range] at this
  have h1 := this.2 i hij
  rw [hi] at h1
  simp only [hb, cond_true] at h1
  obtain ⟨ed, h2, h3⟩ := Array.any_eq_true'.1 h1
  simp only [Bool.and_eq_true, Bool.or_eq_true, beq_iff_eq] at h3
  exact ⟨ed, h2, h3.1, h3.2.imp id fun h => ⟨by simpa using h.1, h.2⟩⟩
 ·have := key j o ho
  rw [ho] at this
  simp only [Bool.and_eq_true, List.all_eq_true, List.mem_range] at this
  have h1 := this.2 i hij
  rw [hi] at h1
  simpa only [hb, cond_false] using h1
def Closed (l : List Oper) (D : Nat → Bool) : Prop := ∀ j o, l[j]? = some o → D j = true → ∀ ed, ed ∈ o.after → Region.binds .any ed = true → D ed.on = true
theorem anc_in {s : AS} {A : Array Nat} (hA : OkS l x e s A) {D : Nat → Bool} (hD : Closed l D) : ∀ j o, l[j]? = some o → (∀ ed, ed ∈ o.after → Region.binds .any ed = true → D ed.on = true) → ∀ i p, l[i]? = some p → i < j → bit A j i = true → D i = true := by
  intro j
  induction j using Nat.strongRecOn with
  | _ j ih =>
    intro o ho ha i p hi hij hb
    obtain ⟨ed, h1, h2, h3⟩ := hA.anc j o i p ho hi hij hb
    have h4 := ha ed h1 h2
    rcases h3 with rfl | ⟨hi2, h3⟩
    · exact h4
    · have hlt := hA.edge j o ho ed h1 h2
      have hjl := (List.getElem?_eq_some_iff.1 ho).1
      have he : ed.on < l.length := oM
      exact ih ed.on hlt l[ed.on] (by simp [he]) (fun ed' h5 h6 => hD ed.on l[ed.on] (by simp [he]) h4 ed' h5 h6) i p hi hi2 h3
theorem indep_spec {s : AS} {l : List Oper} {p q : Oper} (h : indep s l p q = true) : p.apart l.toArray q = true ∧ (effB p.op = true → Zgn q.op = true → okX l p.op q.op = false → farB s l p.op q.op = true) ∧ (Zgn p.op = true → effB q.op = true → okX l q.op p.op = false → farB s l p.op q.op = true) ∧ (newB p.op = true → Zgn q.op = true → stB q.op = true) := by
 simp only [indep, Bool.and_eq_true, Bool.not_eq_true'] at h
 obtain ⟨⟨⟨h1, h2⟩, h3⟩, h4⟩ := h
 refine ⟨h1, fun a b c => ?_, fun a b c => ?_, fun a b => ?_⟩
 ·simpa [a, b, c] using h2
 ·simpa [a, b, c] using h3
 ·simpa [a, b] using h4
theorem slotB_spec {s : AS} {l : List Oper} {o : Op} {i : Nat} (h : slotB s l o = some i) : ∃ a off, adOf o = some (.tmp a) ∧ s.t a = some (.ptr i off) ∧ ∀ r, r ∈ l → r.dst ≠ some a := by
  unfold slotB at h
  cases ha : adOf o with
  | none => rw [ha] at h; cases h
  | some y =>
    rw [ha] at h
    cases y with
    | tmp a =>
      simp only at h
      cases ht : s.t a with
      | none => rw [ht] at h; cases h
      | some v =>
        rw [ht] at h
        cases v with
        | ptr k off =>
          simp only at h
          cases hl : l.all fun r => !(r.dst == some a) with
          | false => rw [hl] at h; cases h
          | true =>
            rw [hl] at h
            injection h with h
            subst h
            refine ⟨a, off, rfl, ht, fun r hr e => ?_⟩
            have := List.all_eq_true.1 hl r hr
            rw [e] at this
            simp at this
        | _ => cases h
    | _ => cases h
theorem farB_spec {s : AS} {l : List Oper} {p q : Op} (h : farB s l p q = true) : ∃ i j, i ≠ j ∧ slotB s l p = some i ∧ slotB s l q = some j := by
  unfold farB at h
  cases hp : slotB s l p with
  | none => rw [hp] at h; cases h
  | some i =>
    cases hq : slotB s l q with
    | none => rw [hp, hq] at h; cases h
    | some j =>
      rw [hp, hq] at h
      refine ⟨i, j, fun e => ?_, rfl, rfl⟩
      subst e
      simp at h
theorem farB_st {s : AS} {l : List Oper} {p q : Op} (h : farB s l p q = true) : stB p = true ∧ stB q = true := by
 obtain ⟨i, j, -, h1, h2⟩ := farB_spec h
 obtain ⟨a, -, h3, -⟩ := slotB_spec h1
 obtain ⟨b, -, h4, -⟩ := slotB_spec h2
 exact ⟨by unfold stB; rw [h3]; rfl, by unfold stB; rw [h4]; rfl⟩
theorem slot_ref {x : Nat → TV} {e : Nat → Eff} {s : AS} {D : Nat → Bool} {k i id : Nat} {o : Op} {y : Operand} (h : slotB s l o = some i) (ha : adOf o = some y) (hr : RefTV ((runD l x e D s k).ev y) id) : i = id := by
  obtain ⟨a, off, h1, h2, h3⟩ := slotB_spec h
  rw [ha] at h1
  injection h1 with h1
  subst h1
  have key : ∀ k, (runD l x e D s k).t a = s.t a := by
    intro k
    induction k with
    | zero => rfl
    | succ k ih =>
      cases ho : l[k]? with
      | none => rw [show runD l x e D s (k + 1) = runD l x e D s k by simp [runD, ho]]; exact ih
      | some p =>
        cases hd : D k with
        | false => rw [Zby hd]; exact ih
        | true =>
          rw [Zbe ho hd]
          show updo _ _ _ a = _
          rw [← ih]
          cases hp : p.dst with
          | none => rfl
          | some d =>
            have hne : d ≠ a := fun e => h3 p (List.mem_of_getElem? ho) (by rw [hp, e])
            exact Zav _ _ hne
  have hr : RefTV ((runD l x e D s k).t a) id := hr
  rw [key k, h2] at hr
  exact hr
theorem effB_sees {o : Op} (h : effB o = true) : Zgn o = true := by cases o <;> first | rfl | cases h
theorem updo_other {f : Nat → Option TV} {d : Option Tmp} {y : TV} {t : Nat} (h : d ≠ some t) : updo f d y t = f t := by
 cases d with
 | none => rfl
 | some d => exact Zav _ _ (fun e => h (by rw [e]))
theorem effB_quiet {s : AS} {o : Op} (h : effB o = true) : quietB s o = false := by
 cases o <;> first | rfl | cases h | skip
 rename_i c
 obtain ⟨c, z, t⟩ := c
 cases c <;> first | rfl | cases h | skip
 rename_i b
 cases b <;> first | rfl | cases h
theorem effB_idx {o : Op} (h : effB o = true) : idxB o = false := by
 cases o <;> first | rfl | cases h | skip
 rename_i c
 obtain ⟨c, z, t⟩ := c
 cases c <;> first | rfl | cases h | skip
 rename_i b
 cases b <;> first | rfl | cases h
theorem stB_call {c : Call} (h : stB (.call c) = true) : c.callee = .builtin .append := by
 obtain ⟨cal, zs, ts⟩ := c
 cases cal with
 | builtin b => cases b <;> first | rfl | cases h
 | _ => cases h
theorem stB_idx {o : Op} (h : stB o = true) : idxB o = false := by
 cases o <;> first | rfl | (cases h; done) | skip
 rename_i c
 have hc := stB_call h
 obtain ⟨cal, zs, ts⟩ := c
 simp only at hc
 subst hc
 rfl
theorem adOf_mem {o : Op} {y : Operand} (h : adOf o = some y) : y ∈ o.operands := by
 unfold adOf at h
 split at h
 ·injection h with h; subst h; simp [Op.operands]
 ·injection h with h; subst h; simp [Op.operands]
 ·have := List.mem_of_head? h
  simp [Op.operands, Call.operands]
  simpa using this
 ·cases h
theorem idxB_sees {o : Op} (h : idxB o = true) : Zgn o = true := by
 cases o <;> first | rfl | cases h
theorem okX_idx {l : List Oper} {p q : Op} (h : idxB q = false) : okX l p q = false := by unfold okX; rw [h]; rfl
theorem stB_quiet {s : AS} {o : Op} (h : stB o = true) : quietB s o = false := by
 cases o <;> first | rfl | (cases h; done) | skip
 rename_i c
 have hc := stB_call h
 obtain ⟨cal, zs, ts⟩ := c
 simp only at hc
 subst hc
 rfl
theorem OkR.sem {A : Array Nat} (h : OkR s l A) (x : Nat → TV) (e : Nat → Eff) : OkS l x e s A := by
 refine ⟨h.edge, h.anc, fun j o i p ho hp hij hb => ?_⟩
 obtain ⟨g1, g2, g3, g4⟩ := indep_spec (h.ind j o i p ho hp hij hb)
 have far : farB s l p.op o.op = true → Far l x e s i j p.op o.op := fun hf => by
  obtain ⟨i1, i2, hne, s1, s2⟩ := farB_spec hf
  refine ⟨(farB_st hf).1, (farB_st hf).2, fun y y' id id' ha hb hr hr' he => hne ?_⟩
  rw [slot_ref s1 ha hr, slot_ref s2 hb hr', he]
 exact ⟨g1, fun a b _ c => far (g2 a b c), fun a _ b c => far (g3 a b c), fun a b _ => g4 a b⟩
def Zf6 : Eff → Nat → Prop
 | .none, _ => False
 | .new i _, j => i = j
 | .set i _, j => i = j
theorem mact_at {m m' : Nat → Option Blk} {f : Eff} {id : Nat} (h : m id = m' id) : mact m f id = mact m' f id := by
 cases f with
 | none => exact h
 | new k b => by_cases hk : k = id; (subst hk; simp [mact, Zat]); (simp only [mact]; rw [Zav _ _ hk, Zav _ _ hk]; exact h)
 | set k b => by_cases hk : k = id; (subst hk; simp [mact, Zat]); (simp only [mact]; rw [Zav _ _ hk, Zav _ _ hk]; exact h)
theorem Zep {m : Nat → Option Blk} {f : Eff} {id : Nat} (h : ¬ Zf6 f id) : mact m f id = m id := by
 cases f with
 | none => rfl
 | new k b => simp only [mact]; exact Zav _ _ h
 | set k b => simp only [mact]; exact Zav _ _ h
theorem mact_comm {m : Nat → Option Blk} {f f' : Eff} (h : ∀ id, Zf6 f id → Zf6 f' id → False) : mact (mact m f) f' = mact (mact m f') f := by
 funext id
 by_cases h1 : Zf6 f id
 ·have h2 : ¬ Zf6 f' id := fun h2 => h id h1 h2
  rw [Zep h2]
  exact mact_at (Zep h2).symm
 ·rw [Zep h1]
  exact mact_at (Zep h1)
theorem act_comm {s : AS} {d d' : Option Tmp} {y y' : TV} {f f' : Eff} (hd : ∀ t, d = some t → d' ≠ some t) (hf : ∀ id, Zf6 f id → Zf6 f' id → False) : (s.act d y f).act d' y' f' = (s.act d' y' f').act d y f := by
  unfold AS.act
  congr 1
  · cases d with
    | none => rfl
    | some t =>
      cases d' with
      | none => rfl
      | some t' => exact upd_comm _ _ _ (fun e => hd t rfl (by rw [e]))
  · exact mact_comm hf
structure Walk (dm : Bool) (P : Program) (l : List Oper) (x : Nat → TV) (e : Nat → Eff) (s : AS) (A : Array Nat) : Prop where
 step : ∀ j o, l[j]? = some o → StepG dm P l.toArray o (runD l x e allD s j) (x j) (e j)
 ok : OkS l x e s A
theorem Walk.effs {A : Array Nat} (h : Walk dm P l x e s A) {j : Nat} {o : Oper} (ho : l[j]? = some o) : (memB o.op = false → e j = .none) ∧ (effB o.op = false → ∀ id b, e j ≠ .set id b) ∧ (newB o.op = false → ∀ id b, e j ≠ .new id b) := by
 obtain ⟨h1, h2⟩ := Za0 (h.step j o ho)
 refine ⟨fun hm => ?_, fun hm id b he => ?_, fun hm id b he => ?_⟩
 ·cases he : e j with
  | none => rfl
  | new id b => have := newB_mem (h1 id b he).1; rw [hm] at this; cases this
  | set id b => have := effB_mem (h2 id b he).1; rw [hm] at this; cases this
 ·rw [(h2 id b he).1] at hm; cases hm
 ·rw [(h1 id b he).1] at hm; cases hm
theorem mact_some {m : Nat → Option Blk} {f : Eff} {id : Nat} (h : (m id).isSome = true) : (mact m f id).isSome = true := by
 cases f with
 | none => exact h
 | new k b => by_cases hk : k = id; (subst hk; simp [mact, Zat]); (simp only [mact]; rw [Zav _ _ hk]; exact h)
 | set k b => by_cases hk : k = id; (subst hk; simp [mact, Zat]); (simp only [mact]; rw [Zav _ _ hk]; exact h)
theorem Zen {D : Nat → Bool} {id : Nat} {i : Nat} : ∀ k, i ≤ k → ((runD l x e D s i).m id).isSome = true → ((runD l x e D s k).m id).isSome = true
  | 0, h, h1 => by obtain rfl : i = 0 := oM
                   exact h1
  | k + 1, h, h1 => by
    by_cases hk : i = k + 1
    · subst hk; exact h1
    · have ih := Zen (D := D) k oM h1
      simp only [runD]
      cases l[k]? with
      | none => exact ih
      | some o =>
        cases D k with
        | false => exact ih
        | true => exact mact_some ih
theorem Zfw {D : Nat → Bool} {id : Nat} : ∀ k, ((runD l x e D s k).m id).isSome = true → (s.m id).isSome = true ∨ ∃ q, q < k ∧ D q = true ∧ (∃ o, l[q]? = some o) ∧ ∃ b, e q = .new id b ∨ e q = .set id b
  | 0, h => .inl h
  | k + 1, h => by
    cases ho : l[k]? with
    | none =>
      rw [show runD l x e D s (k + 1) = runD l x e D s k by simp [runD, ho]] at h
      exact (Zfw k h).imp (fun h => h) fun ⟨q, h1, h2⟩ => ⟨q, oM, h2⟩
    | some o =>
      cases hd : D k with
      | false =>
        rw [Zby hd] at h
        exact (Zfw k h).imp (fun h => h) fun ⟨q, h1, h2⟩ => ⟨q, oM, h2⟩
      | true =>
        rw [Zbe ho hd] at h
        have h : (mact (runD l x e D s k).m (e k) id).isSome = true := h
        cases hek : e k with
        | none => rw [hek] at h; exact (Zfw k h).imp (fun h => h) fun ⟨q, h1, h2⟩ => ⟨q, oM, h2⟩
        | new id' b =>
          by_cases hi : id' = id
          · subst hi; exact .inr ⟨k, oM, hd, ⟨o, ho⟩, b, .inl hek⟩
          · rw [hek] at h
            simp only [mact] at h
            rw [Zav _ _ hi] at h
            exact (Zfw k h).imp (fun h => h) fun ⟨q, h1, h2⟩ => ⟨q, oM, h2⟩
        | set id' b =>
          by_cases hi : id' = id
          · subst hi; exact .inr ⟨k, oM, hd, ⟨o, ho⟩, b, .inr hek⟩
          · rw [hek] at h
            simp only [mact] at h
            rw [Zav _ _ hi] at h
            exact (Zfw k h).imp (fun h => h) fun ⟨q, h1, h2⟩ => ⟨q, oM, h2⟩
theorem Walk.touch {A : Array Nat} (_h : Walk dm P l x e s A) {q : Nat} {o : Oper} (hq : l[q]? = some o) {id : Nat} {b : Blk} (he : e q = .new id b ∨ e q = .set id b) {k : Nat} (hk : q < k) : ((runD l x e allD s k).m id).isSome = true := by
 refine Zen k hk ?_
 rw [Zbe hq rfl]
 show (mact _ _ id).isSome = true
 rcases he with he | he <;> (rw [he]; simp [mact, Zat])
theorem Walk.news {A : Array Nat} (h : Walk dm P l x e s A) {i j : Nat} {o p : Oper} (ho : l[i]? = some o) (hp : l[j]? = some p) {id : Nat} {b b' : Blk} (hi : e i = .new id b) (hj : e j = .new id b') : i = j := by
 rcases Nat.lt_trichotomy i j with hlt | heq | hlt
 ·have h1 := h.touch ho (.inl hi) hlt
  rw [((Za0 (h.step j p hp)).1 id b' hj).2] at h1
  cases h1
 ·exact heq
 ·have h1 := h.touch hp (.inl hj) hlt
  rw [((Za0 (h.step i o ho)).1 id b hi).2] at h1
  cases h1
theorem Walk.first {A : Array Nat} (h : Walk dm P l x e s A) {i : Nat} {o : Oper} (ho : l[i]? = some o) {id : Nat} {b : Blk} (hi : e i = .new id b) : (s.m id).isSome = true → False := fun h1 => by
 have := Zen (l := l) (x := x) (e := e) (s := s) (D := allD) (id := id) (i := 0) i (Nat.zero_le _) h1
 rw [((Za0 (h.step i o ho)).1 id b hi).2] at this
 cases this
def JD (l : List Oper) (e : Nat → Eff) (s : AS) (D : Nat → Bool) : Prop := ∀ k o id b, l[k]? = some o → D k = true → e k = .set id b → (s.m id).isSome = true ∨ ∃ j b', D j = true ∧ (∃ p, l[j]? = some p) ∧ e j = .new id b'
theorem dom_new {D : Nat → Bool} (hJ : JD l e s D) {id k : Nat} (h1 : ((runD l x e D s k).m id).isSome = true) : (s.m id).isSome = true ∨ ∃ j b', D j = true ∧ (∃ p, l[j]? = some p) ∧ e j = .new id b' := by
 rcases Zfw (l := l) (x := x) (e := e) (s := s) (D := D) (id := id) k h1 with h1 | ⟨q, -, h2, ⟨p, hp⟩, c, h3 | h3⟩
 ·exact .inl h1
 ·exact .inr ⟨q, c, h2, ⟨p, hp⟩, h3⟩
 ·exact hJ q p id c hp h2 h3
theorem Walk.fresh {A : Array Nat} (h : Walk dm P l x e s A) {D : Nat → Bool} (hJ : JD l e s D) {i : Nat} {o : Oper} (ho : l[i]? = some o) (hi : D i = false) {id : Nat} {b : Blk} (he : e i = .new id b) {k : Nat} : (runD l x e D s k).m id = none := by
  cases hs : (runD l x e D s k).m id with
  | none => rfl
  | some c =>
    exfalso
    rcases dom_new (x := x) (k := k) (id := id) hJ (by rw [hs]; rfl) with h1 | ⟨j, b', h2, ⟨p, hp⟩, h3⟩
    · exact h.first ho he h1
    · have := h.news ho hp he h3
      subst this
      rw [hi] at h2
      cases h2
theorem Walk.agree {A : Array Nat} (h : Walk dm P l x e s A) {D : Nat → Bool} (hD : Closed l D) {i : Nat} {o : Oper} (ho : l[i]? = some o) (hi : D i = false) (ha : ∀ ed, ed ∈ o.after → Region.binds .any ed = true → D ed.on = true)
    (hJ : JD l e s D) (hR : ∀ t id, RefTV ((runD l x e D s l.length).t t) id → ((runD l x e D s l.length).m id).isSome = true) :
    Agree l.toArray o (runD l x e allD s i) (runD l x e D s l.length) := by
  have before : ∀ k p, l[k]? = some p → k < i → D k = false → Ind l x e s k i p o := fun k p hp hk hd => by
    refine h.ok.ind i o k p ho hp hk ?_
    cases hb : bit A i k with
    | false => rfl
    | true => rw [anc_in h.ok hD i o ho ha k p hp hk hb] at hd; cases hd
  have behind : ∀ k p, l[k]? = some p → i < k → D k = true → Ind l x e s i k o p := fun k p hp hk hd => by
    refine h.ok.ind k p i o hp ho hk ?_
    cases hb : bit A k i with
    | false => rfl
    | true => rw [anc_in h.ok hD k p hp (hD k p hp hd) i o ho hk hb] at hi; cases hi
  have hil := (List.getElem?_eq_some_iff.1 ho).1
  have tpart : ∀ t, t ∈ o.looksAt l.toArray → (runD l x e D s l.length).t t = (runD l x e allD s i).t t := by
    intro t ht
    have h1 : ∀ k, k ≤ i → (runD l x e D s k).t t = (runD l x e allD s k).t t := by
      intro k
      induction k with
      | zero => intro _; rfl
      | succ k ih =>
        intro hk
        have ih := ih oM
        have hp : l[k]? = some l[k] := by simp
        rw [Zbe (D := allD) hp rfl]
        cases hd : D k with
        | true =>
          rw [Zbe hp hd]
          show updo _ _ _ t = updo _ _ _ t
          cases hds : (l[k]).dst with
          | none => exact ih
          | some d =>
            by_cases hdt : d = t
            · subst hdt; simp only [updo]; rw [Zat, Zat]
            · simp only [updo]; rw [Zav _ _ hdt, Zav _ _ hdt]; exact ih
        | false =>
          rw [Zby hd]
          show _ = updo _ _ _ t
          have := (Oper.apart_spec (before k _ hp oM hd).ap).1
          rw [updo_other (fun e => this t e ht)]
          exact ih
    have h2 : ∀ k, i ≤ k → k ≤ l.length → (runD l x e D s k).t t = (runD l x e D s i).t t := by
      intro k
      induction k with
      | zero => intro h _; obtain rfl : i = 0 := oM
                rfl
      | succ k ih =>
        intro h3 h4
        by_cases hk : i = k + 1
        · rw [hk]
        · have ih := ih oM oM
          have hp : l[k]? = some l[k] := by simp
          cases hd : D k with
          | false => rw [Zby hd]; exact ih
          | true =>
            have hik : i < k := by
              rcases Nat.lt_or_eq_of_le (show i ≤ k by omega) with h | h
              · exact h
              · rw [← h, hi] at hd; cases hd
            rw [Zbe hp hd]
            show updo _ _ _ t = _
            have := (Oper.apart_spec (behind k _ hp hik hd).ap).2.2
            rw [updo_other (fun e => this t e ht)]
            exact ih
    rw [h2 _ oM (Nat.le_refl _), h1 i (Nat.le_refl _)]
  refine ⟨tpart, (runD_nt _).1.trans (runD_nt _).1.symm, (runD_nt _).2.trans (runD_nt _).2.symm, fun hm hst hix hqt id b hb => ?_, fun hix hqt id b hb => ?_, fun y hop id href b hb => ?_⟩
  · have h1 : ∀ k, k ≤ i → (runD l x e D s k).m = (runD l x e allD s k).m := by
      intro k
      induction k with
      | zero => intro _; rfl
      | succ k ih =>
        intro hk
        have ih := ih oM
        have hp : l[k]? = some l[k] := by simp
        rw [Zbe (D := allD) hp rfl]
        cases hd : D k with
        | true =>
          rw [Zbe hp hd]
          show mact _ _ = mact _ _
          rw [ih]
        | false =>
          rw [Zby hd]
          show _ = mact _ _
          have hI := before k _ hp oM hd
          have g1 := hI.es
          have g2 := hI.nw
          have he := h.effs hp
          have g1' : effB (l[k]).op = false := by
            cases hh : effB (l[k]).op with
            | false => rfl
            | true => rw [(g1 hh hm hqt (okX_idx hix)).sq] at hst; cases hst
          have g2' : newB (l[k]).op = false := by
            cases hh : newB (l[k]).op with
            | false => rfl
            | true => rw [g2 hh hm hqt] at hst; cases hst
          cases hek : e k with
          | none => exact ih
          | new id b => exact absurd hek (he.2.2 g2' id b)
          | set id b => exact absurd hek (he.2.1 g1' id b)
    have h2 : ∀ k, i ≤ k → k ≤ l.length → (runD l x e D s k).m id = some b := by
      intro k
      induction k with
      | zero => intro h3 _; obtain rfl : i = 0 := oM
                exact hb
      | succ k ih =>
        intro h3 h4
        by_cases hk : i = k + 1
        · subst hk; rw [h1 _ (Nat.le_refl _)]; exact hb
        · have ih := ih oM oM
          have hp : l[k]? = some l[k] := by simp
          cases hd : D k with
          | false => rw [Zby hd]; exact ih
          | true =>
            have hik : i < k := by
              rcases Nat.lt_or_eq_of_le (show i ≤ k by omega) with h | h
              · exact h
              · rw [← h, hi] at hd; cases hd
            rw [Zbe hp hd]
            show mact _ _ id = _
            have g1 := (behind k _ hp hik hd).se
            have he := h.effs hp
            cases hek : e k with
            | none => exact ih
            | set id' b' =>
              exfalso
              have he2 := ((Za0 (h.step k _ hp)).2 id' b' hek).1
              rw [(g1 hm hqt he2 (okX_idx hix)).sp] at hst
              cases hst
            | new id' b' =>
              have hn := ((Za0 (h.step k _ hp)).1 id' b' hek).2
              have hsome := Zen (l := l) (x := x) (e := e) (s := s) (D := allD) (id := id) (i := i) k oM (by rw [hb]; rfl)
              have hne : id' ≠ id := by rintro rfl; rw [hn] at hsome; cases hsome
              show upd _ id' b' id = _
              rw [Zav _ _ hne]
              exact ih
    exact h2 _ oM (Nat.le_refl _)
  · have heo : Zgn o.op = true := idxB_sees hix
    have hnst : stB o.op = false := by
      cases hh : stB o.op with
      | false => rfl
      | true => rw [stB_idx hh] at hix; cases hix
    have flag : ∀ {p : Op}, effB p = true → (okX l p o.op = false → stB o.op = true ∨ stB p = true ∧ False) → keepB p = true ∧ noGrow l = true := fun {p} he hf => by
      cases hx : okX l p o.op with
      | false =>
        rcases hf hx with h | ⟨-, h⟩
        · rw [hnst] at h; cases h
        · exact h.elim
      | true =>
        unfold okX at hx
        simp only [Bool.and_eq_true] at hx
        exact hx.2
    -- in the order of the text: lengths are kept, from any place on
    have keep : noGrow l = true → ∀ a k, a ≤ k → k ≤ l.length → ∀ id y, (runD l x e allD s a).m id = some y → ∃ y', (runD l x e allD s k).m id = some y' ∧ dims y' = dims y := by
      intro hg a k
      induction k with
      | zero =>
        intro h1 _ id y hy
        obtain rfl : a = 0 := oM
        exact ⟨y, hy, rfl⟩
      | succ k ih =>
        intro h1 h2 id y hy
        by_cases hak : a = k + 1
        · subst hak; exact ⟨y, hy, rfl⟩
        · obtain ⟨y', h3, h4⟩ := ih oM oM id y hy
          have hp : l[k]? = some l[k] := by simp
          rw [Zbe (D := allD) hp rfl]
          show ∃ y', mact _ _ id = some y' ∧ _
          cases hek : e k with
          | none => exact ⟨y', h3, h4⟩
          | new id' b' =>
            have hn := ((Za0 (h.step k _ hp)).1 id' b' hek).2
            have hne : id' ≠ id := by rintro rfl; rw [hn] at h3; cases h3
            exact ⟨y', by show upd _ id' b' id = _; rw [Zav _ _ hne]; exact h3, h4⟩
          | set id' b' =>
            obtain ⟨h5, -, -, h6⟩ := (Za0 (h.step k _ hp)).2 id' b' hek
            by_cases hid : id' = id
            · subst hid
              have hst : keepB (l[k]).op = true := by
                have := List.all_eq_true.1 hg l[k] (List.getElem_mem _)
                rw [h5] at this
                simpa using this
              exact ⟨b', by show upd _ id' b' id' = _; rw [Zat], (h6 hst y' h3).trans h4⟩
            · exact ⟨y', by show upd _ id' b' id = _; rw [Zav _ _ hid]; exact h3, h4⟩
    have h1 : ∀ k, k ≤ i → ∀ id y, (runD l x e allD s k).m id = some y → ∃ y', (runD l x e D s k).m id = some y' ∧ dims y' = dims y := by
      intro k
      induction k with
      | zero => intro _ id y hy; exact ⟨y, hy, rfl⟩
      | succ k ih =>
        intro hk id y hy
        have ih := ih oM
        have hp : l[k]? = some l[k] := by simp
        rw [Zbe (D := allD) hp rfl] at hy
        cases hd : D k with
        | true =>
          rw [Zbe hp hd]
          have hy : mact _ (e k) id = some y := hy
          show ∃ y', mact _ (e k) id = some y' ∧ _
          cases hek : e k with
          | none => rw [hek] at hy; exact ih id y hy
          | new id' b' =>
            rw [hek] at hy
            by_cases hid : id' = id
            · subst hid
              have hy : upd _ id' b' id' = some y := hy
              rw [Zat] at hy
              exact ⟨b', by show upd _ id' b' id' = _; rw [Zat], by injection hy with hy; rw [hy]⟩
            · have hy : upd _ id' b' id = some y := hy
              rw [Zav _ _ hid] at hy
              obtain ⟨y', h3, h4⟩ := ih id y hy
              exact ⟨y', by show upd _ id' b' id = _; rw [Zav _ _ hid]; exact h3, h4⟩
          | set id' b' =>
            rw [hek] at hy
            by_cases hid : id' = id
            · subst hid
              have hy : upd _ id' b' id' = some y := hy
              rw [Zat] at hy
              exact ⟨b', by show upd _ id' b' id' = _; rw [Zat], by injection hy with hy; rw [hy]⟩
            · have hy : upd _ id' b' id = some y := hy
              rw [Zav _ _ hid] at hy
              obtain ⟨y', h3, h4⟩ := ih id y hy
              exact ⟨y', by show upd _ id' b' id = _; rw [Zav _ _ hid]; exact h3, h4⟩
        | false =>
          rw [Zby hd]
          have hI := before k _ hp oM hd
          have hy : mact _ (e k) id = some y := hy
          cases hek : e k with
          | none => rw [hek] at hy; exact ih id y hy
          | new id' b' =>
            have hn := ((Za0 (h.step k _ hp)).1 id' b' hek).1
            rw [hI.nw hn heo hqt] at hnst
            cases hnst
          | set id' b' =>
            obtain ⟨h5, ⟨z, h6⟩, -, h7⟩ := (Za0 (h.step k _ hp)).2 id' b' hek
            have hf := flag h5 fun hx => .inl (hI.es h5 heo hqt hx).sq
            rw [hek] at hy
            by_cases hid : id' = id
            · subst hid
              have hy : upd _ id' b' id' = some y := hy
              rw [Zat] at hy
              injection hy with hy
              subst hy
              obtain ⟨y', h8, h9⟩ := ih id' z h6
              exact ⟨y', h8, h9.trans (h7 hf.1 z h6).symm⟩
            · have hy : upd _ id' b' id = some y := hy
              rw [Zav _ _ hid] at hy
              exact ih id y hy
    obtain ⟨y0, z1, z2⟩ := h1 i (Nat.le_refl _) id b hb
    have h2 : ∀ k, i ≤ k → k ≤ l.length → ∃ y', (runD l x e D s k).m id = some y' ∧ dims y' = dims b := by
      intro k
      induction k with
      | zero =>
        intro h3 _
        obtain rfl : i = 0 := oM
        exact ⟨y0, z1, z2⟩
      | succ k ih =>
        intro h3 h4
        by_cases hk : i = k + 1
        · subst hk; exact ⟨y0, z1, z2⟩
        · obtain ⟨y', h5, h6⟩ := ih oM oM
          have hp : l[k]? = some l[k] := by simp
          cases hd : D k with
          | false => rw [Zby hd]; exact ⟨y', h5, h6⟩
          | true =>
            have hik : i < k := by
              rcases Nat.lt_or_eq_of_le (show i ≤ k by omega) with h | h
              · exact h
              · rw [← h, hi] at hd; cases hd
            rw [Zbe hp hd]
            show ∃ y', mact _ _ id = some y' ∧ _
            have g1 := (behind k _ hp hik hd).se
            cases hek : e k with
            | none => exact ⟨y', h5, h6⟩
            | new id' b' =>
              have hn := ((Za0 (h.step k _ hp)).1 id' b' hek).2
              have hsome := Zen (l := l) (x := x) (e := e) (s := s) (D := allD) (id := id) (i := i) k oM (by rw [hb]; rfl)
              have hne : id' ≠ id := by rintro rfl; rw [hn] at hsome; cases hsome
              exact ⟨y', by show upd _ id' b' id = _; rw [Zav _ _ hne]; exact h5, h6⟩
            | set id' b' =>
              obtain ⟨g2, -, -, g3⟩ := (Za0 (h.step k _ hp)).2 id' b' hek
              have hf := flag g2 fun hx => .inr (by
                have := (g1 heo hqt g2 hx).sp
                rw [hnst] at this
                cases this)
              by_cases hid : id' = id
              · subst hid
                obtain ⟨z, h7, h8⟩ := keep hf.2 i k oM oM id' b hb
                exact ⟨b', by show upd _ id' b' id' = _; rw [Zat], (g3 hf.1 z h7).trans h8⟩
              · exact ⟨y', by show upd _ id' b' id = _; rw [Zav _ _ hid]; exact h5, h6⟩
    exact h2 _ oM (Nat.le_refl _)
  · have heo : Zgn o.op = true := by cases ho2 : o.op <;> first | rfl | (rw [ho2] at hop; cases hop)
    have hquiet : quietB (runD l x e allD s i) o.op = false := stB_quiet (by unfold stB; rw [hop]; rfl)
    have hnix : idxB o.op = false := stB_idx (by unfold stB; rw [hop]; rfl)
    have hsome : ((runD l x e D s l.length).m id).isSome = true := by
      cases y with
      | tmp a => exact hR a id (by rw [tpart a (by simp only [Oper.looksAt, List.mem_append, List.mem_filterMap]; exact .inl ⟨.tmp a, by simpa using adOf_mem hop, rfl⟩)]; exact href)
      | const v =>
        exfalso
        simp only [AS.ev] at href
        cases hv : cok v <;> (rw [hv] at href; exact href)
      | func f => exact href.elim
      | _ => exact href.elim
    have h1 : ∀ k, k ≤ i → (runD l x e D s k).m id = (runD l x e allD s k).m id := by
      intro k
      induction k with
      | zero => intro _; rfl
      | succ k ih =>
        intro hk
        have ih := ih oM
        have hp : l[k]? = some l[k] := by simp
        rw [Zbe (D := allD) hp rfl]
        cases hd : D k with
        | true =>
          rw [Zbe hp hd]
          show mact _ _ id = mact _ _ id
          exact mact_at ih
        | false =>
          rw [Zby hd]
          show _ = mact _ _ id
          have g3 := (before k _ hp oM hd).es
          rw [Zep]
          · exact ih
          · intro ht
            cases hek : e k with
            | none => rw [hek] at ht; exact ht
            | set id' b' =>
              rw [hek] at ht
              have ht : id' = id := ht
              subst ht
              obtain ⟨h5, -, h7, -⟩ := (Za0 (h.step k _ hp)).2 id' b' hek
              have hF := g3 h5 heo hquiet (okX_idx hnix)
              obtain ⟨y1, s3⟩ := Option.isSome_iff_exists.1 hF.sp
              exact hF.ne y1 y _ _ s3 hop (h7 _ s3) href rfl
            | new id' b' =>
              rw [hek] at ht
              have ht : id' = id := ht
              subst ht
              rw [h.fresh hJ hp hd hek] at hsome
              cases hsome
    have h2 : ∀ k, i ≤ k → k ≤ l.length → (runD l x e D s k).m id = some b := by
      intro k
      induction k with
      | zero => intro h3 _; obtain rfl : i = 0 := oM
                exact hb
      | succ k ih =>
        intro h3 h4
        by_cases hk : i = k + 1
        · subst hk; rw [h1 _ (Nat.le_refl _)]; exact hb
        · have ih := ih oM oM
          have hp : l[k]? = some l[k] := by simp
          cases hd : D k with
          | false => rw [Zby hd]; exact ih
          | true =>
            have hik : i < k := by
              rcases Nat.lt_or_eq_of_le (show i ≤ k by omega) with h | h
              · exact h
              · rw [← h, hi] at hd; cases hd
            rw [Zbe hp hd]
            show mact _ _ id = _
            have g1 := (behind k _ hp hik hd).se
            cases hek : e k with
            | none => exact ih
            | set id' b' =>
              obtain ⟨h5, -, h7, -⟩ := (Za0 (h.step k _ hp)).2 id' b' hek
              have hF := g1 heo hquiet h5 (okX_idx hnix)
              obtain ⟨y1, s3⟩ := Option.isSome_iff_exists.1 hF.sq
              have hne : id' ≠ id := fun e => hF.ne y y1 _ _ hop s3 href (h7 _ s3) e.symm
              show upd _ id' b' id = _
              rw [Zav _ _ hne]
              exact ih
            | new id' b' =>
              have hn := ((Za0 (h.step k _ hp)).1 id' b' hek).2
              have hsm := Zen (l := l) (x := x) (e := e) (s := s) (D := allD) (id := id) (i := i) k oM (by rw [hb]; rfl)
              have hne : id' ≠ id := by rintro rfl; rw [hn] at hsm; cases hsm
              show upd _ id' b' id = _
              rw [Zav _ _ hne]
              exact ih
    exact h2 _ oM (Nat.le_refl _)
theorem Walk.insert {A : Array Nat} (h : Walk dm P l x e s A) {D D' : Nat → Bool} (hD : Closed l D) (hJ : JD l e s D) {i : Nat} {o : Oper} (ho : l[i]? = some o) (hi : D i = false) (hD' : ∀ k, D' k = (D k || Nat.beq i k)) :
    runD l x e D' s l.length = (runD l x e D s l.length).act o.dst (x i) (e i) := by
  have hil := (List.getElem?_eq_some_iff.1 ho).1
  have hne : ∀ k, k ≠ i → D' k = D k := fun k hk => by
    rw [hD']
    have : Nat.beq i k = false := by
      cases hb : Nat.beq i k with
      | false => rfl
      | true => exact absurd (Nat.eq_of_beq_eq_true hb).symm hk
    rw [this, Bool.or_false]
  have hself : D' i = true := by rw [hD']; simp
  have h1 : ∀ k, k ≤ i → runD l x e D' s k = runD l x e D s k := by
    intro k
    induction k with
    | zero => intro _; rfl
    | succ k ih =>
      intro hk
      have ih := ih oM
      simp only [runD, ih, hne k oM]
  have h2 : ∀ k, i < k → k ≤ l.length → runD l x e D' s k = (runD l x e D s k).act o.dst (x i) (e i) := by
    intro k
    induction k with
    | zero => intro h _; omega
    | succ k ih =>
      intro h3 h4
      by_cases hk : i = k
      · subst hk
        rw [Zbe ho hself, Zby hi, h1 i (Nat.le_refl _)]
      · have ih := ih oM oM
        have hp : l[k]? = some l[k] := by simp
        cases hd : D k with
        | false => rw [Zby hd, Zby ((hne k (Ne.symm hk)).trans hd)]; exact ih
        | true =>
          rw [Zbe hp hd, Zbe hp ((hne k (Ne.symm hk)).trans hd), ih]
          have hind : Ind l x e s i k o l[k] := by
            refine h.ok.ind k _ i o hp ho oM ?_
            cases hb : bit A k i with
            | false => rfl
            | true => rw [anc_in h.ok hD k _ hp (hD k _ hp hd) i o ho oM hb] at hi; cases hi
          refine act_comm (Oper.apart_spec hind.ap).2.1 fun id t1 t2 => ?_
          cases hei : e i with
          | none => rw [hei] at t1; exact t1
          | new id1 b1 =>
            rw [hei] at t1
            have t1 : id1 = id := t1
            subst t1
            cases hek : e k with
            | none => rw [hek] at t2; exact t2
            | new id2 b2 =>
              rw [hek] at t2
              have t2 : id2 = id1 := t2
              subst t2
              have := h.news ho hp hei hek
              omega
            | set id2 b2 =>
              rw [hek] at t2
              have t2 : id2 = id1 := t2
              subst t2
              rcases hJ k _ id2 b2 hp hd hek with h5 | ⟨j, b', h6, ⟨p, hpj⟩, h7⟩
              · exact h.first ho hei h5
              · have := h.news ho hpj hei h7
                subst this
                rw [hi] at h6
                cases h6
          | set id1 b1 =>
            rw [hei] at t1
            have t1 : id1 = id := t1
            subst t1
            have he1 := ((Za0 (h.step i o ho)).2 id1 b1 hei).1
            cases hek : e k with
            | none => rw [hek] at t2; exact t2
            | new id2 b2 =>
              rw [hek] at t2
              have t2 : id2 = id1 := t2
              subst t2
              have := h.touch ho (.inr hei) (show i < k by omega)
              rw [((Za0 (h.step k _ hp)).1 id2 b2 hek).2] at this
              cases this
            | set id2 b2 =>
              rw [hek] at t2
              have t2 : id2 = id1 := t2
              obtain ⟨h5, -, h7, -⟩ := (Za0 (h.step k _ hp)).2 id2 b2 hek
              obtain ⟨-, -, h8, -⟩ := (Za0 (h.step i o ho)).2 id1 b1 hei
              have hF := hind.es he1 (effB_sees h5) (effB_quiet h5) (okX_idx (effB_idx h5))
              obtain ⟨y1, s3⟩ := Option.isSome_iff_exists.1 hF.sp
              obtain ⟨y2, s4⟩ := Option.isSome_iff_exists.1 hF.sq
              exact hF.ne y1 y2 _ _ s3 s4 (h8 _ s3) (h7 _ s4) t2.symm
  exact h2 _ hil (Nat.le_refl _)
theorem countP_lt {p q : Nat → Bool} {i : Nat} : ∀ {l : List Nat}, (∀ k, q k = true → p k = true) → i ∈ l → p i = true → q i = false → l.countP q < l.countP p
  | [], _, h, _, _ => by simp at h
  | a :: l, h, hm, hp, hq => by
    have hle : l.countP q ≤ l.countP p := List.countP_mono_left fun k _ hk => h k hk
    by_cases ha : a = i
    · subst ha
      rw [List.countP_cons_of_neg (by rw [hq]; simp), List.countP_cons_of_pos hp]
      omega
    · have hm' : i ∈ l := by
        rcases List.mem_cons.1 hm with h | h
        · exact absurd h.symm ha
        · exact h
      have ih := countP_lt h hm' hp hq
      rw [List.countP_cons, List.countP_cons]
      cases hqa : q a with
      | false => simp; omega
      | true => rw [h a hqa]; simp; omega
theorem Walk.any {A : Array Nat} (h : Walk dm P l x e s A) {w0 : World} {M0 : Cx} (hM : OKC dm M0 w0) {Q : Exit → Act → World → Prop} (hQ : ∀ a w, Rel w0 M0 (runD l x e allD s l.length) a w → Q .normal a w) :
    ∀ (fuel : Nat) (listed : Array Bool) (a : Act) (w : World), listed.size = l.length → Closed l (fun i => listed.getD i false) → JD l e s (fun i => listed.getD i false) → (List.range l.length).countP (fun i => !listed.getD i false) ≤ fuel → Rel w0 M0 (runD l x e (fun i => listed.getD i false) s l.length) a w → wpAny P .any l.toArray Q fuel listed a w := by
  have all : ∀ (listed : Array Bool) (a : Act) (w : World), listed.size = l.length → Closed l (fun i => listed.getD i false) → Region.ready .any l.toArray listed = [] → Rel w0 M0 (runD l x e (fun i => listed.getD i false) s l.length) a w → Q .normal a w := by
    intro listed a w hsz hcl hr hrel
    have key : ∀ i, i < l.length → listed.getD i false = true := by
      intro i
      induction i using Nat.strongRecOn with
      | _ i ih =>
        intro hi
        cases hb : listed.getD i false with
        | true => rfl
        | false =>
          exfalso
          have hp : l[i]? = some l[i] := by simp [hi]
          have : i ∈ Region.ready .any l.toArray listed := by
            rw [mem_ready]
            refine ⟨?_, l[i], by simp, fun ed hed hbd => ?_⟩
            · have : i < listed.size := oM
              simp [this] at hb ⊢; exact hb
            · exact ih ed.on (h.ok.edge i _ hp ed hed hbd) (by have := h.ok.edge i _ hp ed hed hbd; omega)
          rw [hr] at this; cases this
    have hsame : ∀ k, k ≤ l.length → runD l x e (fun i => listed.getD i false) s k = runD l x e allD s k := by
      intro k
      induction k with
      | zero => intro _; rfl
      | succ k ih =>
        intro hk
        have ih := ih oM
        simp only [runD, ih, key k oM, allD]
    rw [hsame _ (Nat.le_refl _)] at hrel
    exact hQ a w hrel
  intro fuel
  induction fuel with
  | zero =>
    intro listed a w hsz hcl hJ hc hrel
    have hr : Region.ready .any l.toArray listed = [] := by
      cases hh : Region.ready .any l.toArray listed with
      | nil => rfl
      | cons i r =>
        exfalso
        have hi : i ∈ Region.ready .any l.toArray listed := by rw [hh]; simp
        obtain ⟨h1, o, h2, -⟩ := mem_ready.1 hi
        have hil : i < l.length := by simpa using (Array.getElem?_eq_some_iff.1 h2).1
        have h0 : (List.range l.length).countP (fun i => !listed.getD i false) = 0 := oM
        rw [List.countP_eq_zero] at h0
        have := h0 i (by simp; exact hil)
        have hs : i < listed.size := oM
        simp [hs] at h1 this
        rw [h1] at this; cases this
    exact ⟨hr, all listed a w hsz hcl hr hrel⟩
  | succ fuel ih =>
    intro listed a w hsz hcl hJ hc hrel
    refine ⟨fun hr => all listed a w hsz hcl hr hrel, fun i hi => ?_⟩
    obtain ⟨h1, o, h2, h3⟩ := mem_ready.1 hi
    have ho : l[i]? = some o := by simpa using h2
    have hil := (List.getElem?_eq_some_iff.1 ho).1
    have hs : i < listed.size := oM
    have hDi : listed.getD i false = false := by simp [hs] at h1 ⊢; exact h1
    have hR : ∀ t id, RefTV ((runD l x e (fun i => listed.getD i false) s l.length).t t) id → ((runD l x e (fun i => listed.getD i false) s l.length).m id).isSome = true := fun t id href => by
      obtain ⟨ρ, hr⟩ := hrel
      cases ht : (runD l x e (fun i => listed.getD i false) s l.length).t t with
      | none => rw [ht] at href; exact href.elim
      | some tv =>
        obtain ⟨v, -, h5⟩ := hr.tmps t tv ht
        rw [ht] at href
        cases tv with
        | ptr k o => obtain ⟨⟨cs, h6⟩, -⟩ := h5; have : k = id := href; subst this; rw [h6]; rfl
        | op k n i o => obtain ⟨sz, ty, es, h6, -⟩ := h5; have : k = id := href; subst this; rw [h6]; rfl
        | own k n => obtain ⟨sz, ty, es, h6, -⟩ := h5; have : k = id := href; subst this; rw [h6]; rfl
        | ot k n => obtain ⟨ty, cs, h6, -⟩ := h5; have : k = id := href; subst this; rw [h6]; rfl
        | opt k n i => obtain ⟨ty, cs, h6, -⟩ := h5; have : k = id := href; subst this; rw [h6]; rfl
        | _ => exact href.elim
    have hag := h.agree hcl ho hDi h3 hJ hR
    have hset : ∀ k, (listed.setIfInBounds i true).getD k false = (listed.getD k false || Nat.beq i k) := by
      intro k
      by_cases hk : i = k
      · subst hk; simp [hs]
      · have : Nat.beq i k = false := by
          cases hb : Nat.beq i k with
          | false => rfl
          | true => exact absurd (Nat.eq_of_beq_eq_true hb) hk
        rw [getD_set_ne false hk, this, Bool.or_false]
    unfold wpOp
    simp only [h2]
    have := stepG_wp (h.step i o ho) hag (fun id b he => h.fresh hJ ho hDi he) hM hrel (wpAny P .any l.toArray Q fuel (listed.setIfInBounds i true)) Q (fun a' w' hr' => by
      refine ih _ a' w' (by simp [hsz]) (fun j q hq hj ed hed hb => ?_) (fun k q id b hq hk hek => ?_) ?_ ?_
      · show (listed.setIfInBounds i true).getD ed.on false = true
        have hj : (listed.setIfInBounds i true).getD j false = true := hj
        rw [hset] at hj ⊢
        simp only [Bool.or_eq_true] at hj ⊢
        rcases hj with hj | hj
        · exact .inl (hcl j q hq hj ed hed hb)
        · have := Nat.eq_of_beq_eq_true hj
          subst this
          rw [ho] at hq
          injection hq with hq
          subst hq
          exact .inl (h3 ed hed hb)
      · have mono : ((s.m id).isSome = true ∨ ∃ j b', listed.getD j false = true ∧ (∃ p, l[j]? = some p) ∧ e j = .new id b') → (s.m id).isSome = true ∨ ∃ j b', (listed.setIfInBounds i true).getD j false = true ∧ (∃ p, l[j]? = some p) ∧ e j = .new id b' := fun h5 => by
          rcases h5 with h5 | ⟨j, b', h6, h7, h8⟩
          · exact .inl h5
          · exact .inr ⟨j, b', by rw [hset, h6]; rfl, h7, h8⟩
        have hk : (listed.setIfInBounds i true).getD k false = true := hk
        rw [hset] at hk
        simp only [Bool.or_eq_true] at hk
        rcases hk with hk | hk
        · exact mono (hJ k q id b hq hk hek)
        · have := Nat.eq_of_beq_eq_true hk
          subst this
          obtain ⟨h5, ⟨y, h6⟩, h7, -⟩ := (Za0 (h.step i q hq)).2 id b hek
          rw [ho] at hq
          injection hq with hq
          subst hq
          have h8 : (runD l x e (fun i => listed.getD i false) s l.length).m id = some y := by
            cases hst : stB o.op with
            | false => exact hag.m (effB_sees h5) hst (effB_idx h5) (effB_quiet h5) id y h6
            | true =>
              obtain ⟨y', hop⟩ := Option.isSome_iff_exists.1 hst
              exact hag.ms y' hop id (h7 y' hop) y h6
          exact mono (dom_new hJ (by rw [h8]; rfl))
      · have hlt := countP_lt (p := fun i => !listed.getD i false) (q := fun k => !(listed.setIfInBounds i true).getD k false) (i := i) (l := List.range l.length) (fun k hk => by rw [hset] at hk; simp at hk ⊢; exact hk.1) (by simpa using hil) (by rw [hDi]; rfl) (by rw [hset]; simp)
        omega
      · rw [h.insert (D' := fun k => (listed.setIfInBounds i true).getD k false) hcl hJ ho hDi hset]
        exact hr')
    split
    · rename_i hw; rw [if_pos hw] at this; exact .inl this
    · rename_i hw; rw [if_neg hw] at this; exact this
theorem T.draw {id : Nat} {A : Array Nat} {Q : Exit → AS → Prop} (hm : P.follows .mixedOrders = true) (hA : okR s l A = true) (h : EvX dm false P l.toArray l s (Q .normal)) : T dm P (.region id l.toArray true) s Q := fun w0 M0 hM a w hr => by
 obtain ⟨x, e, h1, h2⟩ := evL_data l s h
 have hw : Walk dm P l x e s A := ⟨h1, (okR_spec hA).sem x e⟩
 refine wp_region_any hm ?_
 have hf : ∀ i, (Array.replicate l.toArray.size false).getD i false = false := fun i => by
  rw [Array.getD_eq_getD_getElem?, Array.getElem?_replicate]; split <;> rfl
 refine hw.any hM (fun a' w' hr' => ⟨_, h2, hr'⟩) _ _ a _ (by simp) (fun j o _ hj => by have hj : (Array.replicate l.toArray.size false).getD j false = true := hj; rw [hf] at hj; cases hj) (fun k o id b _ hk => by have hk : (Array.replicate l.toArray.size false).getD k false = true := hk; rw [hf] at hk; cases hk) (Nat.le_trans List.countP_le_length (by simp)) ?_
 have hnone : ∀ k, runD l x e (fun i => (Array.replicate l.toArray.size false).getD i false) s k = s := by
  intro k
  induction k with
  | zero => rfl
  | succ k ih => rw [Zby (hf k)]; exact ih
 rw [hnone]
 obtain ⟨ρ, hr⟩ := hr
 exact ⟨ρ, hr.ext ((Below.refl _ _).drew)⟩
end
end Ab
