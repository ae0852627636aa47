/- Packages among the arguments, opened: from data to abstract values (printed by tools/gen_op.py). -/
import Derived.Test.YtbpdgaolmikjbaaGreatIcO
import Derived.Test.YtbpdgaolmikjbaaGreatSmW
set_option linter.all false
namespace Ab
open Go Go.RowKit Go.Proofs Hp Go.ChangeShapes Go.WideShapes
set_option maxRecDepth 100000
def RL (w : World) (cs : List Value) (l : List AV) : Prop := cs.length = l.length ∧ ∀ (j : Nat) c, l[j]? = some c → c.one = true ∧ ∃ v, cs[j]? = some v ∧ Rep w NoM c v
theorem RL.app {w : World} {a b : List Value} {l m : List AV} (h : RL w a l) (k : RL w b m) : RL w (a ++ b) (l ++ m) := by
 refine ⟨by rw [List.length_append, List.length_append, h.1, k.1], fun j c hj => ?_⟩
 by_cases hlt : j < l.length
 ·rw [List.getElem?_append_left hlt] at hj
  obtain ⟨h1, v, h2, h3⟩ := h.2 j c hj
  exact ⟨h1, v, by rw [List.getElem?_append_left (by rw [h.1]; exact hlt)]; exact h2, h3⟩
 ·rw [List.getElem?_append_right (by omega)] at hj
  obtain ⟨h1, v, h2, h3⟩ := k.2 _ c hj
  exact ⟨h1, v, by rw [List.getElem?_append_right (by rw [h.1]; omega), h.1]; exact h2, h3⟩
theorem rl_chain {w : World} {cs : List Value} {n : Nat} {l m : List AV} (o : Nat) (h : RL w ((cs.drop o).take n) l) (k : RL w (cs.drop (o + n)) m) : RL w (cs.drop o) (l ++ m) := by
 have := h.app k
 rw [← List.drop_drop, List.take_append_drop] at this
 exact this
theorem rl_last {w : World} {cs : List Value} {n : Nat} {l : List AV} (o : Nat) (hl : cs.length = o + n) (h : RL w ((cs.drop o).take n) l) : RL w (cs.drop o) l := by
 rw [List.take_of_length_le (by rw [List.length_drop]; omega)] at h
 exact h
section
variable {H : Type} {enc : TypeId × Value → H} {w : World} {base : Nat} {held : Bool}
def Op (enc : TypeId × Value → H) (w : World) (base : Nat) (held : Bool) (k : Nat) (t : TypeId) {X : Type} (cells : X → List AV) (ok : X → Prop) : Prop :=
 ∀ fuel, fuel ≤ k → ∀ cs x, DataW.trod enc Tryz.prog w base (fun _ => true) held fuel t cs = some x → ∃ v, RL w cs (cells v) ∧ ok v
theorem rl1 {w : World} {c : Value} {a : AV} (h1 : a.one = true) (h : Rep w NoM a c) : RL w [c] [a] := by
 refine ⟨rfl, fun j c' hj => ?_⟩
 rcases j with _ | j
 ·simp at hj; subst hj; exact ⟨h1, c, rfl, h⟩
 ·simp at hj
theorem fget {fs : Array Field} {xs : List (DataW H × List MemPlace)} {F : Field → Option (DataW H × List MemPlace)} (hf : ∀ (i : Nat) (f : Field), fs[i]? = some f → F f = xs[i]?) (hn : xs.length = fs.size) (i : Nat) (f : Field) (hi : fs[i]? = some f) : ∃ y, F f = some y := by
 have hlt : i < xs.length := by rw [hn]; exact (Array.getElem?_eq_some_iff.1 hi).1
 exact ⟨xs[i], (hf i f hi).trans (List.getElem?_eq_getElem hlt)⟩
theorem op_int (k : Nat) : Op enc w base held k 3 (fun n : Int => [iV n]) I64 := fun fuel _ cs x h => by
 obtain ⟨n, rfl, -, hw⟩ := DataW.trod_int und_int h
 refine ⟨n, rl1 rfl (.p _ rfl), ?_⟩
 have h2 : IntKind.i64.min ≤ n ∧ n ≤ 9223372036854775807 := by simpa [Lit.wf] using hw
 have e0 : IntKind.i64.min = -9223372036854775808 := by decide
 exact ⟨by omega, h2.2⟩
theorem op_bool (k : Nat) : Op enc w base held k 4 (fun b : Bool => [boV b]) (fun _ => True) := fun fuel _ cs x h => by
 obtain ⟨b, rfl, -⟩ := DataW.trod_bool und_bool h
 exact ⟨b, rl1 rfl (.p _ rfl), trivial⟩
theorem op_str (k : Nat) : Op enc w base held k 9 (fun s : ByteArray => [tV s]) (fun s => s.size ≤ 9223372036854775807) := fun fuel _ cs x h => by
 obtain ⟨s, rfl, -, hs⟩ := DataW.trod_string und_str' h
 exact ⟨s, rl1 rfl (.p _ rfl), hs⟩
theorem op_nums {t e : TypeId} {kd : IntKind} (hs : Tryz.prog.underlying t = some (.slice e)) (he : Tryz.prog.underlying e = some (.int kd)) (h1 : Tryz.prog.cellsOf e = 1) (k : Nat) : Op enc w base held k t (fun l : List Int => [.sl (l.map fun n => .p (.int kd n))]) (fun l => (∀ d, d ∈ l → (Lit.int kd d).wf = true) ∧ l.length ≤ 9223372036854775807) := fun fuel _ cs x h => by
 obtain ⟨c, ds, rfl, h2, h3, h4⟩ := open_nums hs he h1 h
 exact ⟨ds, rl1 rfl h2, h3, h4⟩
theorem op_ints (k : Nat) : Op enc w base held k 56 (fun l : List Int => [.sl (l.map iV)]) (LW I64) := fun fuel hk cs x h => by
 obtain ⟨l, h1, h2, h3⟩ := op_nums und_ints und_int (by kernel_rfl) k fuel hk cs x h
 refine ⟨l, h1, fun n hn => ?_, h3⟩
 have h2 : IntKind.i64.min ≤ n ∧ n ≤ 9223372036854775807 := by simpa [Lit.wf] using h2 n hn
 have e0 : IntKind.i64.min = -9223372036854775808 := by decide
 exact ⟨by omega, h2.2⟩
theorem op_digs (k : Nat) : Op enc w base held k 50 (fun l : List Int => [.sl (l.map u32)]) (fun l => (∀ d, d ∈ l → 0 ≤ d ∧ d < 4294967296) ∧ l.length ≤ 9223372036854775807) := fun fuel hk cs x h => by
 obtain ⟨l, h1, h2, h3⟩ := op_nums und_u32s und_u32 (by kernel_rfl) k fuel hk cs x h
 refine ⟨l, h1, fun d hd => ?_, h3⟩
 have h2 : IntKind.u32.min ≤ d ∧ d ≤ IntKind.u32.max := by simpa [Lit.wf] using h2 d hd
 have e0 : IntKind.u32.min = 0 := by decide
 have e1 : IntKind.u32.max = 4294967295 := by decide
 omega
theorem op_slice {t e : TypeId} {X : Type} {cells : X → List AV} {ok : X → Prop} {k n : Nat} (hs : Tryz.prog.underlying t = some (.slice e)) (hn : Tryz.prog.cellsOf e = n) (h0 : 0 < n) (hcl : ∀ v, (cells v).length = n) (he : Op enc w base held k e cells ok) : Op enc w base held (k + 1) t (fun l : List X => [.sl (l.map fun v => .agg (cells v))]) (LW ok) := fun fuel hk cs x h => by
 rcases DataW.trod_slice hs h with ⟨rfl, -⟩ | ⟨a, len, cap, elems, rest, m, hf, rfl, -, -, hl, hm, hlen, hel, -, -⟩
 ·exact ⟨[], rl1 rfl (.emp _ _), fun x hx => (by cases hx), Nat.zero_le _⟩
 ·have hcap : cap ≤ 9223372036854775807 := hm
  by_cases hz : len = 0
  ·subst hz
   exact ⟨[], rl1 rfl (.emp _ _), fun x hx => (by cases hx), Nat.zero_le _⟩
  rw [hn] at hel
  have hget : ∀ i, i < len → ∃ cs', w.cells? base (a.add (i * n)) n = some cs' ∧ ∃ y, DataW.trod enc Tryz.prog w base (fun _ => true) held m e cs' = some y := fun i hi => by
   have := hel i hi
   rw [List.getElem?_eq_getElem (by omega)] at this
   obtain ⟨cs', h1, h2⟩ := Option.bind_eq_some_iff.1 this
   exact ⟨cs', h1, _, h2⟩
  obtain ⟨cs0, hc0, -⟩ := hget 0 (by omega)
  obtain ⟨c, hc⟩ := plain_cells hc0 h0
  rw [Nat.zero_mul] at hc
  obtain ⟨b, off, rfl⟩ := plain_at hc
  have hex : ∀ i, ∃ g : X × (Nat → Value), i < len → ok g.1 ∧ (∀ j, j < n → w.cell? ⟨b, off + i * n + j, none⟩ = some (g.2 j)) ∧ ∀ (j : Nat) c, (cells g.1)[j]? = some c → c.one = true ∧ Rep w NoM c (g.2 j) := fun i => by
   obtain ⟨cs00, -, y0, h00⟩ := hget 0 (by omega)
   obtain ⟨v0, -⟩ := he m (by omega) cs00 y0 h00
   by_cases hi : i < len
   ·obtain ⟨cs', hc', y, ht⟩ := hget i hi
    obtain ⟨v, hr, hok⟩ := he m (by omega) cs' y ht
    obtain ⟨_, hcl', hcell⟩ := World.cells?_some hc'
    refine ⟨(v, fun j => cs'.getD j (.bool false)), fun _ => ⟨hok, fun j hj => ?_, fun j c hjc => ?_⟩⟩
    ·have := hcell j hj
     rw [Go.WideShapes.add_plain, Go.WideShapes.add_plain] at this
     rw [this]
     show cs'[j]? = some (cs'.getD j _)
     rw [List.getD_eq_getElem?_getD, List.getElem?_eq_getElem (by rw [hcl']; exact hj)]
     rfl
    ·obtain ⟨h1, u, h2, h3⟩ := hr.2 j c hjc
     refine ⟨h1, ?_⟩
     show Rep w NoM c (cs'.getD j _)
     rw [List.getD_eq_getElem?_getD, h2]
     exact h3
   ·exact ⟨(v0, fun _ => .bool false), fun h => absurd h hi⟩
  obtain ⟨G, hG⟩ := Classical.axiomOfChoice hex
  have hlen' : (((List.range len).map fun i => (G i).1).map fun v => AV.agg (cells v)).length = len := by simp
  have hge : ∀ (i : Nat) e, (((List.range len).map fun i => (G i).1).map fun v => AV.agg (cells v))[i]? = some e → i < len ∧ e = AV.agg (cells (G i).1) := fun i e he => by
   have hi : i < len := by rw [← hlen']; exact (List.getElem?_eq_some_iff.1 he).1
   refine ⟨hi, ?_⟩
   simp [hi] at he
   exact he.symm
  refine ⟨(List.range len).map fun i => (G i).1, rl1 rfl ?_, fun r hr => ?_, by simp; omega⟩
  ·have := Rep.sl (w := w) (M := NoM) (((List.range len).map fun i => (G i).1).map fun v => AV.agg (cells v)) b off cap n (fun i j => (G i).2 j) (by rw [hlen']; exact hl) (fun i j hi hj hm => hm) (fun e he => ?_) (fun e he c hc' => ?_) (fun i j hi hj => ?_) (fun i e j c he hj => ?_)
   ·rw [hlen'] at this; exact this
   ·obtain ⟨i, hi⟩ := List.getElem?_of_mem he
    rw [(hge i e hi).2]
    exact hcl _
   ·obtain ⟨i, hi⟩ := List.getElem?_of_mem he
    obtain ⟨hi1, hi2⟩ := hge i e hi
    rw [hi2] at hc'
    obtain ⟨j, hj⟩ := List.getElem?_of_mem hc'
    exact ((hG i hi1).2.2 j c hj).1
   ·rw [hlen'] at hi
    exact (hG i hi).2.1 j hj
   ·obtain ⟨hi, rfl⟩ := hge i e he
    exact ((hG i hi).2.2 j c hj).2
  ·obtain ⟨i, hi, rfl⟩ := List.mem_map.1 hr
   exact (hG i (by simpa using hi)).1
theorem usl_rats : Tryz.prog.underlying 47 = some (.slice 54) := by kernel_rfl
theorem usl_sers : Tryz.prog.underlying 22 = some (.slice 49) := by kernel_rfl
theorem usl_etas : Tryz.prog.underlying 23 = some (.slice 67) := by kernel_rfl
theorem usl_exprs : Tryz.prog.underlying 57 = some (.slice 59) := by kernel_rfl
theorem usl_bnds : Tryz.prog.underlying 24 = some (.slice 61) := by kernel_rfl
theorem usl_certs : Tryz.prog.underlying 25 = some (.slice 75) := by kernel_rfl
theorem usl_spcs : Tryz.prog.underlying 26 = some (.slice 71) := by kernel_rfl
theorem usl_mats : Tryz.prog.underlying 27 = some (.slice 63) := by kernel_rfl
theorem op_Int (k : Nat) : Op enc w base held k 52 BI.cs BI.wk := fun fuel hk cs x h => by
 obtain ⟨xs, n, hfu, -, hl, hn, hf⟩ := DataW.trod_struct Tryz.underlying52 h
 have hl : cs.length = 2 := hl.trans (by kernel_rfl)
 obtain ⟨y0, h0⟩ := fget hf hn 0 _ rfl
 have h0 : DataW.trod enc Tryz.prog w base (fun _ => true) held n 4 ((cs.drop 0).take 1) = some y0 := h0
 obtain ⟨v0, r0, k0⟩ := (op_bool k) n (by omega) _ _ h0
 obtain ⟨y1, h1⟩ := fget hf hn 1 _ rfl
 have h1 : DataW.trod enc Tryz.prog w base (fun _ => true) held n 50 ((cs.drop 1).take 1) = some y1 := h1
 obtain ⟨v1, r1, k1⟩ := (op_digs k) n (by omega) _ _ h1
 exact ⟨⟨v0, v1⟩, rl_chain 0 r0 (rl_last 1 hl r1), k1⟩
theorem op_Rat (k : Nat) : Op enc w base held k 54 BR.cs BR.wk := fun fuel hk cs x h => by
 obtain ⟨xs, n, hfu, -, hl, hn, hf⟩ := DataW.trod_struct Tryz.underlying54 h
 have hl : cs.length = 4 := hl.trans (by kernel_rfl)
 obtain ⟨y0, h0⟩ := fget hf hn 0 _ rfl
 have h0 : DataW.trod enc Tryz.prog w base (fun _ => true) held n 52 ((cs.drop 0).take 2) = some y0 := h0
 obtain ⟨v0, r0, k0⟩ := (op_Int k) n (by omega) _ _ h0
 obtain ⟨y1, h1⟩ := fget hf hn 1 _ rfl
 have h1 : DataW.trod enc Tryz.prog w base (fun _ => true) held n 52 ((cs.drop 2).take 2) = some y1 := h1
 obtain ⟨v1, r1, k1⟩ := (op_Int k) n (by omega) _ _ h1
 exact ⟨⟨v0, v1⟩, rl_chain 0 r0 (rl_last 2 hl r1), ⟨k0, k1⟩⟩
theorem op_Ser (k : Nat) : Op enc w base held k 49 PS.cs PS.wk := fun fuel hk cs x h => by
 obtain ⟨xs, n, hfu, -, hl, hn, hf⟩ := DataW.trod_struct Tryz.underlying49 h
 have hl : cs.length = 2 := hl.trans (by kernel_rfl)
 obtain ⟨y0, h0⟩ := fget hf hn 0 _ rfl
 have h0 : DataW.trod enc Tryz.prog w base (fun _ => true) held n 3 ((cs.drop 0).take 1) = some y0 := h0
 obtain ⟨v0, r0, k0⟩ := (op_int k) n (by omega) _ _ h0
 obtain ⟨y1, h1⟩ := fget hf hn 1 _ rfl
 have h1 : DataW.trod enc Tryz.prog w base (fun _ => true) held n 47 ((cs.drop 1).take 1) = some y1 := h1
 obtain ⟨v1, r1, k1⟩ := (op_slice (k := k) (n := 4) usl_rats (by kernel_rfl) (by decide) (fun v => rfl) (op_Rat k)) n (by omega) _ _ h1
 exact ⟨⟨v0, v1⟩, rl_chain 0 r0 (rl_last 1 hl r1), ⟨k0, k1⟩⟩
theorem op_Eta (k : Nat) : Op enc w base held k 67 PE.cs PE.wk := fun fuel hk cs x h => by
 obtain ⟨xs, n, hfu, -, hl, hn, hf⟩ := DataW.trod_struct Tryz.underlying67 h
 have hl : cs.length = 2 := hl.trans (by kernel_rfl)
 obtain ⟨y0, h0⟩ := fget hf hn 0 _ rfl
 have h0 : DataW.trod enc Tryz.prog w base (fun _ => true) held n 3 ((cs.drop 0).take 1) = some y0 := h0
 obtain ⟨v0, r0, k0⟩ := (op_int k) n (by omega) _ _ h0
 obtain ⟨y1, h1⟩ := fget hf hn 1 _ rfl
 have h1 : DataW.trod enc Tryz.prog w base (fun _ => true) held n 56 ((cs.drop 1).take 1) = some y1 := h1
 obtain ⟨v1, r1, k1⟩ := (op_ints k) n (by omega) _ _ h1
 exact ⟨⟨v0, v1⟩, rl_chain 0 r0 (rl_last 1 hl r1), ⟨k0, k1⟩⟩
theorem op_Kind (k : Nat) : Op enc w base held k 73 PK.cs PK.ok := fun fuel hk cs x h => by
 obtain ⟨xs, n, hfu, -, hl, hn, hf⟩ := DataW.trod_struct Tryz.underlying73 h
 have hl : cs.length = 5 := hl.trans (by kernel_rfl)
 obtain ⟨y0, h0⟩ := fget hf hn 0 _ rfl
 have h0 : DataW.trod enc Tryz.prog w base (fun _ => true) held n 3 ((cs.drop 0).take 1) = some y0 := h0
 obtain ⟨v0, r0, k0⟩ := (op_int k) n (by omega) _ _ h0
 obtain ⟨y1, h1⟩ := fget hf hn 1 _ rfl
 have h1 : DataW.trod enc Tryz.prog w base (fun _ => true) held n 3 ((cs.drop 1).take 1) = some y1 := h1
 obtain ⟨v1, r1, k1⟩ := (op_int k) n (by omega) _ _ h1
 obtain ⟨y2, h2⟩ := fget hf hn 2 _ rfl
 have h2 : DataW.trod enc Tryz.prog w base (fun _ => true) held n 3 ((cs.drop 2).take 1) = some y2 := h2
 obtain ⟨v2, r2, k2⟩ := (op_int k) n (by omega) _ _ h2
 obtain ⟨y3, h3⟩ := fget hf hn 3 _ rfl
 have h3 : DataW.trod enc Tryz.prog w base (fun _ => true) held n 3 ((cs.drop 3).take 1) = some y3 := h3
 obtain ⟨v3, r3, k3⟩ := (op_int k) n (by omega) _ _ h3
 obtain ⟨y4, h4⟩ := fget hf hn 4 _ rfl
 have h4 : DataW.trod enc Tryz.prog w base (fun _ => true) held n 4 ((cs.drop 4).take 1) = some y4 := h4
 obtain ⟨v4, r4, k4⟩ := (op_bool k) n (by omega) _ _ h4
 exact ⟨⟨v0, v1, v2, v3, v4⟩, rl_chain 0 r0 (rl_chain 1 r1 (rl_chain 2 r2 (rl_chain 3 r3 (rl_last 4 hl r4)))), ⟨k0, k1, k2, k3⟩⟩
theorem op_Mat (k : Nat) : Op enc w base held k 63 PM.cs PM.wk := fun fuel hk cs x h => by
 obtain ⟨xs, n, hfu, -, hl, hn, hf⟩ := DataW.trod_struct Tryz.underlying63 h
 have hl : cs.length = 3 := hl.trans (by kernel_rfl)
 obtain ⟨y0, h0⟩ := fget hf hn 0 _ rfl
 have h0 : DataW.trod enc Tryz.prog w base (fun _ => true) held n 3 ((cs.drop 0).take 1) = some y0 := h0
 obtain ⟨v0, r0, k0⟩ := (op_int k) n (by omega) _ _ h0
 obtain ⟨y1, h1⟩ := fget hf hn 1 _ rfl
 have h1 : DataW.trod enc Tryz.prog w base (fun _ => true) held n 3 ((cs.drop 1).take 1) = some y1 := h1
 obtain ⟨v1, r1, k1⟩ := (op_int k) n (by omega) _ _ h1
 obtain ⟨y2, h2⟩ := fget hf hn 2 _ rfl
 have h2 : DataW.trod enc Tryz.prog w base (fun _ => true) held n 47 ((cs.drop 2).take 1) = some y2 := h2
 obtain ⟨v2, r2, k2⟩ := (op_slice (k := k) (n := 4) usl_rats (by kernel_rfl) (by decide) (fun v => rfl) (op_Rat k)) n (by omega) _ _ h2
 exact ⟨⟨v0, v1, v2⟩, rl_chain 0 r0 (rl_chain 1 r1 (rl_last 2 hl r2)), ⟨k0, k1, k2⟩⟩
theorem op_Spec (k : Nat) : Op enc w base held k 69 (fun v : Int × Int × Int => [iV v.1, iV v.2.1, iV v.2.2]) (fun v => I64 v.1 ∧ I64 v.2.1 ∧ I64 v.2.2) := fun fuel hk cs x h => by
 obtain ⟨xs, n, hfu, -, hl, hn, hf⟩ := DataW.trod_struct Tryz.underlying69 h
 have hl : cs.length = 3 := hl.trans (by kernel_rfl)
 obtain ⟨y0, h0⟩ := fget hf hn 0 _ rfl
 have h0 : DataW.trod enc Tryz.prog w base (fun _ => true) held n 3 ((cs.drop 0).take 1) = some y0 := h0
 obtain ⟨v0, r0, k0⟩ := (op_int k) n (by omega) _ _ h0
 obtain ⟨y1, h1⟩ := fget hf hn 1 _ rfl
 have h1 : DataW.trod enc Tryz.prog w base (fun _ => true) held n 3 ((cs.drop 1).take 1) = some y1 := h1
 obtain ⟨v1, r1, k1⟩ := (op_int k) n (by omega) _ _ h1
 obtain ⟨y2, h2⟩ := fget hf hn 2 _ rfl
 have h2 : DataW.trod enc Tryz.prog w base (fun _ => true) held n 3 ((cs.drop 2).take 1) = some y2 := h2
 obtain ⟨v2, r2, k2⟩ := (op_int k) n (by omega) _ _ h2
 exact ⟨(v0, v1, v2), rl_chain 0 r0 (rl_chain 1 r1 (rl_last 2 hl r2)), ⟨k0, k1, k2⟩⟩
theorem op_Spc (k : Nat) : Op enc w base held k 71 PF.cs PF.wk := fun fuel hk cs x h => by
 obtain ⟨xs, n, hfu, -, hl, hn, hf⟩ := DataW.trod_struct Tryz.underlying71 h
 have hl : cs.length = 5 := hl.trans (by kernel_rfl)
 obtain ⟨y0, h0⟩ := fget hf hn 0 _ rfl
 have h0 : DataW.trod enc Tryz.prog w base (fun _ => true) held n 69 ((cs.drop 0).take 3) = some y0 := h0
 obtain ⟨v0, r0, k0⟩ := (op_Spec k) n (by omega) _ _ h0
 obtain ⟨y1, h1⟩ := fget hf hn 1 _ rfl
 have h1 : DataW.trod enc Tryz.prog w base (fun _ => true) held n 3 ((cs.drop 3).take 1) = some y1 := h1
 obtain ⟨v1, r1, k1⟩ := (op_int k) n (by omega) _ _ h1
 obtain ⟨y2, h2⟩ := fget hf hn 2 _ rfl
 have h2 : DataW.trod enc Tryz.prog w base (fun _ => true) held n 22 ((cs.drop 4).take 1) = some y2 := h2
 obtain ⟨v2, r2, k2⟩ := (op_slice (k := k) (n := 2) usl_sers (by kernel_rfl) (by decide) (fun v => rfl) (op_Ser k)) n (by omega) _ _ h2
 exact ⟨⟨v0.1, v0.2.1, v0.2.2, v1, v2⟩, rl_chain 0 r0 (rl_chain 3 r1 (rl_last 4 hl r2)), ⟨k0.1, k0.2.1, k0.2.2, k1, k2⟩⟩
theorem px_cells (v : PX) : v.cs.length = 8 := by cases v; rfl
theorem op_Expr : ∀ k : Nat, Op enc w base held k 59 PX.cs PX.wk := by
  intro k
  induction k with
  | zero =>
    intro fuel hk cs x h
    obtain rfl : fuel = 0 := by omega
    simp [DataW.trod] at h
  | succ k ih =>
    intro fuel hk cs x h
    obtain ⟨xs, n, hfu, -, hl, hn, hf⟩ := DataW.trod_struct Tryz.underlying59 h
    have hl : cs.length = 8 := hl.trans (by kernel_rfl)
    obtain ⟨y0, h0⟩ := fget hf hn 0 _ rfl
    obtain ⟨y1, h1⟩ := fget hf hn 1 _ rfl
    obtain ⟨y2, h2⟩ := fget hf hn 2 _ rfl
    obtain ⟨y3, h3⟩ := fget hf hn 3 _ rfl
    obtain ⟨y4, h4⟩ := fget hf hn 4 _ rfl
    have h0 : DataW.trod enc Tryz.prog w base (fun _ => true) held n 3 ((cs.drop 0).take 1) = some y0 := h0
    have h1 : DataW.trod enc Tryz.prog w base (fun _ => true) held n 56 ((cs.drop 1).take 1) = some y1 := h1
    have h2 : DataW.trod enc Tryz.prog w base (fun _ => true) held n 54 ((cs.drop 2).take 4) = some y2 := h2
    have h3 : DataW.trod enc Tryz.prog w base (fun _ => true) held n 9 ((cs.drop 6).take 1) = some y3 := h3
    have h4 : DataW.trod enc Tryz.prog w base (fun _ => true) held n 57 ((cs.drop 7).take 1) = some y4 := h4
    obtain ⟨v0, r0, k0⟩ := op_int n n (Nat.le_refl _) _ _ h0
    obtain ⟨v1, r1, k1⟩ := op_ints n n (Nat.le_refl _) _ _ h1
    obtain ⟨v2, r2, k2⟩ := op_Rat n n (Nat.le_refl _) _ _ h2
    obtain ⟨v3, r3, k3⟩ := op_str n n (Nat.le_refl _) _ _ h3
    obtain ⟨v4, r4, k4⟩ := op_slice (n := 8) usl_exprs (by kernel_rfl) (by decide) px_cells ih n (by omega) _ _ h4
    refine ⟨.mk v0 v1 v2 v3 v4, ?_, k0, k1, k2, k3, (PX.wks_iff _).2 k4.1, k4.2⟩
    rw [PX.cs, PX.avs_map]
    exact rl_chain 0 r0 (rl_chain 1 r1 (rl_chain 2 r2 (rl_chain 6 r3 (rl_last 7 hl r4))))
theorem op_Bnd (k : Nat) : Op enc w base held k 61 PB.cs PB.wk := fun fuel hk cs x h => by
 obtain ⟨xs, n, hfu, -, hl, hn, hf⟩ := DataW.trod_struct Tryz.underlying61 h
 have hl : cs.length = 9 := hl.trans (by kernel_rfl)
 obtain ⟨y0, h0⟩ := fget hf hn 0 _ rfl
 have h0 : DataW.trod enc Tryz.prog w base (fun _ => true) held n 9 ((cs.drop 0).take 1) = some y0 := h0
 obtain ⟨v0, r0, k0⟩ := (op_str k) n (by omega) _ _ h0
 obtain ⟨y1, h1⟩ := fget hf hn 1 _ rfl
 have h1 : DataW.trod enc Tryz.prog w base (fun _ => true) held n 59 ((cs.drop 1).take 8) = some y1 := h1
 obtain ⟨v1, r1, k1⟩ := (op_Expr k) n (by omega) _ _ h1
 exact ⟨⟨v0, v1⟩, rl_chain 0 r0 (rl_last 1 hl r1), ⟨k0, k1⟩⟩
theorem pb_cells (v : PB) : v.cs.length = 9 := by obtain ⟨nm, e⟩ := v; show (_ :: PX.cs e).length = 9; rw [List.length_cons, px_cells]
theorem op_Cert (k : Nat) : Op enc w base held k 75 PZ.cs PZ.wk := fun fuel hk cs x h => by
 obtain ⟨xs, n, hfu, -, hl, hn, hf⟩ := DataW.trod_struct Tryz.underlying75 h
 have hl : cs.length = 25 := hl.trans (by kernel_rfl)
 obtain ⟨y0, h0⟩ := fget hf hn 0 _ rfl
 have h0 : DataW.trod enc Tryz.prog w base (fun _ => true) held n 59 ((cs.drop 0).take 8) = some y0 := h0
 obtain ⟨v0, r0, k0⟩ := (op_Expr k) n (by omega) _ _ h0
 obtain ⟨y1, h1⟩ := fget hf hn 1 _ rfl
 have h1 : DataW.trod enc Tryz.prog w base (fun _ => true) held n 59 ((cs.drop 8).take 8) = some y1 := h1
 obtain ⟨v1, r1, k1⟩ := (op_Expr k) n (by omega) _ _ h1
 obtain ⟨y2, h2⟩ := fget hf hn 2 _ rfl
 have h2 : DataW.trod enc Tryz.prog w base (fun _ => true) held n 24 ((cs.drop 16).take 1) = some y2 := h2
 obtain ⟨v2, r2, k2⟩ := (op_slice (k := k) (n := 9) usl_bnds (by kernel_rfl) (by decide) pb_cells (op_Bnd k)) n (by omega) _ _ h2
 obtain ⟨y3, h3⟩ := fget hf hn 3 _ rfl
 have h3 : DataW.trod enc Tryz.prog w base (fun _ => true) held n 73 ((cs.drop 17).take 5) = some y3 := h3
 obtain ⟨v3, r3, k3⟩ := (op_Kind k) n (by omega) _ _ h3
 obtain ⟨y4, h4⟩ := fget hf hn 4 _ rfl
 have h4 : DataW.trod enc Tryz.prog w base (fun _ => true) held n 3 ((cs.drop 22).take 1) = some y4 := h4
 obtain ⟨v4, r4, k4⟩ := (op_int k) n (by omega) _ _ h4
 obtain ⟨y5, h5⟩ := fget hf hn 5 _ rfl
 have h5 : DataW.trod enc Tryz.prog w base (fun _ => true) held n 49 ((cs.drop 23).take 2) = some y5 := h5
 obtain ⟨v5, r5, k5⟩ := (op_Ser k) n (by omega) _ _ h5
 exact ⟨⟨v0, v1, v2, v3, v4, v5⟩, rl_chain 0 r0 (rl_chain 8 r1 (rl_chain 16 r2 (rl_chain 17 r3 (rl_chain 22 r4 (rl_last 23 hl r5))))), ⟨k0, k1, k2, k3, k4, k5⟩⟩
theorem pz_cells (v : PZ) : v.cs.length = 25 := by obtain ⟨a, b, ds, kk, bo, c⟩ := v; show (a.cs ++ (b.cs ++ (_ :: ([_, _, _, _, _] ++ (_ :: [_, _]))))).length = 25; rw [List.length_append, List.length_append, px_cells, px_cells]; rfl
theorem op_Pkg (k : Nat) : Op enc w base held k 29 PP.cs PP.wk := fun fuel hk cs x h => by
 obtain ⟨xs, n, hfu, -, hl, hn, hf⟩ := DataW.trod_struct Tryz.underlying29 h
 have hl : cs.length = 6 := hl.trans (by kernel_rfl)
 obtain ⟨y0, h0⟩ := fget hf hn 0 _ rfl
 have h0 : DataW.trod enc Tryz.prog w base (fun _ => true) held n 22 ((cs.drop 0).take 1) = some y0 := h0
 obtain ⟨v0, r0, k0⟩ := (op_slice (k := k) (n := 2) usl_sers (by kernel_rfl) (by decide) (fun v => rfl) (op_Ser k)) n (by omega) _ _ h0
 obtain ⟨y1, h1⟩ := fget hf hn 1 _ rfl
 have h1 : DataW.trod enc Tryz.prog w base (fun _ => true) held n 23 ((cs.drop 1).take 1) = some y1 := h1
 obtain ⟨v1, r1, k1⟩ := (op_slice (k := k) (n := 2) usl_etas (by kernel_rfl) (by decide) (fun v => rfl) (op_Eta k)) n (by omega) _ _ h1
 obtain ⟨y2, h2⟩ := fget hf hn 2 _ rfl
 have h2 : DataW.trod enc Tryz.prog w base (fun _ => true) held n 24 ((cs.drop 2).take 1) = some y2 := h2
 obtain ⟨v2, r2, k2⟩ := (op_slice (k := k) (n := 9) usl_bnds (by kernel_rfl) (by decide) pb_cells (op_Bnd k)) n (by omega) _ _ h2
 obtain ⟨y3, h3⟩ := fget hf hn 3 _ rfl
 have h3 : DataW.trod enc Tryz.prog w base (fun _ => true) held n 25 ((cs.drop 3).take 1) = some y3 := h3
 obtain ⟨v3, r3, k3⟩ := (op_slice (k := k) (n := 25) usl_certs (by kernel_rfl) (by decide) pz_cells (op_Cert k)) n (by omega) _ _ h3
 obtain ⟨y4, h4⟩ := fget hf hn 4 _ rfl
 have h4 : DataW.trod enc Tryz.prog w base (fun _ => true) held n 26 ((cs.drop 4).take 1) = some y4 := h4
 obtain ⟨v4, r4, k4⟩ := (op_slice (k := k) (n := 5) usl_spcs (by kernel_rfl) (by decide) (fun v => rfl) (op_Spc k)) n (by omega) _ _ h4
 obtain ⟨y5, h5⟩ := fget hf hn 5 _ rfl
 have h5 : DataW.trod enc Tryz.prog w base (fun _ => true) held n 27 ((cs.drop 5).take 1) = some y5 := h5
 obtain ⟨v5, r5, k5⟩ := (op_slice (k := k) (n := 3) usl_mats (by kernel_rfl) (by decide) (fun v => rfl) (op_Mat k)) n (by omega) _ _ h5
 exact ⟨⟨v0, v1, v2, v3, v4, v5⟩, rl_chain 0 r0 (rl_chain 1 r1 (rl_chain 2 r2 (rl_chain 3 r3 (rl_chain 4 r4 (rl_last 5 hl r5))))), ⟨k0, k1, k2, k3, k4, k5⟩⟩
end
end Ab
namespace Go.Proofs.YtbpdgaolmikjbaaGreat
open Go.ChangeShapes Go.WideShapes Go.ChangeAt Go.RowKit Ab
set_option maxRecDepth 100000
theorem pkgAgain {H : Type} {enc : TypeId × Value → H} {W W' : World} {v : Value} {d : DataW H} {ps : List MemPlace} (h : DataW.Trod enc Tryz.prog W 0 (fun _ => true) true 29 v d ps) (hb : Below W.heap.size W W') (hlt : ∀ x ∈ ps, x.block < W.heap.size) :
  DataW.Trod enc Tryz.prog W' 0 (fun b => decide (b < W.heap.size)) true 29 v d ps := Below.trod laidOut (by kernel_rfl) (of_decide_eq_true (by kernel_rfl)) h hb hlt
theorem pkg_in {H : Type} {enc : TypeId × Value → H} {w : World} {base b0 : Nat} {held : Bool} {r : Reach} {v : Value} {d : DataW H} {p : List MemPlace} (hv : Value.okWide Tryz.prog w r b0 29 v) (h : DataW.Trod enc Tryz.prog w base (fun _ => true) held 29 v d p) : ∃ q : PP, Rep w NoM q.av v ∧ q.wk := by
 obtain ⟨cs, rfl, hsz⟩ := okWide_struct Tryz.underlying29 hv
 obtain ⟨fuel, hf⟩ := h
 obtain ⟨q, hr, hok⟩ := op_Pkg fuel fuel (Nat.le_refl _) _ _ hf
 refine ⟨q, .agg _ _ ?_ (fun e he => ?_) (fun i e u hi hu => ?_), hok⟩
 ·have := hr.1
  simpa [Value.cells] using this
 ·obtain ⟨j, hj⟩ := List.getElem?_of_mem he
  exact (hr.2 j e hj).1
 ·obtain ⟨-, u', h1, h2⟩ := hr.2 i e hi
  have h1 : cs.toList[i]? = some u' := h1
  rw [Array.getElem?_toList, hu] at h1
  injection h1 with h1
  subst h1
  exact h2
end Go.Proofs.YtbpdgaolmikjbaaGreat
