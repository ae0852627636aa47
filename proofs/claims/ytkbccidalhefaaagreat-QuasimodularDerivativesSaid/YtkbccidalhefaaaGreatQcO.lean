/- Numbers among the arguments, opened: from data to abstract values. -/
import Derived.Test.YtkbccidalhefaaaGreatSerC
import Derived.ProofKit
import Derived.Deep.Slices
import Derived.Lib.SmallJoins
set_option linter.all false
namespace Ab
open Go Go.RowKit Go.Proofs Hp Go.ChangeShapes Go.WideShapes
set_option maxRecDepth 100000

def NoM : Nat → Prop := fun _ => False
theorem okNo {dm : Bool} (w : World) : OKM dm NoM w := ⟨fun b h => h.elim, fun b l h => nomatch (show (none : Option (List Value)) = some l from h)⟩
section
variable {H : Type} {enc : TypeId × Value → H} {w : World} {base : Nat} {spare : Nat → Bool} {held : Bool} {fuel : Nat} {cs : List Value} {x : DataW H × List MemPlace}
abbrev maxN : Nat := 9223372036854775807
theorem plain_cells {w : World} {base : Nat} {a : Addr} {n i : Nat} {cs : List Value} (h : w.cells? base (a.add i) n = some cs) (hn : 0 < n) : ∃ c, w.cell? (a.add i) = some c := by
  obtain ⟨_, hl, hc⟩ := World.cells?_some h
  have := hc 0 hn
  refine ⟨cs[0], ?_⟩
  rw [List.getElem?_eq_getElem (by omega)] at this
  simpa [Addr.add] using this
/-- an address whose first cell is there is plain -/
theorem plain_at {w : World} {a : Addr} {v : Value} (h : w.cell? (a.add 0) = some v) : ∃ b off, a = ⟨b, off, none⟩ := by
  obtain ⟨b, off, spot⟩ := a
  have hspot : spot = none := by simpa [Addr.add] using World.cell?_spot h
  subst hspot
  exact ⟨b, off, rfl⟩
/-- a slice of numbers of 32 bits -/
theorem open_digs (h : DataW.trod enc Tryz.prog w base (fun _ => true) held fuel 35 cs = some x) : ∃ (c : Value) (ds : List Int), cs = [c] ∧ Rep w NoM (.sl (ds.map u32)) c ∧ (∀ d, d ∈ ds → isDig d) ∧ ds.length ≤ maxN := by
  rcases open_ints sl_u32s und_u32 (by kernel_rfl) h with ⟨h1, -⟩ | ⟨a, len, cap, zs, rfl, -, hl, hm, hz, -, hc, hw⟩
  · exact ⟨_, [], h1, .emp _ _, fun d hd => by simp at hd, by simp⟩
  · have hz : zs.length = cap := hz
    have hcap : cap ≤ maxN := hm
    refine ⟨_, zs.take len, rfl, ?_, fun d hd => ?_, by simp; omega⟩
    · by_cases h0 : len = 0
      · subst h0
        exact .emp _ _
      · obtain ⟨b, off, rfl⟩ := plain_at (hc 0 (by omega))
        have hlen : ((zs.take len).map u32).length = len := by simp; omega
        have hget : ∀ (i : Nat) e, ((zs.take len).map u32)[i]? = some e → i < len ∧ e = u32 (zs.getD i 0) := fun i e he => by
          have hi : i < len := by rw [← hlen]; exact (List.getElem?_eq_some_iff.1 he).1
          refine ⟨hi, ?_⟩
          have hi' : i < zs.length := by omega
          simp only [List.getElem?_map, List.getElem?_take, if_pos hi, List.getElem?_eq_getElem hi', Option.map_some, Option.some.injEq] at he
          rw [← he]
          simp [hi']
        have := Rep.sl (w := w) (M := NoM) ((zs.take len).map u32) b off cap 1 (fun i _ => .int .u32 (zs.getD i 0)) (by rw [hlen]; exact hl) (fun i j hi hj hm => hm) (fun e he => ?_) (fun e he c hc' => ?_) (fun i j hi hj => ?_) (fun i e j c he hj => ?_)
        · rw [hlen] at this; exact this
        · obtain ⟨i, hi⟩ := List.getElem?_of_mem he
          rw [(hget i e hi).2]; rfl
        · obtain ⟨i, hi⟩ := List.getElem?_of_mem he
          rw [(hget i e hi).2] at hc'
          simp [u32, AV.cells] at hc'
          subst hc'; rfl
        · rw [hlen] at hi
          obtain rfl : j = 0 := by omega
          rw [Nat.mul_one, Nat.add_zero, ← Go.WideShapes.add_plain]
          exact hc i (by omega)
        · obtain ⟨hi, rfl⟩ := hget i e he
          rcases j with _ | j
          · simp [u32, AV.cells] at hj; subst hj; exact .p _ rfl
          · simp [u32, AV.cells] at hj
    · have := hw d (List.mem_of_mem_take hd)
      have h2 : IntKind.u32.min ≤ d ∧ d ≤ IntKind.u32.max := by simpa [Lit.wf] using this
      have e0 : IntKind.u32.min = 0 := by decide
      have e1 : IntKind.u32.max = 4294967295 := by decide
      show 0 ≤ d ∧ d < (4294967296 : Int)
      omega
/-- digits and sign of an integer that came in -/
def DigI (r : Bool × List Int) : Prop := (∀ d, d ∈ r.2 → isDig d) ∧ r.2.length ≤ maxN
theorem open_int2 (h : DataW.trod enc Tryz.prog w base (fun _ => true) held fuel 37 cs = some x) : ∃ (c0 c1 : Value) (r : Bool × List Int), cs = [c0, c1] ∧ Rep w NoM (.p (.bool r.1)) c0 ∧ Rep w NoM (.sl (r.2.map u32)) c1 ∧ DigI r := by
  obtain ⟨y0, y1, n, -, hl, h0, h1⟩ := trod_struct2 Tryz.underlying37 h
  have hl : cs.length = 2 := hl.trans (by kernel_rfl)
  match cs, hl with
  | [c0, c1], _ =>
    have h0 : DataW.trod enc Tryz.prog w base (fun _ => true) held n 4 [c0] = some y0 := h0
    have h1 : DataW.trod enc Tryz.prog w base (fun _ => true) held n 35 [c1] = some y1 := h1
    obtain ⟨b, hb, -⟩ := DataW.trod_bool und_bool h0
    obtain ⟨c, ds, hc, hr, hd, hn⟩ := open_digs h1
    injection hb with hb
    injection hc with hc
    subst hb hc
    exact ⟨_, _, (b, ds), rfl, .p _ rfl, hr, hd, hn⟩
def DigR (r : RQ) : Prop := DigI r.1 ∧ DigI r.2
theorem open_rat4 (h : DataW.trod enc Tryz.prog w base (fun _ => true) held fuel 39 cs = some x) : ∃ (c0 c1 c2 c3 : Value) (r : RQ), cs = [c0, c1, c2, c3] ∧ Rep w NoM (.p (.bool r.1.1)) c0 ∧ Rep w NoM (.sl (r.1.2.map u32)) c1 ∧ Rep w NoM (.p (.bool r.2.1)) c2 ∧ Rep w NoM (.sl (r.2.2.map u32)) c3 ∧ DigR r := by
  obtain ⟨y0, y1, n, -, hl, h0, h1⟩ := trod_struct2 Tryz.underlying39 h
  have hl : cs.length = 4 := hl.trans (by kernel_rfl)
  match cs, hl with
  | [c0, c1, c2, c3], _ =>
    have h0 : DataW.trod enc Tryz.prog w base (fun _ => true) held n 37 [c0, c1] = some y0 := h0
    have h1 : DataW.trod enc Tryz.prog w base (fun _ => true) held n 37 [c2, c3] = some y1 := h1
    obtain ⟨d0, d1, r, e, g0, g1, hr⟩ := open_int2 h0
    obtain ⟨d2, d3, q, e', g2, g3, hq⟩ := open_int2 h1
    simp only [List.cons.injEq, and_true] at e e'
    obtain ⟨rfl, rfl⟩ := e
    obtain ⟨rfl, rfl⟩ := e'
    exact ⟨_, _, _, _, (r, q), rfl, g0, g1, g2, g3, hr, hq⟩
end
def ratO (r : RQ) : Rat := Rat.divInt (zof r.1.1 (vl r.1.2)) (zof r.2.1 (vl r.2.2))
theorem isV_raw {r : RQ} {k : Nat} (h : DigR r) (h1 : r.1.2.length ≤ k) (h2 : r.2.2.length ≤ k) : IsV (rawA r) k (ratO r) :=
  ⟨_, _, _, _, rfl, ⟨r.1.1, r.1.2, rfl, h.1.1, h1, rfl⟩, ⟨r.2.1, r.2.2, rfl, h.2.1, h2, rfl⟩, rfl⟩
end Ab
