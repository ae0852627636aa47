/- Bytes among the arguments, opened: from data to abstract values. -/
import Derived.Test.YtbpdgaolmikjbaaGreatAwk
import Derived.ProofKit
import Derived.Deep.Slices
import Derived.Lib.SmallJoins
import Derived.Test.YtbpdgaolmikjbaaGreatRows
set_option linter.all false
namespace Ab
open Go Go.RowKit Go.Proofs Hp Go.ChangeShapes Go.WideShapes
set_option maxRecDepth 100000
def NoM : Nat → Prop := fun _ => False
theorem okNo {dm : Bool} (w : World) : OKM dm NoM w := ⟨fun b h => h.elim, fun b l h => nomatch (show (none : Option (List Value)) = some l from h)⟩
abbrev maxN : Nat := 9223372036854775807
theorem plain_at {w : World} {a : Addr} {v : Value} (h : w.cell? (a.add 0) = some v) : ∃ b off, a = ⟨b, off, none⟩ := by
 obtain ⟨b, off, spot⟩ := a
 have hspot : spot = none := by simpa [Addr.add] using World.cell?_spot h
 subst hspot
 exact ⟨b, off, rfl⟩
section
variable {H : Type} {enc : TypeId × Value → H} {w : World} {base : Nat} {spare : Nat → Bool} {held : Bool} {fuel : Nat} {cs : List Value} {x : DataW H × List MemPlace}
theorem open_nums {t e : TypeId} {k : IntKind} (hs : Tryz.prog.underlying t = some (.slice e)) (he : Tryz.prog.underlying e = some (.int k)) (h1' : Tryz.prog.cellsOf e = 1) (h : DataW.trod enc Tryz.prog w base (fun _ => true) held fuel t cs = some x) : ∃ (c : Value) (ds : List Int), cs = [c] ∧ Rep w NoM (.sl (ds.map fun n => .p (.int k n))) c ∧ (∀ d, d ∈ ds → (Lit.int k d).wf = true) ∧ ds.length ≤ maxN := by
 rcases open_ints hs he h1' h with ⟨h1, -⟩ | ⟨a, len, cap, zs, rfl, -, hl, hm, hz, -, hc, hw⟩
 ·exact ⟨_, [], h1, .emp _ _, fun d hd => by simp at hd, by simp⟩
 ·have hz : zs.length = cap := hz
  have hcap : cap ≤ maxN := hm
  refine ⟨_, zs.take len, rfl, ?_, fun d hd => hw d (List.mem_of_mem_take hd), by simp; omega⟩
  by_cases h0 : len = 0
  ·subst h0
   exact .emp _ _
  ·obtain ⟨b, off, rfl⟩ := plain_at (hc 0 (by omega))
   have hlen : ((zs.take len).map fun n => AV.p (.int k n)).length = len := by simp; omega
   have hget : ∀ (i : Nat) e, ((zs.take len).map fun n => AV.p (.int k n))[i]? = some e → i < len ∧ e = AV.p (.int k (zs.getD i 0)) := fun i e he => by
    have hi : i < len := by rw [← hlen]; exact (List.getElem?_eq_some_iff.1 he).1
    refine ⟨hi, ?_⟩
    have hi' : i < zs.length := by omega
    simp only [List.getElem?_map, List.getElem?_take, if_pos hi, List.getElem?_eq_getElem hi', Option.map_some, Option.some.injEq] at he
    rw [← he]
    simp [hi']
   have := Rep.sl (w := w) (M := NoM) ((zs.take len).map fun n => AV.p (.int k n)) b off cap 1 (fun i _ => .int k (zs.getD i 0)) (by rw [hlen]; exact hl) (fun i j hi hj hm => hm) (fun e he => ?_) (fun e he c hc' => ?_) (fun i j hi hj => ?_) (fun i e j c he hj => ?_)
   ·rw [hlen] at this; exact this
   ·obtain ⟨i, hi⟩ := List.getElem?_of_mem he
    rw [(hget i e hi).2]; rfl
   ·obtain ⟨i, hi⟩ := List.getElem?_of_mem he
    rw [(hget i e hi).2] at hc'
    simp [AV.cells] at hc'
    subst hc'; rfl
   ·rw [hlen] at hi
    obtain rfl : j = 0 := by omega
    rw [Nat.mul_one, Nat.add_zero, ← Go.WideShapes.add_plain]
    exact hc i (by omega)
   ·obtain ⟨hi, rfl⟩ := hget i e he
    rcases j with _ | j
    ·simp [AV.cells] at hj; subst hj; exact .p _ rfl
    ·simp [AV.cells] at hj
theorem open_bytes (h : DataW.trod enc Tryz.prog w base (fun _ => true) held fuel 32 cs = some x) : ∃ (c : Value) (l : List Nat), cs = [c] ∧ Rep w NoM (.sl (l.map nV)) c ∧ By l := by
 obtain ⟨c, ds, h1, h2, h3, h4⟩ := open_nums Zem Za3 (by kernel_rfl) h
 have hw : ∀ d, d ∈ ds → 0 ≤ d ∧ d < 256 := fun d hd => by
  have := h3 d hd
  have h5 : IntKind.u8.min ≤ d ∧ d ≤ IntKind.u8.max := by simpa [Lit.wf] using this
  have e0 : IntKind.u8.min = 0 := by decide
  have e1 : IntKind.u8.max = 255 := by decide
  omega
 refine ⟨c, ds.map Int.toNat, h1, ?_, fun c hc => ?_⟩
 ·have e : (ds.map Int.toNat).map nV = ds.map fun n => AV.p (.int .u8 n) := by
   rw [List.map_map]
   refine List.map_congr_left fun d hd => ?_
   have := (hw d hd).1
   show AV.p (.int .u8 ((d.toNat : Nat) : Int)) = _
   rw [Int.toNat_of_nonneg this]
  rw [e]; exact h2
 ·obtain ⟨d, hd, rfl⟩ := List.mem_map.1 hc
  have := hw d hd
  omega
end
end Ab
namespace Go.Proofs.YtbpdgaolmikjbaaGreat
open Go.ChangeShapes Go.WideShapes Go.ChangeAt Go.RowKit Ab
set_option maxRecDepth 100000
theorem own : ownKnob Tryz.prog.godebug = none := by kernel_rfl
theorem laidOut : laidOutB Tryz.prog = true := by kernel_rfl
theorem repsCons {w : World} {M : Nat → Prop} {a : AV} {v : Value} {l : List AV} {vs : List Value} (h : Rep w M a v) (t : Reps w M l vs) : Reps w M (a :: l) (v :: vs) := .cons a v l vs h t
theorem bytesAgain {H : Type} {enc : TypeId × Value → H} {W W' : World} {v : Value} {d : DataW H} {ps : List MemPlace} (h : DataW.Trod enc Tryz.prog W 0 (fun _ => true) true 32 v d ps) (hb : Below W.heap.size W W') (hlt : ∀ x ∈ ps, x.block < W.heap.size) :
  DataW.Trod enc Tryz.prog W' 0 (fun b => decide (b < W.heap.size)) true 32 v d ps := Below.trod laidOut (by kernel_rfl) (of_decide_eq_true (by kernel_rfl)) h hb hlt
theorem bytes_in {H : Type} {enc : TypeId × Value → H} {w : World} {base b0 : Nat} {held : Bool} {r : Reach} {v : Value} {d : DataW H} {p : List MemPlace} (hv : Value.okWide Tryz.prog w r b0 32 v) (h : DataW.Trod enc Tryz.prog w base (fun _ => true) held 32 v d p) : ∃ l : List Nat, Rep w NoM (.sl (l.map nV)) v ∧ By l := by
 obtain ⟨a, len, cap, rfl⟩ := okWide_slice Zem hv
 obtain ⟨fuel, hf⟩ := h
 obtain ⟨c, l, hc, hR, hd⟩ := open_bytes hf
 simp [Value.cells] at hc
 subst hc
 exact ⟨l, hR, hd⟩
end Go.Proofs.YtbpdgaolmikjbaaGreat
