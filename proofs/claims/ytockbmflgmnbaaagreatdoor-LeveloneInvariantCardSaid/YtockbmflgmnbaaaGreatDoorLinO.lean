/- An argument that is a polynomial: opened, and read again; no condition. -/
import Derived.Test.YtockbmflgmnbaaaGreatDoorFL
import Derived.Test.YtockbmflgmnbaaaGreatDoorOCG
set_option linter.all false
namespace Ab
open Go Go.RowKit Go.Proofs Hp Go.ChangeShapes Go.WideShapes Go.ChangeAt
theorem sl_polyX : Tryz.prog.underlying 23 = some (.slice 49) := by kernel_rfl
section
variable {H : Type} {enc : TypeId × Value → H} {w : World} {base : Nat} {spare : Nat → Bool} {held : Bool} {fuel : Nat} {cs : List Value} {x : DataW H × List MemPlace}
theorem open_polyX (h : DataW.trod enc Tryz.prog w base (fun _ => true) held fuel 23 cs = some x) : ∃ (c : Value) (R : List RQ), cs = [c] ∧ Rep w NoM (.sl (R.map rawA)) c ∧ (∀ r, r ∈ R → DigR r) ∧ R.length ≤ maxN := by
 rcases Go.Deep.open_slice sl_polyX h with ⟨h1, -⟩ | ⟨a, len, cap, m, n, D, Pl, rfl, -, hl, hm, hmm, -, hx⟩
 ·exact ⟨_, [], h1, .emp _ _, fun d hd => by simp at hd, by simp⟩
 ·have hmm : m = cap := hmm
  have hcap : cap ≤ maxN := hm
  have h4 : Tryz.prog.cellsOf 49 = 4 := by kernel_rfl
  rw [h4] at hx
  by_cases h0 : len = 0
  ·subst h0
   exact ⟨_, [], rfl, .emp _ _, fun d hd => by simp at hd, by simp⟩
  obtain ⟨cs0, hc0, -⟩ := hx 0 (by omega)
  obtain ⟨c, hc⟩ := plain_cells hc0 (by decide)
  rw [Nat.zero_mul] at hc
  obtain ⟨b, off, rfl⟩ := plain_at hc
  obtain ⟨G, hG⟩ := Go.Deep.choose_lt (α := RQ × (Nat → Value)) (n := m) (p := fun i g => DigR g.1 ∧ (∀ j, j < 4 → w.cell? ⟨b, off + i * 4 + j, none⟩ = some (g.2 j)) ∧ ∀ (j : Nat) c, (rawA g.1).cells[j]? = some c → Rep w NoM c (g.2 j)) (fun i hi => by
   obtain ⟨cs', hc', ht⟩ := hx i hi
   obtain ⟨c0, c1, c2, c3, r, rfl, g0, g1, g2, g3, hr⟩ := open_rat4 ht
   obtain ⟨_, -, hcell⟩ := World.cells?_some hc'
   refine ⟨(r, fun j => [c0, c1, c2, c3].getD j (.bool false)), hr, fun j hj => ?_, fun j c hjc => ?_⟩
   ·have := hcell j hj
    rw [Go.WideShapes.add_plain, Go.WideShapes.add_plain] at this
    rw [this]
    rcases j with _ | _ | _ | _ | j
    ·rfl
    ·rfl
    ·rfl
    ·rfl
    ·omega
   ·rcases j with _ | _ | _ | _ | j
    ·simp [rawA, AV.cells] at hjc; subst hjc; exact g0
    ·simp [rawA, AV.cells] at hjc; subst hjc; exact g1
    ·simp [rawA, AV.cells] at hjc; subst hjc; exact g2
    ·simp [rawA, AV.cells] at hjc; subst hjc; exact g3
    ·simp [rawA, AV.cells] at hjc)
  have hlen : (((List.range len).map fun i => (G i).1).map rawA).length = len := by simp
  have hget : ∀ (i : Nat) e, (((List.range len).map fun i => (G i).1).map rawA)[i]? = some e → i < len ∧ e = rawA (G i).1 := fun i e he => by
   have hi : i < len := by rw [← hlen]; exact (List.getElem?_eq_some_iff.1 he).1
   refine ⟨hi, ?_⟩
   simp [hi] at he
   exact he.symm
  refine ⟨_, (List.range len).map fun i => (G i).1, rfl, ?_, fun r hr => ?_, by simp; omega⟩
  ·have := Rep.sl (w := w) (M := NoM) (((List.range len).map fun i => (G i).1).map rawA) b off cap 4 (fun i j => (G i).2 j) (by rw [hlen]; exact hl) (fun i j hi hj hm => hm) (fun e he => ?_) (fun e he c hc' => ?_) (fun i j hi hj => ?_) (fun i e j c he hj => ?_)
   ·rw [hlen] at this; exact this
   ·obtain ⟨i, hi⟩ := List.getElem?_of_mem he
    rw [(hget i e hi).2]; rfl
   ·obtain ⟨i, hi⟩ := List.getElem?_of_mem he
    rw [(hget i e hi).2] at hc'
    simp [rawA, AV.cells] at hc'
    rcases hc' with rfl | rfl | rfl | rfl <;> rfl
   ·rw [hlen] at hi
    exact (hG i (by omega)).2.1 j hj
   ·obtain ⟨hi, rfl⟩ := hget i e he
    exact (hG i (by omega)).2.2 j c hj
  ·obtain ⟨i, hi, rfl⟩ := List.mem_map.1 hr
   exact (hG i (by simp at hi; omega)).1
end
end Ab
namespace Go.Proofs.YtockbmflgmnbaaaGreatDoor
open Go.ChangeShapes Go.WideShapes Go.ChangeAt Go.RowKit Ab
set_option maxRecDepth 100000 in
theorem polyAgain {H : Type} {enc : TypeId × Value → H} {W W' : World} {v : Value} {d : DataW H} {ps : List MemPlace} (h : DataW.Trod enc Tryz.prog W 0 (fun _ => true) true 23 v d ps) (hb : Below W.heap.size W W') (hlt : ∀ x ∈ ps, x.block < W.heap.size) :
  DataW.Trod enc Tryz.prog W' 0 (fun b => decide (b < W.heap.size)) true 23 v d ps := Below.trod laidOut (by kernel_rfl) (of_decide_eq_true (by kernel_rfl)) h hb hlt
set_option maxRecDepth 100000 in
theorem poly_in {H : Type} {enc : TypeId × Value → H} {w : World} {base b0 : Nat} {held : Bool} {r : Reach} {v : Value} {d : DataW H} {p : List MemPlace} (hv : Value.okWide Tryz.prog w r b0 23 v) (h : DataW.Trod enc Tryz.prog w base (fun _ => true) held 23 v d p) : ∃ R : List RQ, Rep w NoM (.sl (R.map rawA)) v ∧ (∀ r, r ∈ R → DigR r) ∧ R.length ≤ maxN := by
 obtain ⟨a, len, cap, rfl⟩ := okWide_slice sl_polyX hv
 obtain ⟨fuel, hf⟩ := h
 obtain ⟨c, R, hc, hR, hd, hn⟩ := open_polyX hf
 simp [Value.cells] at hc
 subst hc
 exact ⟨R, hR, hd, hn⟩
end Go.Proofs.YtockbmflgmnbaaaGreatDoor
