/- A series with its weight among the arguments, opened: from data to abstract values. -/
import Derived.Test.YtaeeifonadgmcaaGreatDoorSeD
import Derived.Test.YtaeeifonadgmcaaGreatDoorFL
set_option linter.all false
namespace Go.Proofs.YtaeeifonadgmcaaGreatDoor
open Go.ChangeShapes Go.WideShapes Go.ChangeAt Go.RowKit Ab
set_option maxRecDepth 100000
theorem open_wtd {H : Type} {enc : TypeId × Value → H} {w : World} {base b0 : Nat} {held : Bool} {r : Reach} {v : Value} {d : DataW H} {p : List MemPlace} (hv : Value.okWide Tryz.prog w r b0 37 v) (h : DataW.Trod enc Tryz.prog w base (fun _ => true) held 37 v d p) : ∃ a : WT, Rep w NoM (wtO a) v ∧ WtOK a := by
  obtain ⟨cs, rfl, hsz⟩ := okWide_struct Tryz.underlying37 hv
  obtain ⟨fuel, hf⟩ := h
  obtain ⟨y0, y1, n, -, hl, h0, h1⟩ := trod_struct2 Tryz.underlying37 hf
  have hl : cs.toList.length = 3 := hl.trans (by kernel_rfl)
  obtain ⟨l⟩ := cs
  match l, hl with
  | [c0, c1, c2], _ =>
    have h0 : DataW.trod enc Tryz.prog w base (fun _ => true) held n 28 [c0, c1] = some y0 := h0
    have h1 : DataW.trod enc Tryz.prog w base (fun _ => true) held n 3 [c2] = some y1 := h1
    obtain ⟨k, ek, -, -⟩ := DataW.trod_int Zf7 h1
    injection ek with ek
    subst ek
    obtain ⟨z0, z1, n', -, -, g0, g1⟩ := trod_struct2 Tryz.underlying28 h0
    have g0 : DataW.trod enc Tryz.prog w base (fun _ => true) held n' 3 [c0] = some z0 := g0
    have g1 : DataW.trod enc Tryz.prog w base (fun _ => true) held n' 26 [c1] = some z1 := g1
    obtain ⟨s, e0, -, hw⟩ := DataW.trod_int Zf7 g0
    obtain ⟨c, R, e1, hR, hd, hn⟩ := open_rats g1
    injection e0 with e0
    injection e1 with e1
    subst e0 e1
    have hw : -9223372036854775808 ≤ s ∧ s ≤ 9223372036854775807 := by
      have h2 : IntKind.i64.min ≤ s ∧ s ≤ 9223372036854775807 := by simpa [Lit.wf] using hw
      have e0 : IntKind.i64.min = -9223372036854775808 := by decide
      omega
    refine ⟨⟨s, R, k⟩, .agg _ _ rfl (fun c hc => ?_) (fun i c v hi hv => ?_), hw.1, hw.2, hd, hn⟩
    · simp at hc
      rcases hc with rfl | rfl | rfl <;> rfl
    · rcases i with _ | _ | _ | i
      · simp at hi hv; subst hi hv; exact .p _ rfl
      · simp at hi hv; subst hi hv; exact hR
      · simp at hi hv; subst hi hv; exact .p _ rfl
      · simp at hi
theorem wtdAgain {H : Type} {enc : TypeId × Value → H} {W W' : World} {v : Value} {d : DataW H} {ps : List MemPlace} (h : DataW.Trod enc Tryz.prog W 0 (fun _ => true) true 37 v d ps) (hb : Below W.heap.size W W') (hlt : ∀ x ∈ ps, x.block < W.heap.size) :
  DataW.Trod enc Tryz.prog W' 0 (fun b => decide (b < W.heap.size)) true 37 v d ps := Below.trod laidOut (by kernel_rfl) (of_decide_eq_true (by kernel_rfl)) h hb hlt
end Go.Proofs.YtaeeifonadgmcaaGreatDoor
