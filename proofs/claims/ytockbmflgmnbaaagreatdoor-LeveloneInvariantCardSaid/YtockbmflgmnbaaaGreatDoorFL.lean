/- From a contract over two series to a row; the readings of the arguments, before and behind. The library's table, from the row's condition to the walks; arguments of two integers. Arguments of the statements: integers, lists of fractions, polynomials, two integers. What the kernel reckons of the whole program; no condition. -/
import Derived.Test.YtockbmflgmnbaaaGreatDoorRows
import Derived.Test.YtockbmflgmnbaaaGreatDoorOCG
import Derived.Test.YtockbmflgmnbaaaGreatDoorTie
import Derived.Test.YtockbmflgmnbaaaGreatDoorCards
import Derived.ChangeSame
import Derived.ChangeVars
import Derived.JoinedOf
import Derived.LaidLaws
import Derived.LaidHandle
import Derived.Lib.LaidTab
import Derived.Stop.Joined
import Derived.SevenTiedAt
set_option linter.all false
namespace Go.Proofs.YtockbmflgmnbaaaGreatDoor
open Go.ChangeShapes Go.WideShapes Go.ChangeAt Go.RowKit Ab
set_option maxRecDepth 100000
theorem own : ownKnob Tryz.prog.godebug = none := by kernel_rfl
theorem laidOut : laidOutB Tryz.prog = true := by kernel_rfl
theorem repsCons {w : World} {M : Nat → Prop} {a : AV} {v : Value} {l : List AV} {vs : List Value} (h : Rep w M a v) (t : Reps w M l vs) : Reps w M (a :: l) (v :: vs) := .cons a v l vs h t
theorem serAgain {H : Type} {enc : TypeId × Value → H} {W W' : World} {v : Value} {d : DataW H} {ps : List MemPlace} (h : DataW.Trod enc Tryz.prog W 0 (fun _ => true) true 25 v d ps) (hb : Below W.heap.size W W') (hlt : ∀ x ∈ ps, x.block < W.heap.size) :
  DataW.Trod enc Tryz.prog W' 0 (fun b => decide (b < W.heap.size)) true 25 v d ps := Below.trod laidOut (by kernel_rfl) (of_decide_eq_true (by kernel_rfl)) h hb hlt
end Go.Proofs.YtockbmflgmnbaaaGreatDoor
namespace Go.Proofs.YtockbmflgmnbaaaGreatDoor
open Go.ChangeShapes Go.WideShapes Go.ChangeAt Go.RowKit Ab
set_option maxRecDepth 100000
def tabZ : List Int := Lib.deBruijn64tab.map fun k : Nat => (k : Int)
theorem gTab : Tryz.prog.globalNamed "math/bits.deBruijn64tab" = some 0 := by kernel_rfl
theorem gTabT : (Tryz.prog.globals[0]?).map (·.type) = some 168 := by kernel_rfl
abbrev laidL : List (String × DataW Unit) := [("math/bits.deBruijn64tab", Rows.laid_math_bits_deBruijn64tab)]
theorem tab_of_laid {W : World} (h : laidMetH Tryz.prog laidL W) : TabOK NoM W := by
 have h' : laidMet Tryz.prog (("math/bits.deBruijn64tab", Lib.tabData .u8 tabZ) :: []) W := h
 have hT := Lib.tabIs_of_head gTab gTabT (show Tryz.prog.underlying 168 = some (.array 64 5) by kernel_rfl) (show Tryz.prog.underlying 5 = some (.int .u8) by kernel_rfl) (by kernel_rfl) (by kernel_rfl) h'
 intro b l hb
 have hb0 : b = 0 := by
  unfold Tabs at hb
  cases e : Nat.beq b 0 with
  | true => exact Nat.eq_of_beq_eq_true e
  | false => rw [e] at hb; cases hb
 subst hb0
 have hl : l = Lib.deBruijn64tab.map fun k : Nat => Value.int .u8 (k : Int) := by
  have : Tabs 0 = some (Lib.deBruijn64tab.map fun k : Nat => Value.int .u8 (k : Int)) := rfl
  rw [this] at hb
  injection hb with hb
  exact hb.symm
 subst hl
 have hc : ∀ (j : Nat) v, (Lib.deBruijn64tab.map fun k : Nat => Value.int .u8 (k : Int))[j]? = some v → W.cell? ⟨0, j, none⟩ = some v := fun j v hj => by
  rw [List.getElem?_map, Option.map_eq_some_iff] at hj
  obtain ⟨k, hk, rfl⟩ := hj
  have hlt : j < tabZ.length := by
   unfold tabZ
   rw [List.length_map]
   exact (List.getElem?_eq_some_iff.1 hk).1
  have := hT.cell gTab j hlt
  rw [this]
  unfold tabZ
  rw [List.getD_eq_getElem?_getD, List.getElem?_map, hk]
  rfl
 exact ⟨fun h => h, lt_of_cell (hc 0 _ rfl), hc⟩
noncomputable def laidWorld (os : Os) : World :=
 let w0 := World.holding Tryz.prog os ⟨#[], #[], []⟩
 { w0 with heap := w0.heap.modify 0 fun
   | .cells _ t frozen => .cells (Lib.deBruijn64tab.map fun k : Nat => Value.int .u8 (k : Int)).toArray t frozen
   | o => o }
theorem laidWorld_met (os : Os) (args : Array Value) : laidMetH Tryz.prog laidL ((laidWorld os).forCall (fun _ _ => 0) ⟨#[], args, []⟩).memory := by
 have h : laidMet Tryz.prog laidL ((laidWorld os).forCall (fun _ _ => 0) ⟨#[], args, []⟩).memory := laidMet_of_run' 8 (by kernel_rfl) (by kernel_rfl)
 exact h
end Go.Proofs.YtockbmflgmnbaaaGreatDoor
namespace Go.Proofs.YtockbmflgmnbaaaGreatDoor
open Go.ChangeShapes Go.WideShapes Go.ChangeAt Go.RowKit Ab
set_option maxRecDepth 100000 in
theorem arrAgain {H : Type} {enc : TypeId × Value → H} {W W' : World} {v : Value} {d : DataW H} {ps : List MemPlace} (h : DataW.Trod enc Tryz.prog W 0 (fun _ => true) true 26 v d ps) (hb : Below W.heap.size W W') (hlt : ∀ x ∈ ps, x.block < W.heap.size) :
  DataW.Trod enc Tryz.prog W' 0 (fun b => decide (b < W.heap.size)) true 26 v d ps := Below.trod laidOut (by kernel_rfl) (of_decide_eq_true (by kernel_rfl)) h hb hlt
theorem wf64 {n : Int} (hw : (Lit.int .i64 n).wf = true) : -9223372036854775808 ≤ n ∧ n ≤ 9223372036854775807 := by
 have h2 : IntKind.i64.min ≤ n ∧ n ≤ 9223372036854775807 := by simpa [Lit.wf] using hw
 have e0 : IntKind.i64.min = -9223372036854775808 := by decide
 omega
set_option maxRecDepth 100000 in
theorem arr_in {H : Type} {enc : TypeId × Value → H} {w : World} {base b0 : Nat} {spr : Nat → Bool} {held : Bool} {r : Reach} {v : Value} {d : DataW H} {p : List MemPlace} (hv : Value.okWide Tryz.prog w r b0 26 v) (h : DataW.Trod enc Tryz.prog w base spr held 26 v d p) : ∃ x y : Int, v = .agg #[.int .i64 x, .int .i64 y] ∧ (-9223372036854775808 ≤ x ∧ x ≤ 9223372036854775807) ∧ (-9223372036854775808 ≤ y ∧ y ≤ 9223372036854775807) := by
 have hv' : ∃ cs, v = .agg cs ∧ cs.size = Tryz.prog.cellsOf 26 ∧ Row.okWide Tryz.prog w r b0 26 cs := by
  unfold Value.okWide at hv
  rw [Tryz.underlying26] at hv
  exact hv
 obtain ⟨cs, rfl, hsz, -⟩ := hv'
 have h2 : Tryz.prog.cellsOf 26 = 2 := by kernel_rfl
 have h1 : Tryz.prog.cellsOf 3 = 1 := by kernel_rfl
 obtain ⟨c0, c1, rfl⟩ := Go.Joins.array2 (hsz.trans h2)
 obtain ⟨fuel, hf⟩ := h
 obtain ⟨xs, m, -, -, -, hl, hx⟩ := DataW.trod_array Tryz.underlying26 hf
 rw [h1] at hx
 have a0 := hx 0 (by decide)
 have a1 := hx 1 (by decide)
 obtain ⟨y0, hy0⟩ : ∃ y, xs[0]? = some y := ⟨_, List.getElem?_eq_getElem (by omega)⟩
 obtain ⟨y1, hy1⟩ : ∃ y, xs[1]? = some y := ⟨_, List.getElem?_eq_getElem (by omega)⟩
 rw [hy0] at a0
 rw [hy1] at a1
 have a0 : DataW.trod enc Tryz.prog w base spr held m 3 [c0] = some y0 := a0
 have a1 : DataW.trod enc Tryz.prog w base spr held m 3 [c1] = some y1 := a1
 obtain ⟨n0, e0, -, w0⟩ := DataW.trod_int Zf9 a0
 obtain ⟨n1, e1, -, w1⟩ := DataW.trod_int Zf9 a1
 injection e0 with e0
 injection e1 with e1
 subst e0 e1
 exact ⟨n0, n1, rfl, wf64 w0, wf64 w1⟩
theorem arr_rep {w : World} {M : Nat → Prop} (x y : Int) : Rep w M (.agg [.p (.int .i64 x), .p (.int .i64 y)]) (.agg #[.int .i64 x, .int .i64 y]) := by
 refine .agg _ _ rfl (fun e he => ?_) (fun i e u hi hu => ?_)
 ·simp at he
  rcases he with rfl | rfl <;> rfl
 ·rcases i with _ | _ | i
  ·simp at hi hu; subst hi hu; exact .p _ rfl
  ·simp at hi hu; subst hi hu; exact .p _ rfl
  ·simp at hi
end Go.Proofs.YtockbmflgmnbaaaGreatDoor
namespace Go.Proofs.YtockbmflgmnbaaaGreatDoor
open Go.ChangeShapes Go.WideShapes Go.ChangeAt Go.RowKit Ab
set_option maxRecDepth 100000
theorem gMaps : mapsRowed Tryz.prog = true := by kernel_rfl
theorem gHeard : Tryz.prog.stopsHeard = true := by kernel_rfl
theorem gEnter : Tryz.prog.mayEnter = true := by kernel_rfl
theorem gLooks : Tryz.prog.looks [] = false := by kernel_rfl
theorem gLifts : Tryz.prog.liftsFinal = false := by kernel_rfl
end Go.Proofs.YtockbmflgmnbaaaGreatDoor
