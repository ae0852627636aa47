/- From a contract over two series to a row. -/
import Derived.Test.YtalcdpjpapojeaaGreatDoorRows
import Derived.Test.YtalcdpjpapojeaaGreatDoorOCG
import Derived.Test.YtalcdpjpapojeaaGreatDoorTie
import Derived.Test.YtalcdpjpapojeaaGreatDoorCards
import Derived.ChangeSame
import Derived.ChangeVars
import Derived.JoinedOf
import Derived.LaidLaws
import Derived.LaidHandle
import Derived.Lib.LaidTab
import Derived.Stop.Joined
import Derived.SevenTiedAt
set_option linter.all false
namespace Go.Proofs.YtalcdpjpapojeaaGreatDoor
open Go.ChangeShapes Go.WideShapes Go.ChangeAt Go.RowKit Ab
set_option maxRecDepth 100000
theorem own : ownKnob Tryz.prog.godebug = none := by kernel_rfl
theorem laidOut : laidOutB Tryz.prog = true := by kernel_rfl
theorem repsCons {w : World} {M : Nat → Prop} {a : AV} {v : Value} {l : List AV} {vs : List Value} (h : Rep w M a v) (t : Reps w M l vs) : Reps w M (a :: l) (v :: vs) := .cons a v l vs h t
end Go.Proofs.YtalcdpjpapojeaaGreatDoor
namespace Go.Proofs.YtalcdpjpapojeaaGreatDoor
open Go.ChangeShapes Go.WideShapes Go.ChangeAt Go.RowKit Ab
set_option maxRecDepth 100000
def tabZ : List Int := Lib.deBruijn64tab.map fun k : Nat => (k : Int)
theorem gTab : Tryz.prog.globalNamed "math/bits.deBruijn64tab" = some 0 := by kernel_rfl
theorem gTabT : (Tryz.prog.globals[0]?).map (·.type) = some 207 := by kernel_rfl
abbrev laidL : List (String × DataW Unit) := [("math/bits.deBruijn64tab", Rows.laid_math_bits_deBruijn64tab)]
theorem tab_of_laid {W : World} (h : laidMetH Tryz.prog laidL W) : TabOK NoM W := by
 have h' : laidMet Tryz.prog (("math/bits.deBruijn64tab", Lib.tabData .u8 tabZ) :: []) W := h
 have hT := Lib.tabIs_of_head gTab gTabT (show Tryz.prog.underlying 207 = some (.array 64 5) by kernel_rfl) (show Tryz.prog.underlying 5 = some (.int .u8) by kernel_rfl) (by kernel_rfl) (by kernel_rfl) h'
 intro b l hb
 have hb0 : b = 0 := by
  unfold Tabs at hb
  cases e : Nat.beq b 0 with
  | true => exact Nat.eq_of_beq_eq_true e
  | false => rw [e] at hb; cases hb
 subst hb0
 have hl : l = Lib.deBruijn64tab.map fun k : Nat => Value.int .u8 (k : Int) := by
  have : Tabs 0 = some (Lib.deBruijn64tab.map fun k : Nat => Value.int .u8 (k : Int)) := rfl
  rw [this] at hb
  injection hb with hb
  exact hb.symm
 subst hl
 have hc : ∀ (j : Nat) v, (Lib.deBruijn64tab.map fun k : Nat => Value.int .u8 (k : Int))[j]? = some v → W.cell? ⟨0, j, none⟩ = some v := fun j v hj => by
  rw [List.getElem?_map, Option.map_eq_some_iff] at hj
  obtain ⟨k, hk, rfl⟩ := hj
  have hlt : j < tabZ.length := by
   unfold tabZ
   rw [List.length_map]
   exact (List.getElem?_eq_some_iff.1 hk).1
  have := hT.cell gTab j hlt
  rw [this]
  unfold tabZ
  rw [List.getD_eq_getElem?_getD, List.getElem?_map, hk]
  rfl
 exact ⟨fun h => h, lt_of_cell (hc 0 _ rfl), hc⟩
noncomputable def laidWorld (os : Os) : World :=
 let w0 := World.holding Tryz.prog os ⟨#[], #[], []⟩
 { w0 with heap := w0.heap.modify 0 fun
   | .cells _ t frozen => .cells (Lib.deBruijn64tab.map fun k : Nat => Value.int .u8 (k : Int)).toArray t frozen
   | o => o }
theorem laidWorld_met (os : Os) (args : Array Value) : laidMetH Tryz.prog laidL ((laidWorld os).forCall (fun _ _ => 0) ⟨#[], args, []⟩).memory := by
 have h : laidMet Tryz.prog laidL ((laidWorld os).forCall (fun _ _ => 0) ⟨#[], args, []⟩).memory := laidMet_of_run' 8 (by kernel_rfl) (by kernel_rfl)
 exact h
end Go.Proofs.YtalcdpjpapojeaaGreatDoor
namespace Go.Proofs.YtalcdpjpapojeaaGreatDoor
open Go.ChangeShapes Go.WideShapes Go.ChangeAt Go.RowKit Ab
set_option maxRecDepth 100000 in
theorem intAgain {H : Type} {enc : TypeId × Value → H} {W W' : World} {v : Value} {d : DataW H} {ps : List MemPlace} (h : DataW.Trod enc Tryz.prog W 0 (fun _ => true) true 3 v d ps) (hb : Below W.heap.size W W') (hlt : ∀ x ∈ ps, x.block < W.heap.size) :
  DataW.Trod enc Tryz.prog W' 0 (fun b => decide (b < W.heap.size)) true 3 v d ps := Below.trod laidOut (by kernel_rfl) (of_decide_eq_true (by kernel_rfl)) h hb hlt
set_option maxRecDepth 100000 in
theorem int_in {H : Type} {enc : TypeId × Value → H} {w : World} {base b0 : Nat} {spr : Nat → Bool} {held : Bool} {r : Reach} {v : Value} {d : DataW H} {p : List MemPlace} (hv : Value.okWide Tryz.prog w r b0 3 v) (h : DataW.Trod enc Tryz.prog w base spr held 3 v d p) : ∃ x : Int, v = .int .i64 x ∧ -9223372036854775808 ≤ x ∧ x ≤ 9223372036854775807 := by
 obtain ⟨n, rfl, -, -, hw⟩ := open_int und_int hv h
 refine ⟨n, rfl, ?_⟩
 have h2 : IntKind.i64.min ≤ n ∧ n ≤ 9223372036854775807 := by simpa [Lit.wf] using hw
 have e0 : IntKind.i64.min = -9223372036854775808 := dC
 omega
end Go.Proofs.YtalcdpjpapojeaaGreatDoor
namespace Go.Proofs.YtalcdpjpapojeaaGreatDoor
open Go.ChangeShapes Go.WideShapes Go.ChangeAt Go.RowKit Ab
set_option maxRecDepth 100000
theorem gMaps : mapsRowed Tryz.prog = true := by kernel_rfl
theorem gHeard : Tryz.prog.stopsHeard = true := by kernel_rfl
theorem gEnter : Tryz.prog.mayEnter = true := by kernel_rfl
theorem gLooks : Tryz.prog.looks [] = false := by kernel_rfl
theorem gLifts : Tryz.prog.liftsFinal = false := by kernel_rfl
end Go.Proofs.YtalcdpjpapojeaaGreatDoor
