/- Drawn regions: pure calls and copies of lists look at none of the call's own memory. The document's normal forms of lists and expressions (printed by tools/gen_pl.py). -/
import Derived.Test.YtbpdgaolmikjbaaGreatEnP
import Derived.Test.YtbpdgaolmikjbaaGreatRfW
set_option linter.all false
namespace Ab
open Go Go.RowKit Go.Proofs Hp
section
variable {dm : Bool} {P : Program} {ops : Array Oper} {r : List Oper} {s : AS} {K : List OpD → AS → Prop}
theorem ec_lep {y : Operand} {t : TypeId} {x : TV} {e : AV} {o : Nat} {dst : Option Tmp} {ty : TypeId} {pos : String} {after : Array Edge} (h : Zbg dm P ops ⟨dst, .load t y, ty, pos, after, none⟩ s x .none) (hy : s.ev y = some (.ep e o))
  (k : EvC dm P ops r (s.actd dst ⟨x, fun _ => false, []⟩) (fun ds z => K (⟨x, fun _ => false, []⟩ :: ds) z)) : EvC dm P ops (⟨dst, .load t y, ty, pos, after, none⟩ :: r) s K :=
 ⟨_, cs_none rfl h (fun _ e => by cases e) (fun e => by cases e) (fun y' e i hi => by
  have e : some y = some y' := e
  injection e with e
  subst e
  rw [hy] at hi
  cases hi), k⟩
end
end Ab
namespace Ab
open Go Go.RowKit Go.Proofs Hp
set_option maxRecDepth 100000
set_option maxHeartbeats 4000000
theorem normal_p {a : BR} (h : a.ok) : PC Tryz.prog 105 [a.av] a.can.av := by
 rw [can_av]
 exact (refnormal_p (isV_br h) (by decide)).up
end Ab
