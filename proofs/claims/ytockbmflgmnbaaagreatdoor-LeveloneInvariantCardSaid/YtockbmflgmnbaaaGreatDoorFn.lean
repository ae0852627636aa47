/- Functions that catch variables of the call's own; no condition. -/
import Derived.Test.YtockbmflgmnbaaaGreatDoorWo
set_option linter.all false
namespace Ab
open Go Go.RowKit Go.Proofs
section
variable {dm : Bool} {P : Program} {ops : Array Oper} {s : AS} {dst : Option Tmp} {ty : TypeId} {pos : String} {after : Array Edge} {g : Option (Nat × Bool)}
theorem ss_makefn {f : FuncId} {caps : List Operand} {cs : List (Nat × Nat)} (hin : InB s dst) (hc : caps.map s.ev = cs.map fun p => some (TV.ptr p.1 p.2)) : Zbe dm P ops ⟨dst, .makeFunc (.func f) #[] caps.toArray, ty, pos, after, g⟩ s (.fn f cs) .none :=
 Za9 hin fun s' hag w0 M0 ρ a w _ hr => by
  refine ⟨.func (.func f) #[] (caps.map a.eval).toArray, by simp [execOp, Instr.makeFunc], _, rfl, by have := congrArg List.length hc; simpa using this, fun j p hj => ?_⟩
  have h1 : (caps.map s.ev)[j]? = some (some (TV.ptr p.1 p.2)) := by rw [hc, List.getElem?_map, hj]; rfl
  rw [List.getElem?_map, Option.map_eq_some_iff] at h1
  obtain ⟨y, hy, he⟩ := h1
  obtain ⟨g1, b, k, g2, g3⟩ := hr.ev ((hag.ev (by simp only [Op.operands, Array.empty_append, List.mem_toArray]; exact List.mem_of_getElem? hy)).trans he)
  exact ⟨g1, b, k, g2, by simp [hy, g3]⟩
end
end Ab
