/- Tables: arrays by value, structs of integers; no condition. -/
import Derived.Test.YtkbccidalhefaaaGreatWo
set_option linter.all false
namespace Ab
open Go Go.RowKit Go.Proofs

def idxTab (t : TypeId) : Option (Nat × TypeId) := none
def blaTab (t : TypeId) : Option (List Value × Nat × Nat) := none
theorem bla_tab {t : TypeId} {z : List Value} {n k : Nat} (h : blaTab t = some (z, n, k)) : BuildA Tryz.prog t z n k := by
  unfold blaTab at h
  cases h
theorem idx_tab {t e : TypeId} {n : Nat} (h : idxTab t = some (n, e)) : Tryz.prog.underlying t = some (.array n e) ∧ OneT Tryz.prog e := by
  unfold idxTab at h
  cases h
def eqTab (t : TypeId) : Option Nat := none
theorem eq_tab {t : TypeId} {n : Nat} (h : eqTab t = some n) : EqT Tryz.prog t n := by
  unfold eqTab at h
  cases h
section
variable {dm : Bool} {ops : Array Oper} {s : AS} {dst : Option Tmp} {ty : TypeId} {pos : String} {after : Array Edge} {g : Option (Nat × Bool)}
theorem ss_idx {t e : TypeId} {len : Nat} {y z : Operand} {k : IntKind} {i : Int} {cs : List AV} {c : AV} (hin : InB s dst) (ht : idxTab t = some (len, e)) (hy : s.ev y = some (.v (.agg cs))) (hz : s.ev z = some (.v (.p (.int k i)))) (h0 : 0 ≤ i) (hi : i < len) (hc : cs[i.toNat]? = some c) :
    SStep dm Tryz.prog ops ⟨dst, .index t y z, ty, pos, after, g⟩ s (.v c) .none := ss_index_val hin (idx_tab ht).1 (idx_tab ht).2 hy hz h0 hi hc
theorem ss_eq3 {op : BinOp} {t yt : TypeId} {y z : Operand} {a1 a2 a3 b1 b2 b3 : Int} {c : Bool} (hin : InB s dst) (ht : eqTab t = some 3) (hy : s.ev y = some (.v (.agg [iV a1, iV a2, iV a3]))) (hz : s.ev z = some (.v (.agg [iV b1, iV b2, iV b3])))
    (hc : (match op with | .eql => some (decide ([a1, a2, a3] = [b1, b2, b3])) | .neq => some (!decide ([a1, a2, a3] = [b1, b2, b3])) | _ => none) = some c) : SStep dm Tryz.prog ops ⟨dst, .binOp op t y z yt, ty, pos, after, g⟩ s (.v (.p (.bool c))) .none :=
  ss_eq_st (us := [a1, a2, a3]) (vs2 := [b1, b2, b3]) hin (eq_tab ht) hy hz rfl rfl hc
theorem ss_eq4 {op : BinOp} {t yt : TypeId} {y z : Operand} {a1 a2 a3 a4 b1 b2 b3 b4 : Int} {c : Bool} (hin : InB s dst) (ht : eqTab t = some 4) (hy : s.ev y = some (.v (.agg [iV a1, iV a2, iV a3, iV a4]))) (hz : s.ev z = some (.v (.agg [iV b1, iV b2, iV b3, iV b4])))
    (hc : (match op with | .eql => some (decide ([a1, a2, a3, a4] = [b1, b2, b3, b4])) | .neq => some (!decide ([a1, a2, a3, a4] = [b1, b2, b3, b4])) | _ => none) = some c) : SStep dm Tryz.prog ops ⟨dst, .binOp op t y z yt, ty, pos, after, g⟩ s (.v (.p (.bool c))) .none :=
  ss_eq_st (us := [a1, a2, a3, a4]) (vs2 := [b1, b2, b3, b4]) hin (eq_tab ht) hy hz rfl rfl hc
end
end Ab
