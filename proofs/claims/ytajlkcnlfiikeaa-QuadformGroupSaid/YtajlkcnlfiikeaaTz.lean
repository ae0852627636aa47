/- Tables: arrays by value, structs of integers; no condition. -/
import Derived.Test.YtajlkcnlfiikeaaOpsV
set_option linter.all false
namespace Ab
open Go Go.RowKit Go.Proofs

theorem arr_A4int8 : Try.prog.underlying 37 = some (.array 4 36) := by kernel_rfl
theorem arr_A3uint16 : Try.prog.underlying 42 = some (.array 3 41) := by kernel_rfl
theorem arr_A4int : Try.prog.underlying 72 = some (.array 4 3) := by kernel_rfl
theorem arr_A3int : Try.prog.underlying 91 = some (.array 3 3) := by kernel_rfl
def idxTab (t : TypeId) : Option (Nat × TypeId) := if t == 37 then some (4, 36) else if t == 42 then some (3, 41) else if t == 72 then some (4, 3) else if t == 91 then some (3, 3) else none
theorem bla_A4int8 : BuildA Try.prog 37 [.int .i8 0, .int .i8 0, .int .i8 0, .int .i8 0] 4 1 := buildA_of (e := 36) (v := .agg #[.int .i8 0, .int .i8 0, .int .i8 0, .int .i8 0]) (by kernel_rfl) (by kernel_rfl) rfl (by kernel_rfl)
theorem bla_A3uint16 : BuildA Try.prog 42 [.int .u16 0, .int .u16 0, .int .u16 0] 3 1 := buildA_of (e := 41) (v := .agg #[.int .u16 0, .int .u16 0, .int .u16 0]) (by kernel_rfl) (by kernel_rfl) rfl (by kernel_rfl)
theorem bla_A4int : BuildA Try.prog 72 [.int .i64 0, .int .i64 0, .int .i64 0, .int .i64 0] 4 1 := buildA_of (e := 3) (v := .agg #[.int .i64 0, .int .i64 0, .int .i64 0, .int .i64 0]) (by kernel_rfl) (by kernel_rfl) rfl (by kernel_rfl)
theorem bla_A3int : BuildA Try.prog 91 [.int .i64 0, .int .i64 0, .int .i64 0] 3 1 := buildA_of (e := 3) (v := .agg #[.int .i64 0, .int .i64 0, .int .i64 0]) (by kernel_rfl) (by kernel_rfl) rfl (by kernel_rfl)
def blaTab (t : TypeId) : Option (List Value × Nat × Nat) := if t == 37 then some ([.int .i8 0, .int .i8 0, .int .i8 0, .int .i8 0], 4, 1) else if t == 42 then some ([.int .u16 0, .int .u16 0, .int .u16 0], 3, 1) else if t == 72 then some ([.int .i64 0, .int .i64 0, .int .i64 0, .int .i64 0], 4, 1) else if t == 91 then some ([.int .i64 0, .int .i64 0, .int .i64 0], 3, 1) else none
theorem bla_tab {t : TypeId} {z : List Value} {n k : Nat} (h : blaTab t = some (z, n, k)) : BuildA Try.prog t z n k := by
  unfold blaTab at h
  split at h
  · rename_i e; rw [beq_iff_eq] at e; subst e; cases h; exact bla_A4int8
  split at h
  · rename_i e; rw [beq_iff_eq] at e; subst e; cases h; exact bla_A3uint16
  split at h
  · rename_i e; rw [beq_iff_eq] at e; subst e; cases h; exact bla_A4int
  split at h
  · rename_i e; rw [beq_iff_eq] at e; subst e; cases h; exact bla_A3int
  · cases h
theorem idx_tab {t e : TypeId} {n : Nat} (h : idxTab t = some (n, e)) : Try.prog.underlying t = some (.array n e) ∧ OneT Try.prog e := by
  unfold idxTab at h
  split at h
  · rename_i e; rw [beq_iff_eq] at e; subst e; cases h; exact ⟨arr_A4int8, one_int8⟩
  split at h
  · rename_i e; rw [beq_iff_eq] at e; subst e; cases h; exact ⟨arr_A3uint16, one_uint16⟩
  split at h
  · rename_i e; rw [beq_iff_eq] at e; subst e; cases h; exact ⟨arr_A4int, one_int⟩
  split at h
  · rename_i e; rw [beq_iff_eq] at e; subst e; cases h; exact ⟨arr_A3int, one_int⟩
  · cases h
theorem eqT_QuadForm : EqT Try.prog 23 3 := by
  refine ⟨by kernel_rfl, by kernel_rfl, by kernel_rfl, by kernel_rfl, ?_⟩
  unfold Program.fieldsOf
  rw [Try.underlying23]
  exact ⟨by decide, rfl, one_int, ⟨_, und_int⟩, ⟨by decide, rfl, one_int, ⟨_, und_int⟩, ⟨by decide, rfl, one_int, ⟨_, und_int⟩, trivial⟩⟩⟩
theorem eqT_Mat2 : EqT Try.prog 67 4 := by
  refine ⟨by kernel_rfl, by kernel_rfl, by kernel_rfl, by kernel_rfl, ?_⟩
  unfold Program.fieldsOf
  rw [Try.underlying67]
  exact ⟨by decide, rfl, one_int, ⟨_, und_int⟩, ⟨by decide, rfl, one_int, ⟨_, und_int⟩, ⟨by decide, rfl, one_int, ⟨_, und_int⟩, ⟨by decide, rfl, one_int, ⟨_, und_int⟩, trivial⟩⟩⟩⟩
theorem eqT_PrimePower : EqT Try.prog 86 2 := by
  refine ⟨by kernel_rfl, by kernel_rfl, by kernel_rfl, by kernel_rfl, ?_⟩
  unfold Program.fieldsOf
  rw [Try.underlying86]
  exact ⟨by decide, rfl, one_int, ⟨_, und_int⟩, ⟨by decide, rfl, one_int, ⟨_, und_int⟩, trivial⟩⟩
def eqTab (t : TypeId) : Option Nat := if t == 23 then some 3 else if t == 67 then some 4 else if t == 86 then some 2 else none
theorem eq_tab {t : TypeId} {n : Nat} (h : eqTab t = some n) : EqT Try.prog t n := by
  unfold eqTab at h
  split at h
  · rename_i e; rw [beq_iff_eq] at e; subst e; cases h; exact eqT_QuadForm
  split at h
  · rename_i e; rw [beq_iff_eq] at e; subst e; cases h; exact eqT_Mat2
  split at h
  · rename_i e; rw [beq_iff_eq] at e; subst e; cases h; exact eqT_PrimePower
  · cases h
section
variable {dm : Bool} {ops : Array Oper} {s : AS} {dst : Option Tmp} {ty : TypeId} {pos : String} {after : Array Edge} {g : Option (Nat × Bool)}
theorem ss_idx {t e : TypeId} {len : Nat} {y z : Operand} {k : IntKind} {i : Int} {cs : List AV} {c : AV} (hin : InB s dst) (ht : idxTab t = some (len, e)) (hy : s.ev y = some (.v (.agg cs))) (hz : s.ev z = some (.v (.p (.int k i)))) (h0 : 0 ≤ i) (hi : i < len) (hc : cs[i.toNat]? = some c) :
    SStep dm Try.prog ops ⟨dst, .index t y z, ty, pos, after, g⟩ s (.v c) .none := ss_index_val hin (idx_tab ht).1 (idx_tab ht).2 hy hz h0 hi hc
theorem ss_eq3 {op : BinOp} {t yt : TypeId} {y z : Operand} {a1 a2 a3 b1 b2 b3 : Int} {c : Bool} (hin : InB s dst) (ht : eqTab t = some 3) (hy : s.ev y = some (.v (.agg [iV a1, iV a2, iV a3]))) (hz : s.ev z = some (.v (.agg [iV b1, iV b2, iV b3])))
    (hc : (match op with | .eql => some (decide ([a1, a2, a3] = [b1, b2, b3])) | .neq => some (!decide ([a1, a2, a3] = [b1, b2, b3])) | _ => none) = some c) : SStep dm Try.prog ops ⟨dst, .binOp op t y z yt, ty, pos, after, g⟩ s (.v (.p (.bool c))) .none :=
  ss_eq_st (us := [a1, a2, a3]) (vs2 := [b1, b2, b3]) hin (eq_tab ht) hy hz rfl rfl hc
theorem ss_eq4 {op : BinOp} {t yt : TypeId} {y z : Operand} {a1 a2 a3 a4 b1 b2 b3 b4 : Int} {c : Bool} (hin : InB s dst) (ht : eqTab t = some 4) (hy : s.ev y = some (.v (.agg [iV a1, iV a2, iV a3, iV a4]))) (hz : s.ev z = some (.v (.agg [iV b1, iV b2, iV b3, iV b4])))
    (hc : (match op with | .eql => some (decide ([a1, a2, a3, a4] = [b1, b2, b3, b4])) | .neq => some (!decide ([a1, a2, a3, a4] = [b1, b2, b3, b4])) | _ => none) = some c) : SStep dm Try.prog ops ⟨dst, .binOp op t y z yt, ty, pos, after, g⟩ s (.v (.p (.bool c))) .none :=
  ss_eq_st (us := [a1, a2, a3, a4]) (vs2 := [b1, b2, b3, b4]) hin (eq_tab ht) hy hz rfl rfl hc
end
end Ab
