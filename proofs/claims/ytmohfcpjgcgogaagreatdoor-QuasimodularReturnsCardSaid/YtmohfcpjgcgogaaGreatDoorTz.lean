/- Tables: arrays by value, structs of integers; no condition. -/
import Derived.Test.YtmohfcpjgcgogaaGreatDoorWo
set_option linter.all false
namespace Ab
open Go Go.RowKit Go.Proofs
theorem arr_A3int : Tryz.prog.underlying 78 = some (.array 3 3) := by kernel_rfl
theorem arr_A64uint8 : Tryz.prog.underlying 194 = some (.array 64 5) := by kernel_rfl
def idxTab (t : TypeId) : Option (Nat × TypeId) := if t == 78 then some (3, 3) else if t == 194 then some (64, 5) else none
theorem bla_A3Series : BuildA Tryz.prog 76 [.int .i64 0, .slice none 0 0, .int .i64 0, .slice none 0 0, .int .i64 0, .slice none 0 0] 3 2 := buildA_of (e := 24) (v := .agg #[.int .i64 0, .slice none 0 0, .int .i64 0, .slice none 0 0, .int .i64 0, .slice none 0 0]) (by kernel_rfl) (by kernel_rfl) rfl (by kernel_rfl)
theorem bla_A3int : BuildA Tryz.prog 78 [.int .i64 0, .int .i64 0, .int .i64 0] 3 1 := buildA_of (e := 3) (v := .agg #[.int .i64 0, .int .i64 0, .int .i64 0]) (by kernel_rfl) (by kernel_rfl) rfl (by kernel_rfl)
theorem bla_A64uint8 : BuildA Tryz.prog 194 [.int .u8 0, .int .u8 0, .int .u8 0, .int .u8 0, .int .u8 0, .int .u8 0, .int .u8 0, .int .u8 0, .int .u8 0, .int .u8 0, .int .u8 0, .int .u8 0, .int .u8 0, .int .u8 0, .int .u8 0, .int .u8 0, .int .u8 0, .int .u8 0, .int .u8 0, .int .u8 0, .int .u8 0, .int .u8 0, .int .u8 0, .int .u8 0, .int .u8 0, .int .u8 0, .int .u8 0, .int .u8 0, .int .u8 0, .int .u8 0, .int .u8 0, .int .u8 0, .int .u8 0, .int .u8 0, .int .u8 0, .int .u8 0, .int .u8 0, .int .u8 0, .int .u8 0, .int .u8 0, .int .u8 0, .int .u8 0, .int .u8 0, .int .u8 0, .int .u8 0, .int .u8 0, .int .u8 0, .int .u8 0, .int .u8 0, .int .u8 0, .int .u8 0, .int .u8 0, .int .u8 0, .int .u8 0, .int .u8 0, .int .u8 0, .int .u8 0, .int .u8 0, .int .u8 0, .int .u8 0, .int .u8 0, .int .u8 0, .int .u8 0, .int .u8 0] 64 1 := buildA_of (e := 5) (v := .agg #[.int .u8 0, .int .u8 0, .int .u8 0, .int .u8 0, .int .u8 0, .int .u8 0, .int .u8 0, .int .u8 0, .int .u8 0, .int .u8 0, .int .u8 0, .int .u8 0, .int .u8 0, .int .u8 0, .int .u8 0, .int .u8 0, .int .u8 0, .int .u8 0, .int .u8 0, .int .u8 0, .int .u8 0, .int .u8 0, .int .u8 0, .int .u8 0, .int .u8 0, .int .u8 0, .int .u8 0, .int .u8 0, .int .u8 0, .int .u8 0, .int .u8 0, .int .u8 0, .int .u8 0, .int .u8 0, .int .u8 0, .int .u8 0, .int .u8 0, .int .u8 0, .int .u8 0, .int .u8 0, .int .u8 0, .int .u8 0, .int .u8 0, .int .u8 0, .int .u8 0, .int .u8 0, .int .u8 0, .int .u8 0, .int .u8 0, .int .u8 0, .int .u8 0, .int .u8 0, .int .u8 0, .int .u8 0, .int .u8 0, .int .u8 0, .int .u8 0, .int .u8 0, .int .u8 0, .int .u8 0, .int .u8 0, .int .u8 0, .int .u8 0, .int .u8 0]) (by kernel_rfl) (by kernel_rfl) rfl (by kernel_rfl)
def blaTab (t : TypeId) : Option (List Value × Nat × Nat) := if t == 76 then some ([.int .i64 0, .slice none 0 0, .int .i64 0, .slice none 0 0, .int .i64 0, .slice none 0 0], 3, 2) else if t == 78 then some ([.int .i64 0, .int .i64 0, .int .i64 0], 3, 1) else if t == 194 then some ([.int .u8 0, .int .u8 0, .int .u8 0, .int .u8 0, .int .u8 0, .int .u8 0, .int .u8 0, .int .u8 0, .int .u8 0, .int .u8 0, .int .u8 0, .int .u8 0, .int .u8 0, .int .u8 0, .int .u8 0, .int .u8 0, .int .u8 0, .int .u8 0, .int .u8 0, .int .u8 0, .int .u8 0, .int .u8 0, .int .u8 0, .int .u8 0, .int .u8 0, .int .u8 0, .int .u8 0, .int .u8 0, .int .u8 0, .int .u8 0, .int .u8 0, .int .u8 0, .int .u8 0, .int .u8 0, .int .u8 0, .int .u8 0, .int .u8 0, .int .u8 0, .int .u8 0, .int .u8 0, .int .u8 0, .int .u8 0, .int .u8 0, .int .u8 0, .int .u8 0, .int .u8 0, .int .u8 0, .int .u8 0, .int .u8 0, .int .u8 0, .int .u8 0, .int .u8 0, .int .u8 0, .int .u8 0, .int .u8 0, .int .u8 0, .int .u8 0, .int .u8 0, .int .u8 0, .int .u8 0, .int .u8 0, .int .u8 0, .int .u8 0, .int .u8 0], 64, 1) else none
theorem bla_tab {t : TypeId} {z : List Value} {n k : Nat} (h : blaTab t = some (z, n, k)) : BuildA Tryz.prog t z n k := by
 unfold blaTab at h
 rcases Zai h with ⟨e, h⟩ | ⟨-, h⟩
 ·rw [beq_iff_eq] at e; subst e; cases h; exact bla_A3Series
 rcases Zai h with ⟨e, h⟩ | ⟨-, h⟩
 ·rw [beq_iff_eq] at e; subst e; cases h; exact bla_A3int
 rcases Zai h with ⟨e, h⟩ | ⟨-, h⟩
 ·rw [beq_iff_eq] at e; subst e; cases h; exact bla_A64uint8
 ·cases h
theorem idx_tab {t e : TypeId} {n : Nat} (h : idxTab t = some (n, e)) : Tryz.prog.underlying t = some (.array n e) ∧ OneT Tryz.prog e := by
 unfold idxTab at h
 rcases Zai h with ⟨e, h⟩ | ⟨-, h⟩
 ·rw [beq_iff_eq] at e; subst e; cases h; exact ⟨arr_A3int, one_int⟩
 rcases Zai h with ⟨e, h⟩ | ⟨-, h⟩
 ·rw [beq_iff_eq] at e; subst e; cases h; exact ⟨arr_A64uint8, one_u8⟩
 ·cases h
section
variable {dm : Bool} {ops : Array Oper} {s : AS} {dst : Option Tmp} {ty : TypeId} {pos : String} {after : Array Edge} {g : Option (Nat × Bool)}
theorem ss_idx {t e : TypeId} {len : Nat} {y z : Operand} {k : IntKind} {i : Int} {cs : List AV} {c : AV} (hin : InB s dst) (ht : idxTab t = some (len, e)) (hy : s.ev y = some (.v (.agg cs))) (hz : s.ev z = some (.v (.p (.int k i)))) (h0 : 0 ≤ i) (hi : i < len) (hc : cs[i.toNat]? = some c) :
  Zbe dm Tryz.prog ops ⟨dst, .index t y z, ty, pos, after, g⟩ s (.v c) .none := ss_index_val hin (idx_tab ht).1 (idx_tab ht).2 hy hz h0 hi hc
end
end Ab
