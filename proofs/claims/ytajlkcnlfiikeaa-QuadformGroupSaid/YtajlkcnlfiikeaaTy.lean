/- The types of the program that the proofs meet, as the kernel reckons them, and tables of them; no condition. -/
import Derived.Test.YtajlkcnlfiikeaaTyG
set_option linter.all false
namespace Ab
open Go Go.RowKit Go.Proofs

abbrev zQuadForm : List Value := [.int .i64 0, .int .i64 0, .int .i64 0]
abbrev zI : List Value := [.bool false, .slice none 0 0]
abbrev zQ : List Value := [.bool false, .slice none 0 0, .bool false, .slice none 0 0]
abbrev zMat2 : List Value := [.int .i64 0, .int .i64 0, .int .i64 0, .int .i64 0]
abbrev zPrimePower : List Value := [.int .i64 0, .int .i64 0]
theorem one_int64 : OneT Try.prog 2 := oneT_of (by kernel_rfl)
theorem one_int : OneT Try.prog 3 := oneT_of (by kernel_rfl)
theorem one_bool : OneT Try.prog 4 := oneT_of (by kernel_rfl)
theorem one_u8 : OneT Try.prog 5 := oneT_of (by kernel_rfl)
theorem one_string : OneT Try.prog 9 := oneT_of (by kernel_rfl)
theorem one_uintptr : OneT Try.prog 12 := oneT_of (by kernel_rfl)
theorem one_int32 : OneT Try.prog 21 := oneT_of (by kernel_rfl)
theorem one_errno : OneT Try.prog 25 := oneT_of (by kernel_rfl)
theorem one_int8 : OneT Try.prog 36 := oneT_of (by kernel_rfl)
theorem one_uint16 : OneT Try.prog 41 := oneT_of (by kernel_rfl)
theorem one_LQuadForm : OneT Try.prog 43 := oneT_of (by kernel_rfl)
theorem one_u32s : OneT Try.prog 52 := oneT_of (by kernel_rfl)
theorem one_LLQuadForm : OneT Try.prog 78 := oneT_of (by kernel_rfl)
theorem one_LPrimePower : OneT Try.prog 82 := oneT_of (by kernel_rfl)
theorem one_uint : OneT Try.prog 108 := oneT_of (by kernel_rfl)
theorem one_u64 : OneT Try.prog 113 := oneT_of (by kernel_rfl)
theorem one_u32 : OneT Try.prog 114 := oneT_of (by kernel_rfl)
theorem agg_QuadForm : AggT Try.prog 23 3 := aggT_of (by kernel_rfl)
theorem fld_QuadForm0 : FieldAt Try.prog 23 0 0 := fieldAt_of (by kernel_rfl)
theorem fld_QuadForm1 : FieldAt Try.prog 23 1 1 := fieldAt_of (by kernel_rfl)
theorem fld_QuadForm2 : FieldAt Try.prog 23 2 2 := fieldAt_of (by kernel_rfl)
theorem zero_QuadForm : ZeroT Try.prog 23 zQuadForm := zeroT_of (v := .agg #[.int .i64 0, .int .i64 0, .int .i64 0]) (by kernel_rfl) rfl
theorem bld_QuadForm : BuildT Try.prog 23 zQuadForm [(0, 1), (1, 1), (2, 1)] := buildT_of (v := .agg #[.int .i64 0, .int .i64 0, .int .i64 0]) (Try.underlying23) (by kernel_rfl) rfl (fun w => by kernel_rfl)
theorem agg_int : AggT Try.prog 54 2 := aggT_of (by kernel_rfl)
theorem fld_int0 : FieldAt Try.prog 54 0 0 := fieldAt_of (by kernel_rfl)
theorem fld_int1 : FieldAt Try.prog 54 1 1 := fieldAt_of (by kernel_rfl)
theorem zero_int : ZeroT Try.prog 54 zI := zeroT_of (v := .agg #[.bool false, .slice none 0 0]) (by kernel_rfl) rfl
theorem bld_int : BuildT Try.prog 54 zI [(0, 1), (1, 1)] := buildT_of (v := .agg #[.bool false, .slice none 0 0]) (Try.underlying54) (by kernel_rfl) rfl (fun w => by kernel_rfl)
theorem agg_rat : AggT Try.prog 56 4 := aggT_of (by kernel_rfl)
theorem fld_rat0 : FieldAt Try.prog 56 0 0 := fieldAt_of (by kernel_rfl)
theorem fld_rat1 : FieldAt Try.prog 56 1 2 := fieldAt_of (by kernel_rfl)
theorem zero_rat : ZeroT Try.prog 56 zQ := zeroT_of (v := .agg #[.bool false, .slice none 0 0, .bool false, .slice none 0 0]) (by kernel_rfl) rfl
theorem bld_rat : BuildT Try.prog 56 zQ [(0, 2), (2, 2)] := buildT_of (v := .agg #[.bool false, .slice none 0 0, .bool false, .slice none 0 0]) (Try.underlying56) (by kernel_rfl) rfl (fun w => by kernel_rfl)
theorem agg_Mat2 : AggT Try.prog 67 4 := aggT_of (by kernel_rfl)
theorem fld_Mat20 : FieldAt Try.prog 67 0 0 := fieldAt_of (by kernel_rfl)
theorem fld_Mat21 : FieldAt Try.prog 67 1 1 := fieldAt_of (by kernel_rfl)
theorem fld_Mat22 : FieldAt Try.prog 67 2 2 := fieldAt_of (by kernel_rfl)
theorem fld_Mat23 : FieldAt Try.prog 67 3 3 := fieldAt_of (by kernel_rfl)
theorem zero_Mat2 : ZeroT Try.prog 67 zMat2 := zeroT_of (v := .agg #[.int .i64 0, .int .i64 0, .int .i64 0, .int .i64 0]) (by kernel_rfl) rfl
theorem bld_Mat2 : BuildT Try.prog 67 zMat2 [(0, 1), (1, 1), (2, 1), (3, 1)] := buildT_of (v := .agg #[.int .i64 0, .int .i64 0, .int .i64 0, .int .i64 0]) (Try.underlying67) (by kernel_rfl) rfl (fun w => by kernel_rfl)
theorem agg_PrimePower : AggT Try.prog 86 2 := aggT_of (by kernel_rfl)
theorem fld_PrimePower0 : FieldAt Try.prog 86 0 0 := fieldAt_of (by kernel_rfl)
theorem fld_PrimePower1 : FieldAt Try.prog 86 1 1 := fieldAt_of (by kernel_rfl)
theorem zero_PrimePower : ZeroT Try.prog 86 zPrimePower := zeroT_of (v := .agg #[.int .i64 0, .int .i64 0]) (by kernel_rfl) rfl
theorem bld_PrimePower : BuildT Try.prog 86 zPrimePower [(0, 1), (1, 1)] := buildT_of (v := .agg #[.int .i64 0, .int .i64 0]) (Try.underlying86) (by kernel_rfl) rfl (fun w => by kernel_rfl)
theorem zero_A4int8 : ZeroT Try.prog 37 [.int .i8 0, .int .i8 0, .int .i8 0, .int .i8 0] := zeroT_of (v := .agg #[.int .i8 0, .int .i8 0, .int .i8 0, .int .i8 0]) (by kernel_rfl) rfl
theorem size_A4int8 : SizeT Try.prog 37 4 := sizeT_of (by kernel_rfl)
theorem zero_A3uint16 : ZeroT Try.prog 42 [.int .u16 0, .int .u16 0, .int .u16 0] := zeroT_of (v := .agg #[.int .u16 0, .int .u16 0, .int .u16 0]) (by kernel_rfl) rfl
theorem size_A3uint16 : SizeT Try.prog 42 3 := sizeT_of (by kernel_rfl)
theorem zero_A4int : ZeroT Try.prog 72 [.int .i64 0, .int .i64 0, .int .i64 0, .int .i64 0] := zeroT_of (v := .agg #[.int .i64 0, .int .i64 0, .int .i64 0, .int .i64 0]) (by kernel_rfl) rfl
theorem size_A4int : SizeT Try.prog 72 4 := sizeT_of (by kernel_rfl)
theorem zero_A3int : ZeroT Try.prog 91 [.int .i64 0, .int .i64 0, .int .i64 0] := zeroT_of (v := .agg #[.int .i64 0, .int .i64 0, .int .i64 0]) (by kernel_rfl) rfl
theorem size_A3int : SizeT Try.prog 91 3 := sizeT_of (by kernel_rfl)
theorem make_LQuadForm : MakeT Try.prog 43 23 3 24 [.int .i64 0, .int .i64 0, .int .i64 0] := makeT_of (v := .agg #[.int .i64 0, .int .i64 0, .int .i64 0]) (by kernel_rfl) (by kernel_rfl) rfl rfl
theorem elem_LQuadForm : ElemT Try.prog 43 23 3 := elemT_of (by kernel_rfl) (by kernel_rfl)
theorem sl_LQuadForm : Try.prog.underlying 43 = some (.slice 23) := by kernel_rfl
theorem make_u32s : MakeT Try.prog 52 114 1 4 [.int .u32 0] := makeT_of (v := .int .u32 0) (by kernel_rfl) (by kernel_rfl) rfl rfl
theorem elem_u32s : ElemT Try.prog 52 114 1 := elemT_of (by kernel_rfl) (by kernel_rfl)
theorem sl_u32s : Try.prog.underlying 52 = some (.slice 114) := by kernel_rfl
theorem make_LLQuadForm : MakeT Try.prog 78 43 1 24 [.slice none 0 0] := makeT_of (v := .slice none 0 0) (by kernel_rfl) (by kernel_rfl) rfl rfl
theorem elem_LLQuadForm : ElemT Try.prog 78 43 1 := elemT_of (by kernel_rfl) (by kernel_rfl)
theorem sl_LLQuadForm : Try.prog.underlying 78 = some (.slice 43) := by kernel_rfl
theorem make_LPrimePower : MakeT Try.prog 82 86 2 16 [.int .i64 0, .int .i64 0] := makeT_of (v := .agg #[.int .i64 0, .int .i64 0]) (by kernel_rfl) (by kernel_rfl) rfl rfl
theorem elem_LPrimePower : ElemT Try.prog 82 86 2 := elemT_of (by kernel_rfl) (by kernel_rfl)
theorem sl_LPrimePower : Try.prog.underlying 82 = some (.slice 86) := by kernel_rfl
theorem und_bool : Try.prog.underlying 4 = some .bool := by kernel_rfl
theorem und_int64 : Try.prog.underlying 2 = some (.int .i64) := by kernel_rfl
theorem und_int : Try.prog.underlying 3 = some (.int .i64) := by kernel_rfl
theorem und_u8 : Try.prog.underlying 5 = some (.int .u8) := by kernel_rfl
theorem und_uintptr : Try.prog.underlying 12 = some (.int .u64) := by kernel_rfl
theorem und_int32 : Try.prog.underlying 21 = some (.int .i32) := by kernel_rfl
theorem und_errno : Try.prog.underlying 25 = some (.int .i64) := by kernel_rfl
theorem und_int8 : Try.prog.underlying 36 = some (.int .i8) := by kernel_rfl
theorem und_uint16 : Try.prog.underlying 41 = some (.int .u16) := by kernel_rfl
theorem und_uint : Try.prog.underlying 108 = some (.int .u64) := by kernel_rfl
theorem und_u64 : Try.prog.underlying 113 = some (.int .u64) := by kernel_rfl
theorem und_u32 : Try.prog.underlying 114 = some (.int .u32) := by kernel_rfl
theorem mixed : Try.prog.follows .mixedOrders = true := by kernel_rfl
/-- a table of one-cell types -/
def oneTab (t : TypeId) : Bool := t == 2 || t == 3 || t == 4 || t == 5 || t == 9 || t == 12 || t == 21 || t == 25 || t == 36 || t == 41 || t == 43 || t == 52 || t == 78 || t == 82 || t == 108 || t == 113 || t == 114
theorem one_tab {t : TypeId} (h : oneTab t = true) : OneT Try.prog t := by
  simp only [oneTab, Bool.or_eq_true, beq_iff_eq] at h
  rcases h with (((((((((((((((rfl | rfl) | rfl) | rfl) | rfl) | rfl) | rfl) | rfl) | rfl) | rfl) | rfl) | rfl) | rfl) | rfl) | rfl) | rfl) | rfl
  · exact one_int64
  · exact one_int
  · exact one_bool
  · exact one_u8
  · exact one_string
  · exact one_uintptr
  · exact one_int32
  · exact one_errno
  · exact one_int8
  · exact one_uint16
  · exact one_LQuadForm
  · exact one_u32s
  · exact one_LLQuadForm
  · exact one_LPrimePower
  · exact one_uint
  · exact one_u64
  · exact one_u32
def aggTab (t : TypeId) : Option Nat := if t == 23 then some 3 else if t == 54 then some 2 else if t == 56 then some 4 else if t == 67 then some 4 else if t == 86 then some 2 else none
theorem agg_tab {t : TypeId} {n : Nat} (h : aggTab t = some n) : AggT Try.prog t n := by
  unfold aggTab at h
  split at h
  · rename_i e; rw [beq_iff_eq] at e; subst e; cases h; exact agg_QuadForm
  split at h
  · rename_i e; rw [beq_iff_eq] at e; subst e; cases h; exact agg_int
  split at h
  · rename_i e; rw [beq_iff_eq] at e; subst e; cases h; exact agg_rat
  split at h
  · rename_i e; rw [beq_iff_eq] at e; subst e; cases h; exact agg_Mat2
  split at h
  · rename_i e; rw [beq_iff_eq] at e; subst e; cases h; exact agg_PrimePower
  · cases h
def arrTab (t : TypeId) : Option Nat := if t == 37 then some 4 else if t == 42 then some 3 else if t == 72 then some 4 else if t == 91 then some 3 else none
theorem arr_tab {t : TypeId} {n : Nat} (h : arrTab t = some n) : SizeT Try.prog t n := by
  unfold arrTab at h
  split at h
  · rename_i e; rw [beq_iff_eq] at e; subst e; cases h; exact size_A4int8
  split at h
  · rename_i e; rw [beq_iff_eq] at e; subst e; cases h; exact size_A3uint16
  split at h
  · rename_i e; rw [beq_iff_eq] at e; subst e; cases h; exact size_A4int
  split at h
  · rename_i e; rw [beq_iff_eq] at e; subst e; cases h; exact size_A3int
  · cases h
def sizeTab (t : TypeId) : Option Nat := match aggTab t with | some n => some n | none => match arrTab t with | some n => some n | none => bif oneTab t then some 1 else none
theorem size_tab {t : TypeId} {n : Nat} (h : sizeTab t = some n) : SizeT Try.prog t n := by
  unfold sizeTab at h
  cases ha : aggTab t with
  | some m =>
    rw [ha] at h; injection h with h; subst h
    obtain ⟨fs, i, -, h2, h3⟩ := agg_tab ha
    exact ⟨i, h2, h3⟩
  | none =>
    rw [ha] at h
    cases hr : arrTab t with
    | some m =>
      rw [hr] at h; injection h with h; subst h
      exact arr_tab hr
    | none =>
      rw [hr] at h
      cases ho : oneTab t with
      | false => simp [ho] at h
      | true =>
        simp [ho] at h; subst h
        obtain ⟨d, i, -, -, h3, h4⟩ := one_tab ho
        exact ⟨i, h3, h4⟩
def fieldTab (t : TypeId) (f : Nat) : Option Nat :=
  if t == 23 then (match f with | 0 => some 0 | 1 => some 1 | 2 => some 2 | _ => none) else if t == 54 then (match f with | 0 => some 0 | 1 => some 1 | _ => none) else if t == 56 then (match f with | 0 => some 0 | 1 => some 2 | _ => none) else if t == 67 then (match f with | 0 => some 0 | 1 => some 1 | 2 => some 2 | 3 => some 3 | _ => none) else if t == 86 then (match f with | 0 => some 0 | 1 => some 1 | _ => none) else none
theorem field_tab {t : TypeId} {f off : Nat} (h : fieldTab t f = some off) : FieldAt Try.prog t f off := by
  unfold fieldTab at h
  split at h
  · rename_i e; rw [beq_iff_eq] at e; subst e
    rcases f with _ | _ | _ | f
    · injection h with h; subst h; exact fld_QuadForm0
    · injection h with h; subst h; exact fld_QuadForm1
    · injection h with h; subst h; exact fld_QuadForm2
    · cases h
  split at h
  · rename_i e; rw [beq_iff_eq] at e; subst e
    rcases f with _ | _ | f
    · injection h with h; subst h; exact fld_int0
    · injection h with h; subst h; exact fld_int1
    · cases h
  split at h
  · rename_i e; rw [beq_iff_eq] at e; subst e
    rcases f with _ | _ | f
    · injection h with h; subst h; exact fld_rat0
    · injection h with h; subst h; exact fld_rat1
    · cases h
  split at h
  · rename_i e; rw [beq_iff_eq] at e; subst e
    rcases f with _ | _ | _ | _ | f
    · injection h with h; subst h; exact fld_Mat20
    · injection h with h; subst h; exact fld_Mat21
    · injection h with h; subst h; exact fld_Mat22
    · injection h with h; subst h; exact fld_Mat23
    · cases h
  split at h
  · rename_i e; rw [beq_iff_eq] at e; subst e
    rcases f with _ | _ | f
    · injection h with h; subst h; exact fld_PrimePower0
    · injection h with h; subst h; exact fld_PrimePower1
    · cases h
  · cases h
def zeroTab (t : TypeId) : Option (List Value) := if t == 23 then some zQuadForm else if t == 54 then some zI else if t == 56 then some zQ else if t == 67 then some zMat2 else if t == 86 then some zPrimePower else if t == 37 then some [.int .i8 0, .int .i8 0, .int .i8 0, .int .i8 0] else if t == 42 then some [.int .u16 0, .int .u16 0, .int .u16 0] else if t == 72 then some [.int .i64 0, .int .i64 0, .int .i64 0, .int .i64 0] else if t == 91 then some [.int .i64 0, .int .i64 0, .int .i64 0] else none
theorem zero_tab {t : TypeId} {z : List Value} (h : zeroTab t = some z) : ZeroT Try.prog t z := by
  unfold zeroTab at h
  split at h
  · rename_i e; rw [beq_iff_eq] at e; subst e; cases h; exact zero_QuadForm
  split at h
  · rename_i e; rw [beq_iff_eq] at e; subst e; cases h; exact zero_int
  split at h
  · rename_i e; rw [beq_iff_eq] at e; subst e; cases h; exact zero_rat
  split at h
  · rename_i e; rw [beq_iff_eq] at e; subst e; cases h; exact zero_Mat2
  split at h
  · rename_i e; rw [beq_iff_eq] at e; subst e; cases h; exact zero_PrimePower
  split at h
  · rename_i e; rw [beq_iff_eq] at e; subst e; cases h; exact zero_A4int8
  split at h
  · rename_i e; rw [beq_iff_eq] at e; subst e; cases h; exact zero_A3uint16
  split at h
  · rename_i e; rw [beq_iff_eq] at e; subst e; cases h; exact zero_A4int
  split at h
  · rename_i e; rw [beq_iff_eq] at e; subst e; cases h; exact zero_A3int
  · cases h
/-- lists: element type, its cells, its bytes, its zero -/
def makeTab (t : TypeId) : Option (TypeId × Nat × Nat × List Value) := if t == 43 then some (23, 3, 24, [.int .i64 0, .int .i64 0, .int .i64 0]) else if t == 52 then some (114, 1, 4, [.int .u32 0]) else if t == 78 then some (43, 1, 24, [.slice none 0 0]) else if t == 82 then some (86, 2, 16, [.int .i64 0, .int .i64 0]) else none
theorem make_tab {t : TypeId} {e : TypeId} {n b : Nat} {z : List Value} (h : makeTab t = some (e, n, b, z)) : MakeT Try.prog t e n b z := by
  unfold makeTab at h
  split at h
  · rename_i e; rw [beq_iff_eq] at e; subst e; cases h; exact make_LQuadForm
  split at h
  · rename_i e; rw [beq_iff_eq] at e; subst e; cases h; exact make_u32s
  split at h
  · rename_i e; rw [beq_iff_eq] at e; subst e; cases h; exact make_LLQuadForm
  split at h
  · rename_i e; rw [beq_iff_eq] at e; subst e; cases h; exact make_LPrimePower
  · cases h
theorem elem_tab {t e : TypeId} {n b : Nat} {z : List Value} (h : makeTab t = some (e, n, b, z)) : ElemT Try.prog t e n := by
  obtain ⟨h1, i, v, h2, h3, -⟩ := make_tab h
  exact ⟨h1, i, h2, h3⟩
theorem slice_tab {t e : TypeId} {n b : Nat} {z : List Value} (h : makeTab t = some (e, n, b, z)) : Try.prog.underlying t = some (.slice e) := (make_tab h).1
def buildTab (t : TypeId) : Option (List Value × List (Nat × Nat)) := if t == 23 then some (zQuadForm, [(0, 1), (1, 1), (2, 1)]) else if t == 54 then some (zI, [(0, 1), (1, 1)]) else if t == 56 then some (zQ, [(0, 2), (2, 2)]) else if t == 67 then some (zMat2, [(0, 1), (1, 1), (2, 1), (3, 1)]) else if t == 86 then some (zPrimePower, [(0, 1), (1, 1)]) else none
theorem build_tab {t : TypeId} {z : List Value} {pl : List (Nat × Nat)} (h : buildTab t = some (z, pl)) : BuildT Try.prog t z pl := by
  unfold buildTab at h
  split at h
  · rename_i e; rw [beq_iff_eq] at e; subst e; cases h; exact bld_QuadForm
  split at h
  · rename_i e; rw [beq_iff_eq] at e; subst e; cases h; exact bld_int
  split at h
  · rename_i e; rw [beq_iff_eq] at e; subst e; cases h; exact bld_rat
  split at h
  · rename_i e; rw [beq_iff_eq] at e; subst e; cases h; exact bld_Mat2
  split at h
  · rename_i e; rw [beq_iff_eq] at e; subst e; cases h; exact bld_PrimePower
  · cases h
def intTab (t : TypeId) : Option IntKind := if t == 2 then some .i64 else if t == 3 then some .i64 else if t == 5 then some .u8 else if t == 12 then some .u64 else if t == 21 then some .i32 else if t == 25 then some .i64 else if t == 36 then some .i8 else if t == 41 then some .u16 else if t == 108 then some .u64 else if t == 113 then some .u64 else if t == 114 then some .u32 else none
theorem int_tab {t : TypeId} {k : IntKind} (h : intTab t = some k) : Try.prog.underlying t = some (.int k) := by
  unfold intTab at h
  split at h
  · rename_i e; rw [beq_iff_eq] at e; subst e; cases h; exact und_int64
  split at h
  · rename_i e; rw [beq_iff_eq] at e; subst e; cases h; exact und_int
  split at h
  · rename_i e; rw [beq_iff_eq] at e; subst e; cases h; exact und_u8
  split at h
  · rename_i e; rw [beq_iff_eq] at e; subst e; cases h; exact und_uintptr
  split at h
  · rename_i e; rw [beq_iff_eq] at e; subst e; cases h; exact und_int32
  split at h
  · rename_i e; rw [beq_iff_eq] at e; subst e; cases h; exact und_errno
  split at h
  · rename_i e; rw [beq_iff_eq] at e; subst e; cases h; exact und_int8
  split at h
  · rename_i e; rw [beq_iff_eq] at e; subst e; cases h; exact und_uint16
  split at h
  · rename_i e; rw [beq_iff_eq] at e; subst e; cases h; exact und_uint
  split at h
  · rename_i e; rw [beq_iff_eq] at e; subst e; cases h; exact und_u64
  split at h
  · rename_i e; rw [beq_iff_eq] at e; subst e; cases h; exact und_u32
  · cases h
end Ab
