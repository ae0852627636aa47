/- The types of the program that the proofs meet, as the kernel reckons them, and tables of them; no condition. -/
import Derived.Test.YtajhaoapcapgeaaGreatDoorTyG
set_option linter.all false
namespace Ab
open Go Go.RowKit Go.Proofs

abbrev zS : List Value := [.int .i64 0, .slice none 0 0]
abbrev zSpec : List Value := [.int .i64 0, .int .i64 0, .int .i64 0]
abbrev zI : List Value := [.bool false, .slice none 0 0]
abbrev zQ : List Value := [.bool false, .slice none 0 0, .bool false, .slice none 0 0]
abbrev zMatrix : List Value := [.int .i64 0, .int .i64 0, .slice none 0 0]
abbrev zPrimePower : List Value := [.int .i64 0, .int .i64 0]
abbrev zheckeseriesstep : List Value := [.int .i64 0, .slice none 0 0, .slice none 0 0]
theorem one_int64 : OneT Tryz.prog 2 := oneT_of (by kernel_rfl)
theorem one_int : OneT Tryz.prog 3 := oneT_of (by kernel_rfl)
theorem one_bool : OneT Tryz.prog 4 := oneT_of (by kernel_rfl)
theorem one_u8 : OneT Tryz.prog 5 := oneT_of (by kernel_rfl)
theorem one_string : OneT Tryz.prog 9 := oneT_of (by kernel_rfl)
theorem one_uintptr : OneT Tryz.prog 12 := oneT_of (by kernel_rfl)
theorem one_int32 : OneT Tryz.prog 21 := oneT_of (by kernel_rfl)
theorem one_rats : OneT Tryz.prog 22 := oneT_of (by kernel_rfl)
theorem one_errno : OneT Tryz.prog 28 := oneT_of (by kernel_rfl)
theorem one_u32s : OneT Tryz.prog 45 := oneT_of (by kernel_rfl)
theorem one_sers : OneT Tryz.prog 68 := oneT_of (by kernel_rfl)
theorem one_u64 : OneT Tryz.prog 99 := oneT_of (by kernel_rfl)
theorem one_u32 : OneT Tryz.prog 105 := oneT_of (by kernel_rfl)
theorem one_uint : OneT Tryz.prog 106 := oneT_of (by kernel_rfl)
theorem one_ints : OneT Tryz.prog 111 := oneT_of (by kernel_rfl)
theorem one_LLRat : OneT Tryz.prog 120 := oneT_of (by kernel_rfl)
theorem one_Lheckeseriesstep : OneT Tryz.prog 122 := oneT_of (by kernel_rfl)
theorem one_heckeseriessteps : OneT Tryz.prog 123 := oneT_of (by kernel_rfl)
theorem one_matrixgrid : OneT Tryz.prog 129 := oneT_of (by kernel_rfl)
theorem one_LPrimePower : OneT Tryz.prog 139 := oneT_of (by kernel_rfl)
theorem one_Lbool : OneT Tryz.prog 150 := oneT_of (by kernel_rfl)
theorem agg_ser : AggT Tryz.prog 24 2 := aggT_of (by kernel_rfl)
theorem fld_ser0 : FieldAt Tryz.prog 24 0 0 := fieldAt_of (by kernel_rfl)
theorem fld_ser1 : FieldAt Tryz.prog 24 1 1 := fieldAt_of (by kernel_rfl)
theorem zero_ser : ZeroT Tryz.prog 24 zS := zeroT_of (v := .agg #[.int .i64 0, .slice none 0 0]) (by kernel_rfl) rfl
theorem bld_ser : BuildT Tryz.prog 24 zS [(0, 1), (1, 1)] := buildT_of (v := .agg #[.int .i64 0, .slice none 0 0]) (Tryz.underlying24) (by kernel_rfl) rfl (fun w => by kernel_rfl)
theorem agg_Spec : AggT Tryz.prog 40 3 := aggT_of (by kernel_rfl)
theorem fld_Spec0 : FieldAt Tryz.prog 40 0 0 := fieldAt_of (by kernel_rfl)
theorem fld_Spec1 : FieldAt Tryz.prog 40 1 1 := fieldAt_of (by kernel_rfl)
theorem fld_Spec2 : FieldAt Tryz.prog 40 2 2 := fieldAt_of (by kernel_rfl)
theorem zero_Spec : ZeroT Tryz.prog 40 zSpec := zeroT_of (v := .agg #[.int .i64 0, .int .i64 0, .int .i64 0]) (by kernel_rfl) rfl
theorem bld_Spec : BuildT Tryz.prog 40 zSpec [(0, 1), (1, 1), (2, 1)] := buildT_of (v := .agg #[.int .i64 0, .int .i64 0, .int .i64 0]) (Tryz.underlying40) (by kernel_rfl) rfl (fun w => by kernel_rfl)
theorem agg_int : AggT Tryz.prog 47 2 := aggT_of (by kernel_rfl)
theorem fld_int0 : FieldAt Tryz.prog 47 0 0 := fieldAt_of (by kernel_rfl)
theorem fld_int1 : FieldAt Tryz.prog 47 1 1 := fieldAt_of (by kernel_rfl)
theorem zero_int : ZeroT Tryz.prog 47 zI := zeroT_of (v := .agg #[.bool false, .slice none 0 0]) (by kernel_rfl) rfl
theorem bld_int : BuildT Tryz.prog 47 zI [(0, 1), (1, 1)] := buildT_of (v := .agg #[.bool false, .slice none 0 0]) (Tryz.underlying47) (by kernel_rfl) rfl (fun w => by kernel_rfl)
theorem agg_rat : AggT Tryz.prog 49 4 := aggT_of (by kernel_rfl)
theorem fld_rat0 : FieldAt Tryz.prog 49 0 0 := fieldAt_of (by kernel_rfl)
theorem fld_rat1 : FieldAt Tryz.prog 49 1 2 := fieldAt_of (by kernel_rfl)
theorem zero_rat : ZeroT Tryz.prog 49 zQ := zeroT_of (v := .agg #[.bool false, .slice none 0 0, .bool false, .slice none 0 0]) (by kernel_rfl) rfl
theorem bld_rat : BuildT Tryz.prog 49 zQ [(0, 2), (2, 2)] := buildT_of (v := .agg #[.bool false, .slice none 0 0, .bool false, .slice none 0 0]) (Tryz.underlying49) (by kernel_rfl) rfl (fun w => by kernel_rfl)
theorem agg_Matrix : AggT Tryz.prog 70 3 := aggT_of (by kernel_rfl)
theorem fld_Matrix0 : FieldAt Tryz.prog 70 0 0 := fieldAt_of (by kernel_rfl)
theorem fld_Matrix1 : FieldAt Tryz.prog 70 1 1 := fieldAt_of (by kernel_rfl)
theorem fld_Matrix2 : FieldAt Tryz.prog 70 2 2 := fieldAt_of (by kernel_rfl)
theorem zero_Matrix : ZeroT Tryz.prog 70 zMatrix := zeroT_of (v := .agg #[.int .i64 0, .int .i64 0, .slice none 0 0]) (by kernel_rfl) rfl
theorem bld_Matrix : BuildT Tryz.prog 70 zMatrix [(0, 1), (1, 1), (2, 1)] := buildT_of (v := .agg #[.int .i64 0, .int .i64 0, .slice none 0 0]) (Tryz.underlying70) (by kernel_rfl) rfl (fun w => by kernel_rfl)
theorem agg_PrimePower : AggT Tryz.prog 142 2 := aggT_of (by kernel_rfl)
theorem fld_PrimePower0 : FieldAt Tryz.prog 142 0 0 := fieldAt_of (by kernel_rfl)
theorem fld_PrimePower1 : FieldAt Tryz.prog 142 1 1 := fieldAt_of (by kernel_rfl)
theorem zero_PrimePower : ZeroT Tryz.prog 142 zPrimePower := zeroT_of (v := .agg #[.int .i64 0, .int .i64 0]) (by kernel_rfl) rfl
theorem bld_PrimePower : BuildT Tryz.prog 142 zPrimePower [(0, 1), (1, 1)] := buildT_of (v := .agg #[.int .i64 0, .int .i64 0]) (Tryz.underlying142) (by kernel_rfl) rfl (fun w => by kernel_rfl)
theorem agg_heckeseriesstep : AggT Tryz.prog 155 3 := aggT_of (by kernel_rfl)
theorem fld_heckeseriesstep0 : FieldAt Tryz.prog 155 0 0 := fieldAt_of (by kernel_rfl)
theorem fld_heckeseriesstep1 : FieldAt Tryz.prog 155 1 1 := fieldAt_of (by kernel_rfl)
theorem fld_heckeseriesstep2 : FieldAt Tryz.prog 155 2 2 := fieldAt_of (by kernel_rfl)
theorem zero_heckeseriesstep : ZeroT Tryz.prog 155 zheckeseriesstep := zeroT_of (v := .agg #[.int .i64 0, .slice none 0 0, .slice none 0 0]) (by kernel_rfl) rfl
theorem bld_heckeseriesstep : BuildT Tryz.prog 155 zheckeseriesstep [(0, 1), (1, 1), (2, 1)] := buildT_of (v := .agg #[.int .i64 0, .slice none 0 0, .slice none 0 0]) (Tryz.underlying155) (by kernel_rfl) rfl (fun w => by kernel_rfl)
theorem zero_A2int : ZeroT Tryz.prog 25 [.int .i64 0, .int .i64 0] := zeroT_of (v := .agg #[.int .i64 0, .int .i64 0]) (by kernel_rfl) rfl
theorem size_A2int : SizeT Tryz.prog 25 2 := sizeT_of (by kernel_rfl)
theorem zero_A64uint8 : ZeroT Tryz.prog 149 [.int .u8 0, .int .u8 0, .int .u8 0, .int .u8 0, .int .u8 0, .int .u8 0, .int .u8 0, .int .u8 0, .int .u8 0, .int .u8 0, .int .u8 0, .int .u8 0, .int .u8 0, .int .u8 0, .int .u8 0, .int .u8 0, .int .u8 0, .int .u8 0, .int .u8 0, .int .u8 0, .int .u8 0, .int .u8 0, .int .u8 0, .int .u8 0, .int .u8 0, .int .u8 0, .int .u8 0, .int .u8 0, .int .u8 0, .int .u8 0, .int .u8 0, .int .u8 0, .int .u8 0, .int .u8 0, .int .u8 0, .int .u8 0, .int .u8 0, .int .u8 0, .int .u8 0, .int .u8 0, .int .u8 0, .int .u8 0, .int .u8 0, .int .u8 0, .int .u8 0, .int .u8 0, .int .u8 0, .int .u8 0, .int .u8 0, .int .u8 0, .int .u8 0, .int .u8 0, .int .u8 0, .int .u8 0, .int .u8 0, .int .u8 0, .int .u8 0, .int .u8 0, .int .u8 0, .int .u8 0, .int .u8 0, .int .u8 0, .int .u8 0, .int .u8 0] := zeroT_of (v := .agg #[.int .u8 0, .int .u8 0, .int .u8 0, .int .u8 0, .int .u8 0, .int .u8 0, .int .u8 0, .int .u8 0, .int .u8 0, .int .u8 0, .int .u8 0, .int .u8 0, .int .u8 0, .int .u8 0, .int .u8 0, .int .u8 0, .int .u8 0, .int .u8 0, .int .u8 0, .int .u8 0, .int .u8 0, .int .u8 0, .int .u8 0, .int .u8 0, .int .u8 0, .int .u8 0, .int .u8 0, .int .u8 0, .int .u8 0, .int .u8 0, .int .u8 0, .int .u8 0, .int .u8 0, .int .u8 0, .int .u8 0, .int .u8 0, .int .u8 0, .int .u8 0, .int .u8 0, .int .u8 0, .int .u8 0, .int .u8 0, .int .u8 0, .int .u8 0, .int .u8 0, .int .u8 0, .int .u8 0, .int .u8 0, .int .u8 0, .int .u8 0, .int .u8 0, .int .u8 0, .int .u8 0, .int .u8 0, .int .u8 0, .int .u8 0, .int .u8 0, .int .u8 0, .int .u8 0, .int .u8 0, .int .u8 0, .int .u8 0, .int .u8 0, .int .u8 0]) (by kernel_rfl) rfl
theorem size_A64uint8 : SizeT Tryz.prog 149 64 := sizeT_of (by kernel_rfl)
theorem make_rats : MakeT Tryz.prog 22 49 4 64 [.bool false, .slice none 0 0, .bool false, .slice none 0 0] := makeT_of (v := .agg #[.bool false, .slice none 0 0, .bool false, .slice none 0 0]) (by kernel_rfl) (by kernel_rfl) rfl rfl
theorem elem_rats : ElemT Tryz.prog 22 49 4 := elemT_of (by kernel_rfl) (by kernel_rfl)
theorem sl_rats : Tryz.prog.underlying 22 = some (.slice 49) := by kernel_rfl
theorem make_u32s : MakeT Tryz.prog 45 105 1 4 [.int .u32 0] := makeT_of (v := .int .u32 0) (by kernel_rfl) (by kernel_rfl) rfl rfl
theorem elem_u32s : ElemT Tryz.prog 45 105 1 := elemT_of (by kernel_rfl) (by kernel_rfl)
theorem sl_u32s : Tryz.prog.underlying 45 = some (.slice 105) := by kernel_rfl
theorem make_sers : MakeT Tryz.prog 68 24 2 32 [.int .i64 0, .slice none 0 0] := makeT_of (v := .agg #[.int .i64 0, .slice none 0 0]) (by kernel_rfl) (by kernel_rfl) rfl rfl
theorem elem_sers : ElemT Tryz.prog 68 24 2 := elemT_of (by kernel_rfl) (by kernel_rfl)
theorem sl_sers : Tryz.prog.underlying 68 = some (.slice 24) := by kernel_rfl
theorem make_ints : MakeT Tryz.prog 111 3 1 8 [.int .i64 0] := makeT_of (v := .int .i64 0) (by kernel_rfl) (by kernel_rfl) rfl rfl
theorem elem_ints : ElemT Tryz.prog 111 3 1 := elemT_of (by kernel_rfl) (by kernel_rfl)
theorem sl_ints : Tryz.prog.underlying 111 = some (.slice 3) := by kernel_rfl
theorem make_LLRat : MakeT Tryz.prog 120 22 1 24 [.slice none 0 0] := makeT_of (v := .slice none 0 0) (by kernel_rfl) (by kernel_rfl) rfl rfl
theorem elem_LLRat : ElemT Tryz.prog 120 22 1 := elemT_of (by kernel_rfl) (by kernel_rfl)
theorem sl_LLRat : Tryz.prog.underlying 120 = some (.slice 22) := by kernel_rfl
theorem make_Lheckeseriesstep : MakeT Tryz.prog 122 155 3 56 [.int .i64 0, .slice none 0 0, .slice none 0 0] := makeT_of (v := .agg #[.int .i64 0, .slice none 0 0, .slice none 0 0]) (by kernel_rfl) (by kernel_rfl) rfl rfl
theorem elem_Lheckeseriesstep : ElemT Tryz.prog 122 155 3 := elemT_of (by kernel_rfl) (by kernel_rfl)
theorem sl_Lheckeseriesstep : Tryz.prog.underlying 122 = some (.slice 155) := by kernel_rfl
theorem make_heckeseriessteps : MakeT Tryz.prog 123 155 3 56 [.int .i64 0, .slice none 0 0, .slice none 0 0] := makeT_of (v := .agg #[.int .i64 0, .slice none 0 0, .slice none 0 0]) (by kernel_rfl) (by kernel_rfl) rfl rfl
theorem elem_heckeseriessteps : ElemT Tryz.prog 123 155 3 := elemT_of (by kernel_rfl) (by kernel_rfl)
theorem sl_heckeseriessteps : Tryz.prog.underlying 123 = some (.slice 155) := by kernel_rfl
theorem make_matrixgrid : MakeT Tryz.prog 129 22 1 24 [.slice none 0 0] := makeT_of (v := .slice none 0 0) (by kernel_rfl) (by kernel_rfl) rfl rfl
theorem elem_matrixgrid : ElemT Tryz.prog 129 22 1 := elemT_of (by kernel_rfl) (by kernel_rfl)
theorem sl_matrixgrid : Tryz.prog.underlying 129 = some (.slice 22) := by kernel_rfl
theorem make_LPrimePower : MakeT Tryz.prog 139 142 2 16 [.int .i64 0, .int .i64 0] := makeT_of (v := .agg #[.int .i64 0, .int .i64 0]) (by kernel_rfl) (by kernel_rfl) rfl rfl
theorem elem_LPrimePower : ElemT Tryz.prog 139 142 2 := elemT_of (by kernel_rfl) (by kernel_rfl)
theorem sl_LPrimePower : Tryz.prog.underlying 139 = some (.slice 142) := by kernel_rfl
theorem make_Lbool : MakeT Tryz.prog 150 4 1 1 [.bool false] := makeT_of (v := .bool false) (by kernel_rfl) (by kernel_rfl) rfl rfl
theorem elem_Lbool : ElemT Tryz.prog 150 4 1 := elemT_of (by kernel_rfl) (by kernel_rfl)
theorem sl_Lbool : Tryz.prog.underlying 150 = some (.slice 4) := by kernel_rfl
theorem und_bool : Tryz.prog.underlying 4 = some .bool := by kernel_rfl
theorem und_int64 : Tryz.prog.underlying 2 = some (.int .i64) := by kernel_rfl
theorem und_int : Tryz.prog.underlying 3 = some (.int .i64) := by kernel_rfl
theorem und_u8 : Tryz.prog.underlying 5 = some (.int .u8) := by kernel_rfl
theorem und_uintptr : Tryz.prog.underlying 12 = some (.int .u64) := by kernel_rfl
theorem und_int32 : Tryz.prog.underlying 21 = some (.int .i32) := by kernel_rfl
theorem und_errno : Tryz.prog.underlying 28 = some (.int .i64) := by kernel_rfl
theorem und_u64 : Tryz.prog.underlying 99 = some (.int .u64) := by kernel_rfl
theorem und_u32 : Tryz.prog.underlying 105 = some (.int .u32) := by kernel_rfl
theorem und_uint : Tryz.prog.underlying 106 = some (.int .u64) := by kernel_rfl
theorem mixed : Tryz.prog.follows .mixedOrders = true := by kernel_rfl
/-- a table of one-cell types -/
def oneTab (t : TypeId) : Bool := t == 2 || t == 3 || t == 4 || t == 5 || t == 9 || t == 12 || t == 21 || t == 22 || t == 28 || t == 45 || t == 68 || t == 99 || t == 105 || t == 106 || t == 111 || t == 120 || t == 122 || t == 123 || t == 129 || t == 139 || t == 150
theorem one_tab {t : TypeId} (h : oneTab t = true) : OneT Tryz.prog t := by
  simp only [oneTab, Bool.or_eq_true, beq_iff_eq] at h
  rcases h with (((((((((((((((((((rfl | rfl) | rfl) | rfl) | rfl) | rfl) | rfl) | rfl) | rfl) | rfl) | rfl) | rfl) | rfl) | rfl) | rfl) | rfl) | rfl) | rfl) | rfl) | rfl) | rfl
  · exact one_int64
  · exact one_int
  · exact one_bool
  · exact one_u8
  · exact one_string
  · exact one_uintptr
  · exact one_int32
  · exact one_rats
  · exact one_errno
  · exact one_u32s
  · exact one_sers
  · exact one_u64
  · exact one_u32
  · exact one_uint
  · exact one_ints
  · exact one_LLRat
  · exact one_Lheckeseriesstep
  · exact one_heckeseriessteps
  · exact one_matrixgrid
  · exact one_LPrimePower
  · exact one_Lbool
def aggTab (t : TypeId) : Option Nat := if t == 24 then some 2 else if t == 40 then some 3 else if t == 47 then some 2 else if t == 49 then some 4 else if t == 70 then some 3 else if t == 142 then some 2 else if t == 155 then some 3 else none
theorem agg_tab {t : TypeId} {n : Nat} (h : aggTab t = some n) : AggT Tryz.prog t n := by
  unfold aggTab at h
  split at h
  · rename_i e; rw [beq_iff_eq] at e; subst e; cases h; exact agg_ser
  split at h
  · rename_i e; rw [beq_iff_eq] at e; subst e; cases h; exact agg_Spec
  split at h
  · rename_i e; rw [beq_iff_eq] at e; subst e; cases h; exact agg_int
  split at h
  · rename_i e; rw [beq_iff_eq] at e; subst e; cases h; exact agg_rat
  split at h
  · rename_i e; rw [beq_iff_eq] at e; subst e; cases h; exact agg_Matrix
  split at h
  · rename_i e; rw [beq_iff_eq] at e; subst e; cases h; exact agg_PrimePower
  split at h
  · rename_i e; rw [beq_iff_eq] at e; subst e; cases h; exact agg_heckeseriesstep
  · cases h
def arrTab (t : TypeId) : Option Nat := if t == 25 then some 2 else if t == 149 then some 64 else none
theorem arr_tab {t : TypeId} {n : Nat} (h : arrTab t = some n) : SizeT Tryz.prog t n := by
  unfold arrTab at h
  split at h
  · rename_i e; rw [beq_iff_eq] at e; subst e; cases h; exact size_A2int
  split at h
  · rename_i e; rw [beq_iff_eq] at e; subst e; cases h; exact size_A64uint8
  · cases h
def sizeTab (t : TypeId) : Option Nat := match aggTab t with | some n => some n | none => match arrTab t with | some n => some n | none => bif oneTab t then some 1 else none
theorem size_tab {t : TypeId} {n : Nat} (h : sizeTab t = some n) : SizeT Tryz.prog t n := by
  unfold sizeTab at h
  cases ha : aggTab t with
  | some m =>
    rw [ha] at h; injection h with h; subst h
    obtain ⟨fs, i, -, h2, h3⟩ := agg_tab ha
    exact ⟨i, h2, h3⟩
  | none =>
    rw [ha] at h
    cases hr : arrTab t with
    | some m =>
      rw [hr] at h; injection h with h; subst h
      exact arr_tab hr
    | none =>
      rw [hr] at h
      cases ho : oneTab t with
      | false => simp [ho] at h
      | true =>
        simp [ho] at h; subst h
        obtain ⟨d, i, -, -, h3, h4⟩ := one_tab ho
        exact ⟨i, h3, h4⟩
def fieldTab (t : TypeId) (f : Nat) : Option Nat :=
  if t == 24 then (match f with | 0 => some 0 | 1 => some 1 | _ => none) else if t == 40 then (match f with | 0 => some 0 | 1 => some 1 | 2 => some 2 | _ => none) else if t == 47 then (match f with | 0 => some 0 | 1 => some 1 | _ => none) else if t == 49 then (match f with | 0 => some 0 | 1 => some 2 | _ => none) else if t == 70 then (match f with | 0 => some 0 | 1 => some 1 | 2 => some 2 | _ => none) else if t == 142 then (match f with | 0 => some 0 | 1 => some 1 | _ => none) else if t == 155 then (match f with | 0 => some 0 | 1 => some 1 | 2 => some 2 | _ => none) else none
theorem field_tab {t : TypeId} {f off : Nat} (h : fieldTab t f = some off) : FieldAt Tryz.prog t f off := by
  unfold fieldTab at h
  split at h
  · rename_i e; rw [beq_iff_eq] at e; subst e
    rcases f with _ | _ | f
    · injection h with h; subst h; exact fld_ser0
    · injection h with h; subst h; exact fld_ser1
    · cases h
  split at h
  · rename_i e; rw [beq_iff_eq] at e; subst e
    rcases f with _ | _ | _ | f
    · injection h with h; subst h; exact fld_Spec0
    · injection h with h; subst h; exact fld_Spec1
    · injection h with h; subst h; exact fld_Spec2
    · cases h
  split at h
  · rename_i e; rw [beq_iff_eq] at e; subst e
    rcases f with _ | _ | f
    · injection h with h; subst h; exact fld_int0
    · injection h with h; subst h; exact fld_int1
    · cases h
  split at h
  · rename_i e; rw [beq_iff_eq] at e; subst e
    rcases f with _ | _ | f
    · injection h with h; subst h; exact fld_rat0
    · injection h with h; subst h; exact fld_rat1
    · cases h
  split at h
  · rename_i e; rw [beq_iff_eq] at e; subst e
    rcases f with _ | _ | _ | f
    · injection h with h; subst h; exact fld_Matrix0
    · injection h with h; subst h; exact fld_Matrix1
    · injection h with h; subst h; exact fld_Matrix2
    · cases h
  split at h
  · rename_i e; rw [beq_iff_eq] at e; subst e
    rcases f with _ | _ | f
    · injection h with h; subst h; exact fld_PrimePower0
    · injection h with h; subst h; exact fld_PrimePower1
    · cases h
  split at h
  · rename_i e; rw [beq_iff_eq] at e; subst e
    rcases f with _ | _ | _ | f
    · injection h with h; subst h; exact fld_heckeseriesstep0
    · injection h with h; subst h; exact fld_heckeseriesstep1
    · injection h with h; subst h; exact fld_heckeseriesstep2
    · cases h
  · cases h
def zeroTab (t : TypeId) : Option (List Value) := if t == 24 then some zS else if t == 40 then some zSpec else if t == 47 then some zI else if t == 49 then some zQ else if t == 70 then some zMatrix else if t == 142 then some zPrimePower else if t == 155 then some zheckeseriesstep else if t == 25 then some [.int .i64 0, .int .i64 0] else if t == 149 then some [.int .u8 0, .int .u8 0, .int .u8 0, .int .u8 0, .int .u8 0, .int .u8 0, .int .u8 0, .int .u8 0, .int .u8 0, .int .u8 0, .int .u8 0, .int .u8 0, .int .u8 0, .int .u8 0, .int .u8 0, .int .u8 0, .int .u8 0, .int .u8 0, .int .u8 0, .int .u8 0, .int .u8 0, .int .u8 0, .int .u8 0, .int .u8 0, .int .u8 0, .int .u8 0, .int .u8 0, .int .u8 0, .int .u8 0, .int .u8 0, .int .u8 0, .int .u8 0, .int .u8 0, .int .u8 0, .int .u8 0, .int .u8 0, .int .u8 0, .int .u8 0, .int .u8 0, .int .u8 0, .int .u8 0, .int .u8 0, .int .u8 0, .int .u8 0, .int .u8 0, .int .u8 0, .int .u8 0, .int .u8 0, .int .u8 0, .int .u8 0, .int .u8 0, .int .u8 0, .int .u8 0, .int .u8 0, .int .u8 0, .int .u8 0, .int .u8 0, .int .u8 0, .int .u8 0, .int .u8 0, .int .u8 0, .int .u8 0, .int .u8 0, .int .u8 0] else none
theorem zero_tab {t : TypeId} {z : List Value} (h : zeroTab t = some z) : ZeroT Tryz.prog t z := by
  unfold zeroTab at h
  split at h
  · rename_i e; rw [beq_iff_eq] at e; subst e; cases h; exact zero_ser
  split at h
  · rename_i e; rw [beq_iff_eq] at e; subst e; cases h; exact zero_Spec
  split at h
  · rename_i e; rw [beq_iff_eq] at e; subst e; cases h; exact zero_int
  split at h
  · rename_i e; rw [beq_iff_eq] at e; subst e; cases h; exact zero_rat
  split at h
  · rename_i e; rw [beq_iff_eq] at e; subst e; cases h; exact zero_Matrix
  split at h
  · rename_i e; rw [beq_iff_eq] at e; subst e; cases h; exact zero_PrimePower
  split at h
  · rename_i e; rw [beq_iff_eq] at e; subst e; cases h; exact zero_heckeseriesstep
  split at h
  · rename_i e; rw [beq_iff_eq] at e; subst e; cases h; exact zero_A2int
  split at h
  · rename_i e; rw [beq_iff_eq] at e; subst e; cases h; exact zero_A64uint8
  · cases h
/-- lists: element type, its cells, its bytes, its zero -/
def makeTab (t : TypeId) : Option (TypeId × Nat × Nat × List Value) := if t == 22 then some (49, 4, 64, [.bool false, .slice none 0 0, .bool false, .slice none 0 0]) else if t == 45 then some (105, 1, 4, [.int .u32 0]) else if t == 68 then some (24, 2, 32, [.int .i64 0, .slice none 0 0]) else if t == 111 then some (3, 1, 8, [.int .i64 0]) else if t == 120 then some (22, 1, 24, [.slice none 0 0]) else if t == 122 then some (155, 3, 56, [.int .i64 0, .slice none 0 0, .slice none 0 0]) else if t == 123 then some (155, 3, 56, [.int .i64 0, .slice none 0 0, .slice none 0 0]) else if t == 129 then some (22, 1, 24, [.slice none 0 0]) else if t == 139 then some (142, 2, 16, [.int .i64 0, .int .i64 0]) else if t == 150 then some (4, 1, 1, [.bool false]) else none
theorem make_tab {t : TypeId} {e : TypeId} {n b : Nat} {z : List Value} (h : makeTab t = some (e, n, b, z)) : MakeT Tryz.prog t e n b z := by
  unfold makeTab at h
  split at h
  · rename_i e; rw [beq_iff_eq] at e; subst e; cases h; exact make_rats
  split at h
  · rename_i e; rw [beq_iff_eq] at e; subst e; cases h; exact make_u32s
  split at h
  · rename_i e; rw [beq_iff_eq] at e; subst e; cases h; exact make_sers
  split at h
  · rename_i e; rw [beq_iff_eq] at e; subst e; cases h; exact make_ints
  split at h
  · rename_i e; rw [beq_iff_eq] at e; subst e; cases h; exact make_LLRat
  split at h
  · rename_i e; rw [beq_iff_eq] at e; subst e; cases h; exact make_Lheckeseriesstep
  split at h
  · rename_i e; rw [beq_iff_eq] at e; subst e; cases h; exact make_heckeseriessteps
  split at h
  · rename_i e; rw [beq_iff_eq] at e; subst e; cases h; exact make_matrixgrid
  split at h
  · rename_i e; rw [beq_iff_eq] at e; subst e; cases h; exact make_LPrimePower
  split at h
  · rename_i e; rw [beq_iff_eq] at e; subst e; cases h; exact make_Lbool
  · cases h
theorem elem_tab {t e : TypeId} {n b : Nat} {z : List Value} (h : makeTab t = some (e, n, b, z)) : ElemT Tryz.prog t e n := by
  obtain ⟨h1, i, v, h2, h3, -⟩ := make_tab h
  exact ⟨h1, i, h2, h3⟩
theorem slice_tab {t e : TypeId} {n b : Nat} {z : List Value} (h : makeTab t = some (e, n, b, z)) : Tryz.prog.underlying t = some (.slice e) := (make_tab h).1
def buildTab (t : TypeId) : Option (List Value × List (Nat × Nat)) := if t == 24 then some (zS, [(0, 1), (1, 1)]) else if t == 40 then some (zSpec, [(0, 1), (1, 1), (2, 1)]) else if t == 47 then some (zI, [(0, 1), (1, 1)]) else if t == 49 then some (zQ, [(0, 2), (2, 2)]) else if t == 70 then some (zMatrix, [(0, 1), (1, 1), (2, 1)]) else if t == 142 then some (zPrimePower, [(0, 1), (1, 1)]) else if t == 155 then some (zheckeseriesstep, [(0, 1), (1, 1), (2, 1)]) else none
theorem build_tab {t : TypeId} {z : List Value} {pl : List (Nat × Nat)} (h : buildTab t = some (z, pl)) : BuildT Tryz.prog t z pl := by
  unfold buildTab at h
  split at h
  · rename_i e; rw [beq_iff_eq] at e; subst e; cases h; exact bld_ser
  split at h
  · rename_i e; rw [beq_iff_eq] at e; subst e; cases h; exact bld_Spec
  split at h
  · rename_i e; rw [beq_iff_eq] at e; subst e; cases h; exact bld_int
  split at h
  · rename_i e; rw [beq_iff_eq] at e; subst e; cases h; exact bld_rat
  split at h
  · rename_i e; rw [beq_iff_eq] at e; subst e; cases h; exact bld_Matrix
  split at h
  · rename_i e; rw [beq_iff_eq] at e; subst e; cases h; exact bld_PrimePower
  split at h
  · rename_i e; rw [beq_iff_eq] at e; subst e; cases h; exact bld_heckeseriesstep
  · cases h
def intTab (t : TypeId) : Option IntKind := if t == 2 then some .i64 else if t == 3 then some .i64 else if t == 5 then some .u8 else if t == 12 then some .u64 else if t == 21 then some .i32 else if t == 28 then some .i64 else if t == 99 then some .u64 else if t == 105 then some .u32 else if t == 106 then some .u64 else none
theorem int_tab {t : TypeId} {k : IntKind} (h : intTab t = some k) : Tryz.prog.underlying t = some (.int k) := by
  unfold intTab at h
  split at h
  · rename_i e; rw [beq_iff_eq] at e; subst e; cases h; exact und_int64
  split at h
  · rename_i e; rw [beq_iff_eq] at e; subst e; cases h; exact und_int
  split at h
  · rename_i e; rw [beq_iff_eq] at e; subst e; cases h; exact und_u8
  split at h
  · rename_i e; rw [beq_iff_eq] at e; subst e; cases h; exact und_uintptr
  split at h
  · rename_i e; rw [beq_iff_eq] at e; subst e; cases h; exact und_int32
  split at h
  · rename_i e; rw [beq_iff_eq] at e; subst e; cases h; exact und_errno
  split at h
  · rename_i e; rw [beq_iff_eq] at e; subst e; cases h; exact und_u64
  split at h
  · rename_i e; rw [beq_iff_eq] at e; subst e; cases h; exact und_u32
  split at h
  · rename_i e; rw [beq_iff_eq] at e; subst e; cases h; exact und_uint
  · cases h
end Ab
