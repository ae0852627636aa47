/- The types of the program that the proofs meet, as the kernel reckons them, and tables of them; no condition. -/
import Derived.Test.YtajlkcnlfiikeaaGreatTyG
set_option linter.all false
namespace Ab
open Go Go.RowKit Go.Proofs

abbrev zI : List Value := [.bool false, .slice none 0 0]
abbrev zQ : List Value := [.bool false, .slice none 0 0, .bool false, .slice none 0 0]
abbrev zQuadForm : List Value := [.int .i64 0, .int .i64 0, .int .i64 0]
abbrev zMat2 : List Value := [.int .i64 0, .int .i64 0, .int .i64 0, .int .i64 0]
theorem one_int64 : OneT Tryz.prog 2 := oneT_of (by kernel_rfl)
theorem one_int : OneT Tryz.prog 3 := oneT_of (by kernel_rfl)
theorem one_bool : OneT Tryz.prog 4 := oneT_of (by kernel_rfl)
theorem one_u8 : OneT Tryz.prog 5 := oneT_of (by kernel_rfl)
theorem one_string : OneT Tryz.prog 9 := oneT_of (by kernel_rfl)
theorem one_uintptr : OneT Tryz.prog 12 := oneT_of (by kernel_rfl)
theorem one_int32 : OneT Tryz.prog 21 := oneT_of (by kernel_rfl)
theorem one_u32s : OneT Tryz.prog 23 := oneT_of (by kernel_rfl)
theorem one_errno : OneT Tryz.prog 28 := oneT_of (by kernel_rfl)
theorem one_LQuadForm : OneT Tryz.prog 35 := oneT_of (by kernel_rfl)
theorem one_u64 : OneT Tryz.prog 67 := oneT_of (by kernel_rfl)
theorem one_u32 : OneT Tryz.prog 72 := oneT_of (by kernel_rfl)
theorem one_uint : OneT Tryz.prog 76 := oneT_of (by kernel_rfl)
theorem agg_int : AggT Tryz.prog 25 2 := aggT_of (by kernel_rfl)
theorem fld_int0 : FieldAt Tryz.prog 25 0 0 := fieldAt_of (by kernel_rfl)
theorem fld_int1 : FieldAt Tryz.prog 25 1 1 := fieldAt_of (by kernel_rfl)
theorem zero_int : ZeroT Tryz.prog 25 zI := zeroT_of (v := .agg #[.bool false, .slice none 0 0]) (by kernel_rfl) rfl
theorem bld_int : BuildT Tryz.prog 25 zI [(0, 1), (1, 1)] := buildT_of (v := .agg #[.bool false, .slice none 0 0]) (Tryz.underlying25) (by kernel_rfl) rfl (fun w => by kernel_rfl)
theorem agg_rat : AggT Tryz.prog 27 4 := aggT_of (by kernel_rfl)
theorem fld_rat0 : FieldAt Tryz.prog 27 0 0 := fieldAt_of (by kernel_rfl)
theorem fld_rat1 : FieldAt Tryz.prog 27 1 2 := fieldAt_of (by kernel_rfl)
theorem zero_rat : ZeroT Tryz.prog 27 zQ := zeroT_of (v := .agg #[.bool false, .slice none 0 0, .bool false, .slice none 0 0]) (by kernel_rfl) rfl
theorem bld_rat : BuildT Tryz.prog 27 zQ [(0, 2), (2, 2)] := buildT_of (v := .agg #[.bool false, .slice none 0 0, .bool false, .slice none 0 0]) (Tryz.underlying27) (by kernel_rfl) rfl (fun w => by kernel_rfl)
theorem agg_QuadForm : AggT Tryz.prog 39 3 := aggT_of (by kernel_rfl)
theorem fld_QuadForm0 : FieldAt Tryz.prog 39 0 0 := fieldAt_of (by kernel_rfl)
theorem fld_QuadForm1 : FieldAt Tryz.prog 39 1 1 := fieldAt_of (by kernel_rfl)
theorem fld_QuadForm2 : FieldAt Tryz.prog 39 2 2 := fieldAt_of (by kernel_rfl)
theorem zero_QuadForm : ZeroT Tryz.prog 39 zQuadForm := zeroT_of (v := .agg #[.int .i64 0, .int .i64 0, .int .i64 0]) (by kernel_rfl) rfl
theorem bld_QuadForm : BuildT Tryz.prog 39 zQuadForm [(0, 1), (1, 1), (2, 1)] := buildT_of (v := .agg #[.int .i64 0, .int .i64 0, .int .i64 0]) (Tryz.underlying39) (by kernel_rfl) rfl (fun w => by kernel_rfl)
theorem agg_Mat2 : AggT Tryz.prog 58 4 := aggT_of (by kernel_rfl)
theorem fld_Mat20 : FieldAt Tryz.prog 58 0 0 := fieldAt_of (by kernel_rfl)
theorem fld_Mat21 : FieldAt Tryz.prog 58 1 1 := fieldAt_of (by kernel_rfl)
theorem fld_Mat22 : FieldAt Tryz.prog 58 2 2 := fieldAt_of (by kernel_rfl)
theorem fld_Mat23 : FieldAt Tryz.prog 58 3 3 := fieldAt_of (by kernel_rfl)
theorem zero_Mat2 : ZeroT Tryz.prog 58 zMat2 := zeroT_of (v := .agg #[.int .i64 0, .int .i64 0, .int .i64 0, .int .i64 0]) (by kernel_rfl) rfl
theorem bld_Mat2 : BuildT Tryz.prog 58 zMat2 [(0, 1), (1, 1), (2, 1), (3, 1)] := buildT_of (v := .agg #[.int .i64 0, .int .i64 0, .int .i64 0, .int .i64 0]) (Tryz.underlying58) (by kernel_rfl) rfl (fun w => by kernel_rfl)
theorem zero_A3int : ZeroT Tryz.prog 75 [.int .i64 0, .int .i64 0, .int .i64 0] := zeroT_of (v := .agg #[.int .i64 0, .int .i64 0, .int .i64 0]) (by kernel_rfl) rfl
theorem size_A3int : SizeT Tryz.prog 75 3 := sizeT_of (by kernel_rfl)
theorem make_u32s : MakeT Tryz.prog 23 72 1 4 [.int .u32 0] := makeT_of (v := .int .u32 0) (by kernel_rfl) (by kernel_rfl) rfl rfl
theorem elem_u32s : ElemT Tryz.prog 23 72 1 := elemT_of (by kernel_rfl) (by kernel_rfl)
theorem sl_u32s : Tryz.prog.underlying 23 = some (.slice 72) := by kernel_rfl
theorem make_LQuadForm : MakeT Tryz.prog 35 39 3 24 [.int .i64 0, .int .i64 0, .int .i64 0] := makeT_of (v := .agg #[.int .i64 0, .int .i64 0, .int .i64 0]) (by kernel_rfl) (by kernel_rfl) rfl rfl
theorem elem_LQuadForm : ElemT Tryz.prog 35 39 3 := elemT_of (by kernel_rfl) (by kernel_rfl)
theorem sl_LQuadForm : Tryz.prog.underlying 35 = some (.slice 39) := by kernel_rfl
theorem und_bool : Tryz.prog.underlying 4 = some .bool := by kernel_rfl
theorem und_int64 : Tryz.prog.underlying 2 = some (.int .i64) := by kernel_rfl
theorem und_int : Tryz.prog.underlying 3 = some (.int .i64) := by kernel_rfl
theorem und_u8 : Tryz.prog.underlying 5 = some (.int .u8) := by kernel_rfl
theorem und_uintptr : Tryz.prog.underlying 12 = some (.int .u64) := by kernel_rfl
theorem und_int32 : Tryz.prog.underlying 21 = some (.int .i32) := by kernel_rfl
theorem und_errno : Tryz.prog.underlying 28 = some (.int .i64) := by kernel_rfl
theorem und_u64 : Tryz.prog.underlying 67 = some (.int .u64) := by kernel_rfl
theorem und_u32 : Tryz.prog.underlying 72 = some (.int .u32) := by kernel_rfl
theorem und_uint : Tryz.prog.underlying 76 = some (.int .u64) := by kernel_rfl
theorem mixed : Tryz.prog.follows .mixedOrders = true := by kernel_rfl
/-- a table of one-cell types -/
def oneTab (t : TypeId) : Bool := t == 2 || t == 3 || t == 4 || t == 5 || t == 9 || t == 12 || t == 21 || t == 23 || t == 28 || t == 35 || t == 67 || t == 72 || t == 76
theorem one_tab {t : TypeId} (h : oneTab t = true) : OneT Tryz.prog t := by
  simp only [oneTab, Bool.or_eq_true, beq_iff_eq] at h
  rcases h with (((((((((((rfl | rfl) | rfl) | rfl) | rfl) | rfl) | rfl) | rfl) | rfl) | rfl) | rfl) | rfl) | rfl
  · exact one_int64
  · exact one_int
  · exact one_bool
  · exact one_u8
  · exact one_string
  · exact one_uintptr
  · exact one_int32
  · exact one_u32s
  · exact one_errno
  · exact one_LQuadForm
  · exact one_u64
  · exact one_u32
  · exact one_uint
def aggTab (t : TypeId) : Option Nat := if t == 25 then some 2 else if t == 27 then some 4 else if t == 39 then some 3 else if t == 58 then some 4 else none
theorem agg_tab {t : TypeId} {n : Nat} (h : aggTab t = some n) : AggT Tryz.prog t n := by
  unfold aggTab at h
  split at h
  · rename_i e; rw [beq_iff_eq] at e; subst e; cases h; exact agg_int
  split at h
  · rename_i e; rw [beq_iff_eq] at e; subst e; cases h; exact agg_rat
  split at h
  · rename_i e; rw [beq_iff_eq] at e; subst e; cases h; exact agg_QuadForm
  split at h
  · rename_i e; rw [beq_iff_eq] at e; subst e; cases h; exact agg_Mat2
  · cases h
def arrTab (t : TypeId) : Option Nat := if t == 75 then some 3 else none
theorem arr_tab {t : TypeId} {n : Nat} (h : arrTab t = some n) : SizeT Tryz.prog t n := by
  unfold arrTab at h
  split at h
  · rename_i e; rw [beq_iff_eq] at e; subst e; cases h; exact size_A3int
  · cases h
def sizeTab (t : TypeId) : Option Nat := match aggTab t with | some n => some n | none => match arrTab t with | some n => some n | none => bif oneTab t then some 1 else none
theorem size_tab {t : TypeId} {n : Nat} (h : sizeTab t = some n) : SizeT Tryz.prog t n := by
  unfold sizeTab at h
  cases ha : aggTab t with
  | some m =>
    rw [ha] at h; injection h with h; subst h
    obtain ⟨fs, i, -, h2, h3⟩ := agg_tab ha
    exact ⟨i, h2, h3⟩
  | none =>
    rw [ha] at h
    cases hr : arrTab t with
    | some m =>
      rw [hr] at h; injection h with h; subst h
      exact arr_tab hr
    | none =>
      rw [hr] at h
      cases ho : oneTab t with
      | false => simp [ho] at h
      | true =>
        simp [ho] at h; subst h
        obtain ⟨d, i, -, -, h3, h4⟩ := one_tab ho
        exact ⟨i, h3, h4⟩
def fieldTab (t : TypeId) (f : Nat) : Option Nat :=
  if t == 25 then (match f with | 0 => some 0 | 1 => some 1 | _ => none) else if t == 27 then (match f with | 0 => some 0 | 1 => some 2 | _ => none) else if t == 39 then (match f with | 0 => some 0 | 1 => some 1 | 2 => some 2 | _ => none) else if t == 58 then (match f with | 0 => some 0 | 1 => some 1 | 2 => some 2 | 3 => some 3 | _ => none) else none
theorem field_tab {t : TypeId} {f off : Nat} (h : fieldTab t f = some off) : FieldAt Tryz.prog t f off := by
  unfold fieldTab at h
  split at h
  · rename_i e; rw [beq_iff_eq] at e; subst e
    rcases f with _ | _ | f
    · injection h with h; subst h; exact fld_int0
    · injection h with h; subst h; exact fld_int1
    · cases h
  split at h
  · rename_i e; rw [beq_iff_eq] at e; subst e
    rcases f with _ | _ | f
    · injection h with h; subst h; exact fld_rat0
    · injection h with h; subst h; exact fld_rat1
    · cases h
  split at h
  · rename_i e; rw [beq_iff_eq] at e; subst e
    rcases f with _ | _ | _ | f
    · injection h with h; subst h; exact fld_QuadForm0
    · injection h with h; subst h; exact fld_QuadForm1
    · injection h with h; subst h; exact fld_QuadForm2
    · cases h
  split at h
  · rename_i e; rw [beq_iff_eq] at e; subst e
    rcases f with _ | _ | _ | _ | f
    · injection h with h; subst h; exact fld_Mat20
    · injection h with h; subst h; exact fld_Mat21
    · injection h with h; subst h; exact fld_Mat22
    · injection h with h; subst h; exact fld_Mat23
    · cases h
  · cases h
def zeroTab (t : TypeId) : Option (List Value) := if t == 25 then some zI else if t == 27 then some zQ else if t == 39 then some zQuadForm else if t == 58 then some zMat2 else if t == 75 then some [.int .i64 0, .int .i64 0, .int .i64 0] else none
theorem zero_tab {t : TypeId} {z : List Value} (h : zeroTab t = some z) : ZeroT Tryz.prog t z := by
  unfold zeroTab at h
  split at h
  · rename_i e; rw [beq_iff_eq] at e; subst e; cases h; exact zero_int
  split at h
  · rename_i e; rw [beq_iff_eq] at e; subst e; cases h; exact zero_rat
  split at h
  · rename_i e; rw [beq_iff_eq] at e; subst e; cases h; exact zero_QuadForm
  split at h
  · rename_i e; rw [beq_iff_eq] at e; subst e; cases h; exact zero_Mat2
  split at h
  · rename_i e; rw [beq_iff_eq] at e; subst e; cases h; exact zero_A3int
  · cases h
/-- lists: element type, its cells, its bytes, its zero -/
def makeTab (t : TypeId) : Option (TypeId × Nat × Nat × List Value) := if t == 23 then some (72, 1, 4, [.int .u32 0]) else if t == 35 then some (39, 3, 24, [.int .i64 0, .int .i64 0, .int .i64 0]) else none
theorem make_tab {t : TypeId} {e : TypeId} {n b : Nat} {z : List Value} (h : makeTab t = some (e, n, b, z)) : MakeT Tryz.prog t e n b z := by
  unfold makeTab at h
  split at h
  · rename_i e; rw [beq_iff_eq] at e; subst e; cases h; exact make_u32s
  split at h
  · rename_i e; rw [beq_iff_eq] at e; subst e; cases h; exact make_LQuadForm
  · cases h
theorem elem_tab {t e : TypeId} {n b : Nat} {z : List Value} (h : makeTab t = some (e, n, b, z)) : ElemT Tryz.prog t e n := by
  obtain ⟨h1, i, v, h2, h3, -⟩ := make_tab h
  exact ⟨h1, i, h2, h3⟩
theorem slice_tab {t e : TypeId} {n b : Nat} {z : List Value} (h : makeTab t = some (e, n, b, z)) : Tryz.prog.underlying t = some (.slice e) := (make_tab h).1
def buildTab (t : TypeId) : Option (List Value × List (Nat × Nat)) := if t == 25 then some (zI, [(0, 1), (1, 1)]) else if t == 27 then some (zQ, [(0, 2), (2, 2)]) else if t == 39 then some (zQuadForm, [(0, 1), (1, 1), (2, 1)]) else if t == 58 then some (zMat2, [(0, 1), (1, 1), (2, 1), (3, 1)]) else none
theorem build_tab {t : TypeId} {z : List Value} {pl : List (Nat × Nat)} (h : buildTab t = some (z, pl)) : BuildT Tryz.prog t z pl := by
  unfold buildTab at h
  split at h
  · rename_i e; rw [beq_iff_eq] at e; subst e; cases h; exact bld_int
  split at h
  · rename_i e; rw [beq_iff_eq] at e; subst e; cases h; exact bld_rat
  split at h
  · rename_i e; rw [beq_iff_eq] at e; subst e; cases h; exact bld_QuadForm
  split at h
  · rename_i e; rw [beq_iff_eq] at e; subst e; cases h; exact bld_Mat2
  · cases h
def intTab (t : TypeId) : Option IntKind := if t == 2 then some .i64 else if t == 3 then some .i64 else if t == 5 then some .u8 else if t == 12 then some .u64 else if t == 21 then some .i32 else if t == 28 then some .i64 else if t == 67 then some .u64 else if t == 72 then some .u32 else if t == 76 then some .u64 else none
theorem int_tab {t : TypeId} {k : IntKind} (h : intTab t = some k) : Tryz.prog.underlying t = some (.int k) := by
  unfold intTab at h
  split at h
  · rename_i e; rw [beq_iff_eq] at e; subst e; cases h; exact und_int64
  split at h
  · rename_i e; rw [beq_iff_eq] at e; subst e; cases h; exact und_int
  split at h
  · rename_i e; rw [beq_iff_eq] at e; subst e; cases h; exact und_u8
  split at h
  · rename_i e; rw [beq_iff_eq] at e; subst e; cases h; exact und_uintptr
  split at h
  · rename_i e; rw [beq_iff_eq] at e; subst e; cases h; exact und_int32
  split at h
  · rename_i e; rw [beq_iff_eq] at e; subst e; cases h; exact und_errno
  split at h
  · rename_i e; rw [beq_iff_eq] at e; subst e; cases h; exact und_u64
  split at h
  · rename_i e; rw [beq_iff_eq] at e; subst e; cases h; exact und_u32
  split at h
  · rename_i e; rw [beq_iff_eq] at e; subst e; cases h; exact und_uint
  · cases h
end Ab
