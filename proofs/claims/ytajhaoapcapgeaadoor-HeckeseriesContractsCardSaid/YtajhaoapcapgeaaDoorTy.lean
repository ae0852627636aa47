/- The types of the program that the proofs meet, as the kernel reckons them, and tables of them; no condition. -/
import Derived.Test.YtajhaoapcapgeaaDoorTyG
set_option linter.all false
namespace Ab
open Go Go.RowKit Go.Proofs

abbrev zS : List Value := [.int .i64 0, .slice none 0 0]
abbrev zSpec : List Value := [.int .i64 0, .int .i64 0, .int .i64 0]
abbrev zI : List Value := [.bool false, .slice none 0 0]
abbrev zQ : List Value := [.bool false, .slice none 0 0, .bool false, .slice none 0 0]
abbrev zPrimePower : List Value := [.int .i64 0, .int .i64 0]
theorem one_int64 : OneT Tryd.prog 2 := oneT_of (by kernel_rfl)
theorem one_int : OneT Tryd.prog 3 := oneT_of (by kernel_rfl)
theorem one_bool : OneT Tryd.prog 4 := oneT_of (by kernel_rfl)
theorem one_u8 : OneT Tryd.prog 5 := oneT_of (by kernel_rfl)
theorem one_string : OneT Tryd.prog 9 := oneT_of (by kernel_rfl)
theorem one_uintptr : OneT Tryd.prog 12 := oneT_of (by kernel_rfl)
theorem one_int32 : OneT Tryd.prog 21 := oneT_of (by kernel_rfl)
theorem one_rats : OneT Tryd.prog 22 := oneT_of (by kernel_rfl)
theorem one_ints : OneT Tryd.prog 27 := oneT_of (by kernel_rfl)
theorem one_errno : OneT Tryd.prog 31 := oneT_of (by kernel_rfl)
theorem one_u32s : OneT Tryd.prog 47 := oneT_of (by kernel_rfl)
theorem one_Lbool : OneT Tryd.prog 81 := oneT_of (by kernel_rfl)
theorem one_LPrimePower : OneT Tryd.prog 82 := oneT_of (by kernel_rfl)
theorem one_u64 : OneT Tryd.prog 91 := oneT_of (by kernel_rfl)
theorem one_u32 : OneT Tryd.prog 93 := oneT_of (by kernel_rfl)
theorem one_uint : OneT Tryd.prog 99 := oneT_of (by kernel_rfl)
theorem agg_ser : AggT Tryd.prog 24 2 := aggT_of (by kernel_rfl)
theorem fld_ser0 : FieldAt Tryd.prog 24 0 0 := fieldAt_of (by kernel_rfl)
theorem fld_ser1 : FieldAt Tryd.prog 24 1 1 := fieldAt_of (by kernel_rfl)
theorem zero_ser : ZeroT Tryd.prog 24 zS := zeroT_of (v := .agg #[.int .i64 0, .slice none 0 0]) (by kernel_rfl) rfl
theorem bld_ser : BuildT Tryd.prog 24 zS [(0, 1), (1, 1)] := buildT_of (v := .agg #[.int .i64 0, .slice none 0 0]) (Tryd.underlying24) (by kernel_rfl) rfl (fun w => by kernel_rfl)
theorem agg_Spec : AggT Tryd.prog 26 3 := aggT_of (by kernel_rfl)
theorem fld_Spec0 : FieldAt Tryd.prog 26 0 0 := fieldAt_of (by kernel_rfl)
theorem fld_Spec1 : FieldAt Tryd.prog 26 1 1 := fieldAt_of (by kernel_rfl)
theorem fld_Spec2 : FieldAt Tryd.prog 26 2 2 := fieldAt_of (by kernel_rfl)
theorem zero_Spec : ZeroT Tryd.prog 26 zSpec := zeroT_of (v := .agg #[.int .i64 0, .int .i64 0, .int .i64 0]) (by kernel_rfl) rfl
theorem bld_Spec : BuildT Tryd.prog 26 zSpec [(0, 1), (1, 1), (2, 1)] := buildT_of (v := .agg #[.int .i64 0, .int .i64 0, .int .i64 0]) (Tryd.underlying26) (by kernel_rfl) rfl (fun w => by kernel_rfl)
theorem agg_int : AggT Tryd.prog 49 2 := aggT_of (by kernel_rfl)
theorem fld_int0 : FieldAt Tryd.prog 49 0 0 := fieldAt_of (by kernel_rfl)
theorem fld_int1 : FieldAt Tryd.prog 49 1 1 := fieldAt_of (by kernel_rfl)
theorem zero_int : ZeroT Tryd.prog 49 zI := zeroT_of (v := .agg #[.bool false, .slice none 0 0]) (by kernel_rfl) rfl
theorem bld_int : BuildT Tryd.prog 49 zI [(0, 1), (1, 1)] := buildT_of (v := .agg #[.bool false, .slice none 0 0]) (Tryd.underlying49) (by kernel_rfl) rfl (fun w => by kernel_rfl)
theorem agg_rat : AggT Tryd.prog 51 4 := aggT_of (by kernel_rfl)
theorem fld_rat0 : FieldAt Tryd.prog 51 0 0 := fieldAt_of (by kernel_rfl)
theorem fld_rat1 : FieldAt Tryd.prog 51 1 2 := fieldAt_of (by kernel_rfl)
theorem zero_rat : ZeroT Tryd.prog 51 zQ := zeroT_of (v := .agg #[.bool false, .slice none 0 0, .bool false, .slice none 0 0]) (by kernel_rfl) rfl
theorem bld_rat : BuildT Tryd.prog 51 zQ [(0, 2), (2, 2)] := buildT_of (v := .agg #[.bool false, .slice none 0 0, .bool false, .slice none 0 0]) (Tryd.underlying51) (by kernel_rfl) rfl (fun w => by kernel_rfl)
theorem agg_PrimePower : AggT Tryd.prog 86 2 := aggT_of (by kernel_rfl)
theorem fld_PrimePower0 : FieldAt Tryd.prog 86 0 0 := fieldAt_of (by kernel_rfl)
theorem fld_PrimePower1 : FieldAt Tryd.prog 86 1 1 := fieldAt_of (by kernel_rfl)
theorem zero_PrimePower : ZeroT Tryd.prog 86 zPrimePower := zeroT_of (v := .agg #[.int .i64 0, .int .i64 0]) (by kernel_rfl) rfl
theorem bld_PrimePower : BuildT Tryd.prog 86 zPrimePower [(0, 1), (1, 1)] := buildT_of (v := .agg #[.int .i64 0, .int .i64 0]) (Tryd.underlying86) (by kernel_rfl) rfl (fun w => by kernel_rfl)
theorem zero_A64uint8 : ZeroT Tryd.prog 114 [.int .u8 0, .int .u8 0, .int .u8 0, .int .u8 0, .int .u8 0, .int .u8 0, .int .u8 0, .int .u8 0, .int .u8 0, .int .u8 0, .int .u8 0, .int .u8 0, .int .u8 0, .int .u8 0, .int .u8 0, .int .u8 0, .int .u8 0, .int .u8 0, .int .u8 0, .int .u8 0, .int .u8 0, .int .u8 0, .int .u8 0, .int .u8 0, .int .u8 0, .int .u8 0, .int .u8 0, .int .u8 0, .int .u8 0, .int .u8 0, .int .u8 0, .int .u8 0, .int .u8 0, .int .u8 0, .int .u8 0, .int .u8 0, .int .u8 0, .int .u8 0, .int .u8 0, .int .u8 0, .int .u8 0, .int .u8 0, .int .u8 0, .int .u8 0, .int .u8 0, .int .u8 0, .int .u8 0, .int .u8 0, .int .u8 0, .int .u8 0, .int .u8 0, .int .u8 0, .int .u8 0, .int .u8 0, .int .u8 0, .int .u8 0, .int .u8 0, .int .u8 0, .int .u8 0, .int .u8 0, .int .u8 0, .int .u8 0, .int .u8 0, .int .u8 0] := zeroT_of (v := .agg #[.int .u8 0, .int .u8 0, .int .u8 0, .int .u8 0, .int .u8 0, .int .u8 0, .int .u8 0, .int .u8 0, .int .u8 0, .int .u8 0, .int .u8 0, .int .u8 0, .int .u8 0, .int .u8 0, .int .u8 0, .int .u8 0, .int .u8 0, .int .u8 0, .int .u8 0, .int .u8 0, .int .u8 0, .int .u8 0, .int .u8 0, .int .u8 0, .int .u8 0, .int .u8 0, .int .u8 0, .int .u8 0, .int .u8 0, .int .u8 0, .int .u8 0, .int .u8 0, .int .u8 0, .int .u8 0, .int .u8 0, .int .u8 0, .int .u8 0, .int .u8 0, .int .u8 0, .int .u8 0, .int .u8 0, .int .u8 0, .int .u8 0, .int .u8 0, .int .u8 0, .int .u8 0, .int .u8 0, .int .u8 0, .int .u8 0, .int .u8 0, .int .u8 0, .int .u8 0, .int .u8 0, .int .u8 0, .int .u8 0, .int .u8 0, .int .u8 0, .int .u8 0, .int .u8 0, .int .u8 0, .int .u8 0, .int .u8 0, .int .u8 0, .int .u8 0]) (by kernel_rfl) rfl
theorem size_A64uint8 : SizeT Tryd.prog 114 64 := sizeT_of (by kernel_rfl)
theorem make_rats : MakeT Tryd.prog 22 51 4 64 [.bool false, .slice none 0 0, .bool false, .slice none 0 0] := makeT_of (v := .agg #[.bool false, .slice none 0 0, .bool false, .slice none 0 0]) (by kernel_rfl) (by kernel_rfl) rfl rfl
theorem elem_rats : ElemT Tryd.prog 22 51 4 := elemT_of (by kernel_rfl) (by kernel_rfl)
theorem sl_rats : Tryd.prog.underlying 22 = some (.slice 51) := by kernel_rfl
theorem make_ints : MakeT Tryd.prog 27 3 1 8 [.int .i64 0] := makeT_of (v := .int .i64 0) (by kernel_rfl) (by kernel_rfl) rfl rfl
theorem elem_ints : ElemT Tryd.prog 27 3 1 := elemT_of (by kernel_rfl) (by kernel_rfl)
theorem sl_ints : Tryd.prog.underlying 27 = some (.slice 3) := by kernel_rfl
theorem make_u32s : MakeT Tryd.prog 47 93 1 4 [.int .u32 0] := makeT_of (v := .int .u32 0) (by kernel_rfl) (by kernel_rfl) rfl rfl
theorem elem_u32s : ElemT Tryd.prog 47 93 1 := elemT_of (by kernel_rfl) (by kernel_rfl)
theorem sl_u32s : Tryd.prog.underlying 47 = some (.slice 93) := by kernel_rfl
theorem make_Lbool : MakeT Tryd.prog 81 4 1 1 [.bool false] := makeT_of (v := .bool false) (by kernel_rfl) (by kernel_rfl) rfl rfl
theorem elem_Lbool : ElemT Tryd.prog 81 4 1 := elemT_of (by kernel_rfl) (by kernel_rfl)
theorem sl_Lbool : Tryd.prog.underlying 81 = some (.slice 4) := by kernel_rfl
theorem make_LPrimePower : MakeT Tryd.prog 82 86 2 16 [.int .i64 0, .int .i64 0] := makeT_of (v := .agg #[.int .i64 0, .int .i64 0]) (by kernel_rfl) (by kernel_rfl) rfl rfl
theorem elem_LPrimePower : ElemT Tryd.prog 82 86 2 := elemT_of (by kernel_rfl) (by kernel_rfl)
theorem sl_LPrimePower : Tryd.prog.underlying 82 = some (.slice 86) := by kernel_rfl
theorem und_bool : Tryd.prog.underlying 4 = some .bool := by kernel_rfl
theorem und_int64 : Tryd.prog.underlying 2 = some (.int .i64) := by kernel_rfl
theorem und_int : Tryd.prog.underlying 3 = some (.int .i64) := by kernel_rfl
theorem und_u8 : Tryd.prog.underlying 5 = some (.int .u8) := by kernel_rfl
theorem und_uintptr : Tryd.prog.underlying 12 = some (.int .u64) := by kernel_rfl
theorem und_int32 : Tryd.prog.underlying 21 = some (.int .i32) := by kernel_rfl
theorem und_errno : Tryd.prog.underlying 31 = some (.int .i64) := by kernel_rfl
theorem und_u64 : Tryd.prog.underlying 91 = some (.int .u64) := by kernel_rfl
theorem und_u32 : Tryd.prog.underlying 93 = some (.int .u32) := by kernel_rfl
theorem und_uint : Tryd.prog.underlying 99 = some (.int .u64) := by kernel_rfl
theorem mixed : Tryd.prog.follows .mixedOrders = true := by kernel_rfl
/-- a table of one-cell types -/
def oneTab (t : TypeId) : Bool := t == 2 || t == 3 || t == 4 || t == 5 || t == 9 || t == 12 || t == 21 || t == 22 || t == 27 || t == 31 || t == 47 || t == 81 || t == 82 || t == 91 || t == 93 || t == 99
theorem one_tab {t : TypeId} (h : oneTab t = true) : OneT Tryd.prog t := by
  simp only [oneTab, Bool.or_eq_true, beq_iff_eq] at h
  rcases h with ((((((((((((((rfl | rfl) | rfl) | rfl) | rfl) | rfl) | rfl) | rfl) | rfl) | rfl) | rfl) | rfl) | rfl) | rfl) | rfl) | rfl
  · exact one_int64
  · exact one_int
  · exact one_bool
  · exact one_u8
  · exact one_string
  · exact one_uintptr
  · exact one_int32
  · exact one_rats
  · exact one_ints
  · exact one_errno
  · exact one_u32s
  · exact one_Lbool
  · exact one_LPrimePower
  · exact one_u64
  · exact one_u32
  · exact one_uint
def aggTab (t : TypeId) : Option Nat := if t == 24 then some 2 else if t == 26 then some 3 else if t == 49 then some 2 else if t == 51 then some 4 else if t == 86 then some 2 else none
theorem agg_tab {t : TypeId} {n : Nat} (h : aggTab t = some n) : AggT Tryd.prog t n := by
  unfold aggTab at h
  split at h
  · rename_i e; rw [beq_iff_eq] at e; subst e; cases h; exact agg_ser
  split at h
  · rename_i e; rw [beq_iff_eq] at e; subst e; cases h; exact agg_Spec
  split at h
  · rename_i e; rw [beq_iff_eq] at e; subst e; cases h; exact agg_int
  split at h
  · rename_i e; rw [beq_iff_eq] at e; subst e; cases h; exact agg_rat
  split at h
  · rename_i e; rw [beq_iff_eq] at e; subst e; cases h; exact agg_PrimePower
  · cases h
def arrTab (t : TypeId) : Option Nat := if t == 114 then some 64 else none
theorem arr_tab {t : TypeId} {n : Nat} (h : arrTab t = some n) : SizeT Tryd.prog t n := by
  unfold arrTab at h
  split at h
  · rename_i e; rw [beq_iff_eq] at e; subst e; cases h; exact size_A64uint8
  · cases h
def sizeTab (t : TypeId) : Option Nat := match aggTab t with | some n => some n | none => match arrTab t with | some n => some n | none => bif oneTab t then some 1 else none
theorem size_tab {t : TypeId} {n : Nat} (h : sizeTab t = some n) : SizeT Tryd.prog t n := by
  unfold sizeTab at h
  cases ha : aggTab t with
  | some m =>
    rw [ha] at h; injection h with h; subst h
    obtain ⟨fs, i, -, h2, h3⟩ := agg_tab ha
    exact ⟨i, h2, h3⟩
  | none =>
    rw [ha] at h
    cases hr : arrTab t with
    | some m =>
      rw [hr] at h; injection h with h; subst h
      exact arr_tab hr
    | none =>
      rw [hr] at h
      cases ho : oneTab t with
      | false => simp [ho] at h
      | true =>
        simp [ho] at h; subst h
        obtain ⟨d, i, -, -, h3, h4⟩ := one_tab ho
        exact ⟨i, h3, h4⟩
def fieldTab (t : TypeId) (f : Nat) : Option Nat :=
  if t == 24 then (match f with | 0 => some 0 | 1 => some 1 | _ => none) else if t == 26 then (match f with | 0 => some 0 | 1 => some 1 | 2 => some 2 | _ => none) else if t == 49 then (match f with | 0 => some 0 | 1 => some 1 | _ => none) else if t == 51 then (match f with | 0 => some 0 | 1 => some 2 | _ => none) else if t == 86 then (match f with | 0 => some 0 | 1 => some 1 | _ => none) else none
theorem field_tab {t : TypeId} {f off : Nat} (h : fieldTab t f = some off) : FieldAt Tryd.prog t f off := by
  unfold fieldTab at h
  split at h
  · rename_i e; rw [beq_iff_eq] at e; subst e
    rcases f with _ | _ | f
    · injection h with h; subst h; exact fld_ser0
    · injection h with h; subst h; exact fld_ser1
    · cases h
  split at h
  · rename_i e; rw [beq_iff_eq] at e; subst e
    rcases f with _ | _ | _ | f
    · injection h with h; subst h; exact fld_Spec0
    · injection h with h; subst h; exact fld_Spec1
    · injection h with h; subst h; exact fld_Spec2
    · cases h
  split at h
  · rename_i e; rw [beq_iff_eq] at e; subst e
    rcases f with _ | _ | f
    · injection h with h; subst h; exact fld_int0
    · injection h with h; subst h; exact fld_int1
    · cases h
  split at h
  · rename_i e; rw [beq_iff_eq] at e; subst e
    rcases f with _ | _ | f
    · injection h with h; subst h; exact fld_rat0
    · injection h with h; subst h; exact fld_rat1
    · cases h
  split at h
  · rename_i e; rw [beq_iff_eq] at e; subst e
    rcases f with _ | _ | f
    · injection h with h; subst h; exact fld_PrimePower0
    · injection h with h; subst h; exact fld_PrimePower1
    · cases h
  · cases h
def zeroTab (t : TypeId) : Option (List Value) := if t == 24 then some zS else if t == 26 then some zSpec else if t == 49 then some zI else if t == 51 then some zQ else if t == 86 then some zPrimePower else if t == 114 then some [.int .u8 0, .int .u8 0, .int .u8 0, .int .u8 0, .int .u8 0, .int .u8 0, .int .u8 0, .int .u8 0, .int .u8 0, .int .u8 0, .int .u8 0, .int .u8 0, .int .u8 0, .int .u8 0, .int .u8 0, .int .u8 0, .int .u8 0, .int .u8 0, .int .u8 0, .int .u8 0, .int .u8 0, .int .u8 0, .int .u8 0, .int .u8 0, .int .u8 0, .int .u8 0, .int .u8 0, .int .u8 0, .int .u8 0, .int .u8 0, .int .u8 0, .int .u8 0, .int .u8 0, .int .u8 0, .int .u8 0, .int .u8 0, .int .u8 0, .int .u8 0, .int .u8 0, .int .u8 0, .int .u8 0, .int .u8 0, .int .u8 0, .int .u8 0, .int .u8 0, .int .u8 0, .int .u8 0, .int .u8 0, .int .u8 0, .int .u8 0, .int .u8 0, .int .u8 0, .int .u8 0, .int .u8 0, .int .u8 0, .int .u8 0, .int .u8 0, .int .u8 0, .int .u8 0, .int .u8 0, .int .u8 0, .int .u8 0, .int .u8 0, .int .u8 0] else none
theorem zero_tab {t : TypeId} {z : List Value} (h : zeroTab t = some z) : ZeroT Tryd.prog t z := by
  unfold zeroTab at h
  split at h
  · rename_i e; rw [beq_iff_eq] at e; subst e; cases h; exact zero_ser
  split at h
  · rename_i e; rw [beq_iff_eq] at e; subst e; cases h; exact zero_Spec
  split at h
  · rename_i e; rw [beq_iff_eq] at e; subst e; cases h; exact zero_int
  split at h
  · rename_i e; rw [beq_iff_eq] at e; subst e; cases h; exact zero_rat
  split at h
  · rename_i e; rw [beq_iff_eq] at e; subst e; cases h; exact zero_PrimePower
  split at h
  · rename_i e; rw [beq_iff_eq] at e; subst e; cases h; exact zero_A64uint8
  · cases h
/-- lists: element type, its cells, its bytes, its zero -/
def makeTab (t : TypeId) : Option (TypeId × Nat × Nat × List Value) := if t == 22 then some (51, 4, 64, [.bool false, .slice none 0 0, .bool false, .slice none 0 0]) else if t == 27 then some (3, 1, 8, [.int .i64 0]) else if t == 47 then some (93, 1, 4, [.int .u32 0]) else if t == 81 then some (4, 1, 1, [.bool false]) else if t == 82 then some (86, 2, 16, [.int .i64 0, .int .i64 0]) else none
theorem make_tab {t : TypeId} {e : TypeId} {n b : Nat} {z : List Value} (h : makeTab t = some (e, n, b, z)) : MakeT Tryd.prog t e n b z := by
  unfold makeTab at h
  split at h
  · rename_i e; rw [beq_iff_eq] at e; subst e; cases h; exact make_rats
  split at h
  · rename_i e; rw [beq_iff_eq] at e; subst e; cases h; exact make_ints
  split at h
  · rename_i e; rw [beq_iff_eq] at e; subst e; cases h; exact make_u32s
  split at h
  · rename_i e; rw [beq_iff_eq] at e; subst e; cases h; exact make_Lbool
  split at h
  · rename_i e; rw [beq_iff_eq] at e; subst e; cases h; exact make_LPrimePower
  · cases h
theorem elem_tab {t e : TypeId} {n b : Nat} {z : List Value} (h : makeTab t = some (e, n, b, z)) : ElemT Tryd.prog t e n := by
  obtain ⟨h1, i, v, h2, h3, -⟩ := make_tab h
  exact ⟨h1, i, h2, h3⟩
theorem slice_tab {t e : TypeId} {n b : Nat} {z : List Value} (h : makeTab t = some (e, n, b, z)) : Tryd.prog.underlying t = some (.slice e) := (make_tab h).1
def buildTab (t : TypeId) : Option (List Value × List (Nat × Nat)) := if t == 24 then some (zS, [(0, 1), (1, 1)]) else if t == 26 then some (zSpec, [(0, 1), (1, 1), (2, 1)]) else if t == 49 then some (zI, [(0, 1), (1, 1)]) else if t == 51 then some (zQ, [(0, 2), (2, 2)]) else if t == 86 then some (zPrimePower, [(0, 1), (1, 1)]) else none
theorem build_tab {t : TypeId} {z : List Value} {pl : List (Nat × Nat)} (h : buildTab t = some (z, pl)) : BuildT Tryd.prog t z pl := by
  unfold buildTab at h
  split at h
  · rename_i e; rw [beq_iff_eq] at e; subst e; cases h; exact bld_ser
  split at h
  · rename_i e; rw [beq_iff_eq] at e; subst e; cases h; exact bld_Spec
  split at h
  · rename_i e; rw [beq_iff_eq] at e; subst e; cases h; exact bld_int
  split at h
  · rename_i e; rw [beq_iff_eq] at e; subst e; cases h; exact bld_rat
  split at h
  · rename_i e; rw [beq_iff_eq] at e; subst e; cases h; exact bld_PrimePower
  · cases h
def intTab (t : TypeId) : Option IntKind := if t == 2 then some .i64 else if t == 3 then some .i64 else if t == 5 then some .u8 else if t == 12 then some .u64 else if t == 21 then some .i32 else if t == 31 then some .i64 else if t == 91 then some .u64 else if t == 93 then some .u32 else if t == 99 then some .u64 else none
theorem int_tab {t : TypeId} {k : IntKind} (h : intTab t = some k) : Tryd.prog.underlying t = some (.int k) := by
  unfold intTab at h
  split at h
  · rename_i e; rw [beq_iff_eq] at e; subst e; cases h; exact und_int64
  split at h
  · rename_i e; rw [beq_iff_eq] at e; subst e; cases h; exact und_int
  split at h
  · rename_i e; rw [beq_iff_eq] at e; subst e; cases h; exact und_u8
  split at h
  · rename_i e; rw [beq_iff_eq] at e; subst e; cases h; exact und_uintptr
  split at h
  · rename_i e; rw [beq_iff_eq] at e; subst e; cases h; exact und_int32
  split at h
  · rename_i e; rw [beq_iff_eq] at e; subst e; cases h; exact und_errno
  split at h
  · rename_i e; rw [beq_iff_eq] at e; subst e; cases h; exact und_u64
  split at h
  · rename_i e; rw [beq_iff_eq] at e; subst e; cases h; exact und_u32
  split at h
  · rename_i e; rw [beq_iff_eq] at e; subst e; cases h; exact und_uint
  · cases h
end Ab
