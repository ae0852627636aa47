/- The types of the program that the proofs meet, as the kernel reckons them; no condition. -/
import Derived.Test.YtmcfohngblbpbaaAbsAll
import Derived.Test.YtmcfohngblbpbaaProg
import Derived.KernelRfl
namespace Ab
open Go Go.RowKit Go.Proofs

theorem oneT_of {P : Program} {t : TypeId} (h : (match P.underlying t with | some (.struct _) => false | some (.array _ _) => false | none => false | some _ => match P.info? t with | some i => i.size == 1 | none => false) = true) : OneT P t := by
  cases hu : P.underlying t with
  | none => rw [hu] at h; cases h
  | some d =>
    rw [hu] at h
    cases hi : P.info? t with
    | none => rw [hi] at h; cases d <;> cases h
    | some i =>
      rw [hi] at h
      cases d <;> first | cases h | exact ⟨_, i, hu, trivial, hi, by simpa using h⟩
theorem aggT_of {P : Program} {t : TypeId} {n : Nat} (h : (match P.underlying t with | some (.struct _) => (match P.info? t with | some i => i.size == n | none => false) | _ => false) = true) : AggT P t n := by
  cases hu : P.underlying t with
  | none => rw [hu] at h; cases h
  | some d =>
    rw [hu] at h
    cases d <;> first | cases h | skip
    cases hi : P.info? t with
    | none => rw [hi] at h; cases h
    | some i => rw [hi] at h; exact ⟨_, i, hu, hi, by simpa using h⟩
theorem sizeT_of {P : Program} {t : TypeId} {n : Nat} (h : (P.info? t).map (·.size) = some n) : SizeT P t n := by
  obtain ⟨i, h1, h2⟩ := Option.map_eq_some_iff.1 h
  exact ⟨i, h1, h2⟩
theorem fieldAt_of {P : Program} {t : TypeId} {f off : Nat} (h : (match P.underlying t with | some (.struct fs) => (match fs[f]? with | some fd => (match P.info? fd.type with | some i => fd.offset == off && i.size != 0 | none => false) | none => false) | _ => false) = true) : FieldAt P t f off := by
  cases hu : P.underlying t with
  | none => rw [hu] at h; cases h
  | some d =>
    rw [hu] at h
    cases d <;> first | cases h | skip
    rename_i fs
    simp only at h
    cases hf : fs[f]? with
    | none => rw [hf] at h; cases h
    | some fd =>
      rw [hf] at h
      simp only at h
      cases hi : P.info? fd.type with
      | none => rw [hi] at h; cases h
      | some i =>
        rw [hi] at h
        simp at h
        exact ⟨fs, fd, i, hu, hf, h.1, hi, h.2⟩
theorem elemT_of {P : Program} {t e : TypeId} {n : Nat} (hu : P.underlying t = some (.slice e)) (h : (P.info? e).map (·.size) = some n) : ElemT P t e n := by
  obtain ⟨i, h1, h2⟩ := Option.map_eq_some_iff.1 h
  exact ⟨hu, i, h1, h2⟩
theorem zeroT_of {P : Program} {e : TypeId} {v : Value} {z : List Value} (h : (P.info? e).map (·.zero) = some (some v)) (hz : v.cells.toList = z) : ZeroT P e z := by
  obtain ⟨i, h1, h2⟩ := Option.map_eq_some_iff.1 h
  exact ⟨i, v, h1, h2, hz⟩
theorem makeT_of {P : Program} {t e : TypeId} {n bytes : Nat} {v : Value} {z : List Value} (hu : P.underlying t = some (.slice e)) (h : (P.info? e).map (fun i => (i.zero, i.size, i.bytes)) = some (some v, n, bytes)) (hz : v.cells.toList = z) (hl : z.length = n) : MakeT P t e n bytes z := by
  obtain ⟨i, h1, h2, h3, h4⟩ := info_parts h
  exact ⟨hu, i, v, h1, h3, h4, h2, hz, hl⟩
theorem buildT_of {P : Program} {t : TypeId} {fs : Array Field} {v : Value} {zs : List Value} {places : List (Nat × Nat)} (hu : P.underlying t = some (.struct fs)) (h : (P.info? t).map (·.zero) = some (some v)) (hz : v.cells.toList = zs)
    (hp : ∀ w, (fs.mapM (fun f => do pure (f.offset, ← Go.sizeOf f.type)) : Sem (Array (Nat × Nat))).run P w = .ok places.toArray w) : BuildT P t zs places := by
  obtain ⟨i, h1, h2⟩ := Option.map_eq_some_iff.1 h
  exact ⟨fs, i, v, hu, h1, h2, hz, hp⟩
abbrev zI : List Value := [.bool false, .slice none 0 0]
abbrev zQ : List Value := [.bool false, .slice none 0 0, .bool false, .slice none 0 0]
abbrev zS : List Value := [.int .i64 0, .slice none 0 0]
theorem one_int : OneT Try.prog 3 := oneT_of (by kernel_rfl)
theorem one_bool : OneT Try.prog 4 := oneT_of (by kernel_rfl)
theorem one_errno : OneT Try.prog 27 := oneT_of (by kernel_rfl)
theorem one_u32 : OneT Try.prog 83 := oneT_of (by kernel_rfl)
theorem one_u32s : OneT Try.prog 33 := oneT_of (by kernel_rfl)
theorem one_rats : OneT Try.prog 22 := oneT_of (by kernel_rfl)
theorem agg_int : AggT Try.prog 35 2 := aggT_of (by kernel_rfl)
theorem agg_rat : AggT Try.prog 37 4 := aggT_of (by kernel_rfl)
theorem agg_ser : AggT Try.prog 24 2 := aggT_of (by kernel_rfl)
theorem size_i : SizeT Try.prog 3 1 := sizeT_of (by kernel_rfl)
theorem size_b : SizeT Try.prog 4 1 := sizeT_of (by kernel_rfl)
theorem size_u32 : SizeT Try.prog 83 1 := sizeT_of (by kernel_rfl)
theorem size_u32s : SizeT Try.prog 33 1 := sizeT_of (by kernel_rfl)
theorem size_rats : SizeT Try.prog 22 1 := sizeT_of (by kernel_rfl)
theorem size_int : SizeT Try.prog 35 2 := sizeT_of (by kernel_rfl)
theorem size_rat : SizeT Try.prog 37 4 := sizeT_of (by kernel_rfl)
theorem size_ser : SizeT Try.prog 24 2 := sizeT_of (by kernel_rfl)
theorem fld_int0 : FieldAt Try.prog 35 0 0 := fieldAt_of (by kernel_rfl)
theorem fld_int1 : FieldAt Try.prog 35 1 1 := fieldAt_of (by kernel_rfl)
theorem fld_rat0 : FieldAt Try.prog 37 0 0 := fieldAt_of (by kernel_rfl)
theorem fld_rat1 : FieldAt Try.prog 37 1 2 := fieldAt_of (by kernel_rfl)
theorem fld_ser0 : FieldAt Try.prog 24 0 0 := fieldAt_of (by kernel_rfl)
theorem fld_ser1 : FieldAt Try.prog 24 1 1 := fieldAt_of (by kernel_rfl)
theorem elem_rats : ElemT Try.prog 22 37 4 := elemT_of (by kernel_rfl) (by kernel_rfl)
theorem elem_u32s : ElemT Try.prog 33 83 1 := elemT_of (by kernel_rfl) (by kernel_rfl)
theorem zero_int : ZeroT Try.prog 35 zI := zeroT_of (v := .agg #[.bool false, .slice none 0 0]) (by kernel_rfl) rfl
theorem zero_rat : ZeroT Try.prog 37 zQ := zeroT_of (v := .agg #[.bool false, .slice none 0 0, .bool false, .slice none 0 0]) (by kernel_rfl) rfl
theorem zero_ser : ZeroT Try.prog 24 zS := zeroT_of (v := .agg #[.int .i64 0, .slice none 0 0]) (by kernel_rfl) rfl
theorem make_rats : MakeT Try.prog 22 37 4 64 zQ := makeT_of (v := .agg #[.bool false, .slice none 0 0, .bool false, .slice none 0 0]) (by kernel_rfl) (by kernel_rfl) rfl rfl
theorem make_u32s : MakeT Try.prog 33 83 1 4 [.int .u32 0] := makeT_of (v := .int .u32 0) (by kernel_rfl) (by kernel_rfl) rfl rfl
theorem make_ints : MakeT Try.prog 91 3 1 8 [.int .i64 0] := makeT_of (v := .int .i64 0) (by kernel_rfl) (by kernel_rfl) rfl rfl
theorem elem_ints : ElemT Try.prog 91 3 1 := elemT_of (by kernel_rfl) (by kernel_rfl)
theorem sl_rats : Try.prog.underlying 22 = some (.slice 37) := by kernel_rfl
theorem sl_u32s : Try.prog.underlying 33 = some (.slice 83) := by kernel_rfl
theorem sl_ints : Try.prog.underlying 91 = some (.slice 3) := by kernel_rfl
theorem und_bool : Try.prog.underlying 4 = some .bool := by kernel_rfl
theorem und_int : Try.prog.underlying 3 = some (.int .i64) := by kernel_rfl
theorem und_errno : Try.prog.underlying 27 = some (.int .i64) := by kernel_rfl
theorem und_u32 : Try.prog.underlying 83 = some (.int .u32) := by kernel_rfl
theorem und_u64 : Try.prog.underlying 100 = some (.int .u64) := by kernel_rfl
theorem bld_ser : BuildT Try.prog 24 zS [(0, 1), (1, 1)] := buildT_of (v := .agg #[.int .i64 0, .slice none 0 0]) (Try.underlying24) (by kernel_rfl) rfl (fun w => by kernel_rfl)
theorem bld_int : BuildT Try.prog 35 zI [(0, 1), (1, 1)] := buildT_of (v := .agg #[.bool false, .slice none 0 0]) (Try.underlying35) (by kernel_rfl) rfl (fun w => by kernel_rfl)
theorem bld_rat : BuildT Try.prog 37 zQ [(0, 2), (2, 2)] := buildT_of (v := .agg #[.bool false, .slice none 0 0, .bool false, .slice none 0 0]) (Try.underlying37) (by kernel_rfl) rfl (fun w => by kernel_rfl)
theorem make_sers : MakeT Try.prog 66 24 2 32 zS := makeT_of (v := .agg #[.int .i64 0, .slice none 0 0]) (by kernel_rfl) (by kernel_rfl) rfl rfl
theorem mixed : Try.prog.follows .mixedOrders = true := by kernel_rfl
end Ab
