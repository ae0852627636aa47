/- How facts of types are had from the kernel; no condition. The types of the program that the proofs meet, as the kernel reckons them, and tables of them; no condition. Tables of types, and the steps in the form in which they are taken; no condition. -/
import Derived.Test.YtockbmflgmnbaaaGreatDoorAbsAll
import Derived.Test.YtockbmflgmnbaaaGreatDoorProg
import Derived.KernelRfl
import Derived.LoopN
set_option linter.all false
namespace Ab
open Go Go.RowKit Go.Proofs
theorem Zb9 {P : Program} {t : TypeId} (h : (match P.underlying t with | some (.struct _) => false | some (.array _ _) => false | none => false | some _ => match P.info? t with | some i => i.size == 1 | none => false) = true) : OneT P t := by
  cases hu : P.underlying t with
  | none => rw [hu] at h; cases h
  | some d =>
    rw [hu] at h
    cases hi : P.info? t with
    | none => rw [hi] at h; cases d <;> cases h
    | some i =>
      rw [hi] at h
      cases d <;> first | cases h | exact ⟨_, i, hu, trivial, hi, by simpa using h⟩
theorem Zfx {P : Program} {t : TypeId} {n : Nat} (h : (match P.underlying t with | some (.struct _) => (match P.info? t with | some i => i.size == n | none => false) | _ => false) = true) : AggT P t n := by
  cases hu : P.underlying t with
  | none => rw [hu] at h; cases h
  | some d =>
    rw [hu] at h
    cases d <;> first | cases h | skip
    cases hi : P.info? t with
    | none => rw [hi] at h; cases h
    | some i => rw [hi] at h; exact ⟨_, i, hu, hi, by simpa using h⟩
theorem sizeT_of {P : Program} {t : TypeId} {n : Nat} (h : (P.info? t).map (·.size) = some n) : SizeT P t n := by
 obtain ⟨i, h1, h2⟩ := Option.map_eq_some_iff.1 h
 exact ⟨i, h1, h2⟩
theorem Zbb {P : Program} {t : TypeId} {f off : Nat} (h : (match P.underlying t with | some (.struct fs) => (match fs[f]? with | some fd => (match P.info? fd.type with | some i => fd.offset == off && i.size != 0 | none => false) | none => false) | _ => false) = true) : Zby P t f off := by
  cases hu : P.underlying t with
  | none => rw [hu] at h; cases h
  | some d =>
    rw [hu] at h
    cases d <;> first | cases h | skip
    rename_i fs
    simp only at h
    cases hf : fs[f]? with
    | none => rw [hf] at h; cases h
    | some fd =>
      rw [hf] at h
      simp only at h
      cases hi : P.info? fd.type with
      | none => rw [hi] at h; cases h
      | some i =>
        rw [hi] at h
        simp at h
        exact ⟨fs, fd, i, hu, hf, h.1, hi, h.2⟩
theorem Zcs {P : Program} {e : TypeId} {v : Value} {z : List Value} (h : (P.info? e).map (·.zero) = some (some v)) (hz : v.cells.toList = z) : Zf7 P e z := by
 obtain ⟨i, h1, h2⟩ := Option.map_eq_some_iff.1 h
 exact ⟨i, v, h1, h2, hz⟩
theorem Zd0 {P : Program} {t e : TypeId} {n bytes : Nat} {v : Value} {z : List Value} (hu : P.underlying t = some (.slice e)) (h : (P.info? e).map (fun i => (i.zero, i.size, i.bytes)) = some (some v, n, bytes)) (hz : v.cells.toList = z) (hl : z.length = n) : Zfg P t e n bytes z := by
 obtain ⟨i, h1, h2, h3, h4⟩ := info_parts h
 exact ⟨hu, i, v, h1, h3, h4, h2, hz, hl⟩
theorem Zdl {P : Program} {t : TypeId} {fs : Array Field} {v : Value} {zs : List Value} {places : List (Nat × Nat)} (hu : P.underlying t = some (.struct fs)) (h : (P.info? t).map (·.zero) = some (some v)) (hz : v.cells.toList = zs)
  (hp : ∀ w, (fs.mapM (fun f => do pure (f.offset, ← Go.sizeOf f.type)) : Sem (Array (Nat × Nat))).run P w = .ok places.toArray w) : Zfd P t zs places := by
 obtain ⟨i, h1, h2⟩ := Option.map_eq_some_iff.1 h
 exact ⟨fs, i, v, hu, h1, h2, hz, hp⟩
theorem Zam {c : Prop} [h : Decidable c] {α : Type} {a b x : α} (e : (if c then a else b) = x) : (c ∧ a = x) ∨ (¬ c ∧ b = x) := by
 cases h with
 | isTrue k => exact .inl ⟨k, e⟩
 | isFalse k => exact .inr ⟨k, e⟩
end Ab
namespace Ab
open Go Go.RowKit Go.Proofs
abbrev zS : List Value := [.int .i64 0, .slice none 0 0]
abbrev zI : List Value := [.bool false, .slice none 0 0]
abbrev zQ : List Value := [.bool false, .slice none 0 0, .bool false, .slice none 0 0]
abbrev zCharacter : List Value := [.int .i64 0, .slice none 0 0]
abbrev zPrimePower : List Value := [.int .i64 0, .int .i64 0]
abbrev zRootOfUnity : List Value := [.bool false, .int .i64 0, .int .i64 0]
abbrev zdirichletpart : List Value := [.int .i64 0, .int .i64 0, .int .i64 0]
abbrev zCongruence : List Value := [.int .i64 0, .int .i64 0]
theorem one_int64 : OneT Tryz.prog 2 := Zb9 (by kernel_rfl)
theorem one_int : OneT Tryz.prog 3 := Zb9 (by kernel_rfl)
theorem one_bool : OneT Tryz.prog 4 := Zb9 (by kernel_rfl)
theorem one_u8 : OneT Tryz.prog 5 := Zb9 (by kernel_rfl)
theorem one_string : OneT Tryz.prog 9 := Zb9 (by kernel_rfl)
theorem one_uintptr : OneT Tryz.prog 12 := Zb9 (by kernel_rfl)
theorem one_int32 : OneT Tryz.prog 21 := Zb9 (by kernel_rfl)
theorem one_rats : OneT Tryz.prog 22 := Zb9 (by kernel_rfl)
theorem one_Poly : OneT Tryz.prog 23 := Zb9 (by kernel_rfl)
theorem one_errno : OneT Tryz.prog 31 := Zb9 (by kernel_rfl)
theorem one_u32s : OneT Tryz.prog 45 := Zb9 (by kernel_rfl)
theorem one_sers : OneT Tryz.prog 56 := Zb9 (by kernel_rfl)
theorem one_ints : OneT Tryz.prog 75 := Zb9 (by kernel_rfl)
theorem one_u64 : OneT Tryz.prog 96 := Zb9 (by kernel_rfl)
theorem one_u32 : OneT Tryz.prog 100 := Zb9 (by kernel_rfl)
theorem one_uint : OneT Tryz.prog 101 := Zb9 (by kernel_rfl)
theorem one_LPrimePower : OneT Tryz.prog 138 := Zb9 (by kernel_rfl)
theorem one_LInt : OneT Tryz.prog 174 := Zb9 (by kernel_rfl)
theorem Zgy : OneT Tryz.prog 180 := Zb9 (by kernel_rfl)
theorem one_LCongruence : OneT Tryz.prog 188 := Zb9 (by kernel_rfl)
theorem Zaf : AggT Tryz.prog 25 2 := Zfx (by kernel_rfl)
theorem fld_ser0 : Zby Tryz.prog 25 0 0 := Zbb (by kernel_rfl)
theorem fld_ser1 : Zby Tryz.prog 25 1 1 := Zbb (by kernel_rfl)
theorem zero_ser : Zf7 Tryz.prog 25 zS := Zcs (v := .agg #[.int .i64 0, .slice none 0 0]) (by kernel_rfl) rfl
theorem bld_ser : Zfd Tryz.prog 25 zS [(0, 1), (1, 1)] := Zdl (v := .agg #[.int .i64 0, .slice none 0 0]) (Tryz.underlying25) (by kernel_rfl) rfl (fun w => by kernel_rfl)
theorem Zbk : AggT Tryz.prog 47 2 := Zfx (by kernel_rfl)
theorem fld_int0 : Zby Tryz.prog 47 0 0 := Zbb (by kernel_rfl)
theorem fld_int1 : Zby Tryz.prog 47 1 1 := Zbb (by kernel_rfl)
theorem zero_int : Zf7 Tryz.prog 47 zI := Zcs (v := .agg #[.bool false, .slice none 0 0]) (by kernel_rfl) rfl
theorem bld_int : Zfd Tryz.prog 47 zI [(0, 1), (1, 1)] := Zdl (v := .agg #[.bool false, .slice none 0 0]) (Tryz.underlying47) (by kernel_rfl) rfl (fun w => by kernel_rfl)
theorem Zbg : AggT Tryz.prog 49 4 := Zfx (by kernel_rfl)
theorem fld_rat0 : Zby Tryz.prog 49 0 0 := Zbb (by kernel_rfl)
theorem fld_rat1 : Zby Tryz.prog 49 1 2 := Zbb (by kernel_rfl)
theorem zero_rat : Zf7 Tryz.prog 49 zQ := Zcs (v := .agg #[.bool false, .slice none 0 0, .bool false, .slice none 0 0]) (by kernel_rfl) rfl
theorem bld_rat : Zfd Tryz.prog 49 zQ [(0, 2), (2, 2)] := Zdl (v := .agg #[.bool false, .slice none 0 0, .bool false, .slice none 0 0]) (Tryz.underlying49) (by kernel_rfl) rfl (fun w => by kernel_rfl)
theorem Ze9 : AggT Tryz.prog 134 2 := Zfx (by kernel_rfl)
theorem fld_Character0 : Zby Tryz.prog 134 0 0 := Zbb (by kernel_rfl)
theorem fld_Character1 : Zby Tryz.prog 134 1 1 := Zbb (by kernel_rfl)
theorem zero_Character : Zf7 Tryz.prog 134 zCharacter := Zcs (v := .agg #[.int .i64 0, .slice none 0 0]) (by kernel_rfl) rfl
theorem bld_Character : Zfd Tryz.prog 134 zCharacter [(0, 1), (1, 1)] := Zdl (v := .agg #[.int .i64 0, .slice none 0 0]) (Tryz.underlying134) (by kernel_rfl) rfl (fun w => by kernel_rfl)
theorem agg_PrimePower : AggT Tryz.prog 141 2 := Zfx (by kernel_rfl)
theorem fld_PrimePower0 : Zby Tryz.prog 141 0 0 := Zbb (by kernel_rfl)
theorem fld_PrimePower1 : Zby Tryz.prog 141 1 1 := Zbb (by kernel_rfl)
theorem zero_PrimePower : Zf7 Tryz.prog 141 zPrimePower := Zcs (v := .agg #[.int .i64 0, .int .i64 0]) (by kernel_rfl) rfl
theorem bld_PrimePower : Zfd Tryz.prog 141 zPrimePower [(0, 1), (1, 1)] := Zdl (v := .agg #[.int .i64 0, .int .i64 0]) (Tryz.underlying141) (by kernel_rfl) rfl (fun w => by kernel_rfl)
theorem agg_RootOfUnity : AggT Tryz.prog 156 3 := Zfx (by kernel_rfl)
theorem fld_RootOfUnity0 : Zby Tryz.prog 156 0 0 := Zbb (by kernel_rfl)
theorem fld_RootOfUnity1 : Zby Tryz.prog 156 1 1 := Zbb (by kernel_rfl)
theorem fld_RootOfUnity2 : Zby Tryz.prog 156 2 2 := Zbb (by kernel_rfl)
theorem zero_RootOfUnity : Zf7 Tryz.prog 156 zRootOfUnity := Zcs (v := .agg #[.bool false, .int .i64 0, .int .i64 0]) (by kernel_rfl) rfl
theorem bld_RootOfUnity : Zfd Tryz.prog 156 zRootOfUnity [(0, 1), (1, 1), (2, 1)] := Zdl (v := .agg #[.bool false, .int .i64 0, .int .i64 0]) (Tryz.underlying156) (by kernel_rfl) rfl (fun w => by kernel_rfl)
theorem agg_dirichletpart : AggT Tryz.prog 183 3 := Zfx (by kernel_rfl)
theorem Zg9 : Zby Tryz.prog 183 0 0 := Zbb (by kernel_rfl)
theorem Zg8 : Zby Tryz.prog 183 1 1 := Zbb (by kernel_rfl)
theorem Zg7 : Zby Tryz.prog 183 2 2 := Zbb (by kernel_rfl)
theorem Zgo : Zf7 Tryz.prog 183 zdirichletpart := Zcs (v := .agg #[.int .i64 0, .int .i64 0, .int .i64 0]) (by kernel_rfl) rfl
theorem bld_dirichletpart : Zfd Tryz.prog 183 zdirichletpart [(0, 1), (1, 1), (2, 1)] := Zdl (v := .agg #[.int .i64 0, .int .i64 0, .int .i64 0]) (Tryz.underlying183) (by kernel_rfl) rfl (fun w => by kernel_rfl)
theorem agg_Congruence : AggT Tryz.prog 185 2 := Zfx (by kernel_rfl)
theorem fld_Congruence0 : Zby Tryz.prog 185 0 0 := Zbb (by kernel_rfl)
theorem fld_Congruence1 : Zby Tryz.prog 185 1 1 := Zbb (by kernel_rfl)
theorem zero_Congruence : Zf7 Tryz.prog 185 zCongruence := Zcs (v := .agg #[.int .i64 0, .int .i64 0]) (by kernel_rfl) rfl
theorem bld_Congruence : Zfd Tryz.prog 185 zCongruence [(0, 1), (1, 1)] := Zdl (v := .agg #[.int .i64 0, .int .i64 0]) (Tryz.underlying185) (by kernel_rfl) rfl (fun w => by kernel_rfl)
theorem zero_A2int : Zf7 Tryz.prog 26 [.int .i64 0, .int .i64 0] := Zcs (v := .agg #[.int .i64 0, .int .i64 0]) (by kernel_rfl) rfl
theorem size_A2int : SizeT Tryz.prog 26 2 := sizeT_of (by kernel_rfl)
theorem zero_A64uint8 : Zf7 Tryz.prog 168 [.int .u8 0, .int .u8 0, .int .u8 0, .int .u8 0, .int .u8 0, .int .u8 0, .int .u8 0, .int .u8 0, .int .u8 0, .int .u8 0, .int .u8 0, .int .u8 0, .int .u8 0, .int .u8 0, .int .u8 0, .int .u8 0, .int .u8 0, .int .u8 0, .int .u8 0, .int .u8 0, .int .u8 0, .int .u8 0, .int .u8 0, .int .u8 0, .int .u8 0, .int .u8 0, .int .u8 0, .int .u8 0, .int .u8 0, .int .u8 0, .int .u8 0, .int .u8 0, .int .u8 0, .int .u8 0, .int .u8 0, .int .u8 0, .int .u8 0, .int .u8 0, .int .u8 0, .int .u8 0, .int .u8 0, .int .u8 0, .int .u8 0, .int .u8 0, .int .u8 0, .int .u8 0, .int .u8 0, .int .u8 0, .int .u8 0, .int .u8 0, .int .u8 0, .int .u8 0, .int .u8 0, .int .u8 0, .int .u8 0, .int .u8 0, .int .u8 0, .int .u8 0, .int .u8 0, .int .u8 0, .int .u8 0, .int .u8 0, .int .u8 0, .int .u8 0] := Zcs (v := .agg #[.int .u8 0, .int .u8 0, .int .u8 0, .int .u8 0, .int .u8 0, .int .u8 0, .int .u8 0, .int .u8 0, .int .u8 0, .int .u8 0, .int .u8 0, .int .u8 0, .int .u8 0, .int .u8 0, .int .u8 0, .int .u8 0, .int .u8 0, .int .u8 0, .int .u8 0, .int .u8 0, .int .u8 0, .int .u8 0, .int .u8 0, .int .u8 0, .int .u8 0, .int .u8 0, .int .u8 0, .int .u8 0, .int .u8 0, .int .u8 0, .int .u8 0, .int .u8 0, .int .u8 0, .int .u8 0, .int .u8 0, .int .u8 0, .int .u8 0, .int .u8 0, .int .u8 0, .int .u8 0, .int .u8 0, .int .u8 0, .int .u8 0, .int .u8 0, .int .u8 0, .int .u8 0, .int .u8 0, .int .u8 0, .int .u8 0, .int .u8 0, .int .u8 0, .int .u8 0, .int .u8 0, .int .u8 0, .int .u8 0, .int .u8 0, .int .u8 0, .int .u8 0, .int .u8 0, .int .u8 0, .int .u8 0, .int .u8 0, .int .u8 0, .int .u8 0]) (by kernel_rfl) rfl
theorem size_A64uint8 : SizeT Tryz.prog 168 64 := sizeT_of (by kernel_rfl)
theorem make_rats : Zfg Tryz.prog 22 49 4 64 [.bool false, .slice none 0 0, .bool false, .slice none 0 0] := Zd0 (v := .agg #[.bool false, .slice none 0 0, .bool false, .slice none 0 0]) (by kernel_rfl) (by kernel_rfl) rfl rfl
theorem sl_rats : Tryz.prog.underlying 22 = some (.slice 49) := by kernel_rfl
theorem make_Poly : Zfg Tryz.prog 23 49 4 64 [.bool false, .slice none 0 0, .bool false, .slice none 0 0] := Zd0 (v := .agg #[.bool false, .slice none 0 0, .bool false, .slice none 0 0]) (by kernel_rfl) (by kernel_rfl) rfl rfl
theorem make_u32s : Zfg Tryz.prog 45 100 1 4 [.int .u32 0] := Zd0 (v := .int .u32 0) (by kernel_rfl) (by kernel_rfl) rfl rfl
theorem sl_u32s : Tryz.prog.underlying 45 = some (.slice 100) := by kernel_rfl
theorem make_sers : Zfg Tryz.prog 56 25 2 32 [.int .i64 0, .slice none 0 0] := Zd0 (v := .agg #[.int .i64 0, .slice none 0 0]) (by kernel_rfl) (by kernel_rfl) rfl rfl
theorem make_ints : Zfg Tryz.prog 75 3 1 8 [.int .i64 0] := Zd0 (v := .int .i64 0) (by kernel_rfl) (by kernel_rfl) rfl rfl
theorem make_LPrimePower : Zfg Tryz.prog 138 141 2 16 [.int .i64 0, .int .i64 0] := Zd0 (v := .agg #[.int .i64 0, .int .i64 0]) (by kernel_rfl) (by kernel_rfl) rfl rfl
theorem make_LInt : Zfg Tryz.prog 174 47 2 32 [.bool false, .slice none 0 0] := Zd0 (v := .agg #[.bool false, .slice none 0 0]) (by kernel_rfl) (by kernel_rfl) rfl rfl
theorem Zgi : Zfg Tryz.prog 180 183 3 24 [.int .i64 0, .int .i64 0, .int .i64 0] := Zd0 (v := .agg #[.int .i64 0, .int .i64 0, .int .i64 0]) (by kernel_rfl) (by kernel_rfl) rfl rfl
theorem make_LCongruence : Zfg Tryz.prog 188 185 2 16 [.int .i64 0, .int .i64 0] := Zd0 (v := .agg #[.int .i64 0, .int .i64 0]) (by kernel_rfl) (by kernel_rfl) rfl rfl
theorem Zf0 : Tryz.prog.underlying 4 = some .bool := by kernel_rfl
theorem und_int64 : Tryz.prog.underlying 2 = some (.int .i64) := by kernel_rfl
theorem Zf9 : Tryz.prog.underlying 3 = some (.int .i64) := by kernel_rfl
theorem und_u8 : Tryz.prog.underlying 5 = some (.int .u8) := by kernel_rfl
theorem und_uintptr : Tryz.prog.underlying 12 = some (.int .u64) := by kernel_rfl
theorem und_int32 : Tryz.prog.underlying 21 = some (.int .i32) := by kernel_rfl
theorem und_errno : Tryz.prog.underlying 31 = some (.int .i64) := by kernel_rfl
theorem und_u64 : Tryz.prog.underlying 96 = some (.int .u64) := by kernel_rfl
theorem und_u32 : Tryz.prog.underlying 100 = some (.int .u32) := by kernel_rfl
theorem und_uint : Tryz.prog.underlying 101 = some (.int .u64) := by kernel_rfl
theorem mixed : Tryz.prog.follows .mixedOrders = true := by kernel_rfl
def oneTab (t : TypeId) : Bool := t == 2 || t == 3 || t == 4 || t == 5 || t == 9 || t == 12 || t == 21 || t == 22 || t == 23 || t == 31 || t == 45 || t == 56 || t == 75 || t == 96 || t == 100 || t == 101 || t == 138 || t == 174 || t == 180 || t == 188
theorem Zd8 {t : TypeId} (h : oneTab t = true) : OneT Tryz.prog t := by
 simp only [oneTab, Bool.or_eq_true, beq_iff_eq] at h
 rcases h with ((((((((((((((((((rfl | rfl) | rfl) | rfl) | rfl) | rfl) | rfl) | rfl) | rfl) | rfl) | rfl) | rfl) | rfl) | rfl) | rfl) | rfl) | rfl) | rfl) | rfl) | rfl
 ·exact one_int64
 ·exact one_int
 ·exact one_bool
 ·exact one_u8
 ·exact one_string
 ·exact one_uintptr
 ·exact one_int32
 ·exact one_rats
 ·exact one_Poly
 ·exact one_errno
 ·exact one_u32s
 ·exact one_sers
 ·exact one_ints
 ·exact one_u64
 ·exact one_u32
 ·exact one_uint
 ·exact one_LPrimePower
 ·exact one_LInt
 ·exact Zgy
 ·exact one_LCongruence
def aggTab (t : TypeId) : Option Nat := if t == 25 then some 2 else if t == 47 then some 2 else if t == 49 then some 4 else if t == 134 then some 2 else if t == 141 then some 2 else if t == 156 then some 3 else if t == 183 then some 3 else if t == 185 then some 2 else none
theorem Zb4 {t : TypeId} {n : Nat} (h : aggTab t = some n) : AggT Tryz.prog t n := by
 unfold aggTab at h
 rcases Zam h with ⟨e, h⟩ | ⟨-, h⟩
 ·rw [beq_iff_eq] at e; subst e; cases h; exact Zaf
 rcases Zam h with ⟨e, h⟩ | ⟨-, h⟩
 ·rw [beq_iff_eq] at e; subst e; cases h; exact Zbk
 rcases Zam h with ⟨e, h⟩ | ⟨-, h⟩
 ·rw [beq_iff_eq] at e; subst e; cases h; exact Zbg
 rcases Zam h with ⟨e, h⟩ | ⟨-, h⟩
 ·rw [beq_iff_eq] at e; subst e; cases h; exact Ze9
 rcases Zam h with ⟨e, h⟩ | ⟨-, h⟩
 ·rw [beq_iff_eq] at e; subst e; cases h; exact agg_PrimePower
 rcases Zam h with ⟨e, h⟩ | ⟨-, h⟩
 ·rw [beq_iff_eq] at e; subst e; cases h; exact agg_RootOfUnity
 rcases Zam h with ⟨e, h⟩ | ⟨-, h⟩
 ·rw [beq_iff_eq] at e; subst e; cases h; exact agg_dirichletpart
 rcases Zam h with ⟨e, h⟩ | ⟨-, h⟩
 ·rw [beq_iff_eq] at e; subst e; cases h; exact agg_Congruence
 ·cases h
def arrTab (t : TypeId) : Option Nat := if t == 26 then some 2 else if t == 168 then some 64 else none
theorem arr_tab {t : TypeId} {n : Nat} (h : arrTab t = some n) : SizeT Tryz.prog t n := by
 unfold arrTab at h
 rcases Zam h with ⟨e, h⟩ | ⟨-, h⟩
 ·rw [beq_iff_eq] at e; subst e; cases h; exact size_A2int
 rcases Zam h with ⟨e, h⟩ | ⟨-, h⟩
 ·rw [beq_iff_eq] at e; subst e; cases h; exact size_A64uint8
 ·cases h
def sizeTab (t : TypeId) : Option Nat := match aggTab t with | some n => some n | none => match arrTab t with | some n => some n | none => bif oneTab t then some 1 else none
theorem Zbu {t : TypeId} {n : Nat} (h : sizeTab t = some n) : SizeT Tryz.prog t n := by
  unfold sizeTab at h
  cases ha : aggTab t with
  | some m =>
    rw [ha] at h; injection h with h; subst h
    obtain ⟨fs, i, -, h2, h3⟩ := Zb4 ha
    exact ⟨i, h2, h3⟩
  | none =>
    rw [ha] at h
    cases hr : arrTab t with
    | some m =>
      rw [hr] at h; injection h with h; subst h
      exact arr_tab hr
    | none =>
      rw [hr] at h
      cases ho : oneTab t with
      | false => simp [ho] at h
      | true =>
        simp [ho] at h; subst h
        obtain ⟨d, i, -, -, h3, h4⟩ := Zd8 ho
        exact ⟨i, h3, h4⟩
def fieldTab (t : TypeId) (f : Nat) : Option Nat :=
 if t == 25 then (match f with | 0 => some 0 | 1 => some 1 | _ => none) else if t == 47 then (match f with | 0 => some 0 | 1 => some 1 | _ => none) else if t == 49 then (match f with | 0 => some 0 | 1 => some 2 | _ => none) else if t == 134 then (match f with | 0 => some 0 | 1 => some 1 | _ => none) else if t == 141 then (match f with | 0 => some 0 | 1 => some 1 | _ => none) else if t == 156 then (match f with | 0 => some 0 | 1 => some 1 | 2 => some 2 | _ => none) else if t == 183 then (match f with | 0 => some 0 | 1 => some 1 | 2 => some 2 | _ => none) else if t == 185 then (match f with | 0 => some 0 | 1 => some 1 | _ => none) else none
theorem Zdh {t : TypeId} {f off : Nat} (h : fieldTab t f = some off) : Zby Tryz.prog t f off := by
 unfold fieldTab at h
 rcases Zam h with ⟨e, h⟩ | ⟨-, h⟩
 ·rw [beq_iff_eq] at e; subst e
  rcases f with _ | _ | f
  ·injection h with h; subst h; exact fld_ser0
  ·injection h with h; subst h; exact fld_ser1
  ·cases h
 rcases Zam h with ⟨e, h⟩ | ⟨-, h⟩
 ·rw [beq_iff_eq] at e; subst e
  rcases f with _ | _ | f
  ·injection h with h; subst h; exact fld_int0
  ·injection h with h; subst h; exact fld_int1
  ·cases h
 rcases Zam h with ⟨e, h⟩ | ⟨-, h⟩
 ·rw [beq_iff_eq] at e; subst e
  rcases f with _ | _ | f
  ·injection h with h; subst h; exact fld_rat0
  ·injection h with h; subst h; exact fld_rat1
  ·cases h
 rcases Zam h with ⟨e, h⟩ | ⟨-, h⟩
 ·rw [beq_iff_eq] at e; subst e
  rcases f with _ | _ | f
  ·injection h with h; subst h; exact fld_Character0
  ·injection h with h; subst h; exact fld_Character1
  ·cases h
 rcases Zam h with ⟨e, h⟩ | ⟨-, h⟩
 ·rw [beq_iff_eq] at e; subst e
  rcases f with _ | _ | f
  ·injection h with h; subst h; exact fld_PrimePower0
  ·injection h with h; subst h; exact fld_PrimePower1
  ·cases h
 rcases Zam h with ⟨e, h⟩ | ⟨-, h⟩
 ·rw [beq_iff_eq] at e; subst e
  rcases f with _ | _ | _ | f
  ·injection h with h; subst h; exact fld_RootOfUnity0
  ·injection h with h; subst h; exact fld_RootOfUnity1
  ·injection h with h; subst h; exact fld_RootOfUnity2
  ·cases h
 rcases Zam h with ⟨e, h⟩ | ⟨-, h⟩
 ·rw [beq_iff_eq] at e; subst e
  rcases f with _ | _ | _ | f
  ·injection h with h; subst h; exact Zg9
  ·injection h with h; subst h; exact Zg8
  ·injection h with h; subst h; exact Zg7
  ·cases h
 rcases Zam h with ⟨e, h⟩ | ⟨-, h⟩
 ·rw [beq_iff_eq] at e; subst e
  rcases f with _ | _ | f
  ·injection h with h; subst h; exact fld_Congruence0
  ·injection h with h; subst h; exact fld_Congruence1
  ·cases h
 ·cases h
def zeroTab (t : TypeId) : Option (List Value) := if t == 25 then some zS else if t == 47 then some zI else if t == 49 then some zQ else if t == 134 then some zCharacter else if t == 141 then some zPrimePower else if t == 156 then some zRootOfUnity else if t == 183 then some zdirichletpart else if t == 185 then some zCongruence else if t == 26 then some [.int .i64 0, .int .i64 0] else if t == 168 then some [.int .u8 0, .int .u8 0, .int .u8 0, .int .u8 0, .int .u8 0, .int .u8 0, .int .u8 0, .int .u8 0, .int .u8 0, .int .u8 0, .int .u8 0, .int .u8 0, .int .u8 0, .int .u8 0, .int .u8 0, .int .u8 0, .int .u8 0, .int .u8 0, .int .u8 0, .int .u8 0, .int .u8 0, .int .u8 0, .int .u8 0, .int .u8 0, .int .u8 0, .int .u8 0, .int .u8 0, .int .u8 0, .int .u8 0, .int .u8 0, .int .u8 0, .int .u8 0, .int .u8 0, .int .u8 0, .int .u8 0, .int .u8 0, .int .u8 0, .int .u8 0, .int .u8 0, .int .u8 0, .int .u8 0, .int .u8 0, .int .u8 0, .int .u8 0, .int .u8 0, .int .u8 0, .int .u8 0, .int .u8 0, .int .u8 0, .int .u8 0, .int .u8 0, .int .u8 0, .int .u8 0, .int .u8 0, .int .u8 0, .int .u8 0, .int .u8 0, .int .u8 0, .int .u8 0, .int .u8 0, .int .u8 0, .int .u8 0, .int .u8 0, .int .u8 0] else none
theorem zero_tab {t : TypeId} {z : List Value} (h : zeroTab t = some z) : Zf7 Tryz.prog t z := by
 unfold zeroTab at h
 rcases Zam h with ⟨e, h⟩ | ⟨-, h⟩
 ·rw [beq_iff_eq] at e; subst e; cases h; exact zero_ser
 rcases Zam h with ⟨e, h⟩ | ⟨-, h⟩
 ·rw [beq_iff_eq] at e; subst e; cases h; exact zero_int
 rcases Zam h with ⟨e, h⟩ | ⟨-, h⟩
 ·rw [beq_iff_eq] at e; subst e; cases h; exact zero_rat
 rcases Zam h with ⟨e, h⟩ | ⟨-, h⟩
 ·rw [beq_iff_eq] at e; subst e; cases h; exact zero_Character
 rcases Zam h with ⟨e, h⟩ | ⟨-, h⟩
 ·rw [beq_iff_eq] at e; subst e; cases h; exact zero_PrimePower
 rcases Zam h with ⟨e, h⟩ | ⟨-, h⟩
 ·rw [beq_iff_eq] at e; subst e; cases h; exact zero_RootOfUnity
 rcases Zam h with ⟨e, h⟩ | ⟨-, h⟩
 ·rw [beq_iff_eq] at e; subst e; cases h; exact Zgo
 rcases Zam h with ⟨e, h⟩ | ⟨-, h⟩
 ·rw [beq_iff_eq] at e; subst e; cases h; exact zero_Congruence
 rcases Zam h with ⟨e, h⟩ | ⟨-, h⟩
 ·rw [beq_iff_eq] at e; subst e; cases h; exact zero_A2int
 rcases Zam h with ⟨e, h⟩ | ⟨-, h⟩
 ·rw [beq_iff_eq] at e; subst e; cases h; exact zero_A64uint8
 ·cases h
def makeTab (t : TypeId) : Option (TypeId × Nat × Nat × List Value) := if t == 22 then some (49, 4, 64, [.bool false, .slice none 0 0, .bool false, .slice none 0 0]) else if t == 23 then some (49, 4, 64, [.bool false, .slice none 0 0, .bool false, .slice none 0 0]) else if t == 45 then some (100, 1, 4, [.int .u32 0]) else if t == 56 then some (25, 2, 32, [.int .i64 0, .slice none 0 0]) else if t == 75 then some (3, 1, 8, [.int .i64 0]) else if t == 138 then some (141, 2, 16, [.int .i64 0, .int .i64 0]) else if t == 174 then some (47, 2, 32, [.bool false, .slice none 0 0]) else if t == 180 then some (183, 3, 24, [.int .i64 0, .int .i64 0, .int .i64 0]) else if t == 188 then some (185, 2, 16, [.int .i64 0, .int .i64 0]) else none
theorem Zak {t : TypeId} {e : TypeId} {n b : Nat} {z : List Value} (h : makeTab t = some (e, n, b, z)) : Zfg Tryz.prog t e n b z := by
 unfold makeTab at h
 rcases Zam h with ⟨e, h⟩ | ⟨-, h⟩
 ·rw [beq_iff_eq] at e; subst e; cases h; exact make_rats
 rcases Zam h with ⟨e, h⟩ | ⟨-, h⟩
 ·rw [beq_iff_eq] at e; subst e; cases h; exact make_Poly
 rcases Zam h with ⟨e, h⟩ | ⟨-, h⟩
 ·rw [beq_iff_eq] at e; subst e; cases h; exact make_u32s
 rcases Zam h with ⟨e, h⟩ | ⟨-, h⟩
 ·rw [beq_iff_eq] at e; subst e; cases h; exact make_sers
 rcases Zam h with ⟨e, h⟩ | ⟨-, h⟩
 ·rw [beq_iff_eq] at e; subst e; cases h; exact make_ints
 rcases Zam h with ⟨e, h⟩ | ⟨-, h⟩
 ·rw [beq_iff_eq] at e; subst e; cases h; exact make_LPrimePower
 rcases Zam h with ⟨e, h⟩ | ⟨-, h⟩
 ·rw [beq_iff_eq] at e; subst e; cases h; exact make_LInt
 rcases Zam h with ⟨e, h⟩ | ⟨-, h⟩
 ·rw [beq_iff_eq] at e; subst e; cases h; exact Zgi
 rcases Zam h with ⟨e, h⟩ | ⟨-, h⟩
 ·rw [beq_iff_eq] at e; subst e; cases h; exact make_LCongruence
 ·cases h
theorem Zat {t e : TypeId} {n b : Nat} {z : List Value} (h : makeTab t = some (e, n, b, z)) : ElemT Tryz.prog t e n := by
 obtain ⟨h1, i, v, h2, h3, -⟩ := Zak h
 exact ⟨h1, i, h2, h3⟩
theorem Zce {t e : TypeId} {n b : Nat} {z : List Value} (h : makeTab t = some (e, n, b, z)) : Tryz.prog.underlying t = some (.slice e) := (Zak h).1
def buildTab (t : TypeId) : Option (List Value × List (Nat × Nat)) := if t == 25 then some (zS, [(0, 1), (1, 1)]) else if t == 47 then some (zI, [(0, 1), (1, 1)]) else if t == 49 then some (zQ, [(0, 2), (2, 2)]) else if t == 134 then some (zCharacter, [(0, 1), (1, 1)]) else if t == 141 then some (zPrimePower, [(0, 1), (1, 1)]) else if t == 156 then some (zRootOfUnity, [(0, 1), (1, 1), (2, 1)]) else if t == 183 then some (zdirichletpart, [(0, 1), (1, 1), (2, 1)]) else if t == 185 then some (zCongruence, [(0, 1), (1, 1)]) else none
theorem Zex {t : TypeId} {z : List Value} {pl : List (Nat × Nat)} (h : buildTab t = some (z, pl)) : Zfd Tryz.prog t z pl := by
 unfold buildTab at h
 rcases Zam h with ⟨e, h⟩ | ⟨-, h⟩
 ·rw [beq_iff_eq] at e; subst e; cases h; exact bld_ser
 rcases Zam h with ⟨e, h⟩ | ⟨-, h⟩
 ·rw [beq_iff_eq] at e; subst e; cases h; exact bld_int
 rcases Zam h with ⟨e, h⟩ | ⟨-, h⟩
 ·rw [beq_iff_eq] at e; subst e; cases h; exact bld_rat
 rcases Zam h with ⟨e, h⟩ | ⟨-, h⟩
 ·rw [beq_iff_eq] at e; subst e; cases h; exact bld_Character
 rcases Zam h with ⟨e, h⟩ | ⟨-, h⟩
 ·rw [beq_iff_eq] at e; subst e; cases h; exact bld_PrimePower
 rcases Zam h with ⟨e, h⟩ | ⟨-, h⟩
 ·rw [beq_iff_eq] at e; subst e; cases h; exact bld_RootOfUnity
 rcases Zam h with ⟨e, h⟩ | ⟨-, h⟩
 ·rw [beq_iff_eq] at e; subst e; cases h; exact bld_dirichletpart
 rcases Zam h with ⟨e, h⟩ | ⟨-, h⟩
 ·rw [beq_iff_eq] at e; subst e; cases h; exact bld_Congruence
 ·cases h
def intTab (t : TypeId) : Option IntKind := if t == 2 then some .i64 else if t == 3 then some .i64 else if t == 5 then some .u8 else if t == 12 then some .u64 else if t == 21 then some .i32 else if t == 31 then some .i64 else if t == 96 then some .u64 else if t == 100 then some .u32 else if t == 101 then some .u64 else none
theorem Zax {t : TypeId} {k : IntKind} (h : intTab t = some k) : Tryz.prog.underlying t = some (.int k) := by
 unfold intTab at h
 rcases Zam h with ⟨e, h⟩ | ⟨-, h⟩
 ·rw [beq_iff_eq] at e; subst e; cases h; exact und_int64
 rcases Zam h with ⟨e, h⟩ | ⟨-, h⟩
 ·rw [beq_iff_eq] at e; subst e; cases h; exact Zf9
 rcases Zam h with ⟨e, h⟩ | ⟨-, h⟩
 ·rw [beq_iff_eq] at e; subst e; cases h; exact und_u8
 rcases Zam h with ⟨e, h⟩ | ⟨-, h⟩
 ·rw [beq_iff_eq] at e; subst e; cases h; exact und_uintptr
 rcases Zam h with ⟨e, h⟩ | ⟨-, h⟩
 ·rw [beq_iff_eq] at e; subst e; cases h; exact und_int32
 rcases Zam h with ⟨e, h⟩ | ⟨-, h⟩
 ·rw [beq_iff_eq] at e; subst e; cases h; exact und_errno
 rcases Zam h with ⟨e, h⟩ | ⟨-, h⟩
 ·rw [beq_iff_eq] at e; subst e; cases h; exact und_u64
 rcases Zam h with ⟨e, h⟩ | ⟨-, h⟩
 ·rw [beq_iff_eq] at e; subst e; cases h; exact und_u32
 rcases Zam h with ⟨e, h⟩ | ⟨-, h⟩
 ·rw [beq_iff_eq] at e; subst e; cases h; exact und_uint
 ·cases h
end Ab
namespace Ab
variable {dm mc : Bool}
open Go Go.RowKit Go.Proofs
def inbB (s : AS) : Option Tmp → Bool
 | some d => Nat.blt d s.nt
 | none => true
theorem Zaa {s : AS} {d : Option Tmp} (h : inbB s d = true) : InB s d := by
 cases d with
 | none => trivial
 | some d => simpa [inbB, InB] using h
section
variable {P : Program} {ops : Array Oper} {r : List Oper} {s : AS} {K : AS → Prop} {dst : Option Tmp} {op : Op} {ty : TypeId} {pos : String} {after : Array Edge} {x : TV} {e : Eff}
theorem Zao (h : K s) : EvX dm mc P ops [] s K := h
theorem ev0 (h : Zbe dm P ops ⟨dst, op, ty, pos, after, none⟩ s x e) (k : EvX dm mc P ops r (s.act dst x e) K) : EvX dm mc P ops (⟨dst, op, ty, pos, after, none⟩ :: r) s K := .inl ⟨x, e, h, k⟩
theorem ev1 {j d : Nat} {want b : Bool} (hd : (ops[j]?).bind (·.dst) = some d) (hb : s.t d = some (.v (.p (.bool b)))) (hw : b = want) (h : Zbe dm P ops ⟨dst, op, ty, pos, after, some (j, want)⟩ s x e) (k : EvX dm mc P ops r (s.act dst x e) K) : EvX dm mc P ops (⟨dst, op, ty, pos, after, some (j, want)⟩ :: r) s K := .inl ⟨x, e, ⟨d, b, hd, hb, .inl ⟨hw, h⟩⟩, k⟩
theorem evS {j d : Nat} {want b : Bool} (hd : (ops[j]?).bind (·.dst) = some d) (hb : s.t d = some (.v (.p (.bool b)))) (hw : b ≠ want) (hin : inbB s dst = true) (k : EvX dm mc P ops r (s.act dst (.v (.tup [])) .none) K) : EvX dm mc P ops (⟨dst, op, ty, pos, after, some (j, want)⟩ :: r) s K := .inl ⟨_, _, ⟨d, b, hd, hb, .inr ⟨hw, rfl, rfl, Zaa hin⟩⟩, k⟩
end
section
variable {P : Program} {ops : Array Oper} {r : List Oper} {s : AS} {K : AS → Prop} {dst : Option Tmp} {op : Op} {ty : TypeId} {pos : String} {after : Array Edge} {x : TV} {e : Eff} {g : Option (Nat × Bool)}
def GOK (ops : Array Oper) (s : AS) : Option (Nat × Bool) → Prop
 | none => True
 | some (j, want) => ∃ d b, (ops[j]?).bind (·.dst) = some d ∧ s.t d = some (.v (.p (.bool b))) ∧ b = want
theorem evG (hg : GOK ops s g) (h : Zbe dm P ops ⟨dst, op, ty, pos, after, g⟩ s x e) (k : EvX dm mc P ops r (s.act dst x e) K) : EvX dm mc P ops (⟨dst, op, ty, pos, after, g⟩ :: r) s K := by
  cases g with
  | none => exact ev0 h k
  | some jw =>
    obtain ⟨j, want⟩ := jw
    obtain ⟨d, b, h1, h2, h3⟩ := hg
    exact ev1 h1 h2 h3 h k
theorem evSf {j d : Nat} {b : Bool} (hd : (ops[j]?).bind (·.dst) = some d) (hb : s.t d = some (.v (.p (.bool b)))) (hw : b = false) (hin : inbB s dst = true) (k : EvX dm mc P ops r (s.act dst (.v (.tup [])) .none) K) : EvX dm mc P ops (⟨dst, op, ty, pos, after, some (j, true)⟩ :: r) s K := evS hd hb (by rw [hw]; decide) hin k
theorem evSt {j d : Nat} {b : Bool} (hd : (ops[j]?).bind (·.dst) = some d) (hb : s.t d = some (.v (.p (.bool b)))) (hw : b = true) (hin : inbB s dst = true) (k : EvX dm mc P ops r (s.act dst (.v (.tup [])) .none) K) : EvX dm mc P ops (⟨dst, op, ty, pos, after, some (j, false)⟩ :: r) s K := evS hd hb (by rw [hw]; decide) hin k
theorem evSu {j d : Nat} {want : Bool} (hd : (ops[j]?).bind (·.dst) = some d) (ht : s.t d = some (.v (.tup []))) (hin : inbB s dst = true) (k : EvX dm true P ops r (s.act dst (.v (.tup [])) .none) K) : EvX dm true P ops (⟨dst, op, ty, pos, after, some (j, want)⟩ :: r) s K := by
 refine .inr ⟨rfl, fun w0 M0 hM a w hrel next Q hn => ?_⟩
 obtain ⟨ρ, hr⟩ := hrel
 obtain ⟨v, h4, h5⟩ := hr.tmps d _ ht
 obtain ⟨vs, rfl, -, -⟩ := tup_inv h5
 have hy : yielded ops a.tmps j = none := by simp [yielded, hd, h4]
 have hw : ¬ Region.wanted ⟨dst, op, ty, pos, after, some (j, want)⟩ (yielded ops a.tmps) = true := by simp [Region.wanted, hy]
 rw [if_neg hw]
 exact hn _ _ _ k ⟨ρ, hr.put (Zaa hin) (rep_undef _ _)⟩
theorem Zc6 {id : Nat} {e : TypeId} {z : List Value} (hin : InB s (some id)) (ht : Zf7 P e z) (hid : s.m id = none) (h1 : z.all (·.oneCell') = true) (hn : (!s.nd || z.all nuV) = true) :
  Zbe dm P ops ⟨some id, .alloc e, ty, pos, after, g⟩ s (.ptr id 0) (.new id (.var (z.map fun u => .v (.p u)))) := ss_alloc id hin ht hid h1 hn
theorem ss_box_d {id : Nat} {e : TypeId} {y : Operand} {x : TV} {xs : List TV} (hin : InB s (some id)) (hid : s.m id = none) (hy : s.ev y = some x) (hx : Zcp x = some xs) (hn : (!s.nd || xs.all TV.nu) = true) :
  Zbe dm P ops ⟨some id, .box e y, ty, pos, after, g⟩ s (.ptr id 0) (.new id (.var xs)) := ss_box id hin hid hy hx hn
end
theorem T.drawB {P : Program} {l : List Oper} {s : AS} {id : Nat} {Q : Exit → AS → Prop} (hm : P.follows .mixedOrders = true) (hA : okR s l (Region.before l.toArray) = true) (h : EvX dm false P l.toArray l s (Q .normal)) : T dm P (.region id l.toArray true) s Q := T.draw hm hA h
section
variable {P : Program} {ops : Array Oper} {r : List Oper} {s : AS} {K : AS → Prop} {dst : Option Tmp} {ty : TypeId} {pos : String} {after : Array Edge} {g : Option (Nat × Bool)}
theorem d_move {y : Operand} (h : EvX dm mc P ops (⟨dst, .move y, ty, pos, after, g⟩ :: r) s K) : EvX dm mc P ops (⟨dst, .move y, ty, pos, after, g⟩ :: r) s K := h
theorem d_assign {y : Operand} (h : EvX dm mc P ops (⟨dst, .assign y, ty, pos, after, g⟩ :: r) s K) : EvX dm mc P ops (⟨dst, .assign y, ty, pos, after, g⟩ :: r) s K := h
theorem d_box {t : TypeId} {y : Operand} (h : EvX dm mc P ops (⟨dst, .box t y, ty, pos, after, g⟩ :: r) s K) : EvX dm mc P ops (⟨dst, .box t y, ty, pos, after, g⟩ :: r) s K := h
theorem d_alloc {t : TypeId} (h : EvX dm mc P ops (⟨dst, .alloc t, ty, pos, after, g⟩ :: r) s K) : EvX dm mc P ops (⟨dst, .alloc t, ty, pos, after, g⟩ :: r) s K := h
theorem d_field {t : TypeId} {y : Operand} {f : Nat} (h : EvX dm mc P ops (⟨dst, .fieldAddr t y f, ty, pos, after, g⟩ :: r) s K) : EvX dm mc P ops (⟨dst, .fieldAddr t y f, ty, pos, after, g⟩ :: r) s K := h
theorem d_load {t : TypeId} {y : Operand} (h : EvX dm mc P ops (⟨dst, .load t y, ty, pos, after, g⟩ :: r) s K) : EvX dm mc P ops (⟨dst, .load t y, ty, pos, after, g⟩ :: r) s K := h
theorem d_store {t : TypeId} {y z : Operand} (h : EvX dm mc P ops (⟨dst, .store t y z, ty, pos, after, g⟩ :: r) s K) : EvX dm mc P ops (⟨dst, .store t y z, ty, pos, after, g⟩ :: r) s K := h
theorem Zha {y : Operand} {i : Nat} (h : EvX dm mc P ops (⟨dst, .extract y i, ty, pos, after, g⟩ :: r) s K) : EvX dm mc P ops (⟨dst, .extract y i, ty, pos, after, g⟩ :: r) s K := h
theorem d_bin {b : BinOp} {t u : TypeId} {y z : Operand} (h : EvX dm mc P ops (⟨dst, .binOp b t y z u, ty, pos, after, g⟩ :: r) s K) : EvX dm mc P ops (⟨dst, .binOp b t y z u, ty, pos, after, g⟩ :: r) s K := h
theorem d_un {b : UnOp} {t : TypeId} {y : Operand} (h : EvX dm mc P ops (⟨dst, .unOp b t y, ty, pos, after, g⟩ :: r) s K) : EvX dm mc P ops (⟨dst, .unOp b t y, ty, pos, after, g⟩ :: r) s K := h
theorem d_blt {b : Builtin} {az : Array Operand} {ts : Array TypeId} (h : EvX dm mc P ops (⟨dst, .call ⟨.builtin b, az, ts⟩, ty, pos, after, g⟩ :: r) s K) : EvX dm mc P ops (⟨dst, .call ⟨.builtin b, az, ts⟩, ty, pos, after, g⟩ :: r) s K := h
theorem d_build {t : TypeId} {ps : Array (Nat × Operand)} (h : EvX dm mc P ops (⟨dst, .build t ps, ty, pos, after, g⟩ :: r) s K) : EvX dm mc P ops (⟨dst, .build t ps, ty, pos, after, g⟩ :: r) s K := h
theorem d_pick {x y z : Operand} (h : EvX dm mc P ops (⟨dst, .pick x y z, ty, pos, after, g⟩ :: r) s K) : EvX dm mc P ops (⟨dst, .pick x y z, ty, pos, after, g⟩ :: r) s K := h
end
theorem Zc2 {a : AV} {n : Nat} (h : a.cells.length = n) (h1 : a.cells.all AV.one = true) : ∀ x, x ∈ [a] → x.cells.length = n ∧ x.cells.all AV.one = true := fun x hx => by rw [List.mem_singleton] at hx; subst hx; exact ⟨h, h1⟩
theorem Zac {I : Nat → AS → Prop} {n k : Nat} {Q : Exit → AS → Prop} {s s' : AS} (h : k < n) (he : Ent s s') (hi : I k s') : loopQ I n Q .normal s := ⟨k, s', h, he, hi⟩
def midQ (I : AS → Prop) (Q : Exit → AS → Prop) : Exit → AS → Prop
 | .normal, s => ∃ s', Ent s s' ∧ I s'
 | e, s => Q e s
theorem Zae {I : AS → Prop} {Q : Exit → AS → Prop} {s s' : AS} (he : Ent s s') (hi : I s') : midQ I Q .normal s := ⟨s', he, hi⟩
theorem T.seqI {P : Program} {x y : Code} {s : AS} {Q : Exit → AS → Prop} (I : AS → Prop) (h : T dm P x s (midQ I Q)) (k : ∀ s, I s → T dm P y s Q) : T dm P (.seq x y) s Q :=
 T.seq (T.mono h fun e s' he => by
  cases e with
  | normal => obtain ⟨s2, h1, h2⟩ := he; exact T.weak h1 (k s2 h2)
  | _ => exact he)
section
variable {P : Program} {y : Code} {Q : Exit → AS → Prop} {s : AS} {id j n : Nat} {I : Nat → AS → Prop} {J : AS → Prop}
theorem T.condT {x : Code} {c : Operand} {b : Bool} (hc : s.ev c = some (.v (.p (.bool b)))) (hb : b = true) (h : T dm P x s Q) : T dm P (.cond c x y) s Q := T.cond hc (fun _ => h) (fun e => by rw [hb] at e; cases e)
theorem T.condF {x : Code} {c : Operand} {b : Bool} (hc : s.ev c = some (.v (.p (.bool b)))) (hb : b = false) (h : T dm P y s Q) : T dm P (.cond c x y) s Q := T.cond hc (fun e => by rw [hb] at e; cases e) (fun _ => h)
theorem Zay (h : T dm P y s Q) : seqQ dm P y Q .normal s := h
theorem seqQ_e (h : Q (.exit j) s) : seqQ dm P y Q (.exit j) s := h
theorem seqQ_r (h : Q .ret s) : seqQ dm P y Q .ret s := h
theorem blockQ_n (h : Q .normal s) : blockQ id Q .normal s := h
theorem blockQ_r (h : Q .ret s) : blockQ id Q .ret s := h
theorem blockQ_e (hj : Nat.beq j id = true) (h : Q .normal s) : blockQ id Q (.exit j) s := by show bif Nat.beq j id then _ else _; rw [hj]; exact h
theorem blockQ_o (hj : Nat.beq j id = false) (h : Q (.exit j) s) : blockQ id Q (.exit j) s := by show bif Nat.beq j id then _ else _; rw [hj]; exact h
theorem loopQ_e (h : Q (.exit j) s) : loopQ I n Q (.exit j) s := h
theorem loopQ_r (h : Q .ret s) : loopQ I n Q .ret s := h
theorem midQ_e (h : Q (.exit j) s) : midQ J Q (.exit j) s := h
theorem midQ_r (h : Q .ret s) : midQ J Q .ret s := h
end
def roundQ (dm : Bool) (P : Program) (c : Code) (Q : Exit → AS → Prop) : Nat → Exit → AS → Prop
 | 0, .normal, _ => False
 | n + 1, .normal, s => T dm P c s (roundQ dm P c Q n)
 | _, x, s => Q x s
section
variable {P : Program} {c : Code} {Q : Exit → AS → Prop} {s : AS} {n j : Nat}
theorem roundQ_n (h : T dm P c s (roundQ dm P c Q n)) : roundQ dm P c Q (n + 1) .normal s := h
theorem roundQ_e (h : Q (.exit j) s) : roundQ dm P c Q n (.exit j) s := by cases n <;> exact h
theorem roundQ_r (h : Q .ret s) : roundQ dm P c Q n .ret s := by cases n <;> exact h
end
theorem w64 {x : Int} (h0 : -9223372036854775808 ≤ x) (h1 : x ≤ 9223372036854775807) : IntKind.i64.wrap x = x := IntWalk.i64_in _ (by omega)
structure Keep (B : Prop) : Prop where
 out : B
theorem ggA {ops : Array Oper} {s : AS} {g : Option (Nat × Bool)} (h : GOK ops s g := by exact (by first | exact trivial | exact ⟨_, _, rfl, rfl, rfl⟩ | exact ⟨_, _, rfl, rfl, by assumption⟩)) : GOK ops s g := h
theorem stpA {A B : Prop} (h : B) (imp : Keep B → A := by intro hKeep; (first  | (refine d_move ?_; first | refine evG ggA (ss_move (Zaa rfl) rfl) ?_)  | (refine d_assign ?_; first | refine evG ggA (Zgu (Zaa rfl) rfl) ?_)  | (refine d_load ?_; first | refine evG ggA (Zeg (Zaa rfl) (Zd8 rfl) rfl rfl rfl) ?_ | refine evG ggA (Zde (Zaa rfl) (Zb4 rfl) rfl rfl rfl rfl) ?_ | refine evG ggA (Zez (Zaa rfl) (Zd8 rfl) rfl rfl) ?_ | refine evG ggA (Zdv (Zaa rfl) (Zb4 rfl) rfl rfl rfl) ?_)  | (refine d_field ?_; first | refine evG ggA (Zeh (Zaa rfl) (Zdh rfl) rfl) ?_ | refine evG ggA (Ze0 (Zaa rfl) (Zdh rfl) rfl) ?_)  | (refine d_store ?_; first | refine evG ggA (Zef rfl (Zbu rfl) rfl rfl rfl rfl rfl (Nat.le_of_ble_eq_true rfl) rfl) ?_)  | (refine Zha ?_; first | refine evG ggA (Zf5 (Zaa rfl) rfl rfl) ?_)  | (refine d_bin ?_; first | refine evG ggA (ss_cmp (Zaa rfl) rfl rfl rfl) ?_ | refine evG ggA (Zb6 (Zaa rfl) rfl rfl (w64 (by omega) (by omega))) ?_ | refine evG ggA (ss_eqb (Zaa rfl) Zf0 rfl rfl rfl) ?_)  | (refine d_un ?_; first | refine evG ggA (ss_not (Zaa rfl) rfl) ?_ | refine evG ggA (ss_neg (Zaa rfl) rfl (w64 (by omega) (by omega))) ?_)  | (refine d_blt ?_; first | refine evG ggA (ss_len (Zaa rfl) rfl (Zce rfl) rfl) ?_ | refine evG ggA (ss_min (Zaa rfl) rfl rfl) ?_ | refine evG ggA (ss_max (Zaa rfl) rfl rfl) ?_ | refine evG ggA (ss_min3 (Zaa rfl) rfl rfl rfl) ?_ | refine evG ggA (Zf4 (Zaa rfl) rfl (Zce rfl) rfl) ?_ | refine evG ggA (Zf3 (Zaa rfl) rfl (Zce rfl) rfl rfl (by first | rfl | simp)) ?_)  | (refine d_build ?_; first | refine evG ggA (ss_build (Zaa rfl) (Zex rfl) rfl rfl rfl) ?_)  | (refine d_box ?_; first | refine evG ggA (ss_box_d (Zaa rfl) rfl rfl rfl rfl) ?_)  | (refine d_alloc ?_; first | refine evG ggA (Zc6 (Zaa rfl) (zero_tab rfl) rfl rfl rfl) ?_)  | (refine d_pick ?_; first | refine evG ggA (Zgs (Zaa rfl) rfl (by first | rfl | assumption) rfl) ?_ | refine evG ggA (Zgt (Zaa rfl) rfl (by first | rfl | assumption) rfl) ?_)  | refine evSf rfl rfl (by first | rfl | assumption) rfl ?_ | refine evSt rfl rfl (by first | rfl | assumption) rfl ?_ | refine evSu rfl rfl rfl ?_); exact hKeep.out) : A := imp ⟨h⟩
theorem runA {A B : Prop} (h : B) (imp : Keep B → A := by intro hKeep; (repeat (first  | (refine d_move ?_; first | refine evG ggA (ss_move (Zaa rfl) rfl) ?_)  | (refine d_assign ?_; first | refine evG ggA (Zgu (Zaa rfl) rfl) ?_)  | (refine d_load ?_; first | refine evG ggA (Zeg (Zaa rfl) (Zd8 rfl) rfl rfl rfl) ?_ | refine evG ggA (Zde (Zaa rfl) (Zb4 rfl) rfl rfl rfl rfl) ?_ | refine evG ggA (Zez (Zaa rfl) (Zd8 rfl) rfl rfl) ?_ | refine evG ggA (Zdv (Zaa rfl) (Zb4 rfl) rfl rfl rfl) ?_)  | (refine d_field ?_; first | refine evG ggA (Zeh (Zaa rfl) (Zdh rfl) rfl) ?_ | refine evG ggA (Ze0 (Zaa rfl) (Zdh rfl) rfl) ?_)  | (refine d_store ?_; first | refine evG ggA (Zef rfl (Zbu rfl) rfl rfl rfl rfl rfl (Nat.le_of_ble_eq_true rfl) rfl) ?_)  | (refine Zha ?_; first | refine evG ggA (Zf5 (Zaa rfl) rfl rfl) ?_)  | (refine d_bin ?_; first | refine evG ggA (ss_cmp (Zaa rfl) rfl rfl rfl) ?_ | refine evG ggA (Zb6 (Zaa rfl) rfl rfl (w64 (by omega) (by omega))) ?_ | refine evG ggA (ss_eqb (Zaa rfl) Zf0 rfl rfl rfl) ?_)  | (refine d_un ?_; first | refine evG ggA (ss_not (Zaa rfl) rfl) ?_ | refine evG ggA (ss_neg (Zaa rfl) rfl (w64 (by omega) (by omega))) ?_)  | (refine d_blt ?_; first | refine evG ggA (ss_len (Zaa rfl) rfl (Zce rfl) rfl) ?_ | refine evG ggA (ss_min (Zaa rfl) rfl rfl) ?_ | refine evG ggA (ss_max (Zaa rfl) rfl rfl) ?_ | refine evG ggA (ss_min3 (Zaa rfl) rfl rfl rfl) ?_ | refine evG ggA (Zf4 (Zaa rfl) rfl (Zce rfl) rfl) ?_ | refine evG ggA (Zf3 (Zaa rfl) rfl (Zce rfl) rfl rfl (by first | rfl | simp)) ?_)  | (refine d_build ?_; first | refine evG ggA (ss_build (Zaa rfl) (Zex rfl) rfl rfl rfl) ?_)  | (refine d_box ?_; first | refine evG ggA (ss_box_d (Zaa rfl) rfl rfl rfl rfl) ?_)  | (refine d_alloc ?_; first | refine evG ggA (Zc6 (Zaa rfl) (zero_tab rfl) rfl rfl rfl) ?_)  | (refine d_pick ?_; first | refine evG ggA (Zgs (Zaa rfl) rfl (by first | rfl | assumption) rfl) ?_ | refine evG ggA (Zgt (Zaa rfl) rfl (by first | rfl | assumption) rfl) ?_)  | refine evSf rfl rfl (by first | rfl | assumption) rfl ?_ | refine evSt rfl rfl (by first | rfl | assumption) rfl ?_ | refine evSu rfl rfl rfl ?_)); exact hKeep.out) : A := imp ⟨h⟩
theorem regA {A B : Prop} (h : B) (imp : Keep B → A := by intro hKeep; (first | refine T.region ?_ | refine T.drawB mixed (by kernel_rfl) ?_); exact hKeep.out) : A := imp ⟨h⟩
theorem goA {A B : Prop} (h : B) (imp : Keep B → A := by intro hKeep; (repeat (first | (first  | (refine d_move ?_; first | refine evG ggA (ss_move (Zaa rfl) rfl) ?_)  | (refine d_assign ?_; first | refine evG ggA (Zgu (Zaa rfl) rfl) ?_)  | (refine d_load ?_; first | refine evG ggA (Zeg (Zaa rfl) (Zd8 rfl) rfl rfl rfl) ?_ | refine evG ggA (Zde (Zaa rfl) (Zb4 rfl) rfl rfl rfl rfl) ?_ | refine evG ggA (Zez (Zaa rfl) (Zd8 rfl) rfl rfl) ?_ | refine evG ggA (Zdv (Zaa rfl) (Zb4 rfl) rfl rfl rfl) ?_)  | (refine d_field ?_; first | refine evG ggA (Zeh (Zaa rfl) (Zdh rfl) rfl) ?_ | refine evG ggA (Ze0 (Zaa rfl) (Zdh rfl) rfl) ?_)  | (refine d_store ?_; first | refine evG ggA (Zef rfl (Zbu rfl) rfl rfl rfl rfl rfl (Nat.le_of_ble_eq_true rfl) rfl) ?_)  | (refine Zha ?_; first | refine evG ggA (Zf5 (Zaa rfl) rfl rfl) ?_)  | (refine d_bin ?_; first | refine evG ggA (ss_cmp (Zaa rfl) rfl rfl rfl) ?_ | refine evG ggA (Zb6 (Zaa rfl) rfl rfl (w64 (by omega) (by omega))) ?_ | refine evG ggA (ss_eqb (Zaa rfl) Zf0 rfl rfl rfl) ?_)  | (refine d_un ?_; first | refine evG ggA (ss_not (Zaa rfl) rfl) ?_ | refine evG ggA (ss_neg (Zaa rfl) rfl (w64 (by omega) (by omega))) ?_)  | (refine d_blt ?_; first | refine evG ggA (ss_len (Zaa rfl) rfl (Zce rfl) rfl) ?_ | refine evG ggA (ss_min (Zaa rfl) rfl rfl) ?_ | refine evG ggA (ss_max (Zaa rfl) rfl rfl) ?_ | refine evG ggA (ss_min3 (Zaa rfl) rfl rfl rfl) ?_ | refine evG ggA (Zf4 (Zaa rfl) rfl (Zce rfl) rfl) ?_ | refine evG ggA (Zf3 (Zaa rfl) rfl (Zce rfl) rfl rfl (by first | rfl | simp)) ?_)  | (refine d_build ?_; first | refine evG ggA (ss_build (Zaa rfl) (Zex rfl) rfl rfl rfl) ?_)  | (refine d_box ?_; first | refine evG ggA (ss_box_d (Zaa rfl) rfl rfl rfl rfl) ?_)  | (refine d_alloc ?_; first | refine evG ggA (Zc6 (Zaa rfl) (zero_tab rfl) rfl rfl rfl) ?_)  | (refine d_pick ?_; first | refine evG ggA (Zgs (Zaa rfl) rfl (by first | rfl | assumption) rfl) ?_ | refine evG ggA (Zgt (Zaa rfl) rfl (by first | rfl | assumption) rfl) ?_)  | refine evSf rfl rfl (by first | rfl | assumption) rfl ?_ | refine evSt rfl rfl (by first | rfl | assumption) rfl ?_ | refine evSu rfl rfl rfl ?_) | refine Zao ?_ | (first | refine T.seq ?_ | refine T.block ?_ | refine T.ret ?_ | refine T.skip ?_ | refine T.exit ?_ | refine T.condT rfl (by first | rfl | assumption) ?_ | refine T.condF rfl (by first | rfl | assumption) ?_) | (first | refine T.region ?_ | refine T.drawB mixed (by kernel_rfl) ?_) | (first | with_reducible refine Zay ?_ | with_reducible refine seqQ_e ?_ | with_reducible refine seqQ_r ?_ | with_reducible refine blockQ_n ?_ | with_reducible refine blockQ_r ?_ | with_reducible refine blockQ_e rfl ?_ | with_reducible refine blockQ_o rfl ?_ | with_reducible refine loopQ_e ?_ | with_reducible refine loopQ_r ?_ | with_reducible refine midQ_e ?_ | with_reducible refine midQ_r ?_ | with_reducible refine roundQ_n ?_ | with_reducible refine roundQ_e ?_ | with_reducible refine roundQ_r ?_))); exact hKeep.out) : A := imp ⟨h⟩
theorem r1A {A B : Prop} (h : B) (imp : Keep B → A := by intro hKeep; refine T.seq ?_; (first | refine T.region ?_ | refine T.drawB mixed (by kernel_rfl) ?_); (repeat (first  | (refine d_move ?_; first | refine evG ggA (ss_move (Zaa rfl) rfl) ?_)  | (refine d_assign ?_; first | refine evG ggA (Zgu (Zaa rfl) rfl) ?_)  | (refine d_load ?_; first | refine evG ggA (Zeg (Zaa rfl) (Zd8 rfl) rfl rfl rfl) ?_ | refine evG ggA (Zde (Zaa rfl) (Zb4 rfl) rfl rfl rfl rfl) ?_ | refine evG ggA (Zez (Zaa rfl) (Zd8 rfl) rfl rfl) ?_ | refine evG ggA (Zdv (Zaa rfl) (Zb4 rfl) rfl rfl rfl) ?_)  | (refine d_field ?_; first | refine evG ggA (Zeh (Zaa rfl) (Zdh rfl) rfl) ?_ | refine evG ggA (Ze0 (Zaa rfl) (Zdh rfl) rfl) ?_)  | (refine d_store ?_; first | refine evG ggA (Zef rfl (Zbu rfl) rfl rfl rfl rfl rfl (Nat.le_of_ble_eq_true rfl) rfl) ?_)  | (refine Zha ?_; first | refine evG ggA (Zf5 (Zaa rfl) rfl rfl) ?_)  | (refine d_bin ?_; first | refine evG ggA (ss_cmp (Zaa rfl) rfl rfl rfl) ?_ | refine evG ggA (Zb6 (Zaa rfl) rfl rfl (w64 (by omega) (by omega))) ?_ | refine evG ggA (ss_eqb (Zaa rfl) Zf0 rfl rfl rfl) ?_)  | (refine d_un ?_; first | refine evG ggA (ss_not (Zaa rfl) rfl) ?_ | refine evG ggA (ss_neg (Zaa rfl) rfl (w64 (by omega) (by omega))) ?_)  | (refine d_blt ?_; first | refine evG ggA (ss_len (Zaa rfl) rfl (Zce rfl) rfl) ?_ | refine evG ggA (ss_min (Zaa rfl) rfl rfl) ?_ | refine evG ggA (ss_max (Zaa rfl) rfl rfl) ?_ | refine evG ggA (ss_min3 (Zaa rfl) rfl rfl rfl) ?_ | refine evG ggA (Zf4 (Zaa rfl) rfl (Zce rfl) rfl) ?_ | refine evG ggA (Zf3 (Zaa rfl) rfl (Zce rfl) rfl rfl (by first | rfl | simp)) ?_)  | (refine d_build ?_; first | refine evG ggA (ss_build (Zaa rfl) (Zex rfl) rfl rfl rfl) ?_)  | (refine d_box ?_; first | refine evG ggA (ss_box_d (Zaa rfl) rfl rfl rfl rfl) ?_)  | (refine d_alloc ?_; first | refine evG ggA (Zc6 (Zaa rfl) (zero_tab rfl) rfl rfl rfl) ?_)  | (refine d_pick ?_; first | refine evG ggA (Zgs (Zaa rfl) rfl (by first | rfl | assumption) rfl) ?_ | refine evG ggA (Zgt (Zaa rfl) rfl (by first | rfl | assumption) rfl) ?_)  | refine evSf rfl rfl (by first | rfl | assumption) rfl ?_ | refine evSt rfl rfl (by first | rfl | assumption) rfl ?_ | refine evSu rfl rfl rfl ?_)); refine Zao ?_; refine Zay ?_; exact hKeep.out) : A := imp ⟨h⟩
theorem entA {s s' : AS} (h : Ent s s' := by (refine Ent.mk rfl rfl ?_ ?_ <;> (repeat (first | exact trivial | refine And.intro ?_ ?_ | exact ⟨_, rfl, .inl ⟨rfl, trivial⟩⟩ | exact ⟨_, rfl, .inl ⟨rfl, _, rfl⟩⟩ | exact .inl ⟨rfl, trivial⟩ | exact .inl ⟨rfl, _, rfl⟩ | exact ⟨_, rfl, .inr (.inl ⟨rfl, rfl⟩)⟩ | exact .inr (.inl ⟨rfl, rfl⟩) | exact ⟨_, rfl, .inr (.inr (.inl ⟨_, _, _, _, _, rfl, rfl, by first | rfl | assumption | simp, rfl, rfl⟩))⟩ | exact .inr (.inr (.inl ⟨_, _, _, _, _, rfl, rfl, by first | rfl | assumption | simp, rfl, rfl⟩)) | exact ⟨_, rfl, .inr (.inr (.inr ⟨_, _, _, rfl, rfl, rfl, rfl⟩))⟩ | exact .inr (.inr (.inr ⟨_, _, _, rfl, rfl, rfl, rfl⟩)) | rfl)))) : Ent s s' := h
theorem entqA {s s' : AS} (h : Ent s s' := by (refine Ent.mkP rfl rfl rfl rfl ?_ ?_ <;> (repeat (first | exact trivial | exact ⟨_, rfl, .inl ⟨rfl, ⟨_, rfl⟩, ⟨_, rfl⟩, trivial⟩⟩ | exact ⟨_, rfl, .inl ⟨rfl, ⟨_, rfl⟩, trivial⟩⟩ | refine And.intro ?_ ?_ | exact ⟨_, rfl, .inl ⟨rfl, trivial⟩⟩ | exact ⟨_, rfl, .inl ⟨rfl, _, rfl⟩⟩ | exact .inl ⟨rfl, trivial⟩ | exact .inl ⟨rfl, _, rfl⟩ | exact ⟨_, rfl, .inr (.inl ⟨rfl, rfl⟩)⟩ | exact .inr (.inl ⟨rfl, rfl⟩) | exact ⟨_, rfl, .inr (.inr (.inl ⟨_, _, _, _, _, rfl, rfl, by first | rfl | assumption | simp, rfl, rfl⟩))⟩ | exact .inr (.inr (.inl ⟨_, _, _, _, _, rfl, rfl, by first | rfl | assumption | simp, rfl, rfl⟩)) | exact ⟨_, rfl, .inr (.inr (.inr ⟨_, _, _, rfl, rfl, rfl, rfl⟩))⟩ | exact .inr (.inr (.inr ⟨_, _, _, rfl, rfl, rfl, rfl⟩)) | rfl)))) : Ent s s' := h
theorem osA {A B : Prop} (h : B) (imp : Keep B → A := by intro hKeep; (repeat (first | with_reducible refine Zay ?_ | with_reducible refine seqQ_e ?_ | with_reducible refine seqQ_r ?_ | with_reducible refine blockQ_n ?_ | with_reducible refine blockQ_r ?_ | with_reducible refine blockQ_e rfl ?_ | with_reducible refine blockQ_o rfl ?_ | with_reducible refine loopQ_e ?_ | with_reducible refine loopQ_r ?_ | with_reducible refine midQ_e ?_ | with_reducible refine midQ_r ?_ | with_reducible refine roundQ_n ?_ | with_reducible refine roundQ_e ?_ | with_reducible refine roundQ_r ?_)); exact hKeep.out) : A := imp ⟨h⟩
theorem clA {A B C : Prop} (c : C) (h : B) (imp : C → Keep B → A := by intro hc hKeep; refine evG ggA (ss_call (Zaa rfl) rfl rfl hc) ?_; exact hKeep.out) : A := imp c ⟨h⟩
theorem clG {A B C : Prop} (c : C) (h : B) (imp : C → Keep B → A := by intro hc hKeep; refine evG ggA (ss_call (Zaa rfl) rfl rfl hc) ?_; refine goA ?_; exact hKeep.out) : A := imp c ⟨h⟩
theorem ixA {A B C : Prop} (c : C) (h : B) (imp : C → Keep B → A := by intro hc hKeep; refine evG ggA (Zbr (Zaa rfl) (Zat rfl) rfl rfl (by omega) hc rfl) ?_; exact hKeep.out) : A := imp c ⟨h⟩
theorem ixG {A B C : Prop} (c : C) (h : B) (imp : C → Keep B → A := by intro hc hKeep; refine evG ggA (Zbr (Zaa rfl) (Zat rfl) rfl rfl (by omega) hc rfl) ?_; refine goA ?_; exact hKeep.out) : A := imp c ⟨h⟩
theorem remA {A B : Prop} (h : B) (imp : Keep B → A := by intro hKeep; refine evG ggA (Zbs (op := .rem) (Zaa rfl) rfl rfl (by omega) rfl) ?_; exact hKeep.out) : A := imp ⟨h⟩
theorem midE {A : Prop} (h : A := by exact Zae (by exact entA) rfl) : A := h
theorem T.seqE {dm : Bool} {P : Program} {x y : Code} {s : AS} {Q : Exit → AS → Prop} (s2 : AS) (h : T dm P x s (midQ (fun s1 => s1 = s2) Q)) (k : T dm P y s2 Q) : T dm P (.seq x y) s Q := T.seqI (fun s1 => s1 = s2) h fun _ e => by subst e; exact k
theorem pb1 {dm : Bool} {P : Program} {f : FuncId} {fn : Func} {c : Code} {args : List AV} {r : AV} {rv : ResultVar} (hf : P.funcs[f]? = some fn) (hrt : Zab P rv r) (hT : T dm P c (Zgq args fn.ntmps true) (resQ [rv] r)) (hname : (fn.name == "runtime.NumGoroutine") = false := by exact rfl) (hb : fn.body = some c := by exact rfl) (hres : fn.results = #[rv] := by exact rfl) (hn : args.length ≤ fn.ntmps := by exact (Nat.le_of_ble_eq_true rfl)) : PCD dm P f args r := Za1 true hf hname hb hres hn hrt hT
theorem pb2 {dm : Bool} {P : Program} {f : FuncId} {fn : Func} {c : Code} {args : List AV} {a1 a2 : AV} {r1 r2 : ResultVar} (hf : P.funcs[f]? = some fn) (ht1 : Zab P r1 a1) (ht2 : Zab P r2 a2) (hT : T dm P c (Zgq args fn.ntmps true) (resQ [r1, r2] (.tup [a1, a2]))) (hname : (fn.name == "runtime.NumGoroutine") = false := by exact rfl) (hb : fn.body = some c := by exact rfl) (hres : fn.results = #[r1, r2] := by exact rfl) (hn : args.length ≤ fn.ntmps := by exact (Nat.le_of_ble_eq_true rfl)) : PCD dm P f args (.tup [a1, a2]) := pc_body2 true hf hname hb hres hn ht1 ht2 hT
end Ab
