/- How facts of types are had from the kernel; no condition. The types of the program that the proofs meet, as the kernel reckons them, and tables of them; no condition. Tables of types, and the steps in the form in which they are taken; no condition. -/
import Derived.Test.YtbpdgaolmikjbaaGreatAbsAll
import Derived.Test.YtbpdgaolmikjbaaGreatProg
import Derived.KernelRfl
import Derived.LoopN
set_option linter.all false
namespace Ab
open Go Go.RowKit Go.Proofs
theorem Zca {P : Program} {t : TypeId} (h : (match P.underlying t with | some (.struct _) => false | some (.array _ _) => false | none => false | some _ => match P.info? t with | some i => i.size == 1 | none => false) = true) : OneT P t := by
  cases hu : P.underlying t with
  | none => rw [hu] at h; cases h
  | some d =>
    rw [hu] at h
    cases hi : P.info? t with
    | none => rw [hi] at h; cases d <;> cases h
    | some i =>
      rw [hi] at h
      cases d <;> first | cases h | exact ⟨_, i, hu, trivial, hi, by simpa using h⟩
theorem Zdd {P : Program} {t : TypeId} {n : Nat} (h : (match P.underlying t with | some (.struct _) => (match P.info? t with | some i => i.size == n | none => false) | _ => false) = true) : AggT P t n := by
  cases hu : P.underlying t with
  | none => rw [hu] at h; cases h
  | some d =>
    rw [hu] at h
    cases d <;> first | cases h | skip
    cases hi : P.info? t with
    | none => rw [hi] at h; cases h
    | some i => rw [hi] at h; exact ⟨_, i, hu, hi, by simpa using h⟩
theorem Zap {P : Program} {t : TypeId} {f off : Nat} (h : (match P.underlying t with | some (.struct fs) => (match fs[f]? with | some fd => (match P.info? fd.type with | some i => fd.offset == off && i.size != 0 | none => false) | none => false) | _ => false) = true) : Za5 P t f off := by
  cases hu : P.underlying t with
  | none => rw [hu] at h; cases h
  | some d =>
    rw [hu] at h
    cases d <;> first | cases h | skip
    rename_i fs
    simp only at h
    cases hf : fs[f]? with
    | none => rw [hf] at h; cases h
    | some fd =>
      rw [hf] at h
      simp only at h
      cases hi : P.info? fd.type with
      | none => rw [hi] at h; cases h
      | some i =>
        rw [hi] at h
        simp at h
        exact ⟨fs, fd, i, hu, hf, h.1, hi, h.2⟩
theorem Zcl {P : Program} {e : TypeId} {v : Value} {z : List Value} (h : (P.info? e).map (·.zero) = some (some v)) (hz : v.cells.toList = z) : Ze8 P e z := by
 obtain ⟨i, h1, h2⟩ := Option.map_eq_some_iff.1 h
 exact ⟨i, v, h1, h2, hz⟩
theorem Zdo {P : Program} {t e : TypeId} {n bytes : Nat} {v : Value} {z : List Value} (hu : P.underlying t = some (.slice e)) (h : (P.info? e).map (fun i => (i.zero, i.size, i.bytes)) = some (some v, n, bytes)) (hz : v.cells.toList = z) (hl : z.length = n) : Zek P t e n bytes z := by
 obtain ⟨i, h1, h2, h3, h4⟩ := info_parts h
 exact ⟨hu, i, v, h1, h3, h4, h2, hz, hl⟩
theorem Zcb {P : Program} {t : TypeId} {fs : Array Field} {v : Value} {zs : List Value} {places : List (Nat × Nat)} (hu : P.underlying t = some (.struct fs)) (h : (P.info? t).map (·.zero) = some (some v)) (hz : v.cells.toList = zs)
  (hp : ∀ w, (fs.mapM (fun f => do pure (f.offset, ← Go.sizeOf f.type)) : Sem (Array (Nat × Nat))).run P w = .ok places.toArray w) : Zdk P t zs places := by
 obtain ⟨i, h1, h2⟩ := Option.map_eq_some_iff.1 h
 exact ⟨fs, i, v, hu, h1, h2, hz, hp⟩
theorem Zam {c : Prop} [h : Decidable c] {α : Type} {a b x : α} (e : (if c then a else b) = x) : (c ∧ a = x) ∨ (¬ c ∧ b = x) := by
 cases h with
 | isTrue k => exact .inl ⟨k, e⟩
 | isFalse k => exact .inr ⟨k, e⟩
end Ab
namespace Ab
open Go Go.RowKit Go.Proofs
abbrev zPackage : List Value := [.slice none 0 0, .slice none 0 0, .slice none 0 0, .slice none 0 0, .slice none 0 0, .slice none 0 0]
abbrev zS : List Value := [.int .i64 0, .slice none 0 0]
abbrev zI : List Value := [.bool false, .slice none 0 0]
abbrev zQ : List Value := [.bool false, .slice none 0 0, .bool false, .slice none 0 0]
abbrev zExpr : List Value := [.int .i64 0, .slice none 0 0, .bool false, .slice none 0 0, .bool false, .slice none 0 0, .string ⟨#[]⟩, .slice none 0 0]
abbrev zBinding : List Value := [.string ⟨#[]⟩, .int .i64 0, .slice none 0 0, .bool false, .slice none 0 0, .bool false, .slice none 0 0, .string ⟨#[]⟩, .slice none 0 0]
abbrev zMatrix : List Value := [.int .i64 0, .int .i64 0, .slice none 0 0]
abbrev zEta : List Value := [.int .i64 0, .slice none 0 0]
abbrev zSpec : List Value := [.int .i64 0, .int .i64 0, .int .i64 0]
abbrev zFormSpace : List Value := [.int .i64 0, .int .i64 0, .int .i64 0, .int .i64 0, .slice none 0 0]
abbrev zFormKind : List Value := [.int .i64 0, .int .i64 0, .int .i64 0, .int .i64 0, .bool false]
abbrev zCertificate : List Value := [.int .i64 0, .slice none 0 0, .bool false, .slice none 0 0, .bool false, .slice none 0 0, .string ⟨#[]⟩, .slice none 0 0, .int .i64 0, .slice none 0 0, .bool false, .slice none 0 0, .bool false, .slice none 0 0, .string ⟨#[]⟩, .slice none 0 0, .slice none 0 0, .int .i64 0, .int .i64 0, .int .i64 0, .int .i64 0, .bool false, .int .i64 0, .int .i64 0, .slice none 0 0]
abbrev zinterchangewriter : List Value := [.slice none 0 0, .bool false]
abbrev zinterchangereader : List Value := [.slice none 0 0, .bool false, .int .i64 0]
abbrev zhalfplaneref59reader : List Value := [.slice none 0 0, .int .i64 0, .bool false]
theorem one_int64 : OneT Tryz.prog 2 := Zca (by kernel_rfl)
theorem one_int : OneT Tryz.prog 3 := Zca (by kernel_rfl)
theorem one_bool : OneT Tryz.prog 4 := Zca (by kernel_rfl)
theorem one_u8 : OneT Tryz.prog 5 := Zca (by kernel_rfl)
theorem one_string : OneT Tryz.prog 9 := Zca (by kernel_rfl)
theorem one_uintptr : OneT Tryz.prog 12 := Zca (by kernel_rfl)
theorem one_int32 : OneT Tryz.prog 21 := Zca (by kernel_rfl)
theorem one_sers : OneT Tryz.prog 22 := Zca (by kernel_rfl)
theorem one_LEta : OneT Tryz.prog 23 := Zca (by kernel_rfl)
theorem one_LBinding : OneT Tryz.prog 24 := Zca (by kernel_rfl)
theorem one_LCertificate : OneT Tryz.prog 25 := Zca (by kernel_rfl)
theorem one_LFormSpace : OneT Tryz.prog 26 := Zca (by kernel_rfl)
theorem one_LMatrix : OneT Tryz.prog 27 := Zca (by kernel_rfl)
theorem one_Luint8 : OneT Tryz.prog 32 := Zca (by kernel_rfl)
theorem one_errno : OneT Tryz.prog 33 := Zca (by kernel_rfl)
theorem one_rats : OneT Tryz.prog 47 := Zca (by kernel_rfl)
theorem one_u32s : OneT Tryz.prog 50 := Zca (by kernel_rfl)
theorem one_ints : OneT Tryz.prog 56 := Zca (by kernel_rfl)
theorem one_LExpr : OneT Tryz.prog 57 := Zca (by kernel_rfl)
theorem one_u32 : OneT Tryz.prog 95 := Zca (by kernel_rfl)
theorem one_uint : OneT Tryz.prog 98 := Zca (by kernel_rfl)
theorem one_u64 : OneT Tryz.prog 103 := Zca (by kernel_rfl)
theorem agg_Package : AggT Tryz.prog 29 6 := Zdd (by kernel_rfl)
theorem fld_Package0 : Za5 Tryz.prog 29 0 0 := Zap (by kernel_rfl)
theorem fld_Package1 : Za5 Tryz.prog 29 1 1 := Zap (by kernel_rfl)
theorem fld_Package2 : Za5 Tryz.prog 29 2 2 := Zap (by kernel_rfl)
theorem fld_Package3 : Za5 Tryz.prog 29 3 3 := Zap (by kernel_rfl)
theorem fld_Package4 : Za5 Tryz.prog 29 4 4 := Zap (by kernel_rfl)
theorem fld_Package5 : Za5 Tryz.prog 29 5 5 := Zap (by kernel_rfl)
theorem zero_Package : Ze8 Tryz.prog 29 zPackage := Zcl (v := .agg #[.slice none 0 0, .slice none 0 0, .slice none 0 0, .slice none 0 0, .slice none 0 0, .slice none 0 0]) (by kernel_rfl) rfl
theorem bld_Package : Zdk Tryz.prog 29 zPackage [(0, 1), (1, 1), (2, 1), (3, 1), (4, 1), (5, 1)] := Zcb (v := .agg #[.slice none 0 0, .slice none 0 0, .slice none 0 0, .slice none 0 0, .slice none 0 0, .slice none 0 0]) (Tryz.underlying29) (by kernel_rfl) rfl (fun w => by kernel_rfl)
theorem agg_ser : AggT Tryz.prog 49 2 := Zdd (by kernel_rfl)
theorem fld_ser0 : Za5 Tryz.prog 49 0 0 := Zap (by kernel_rfl)
theorem fld_ser1 : Za5 Tryz.prog 49 1 1 := Zap (by kernel_rfl)
theorem zero_ser : Ze8 Tryz.prog 49 zS := Zcl (v := .agg #[.int .i64 0, .slice none 0 0]) (by kernel_rfl) rfl
theorem bld_ser : Zdk Tryz.prog 49 zS [(0, 1), (1, 1)] := Zcb (v := .agg #[.int .i64 0, .slice none 0 0]) (Tryz.underlying49) (by kernel_rfl) rfl (fun w => by kernel_rfl)
theorem Zce : AggT Tryz.prog 52 2 := Zdd (by kernel_rfl)
theorem fld_int0 : Za5 Tryz.prog 52 0 0 := Zap (by kernel_rfl)
theorem fld_int1 : Za5 Tryz.prog 52 1 1 := Zap (by kernel_rfl)
theorem zero_int : Ze8 Tryz.prog 52 zI := Zcl (v := .agg #[.bool false, .slice none 0 0]) (by kernel_rfl) rfl
theorem bld_int : Zdk Tryz.prog 52 zI [(0, 1), (1, 1)] := Zcb (v := .agg #[.bool false, .slice none 0 0]) (Tryz.underlying52) (by kernel_rfl) rfl (fun w => by kernel_rfl)
theorem Zgt : AggT Tryz.prog 54 4 := Zdd (by kernel_rfl)
theorem fld_rat0 : Za5 Tryz.prog 54 0 0 := Zap (by kernel_rfl)
theorem fld_rat1 : Za5 Tryz.prog 54 1 2 := Zap (by kernel_rfl)
theorem zero_rat : Ze8 Tryz.prog 54 zQ := Zcl (v := .agg #[.bool false, .slice none 0 0, .bool false, .slice none 0 0]) (by kernel_rfl) rfl
theorem bld_rat : Zdk Tryz.prog 54 zQ [(0, 2), (2, 2)] := Zcb (v := .agg #[.bool false, .slice none 0 0, .bool false, .slice none 0 0]) (Tryz.underlying54) (by kernel_rfl) rfl (fun w => by kernel_rfl)
theorem agg_Expr : AggT Tryz.prog 59 8 := Zdd (by kernel_rfl)
theorem fld_Expr0 : Za5 Tryz.prog 59 0 0 := Zap (by kernel_rfl)
theorem fld_Expr1 : Za5 Tryz.prog 59 1 1 := Zap (by kernel_rfl)
theorem fld_Expr2 : Za5 Tryz.prog 59 2 2 := Zap (by kernel_rfl)
theorem fld_Expr3 : Za5 Tryz.prog 59 3 6 := Zap (by kernel_rfl)
theorem fld_Expr4 : Za5 Tryz.prog 59 4 7 := Zap (by kernel_rfl)
theorem zero_Expr : Ze8 Tryz.prog 59 zExpr := Zcl (v := .agg #[.int .i64 0, .slice none 0 0, .bool false, .slice none 0 0, .bool false, .slice none 0 0, .string ⟨#[]⟩, .slice none 0 0]) (by kernel_rfl) rfl
theorem bld_Expr : Zdk Tryz.prog 59 zExpr [(0, 1), (1, 1), (2, 4), (6, 1), (7, 1)] := Zcb (v := .agg #[.int .i64 0, .slice none 0 0, .bool false, .slice none 0 0, .bool false, .slice none 0 0, .string ⟨#[]⟩, .slice none 0 0]) (Tryz.underlying59) (by kernel_rfl) rfl (fun w => by kernel_rfl)
theorem agg_Binding : AggT Tryz.prog 61 9 := Zdd (by kernel_rfl)
theorem fld_Binding0 : Za5 Tryz.prog 61 0 0 := Zap (by kernel_rfl)
theorem fld_Binding1 : Za5 Tryz.prog 61 1 1 := Zap (by kernel_rfl)
theorem zero_Binding : Ze8 Tryz.prog 61 zBinding := Zcl (v := .agg #[.string ⟨#[]⟩, .int .i64 0, .slice none 0 0, .bool false, .slice none 0 0, .bool false, .slice none 0 0, .string ⟨#[]⟩, .slice none 0 0]) (by kernel_rfl) rfl
theorem bld_Binding : Zdk Tryz.prog 61 zBinding [(0, 1), (1, 8)] := Zcb (v := .agg #[.string ⟨#[]⟩, .int .i64 0, .slice none 0 0, .bool false, .slice none 0 0, .bool false, .slice none 0 0, .string ⟨#[]⟩, .slice none 0 0]) (Tryz.underlying61) (by kernel_rfl) rfl (fun w => by kernel_rfl)
theorem agg_Matrix : AggT Tryz.prog 63 3 := Zdd (by kernel_rfl)
theorem fld_Matrix0 : Za5 Tryz.prog 63 0 0 := Zap (by kernel_rfl)
theorem fld_Matrix1 : Za5 Tryz.prog 63 1 1 := Zap (by kernel_rfl)
theorem fld_Matrix2 : Za5 Tryz.prog 63 2 2 := Zap (by kernel_rfl)
theorem zero_Matrix : Ze8 Tryz.prog 63 zMatrix := Zcl (v := .agg #[.int .i64 0, .int .i64 0, .slice none 0 0]) (by kernel_rfl) rfl
theorem bld_Matrix : Zdk Tryz.prog 63 zMatrix [(0, 1), (1, 1), (2, 1)] := Zcb (v := .agg #[.int .i64 0, .int .i64 0, .slice none 0 0]) (Tryz.underlying63) (by kernel_rfl) rfl (fun w => by kernel_rfl)
theorem agg_Eta : AggT Tryz.prog 67 2 := Zdd (by kernel_rfl)
theorem fld_Eta0 : Za5 Tryz.prog 67 0 0 := Zap (by kernel_rfl)
theorem fld_Eta1 : Za5 Tryz.prog 67 1 1 := Zap (by kernel_rfl)
theorem zero_Eta : Ze8 Tryz.prog 67 zEta := Zcl (v := .agg #[.int .i64 0, .slice none 0 0]) (by kernel_rfl) rfl
theorem bld_Eta : Zdk Tryz.prog 67 zEta [(0, 1), (1, 1)] := Zcb (v := .agg #[.int .i64 0, .slice none 0 0]) (Tryz.underlying67) (by kernel_rfl) rfl (fun w => by kernel_rfl)
theorem agg_Spec : AggT Tryz.prog 69 3 := Zdd (by kernel_rfl)
theorem fld_Spec0 : Za5 Tryz.prog 69 0 0 := Zap (by kernel_rfl)
theorem fld_Spec1 : Za5 Tryz.prog 69 1 1 := Zap (by kernel_rfl)
theorem fld_Spec2 : Za5 Tryz.prog 69 2 2 := Zap (by kernel_rfl)
theorem zero_Spec : Ze8 Tryz.prog 69 zSpec := Zcl (v := .agg #[.int .i64 0, .int .i64 0, .int .i64 0]) (by kernel_rfl) rfl
theorem bld_Spec : Zdk Tryz.prog 69 zSpec [(0, 1), (1, 1), (2, 1)] := Zcb (v := .agg #[.int .i64 0, .int .i64 0, .int .i64 0]) (Tryz.underlying69) (by kernel_rfl) rfl (fun w => by kernel_rfl)
theorem agg_FormSpace : AggT Tryz.prog 71 5 := Zdd (by kernel_rfl)
theorem fld_FormSpace0 : Za5 Tryz.prog 71 0 0 := Zap (by kernel_rfl)
theorem fld_FormSpace1 : Za5 Tryz.prog 71 1 3 := Zap (by kernel_rfl)
theorem fld_FormSpace2 : Za5 Tryz.prog 71 2 4 := Zap (by kernel_rfl)
theorem zero_FormSpace : Ze8 Tryz.prog 71 zFormSpace := Zcl (v := .agg #[.int .i64 0, .int .i64 0, .int .i64 0, .int .i64 0, .slice none 0 0]) (by kernel_rfl) rfl
theorem bld_FormSpace : Zdk Tryz.prog 71 zFormSpace [(0, 3), (3, 1), (4, 1)] := Zcb (v := .agg #[.int .i64 0, .int .i64 0, .int .i64 0, .int .i64 0, .slice none 0 0]) (Tryz.underlying71) (by kernel_rfl) rfl (fun w => by kernel_rfl)
theorem agg_FormKind : AggT Tryz.prog 73 5 := Zdd (by kernel_rfl)
theorem fld_FormKind0 : Za5 Tryz.prog 73 0 0 := Zap (by kernel_rfl)
theorem fld_FormKind1 : Za5 Tryz.prog 73 1 1 := Zap (by kernel_rfl)
theorem fld_FormKind2 : Za5 Tryz.prog 73 2 2 := Zap (by kernel_rfl)
theorem fld_FormKind3 : Za5 Tryz.prog 73 3 3 := Zap (by kernel_rfl)
theorem fld_FormKind4 : Za5 Tryz.prog 73 4 4 := Zap (by kernel_rfl)
theorem zero_FormKind : Ze8 Tryz.prog 73 zFormKind := Zcl (v := .agg #[.int .i64 0, .int .i64 0, .int .i64 0, .int .i64 0, .bool false]) (by kernel_rfl) rfl
theorem bld_FormKind : Zdk Tryz.prog 73 zFormKind [(0, 1), (1, 1), (2, 1), (3, 1), (4, 1)] := Zcb (v := .agg #[.int .i64 0, .int .i64 0, .int .i64 0, .int .i64 0, .bool false]) (Tryz.underlying73) (by kernel_rfl) rfl (fun w => by kernel_rfl)
theorem agg_Certificate : AggT Tryz.prog 75 25 := Zdd (by kernel_rfl)
theorem fld_Certificate0 : Za5 Tryz.prog 75 0 0 := Zap (by kernel_rfl)
theorem fld_Certificate1 : Za5 Tryz.prog 75 1 8 := Zap (by kernel_rfl)
theorem fld_Certificate2 : Za5 Tryz.prog 75 2 16 := Zap (by kernel_rfl)
theorem fld_Certificate3 : Za5 Tryz.prog 75 3 17 := Zap (by kernel_rfl)
theorem fld_Certificate4 : Za5 Tryz.prog 75 4 22 := Zap (by kernel_rfl)
theorem fld_Certificate5 : Za5 Tryz.prog 75 5 23 := Zap (by kernel_rfl)
theorem zero_Certificate : Ze8 Tryz.prog 75 zCertificate := Zcl (v := .agg #[.int .i64 0, .slice none 0 0, .bool false, .slice none 0 0, .bool false, .slice none 0 0, .string ⟨#[]⟩, .slice none 0 0, .int .i64 0, .slice none 0 0, .bool false, .slice none 0 0, .bool false, .slice none 0 0, .string ⟨#[]⟩, .slice none 0 0, .slice none 0 0, .int .i64 0, .int .i64 0, .int .i64 0, .int .i64 0, .bool false, .int .i64 0, .int .i64 0, .slice none 0 0]) (by kernel_rfl) rfl
theorem bld_Certificate : Zdk Tryz.prog 75 zCertificate [(0, 8), (8, 8), (16, 1), (17, 5), (22, 1), (23, 2)] := Zcb (v := .agg #[.int .i64 0, .slice none 0 0, .bool false, .slice none 0 0, .bool false, .slice none 0 0, .string ⟨#[]⟩, .slice none 0 0, .int .i64 0, .slice none 0 0, .bool false, .slice none 0 0, .bool false, .slice none 0 0, .string ⟨#[]⟩, .slice none 0 0, .slice none 0 0, .int .i64 0, .int .i64 0, .int .i64 0, .int .i64 0, .bool false, .int .i64 0, .int .i64 0, .slice none 0 0]) (Tryz.underlying75) (by kernel_rfl) rfl (fun w => by kernel_rfl)
theorem Zf8 : AggT Tryz.prog 82 2 := Zdd (by kernel_rfl)
theorem Zfp : Za5 Tryz.prog 82 0 0 := Zap (by kernel_rfl)
theorem Zfo : Za5 Tryz.prog 82 1 1 := Zap (by kernel_rfl)
theorem Zfm : Ze8 Tryz.prog 82 zinterchangewriter := Zcl (v := .agg #[.slice none 0 0, .bool false]) (by kernel_rfl) rfl
theorem Zf6 : Zdk Tryz.prog 82 zinterchangewriter [(0, 1), (1, 1)] := Zcb (v := .agg #[.slice none 0 0, .bool false]) (Tryz.underlying82) (by kernel_rfl) rfl (fun w => by kernel_rfl)
theorem Zf9 : AggT Tryz.prog 123 3 := Zdd (by kernel_rfl)
theorem Zfs : Za5 Tryz.prog 123 0 0 := Zap (by kernel_rfl)
theorem Zfr : Za5 Tryz.prog 123 1 1 := Zap (by kernel_rfl)
theorem Zfq : Za5 Tryz.prog 123 2 2 := Zap (by kernel_rfl)
theorem Zfn : Ze8 Tryz.prog 123 zinterchangereader := Zcl (v := .agg #[.slice none 0 0, .bool false, .int .i64 0]) (by kernel_rfl) rfl
theorem Zf7 : Zdk Tryz.prog 123 zinterchangereader [(0, 1), (1, 1), (2, 1)] := Zcb (v := .agg #[.slice none 0 0, .bool false, .int .i64 0]) (Tryz.underlying123) (by kernel_rfl) rfl (fun w => by kernel_rfl)
theorem Ze7 : AggT Tryz.prog 139 3 := Zdd (by kernel_rfl)
theorem Zet : Za5 Tryz.prog 139 0 0 := Zap (by kernel_rfl)
theorem Zes : Za5 Tryz.prog 139 1 1 := Zap (by kernel_rfl)
theorem Zer : Za5 Tryz.prog 139 2 2 := Zap (by kernel_rfl)
theorem Zeq : Ze8 Tryz.prog 139 zhalfplaneref59reader := Zcl (v := .agg #[.slice none 0 0, .int .i64 0, .bool false]) (by kernel_rfl) rfl
theorem Ze4 : Zdk Tryz.prog 139 zhalfplaneref59reader [(0, 1), (1, 1), (2, 1)] := Zcb (v := .agg #[.slice none 0 0, .int .i64 0, .bool false]) (Tryz.underlying139) (by kernel_rfl) rfl (fun w => by kernel_rfl)
theorem make_sers : Zek Tryz.prog 22 49 2 32 [.int .i64 0, .slice none 0 0] := Zdo (v := .agg #[.int .i64 0, .slice none 0 0]) (by kernel_rfl) (by kernel_rfl) rfl rfl
theorem make_LEta : Zek Tryz.prog 23 67 2 32 [.int .i64 0, .slice none 0 0] := Zdo (v := .agg #[.int .i64 0, .slice none 0 0]) (by kernel_rfl) (by kernel_rfl) rfl rfl
theorem make_LBinding : Zek Tryz.prog 24 61 9 152 [.string ⟨#[]⟩, .int .i64 0, .slice none 0 0, .bool false, .slice none 0 0, .bool false, .slice none 0 0, .string ⟨#[]⟩, .slice none 0 0] := Zdo (v := .agg #[.string ⟨#[]⟩, .int .i64 0, .slice none 0 0, .bool false, .slice none 0 0, .bool false, .slice none 0 0, .string ⟨#[]⟩, .slice none 0 0]) (by kernel_rfl) (by kernel_rfl) rfl rfl
theorem make_LCertificate : Zek Tryz.prog 25 75 25 376 [.int .i64 0, .slice none 0 0, .bool false, .slice none 0 0, .bool false, .slice none 0 0, .string ⟨#[]⟩, .slice none 0 0, .int .i64 0, .slice none 0 0, .bool false, .slice none 0 0, .bool false, .slice none 0 0, .string ⟨#[]⟩, .slice none 0 0, .slice none 0 0, .int .i64 0, .int .i64 0, .int .i64 0, .int .i64 0, .bool false, .int .i64 0, .int .i64 0, .slice none 0 0] := Zdo (v := .agg #[.int .i64 0, .slice none 0 0, .bool false, .slice none 0 0, .bool false, .slice none 0 0, .string ⟨#[]⟩, .slice none 0 0, .int .i64 0, .slice none 0 0, .bool false, .slice none 0 0, .bool false, .slice none 0 0, .string ⟨#[]⟩, .slice none 0 0, .slice none 0 0, .int .i64 0, .int .i64 0, .int .i64 0, .int .i64 0, .bool false, .int .i64 0, .int .i64 0, .slice none 0 0]) (by kernel_rfl) (by kernel_rfl) rfl rfl
theorem make_LFormSpace : Zek Tryz.prog 26 71 5 56 [.int .i64 0, .int .i64 0, .int .i64 0, .int .i64 0, .slice none 0 0] := Zdo (v := .agg #[.int .i64 0, .int .i64 0, .int .i64 0, .int .i64 0, .slice none 0 0]) (by kernel_rfl) (by kernel_rfl) rfl rfl
theorem make_LMatrix : Zek Tryz.prog 27 63 3 40 [.int .i64 0, .int .i64 0, .slice none 0 0] := Zdo (v := .agg #[.int .i64 0, .int .i64 0, .slice none 0 0]) (by kernel_rfl) (by kernel_rfl) rfl rfl
theorem make_Luint8 : Zek Tryz.prog 32 5 1 1 [.int .u8 0] := Zdo (v := .int .u8 0) (by kernel_rfl) (by kernel_rfl) rfl rfl
theorem make_rats : Zek Tryz.prog 47 54 4 64 [.bool false, .slice none 0 0, .bool false, .slice none 0 0] := Zdo (v := .agg #[.bool false, .slice none 0 0, .bool false, .slice none 0 0]) (by kernel_rfl) (by kernel_rfl) rfl rfl
theorem make_u32s : Zek Tryz.prog 50 95 1 4 [.int .u32 0] := Zdo (v := .int .u32 0) (by kernel_rfl) (by kernel_rfl) rfl rfl
theorem make_ints : Zek Tryz.prog 56 3 1 8 [.int .i64 0] := Zdo (v := .int .i64 0) (by kernel_rfl) (by kernel_rfl) rfl rfl
theorem make_LExpr : Zek Tryz.prog 57 59 8 136 [.int .i64 0, .slice none 0 0, .bool false, .slice none 0 0, .bool false, .slice none 0 0, .string ⟨#[]⟩, .slice none 0 0] := Zdo (v := .agg #[.int .i64 0, .slice none 0 0, .bool false, .slice none 0 0, .bool false, .slice none 0 0, .string ⟨#[]⟩, .slice none 0 0]) (by kernel_rfl) (by kernel_rfl) rfl rfl
theorem und_bool : Tryz.prog.underlying 4 = some .bool := by kernel_rfl
theorem und_int64 : Tryz.prog.underlying 2 = some (.int .i64) := by kernel_rfl
theorem und_int : Tryz.prog.underlying 3 = some (.int .i64) := by kernel_rfl
theorem Za3 : Tryz.prog.underlying 5 = some (.int .u8) := by kernel_rfl
theorem und_uintptr : Tryz.prog.underlying 12 = some (.int .u64) := by kernel_rfl
theorem und_int32 : Tryz.prog.underlying 21 = some (.int .i32) := by kernel_rfl
theorem und_errno : Tryz.prog.underlying 33 = some (.int .i64) := by kernel_rfl
theorem Za2 : Tryz.prog.underlying 95 = some (.int .u32) := by kernel_rfl
theorem und_uint : Tryz.prog.underlying 98 = some (.int .u64) := by kernel_rfl
theorem Za0 : Tryz.prog.underlying 103 = some (.int .u64) := by kernel_rfl
theorem mixed : Tryz.prog.follows .mixedOrders = true := by kernel_rfl
def oneTab (t : TypeId) : Bool := t == 2 || t == 3 || t == 4 || t == 5 || t == 9 || t == 12 || t == 21 || t == 22 || t == 23 || t == 24 || t == 25 || t == 26 || t == 27 || t == 32 || t == 33 || t == 47 || t == 50 || t == 56 || t == 57 || t == 95 || t == 98 || t == 103
theorem Za8 {t : TypeId} (h : oneTab t = true) : OneT Tryz.prog t := by
 simp only [oneTab, Bool.or_eq_true, beq_iff_eq] at h
 rcases h with ((((((((((((((((((((rfl | rfl) | rfl) | rfl) | rfl) | rfl) | rfl) | rfl) | rfl) | rfl) | rfl) | rfl) | rfl) | rfl) | rfl) | rfl) | rfl) | rfl) | rfl) | rfl) | rfl) | rfl
 ·exact one_int64
 ·exact one_int
 ·exact one_bool
 ·exact one_u8
 ·exact one_string
 ·exact one_uintptr
 ·exact one_int32
 ·exact one_sers
 ·exact one_LEta
 ·exact one_LBinding
 ·exact one_LCertificate
 ·exact one_LFormSpace
 ·exact one_LMatrix
 ·exact one_Luint8
 ·exact one_errno
 ·exact one_rats
 ·exact one_u32s
 ·exact one_ints
 ·exact one_LExpr
 ·exact one_u32
 ·exact one_uint
 ·exact one_u64
def aggTab (t : TypeId) : Option Nat := if t == 29 then some 6 else if t == 49 then some 2 else if t == 52 then some 2 else if t == 54 then some 4 else if t == 59 then some 8 else if t == 61 then some 9 else if t == 63 then some 3 else if t == 67 then some 2 else if t == 69 then some 3 else if t == 71 then some 5 else if t == 73 then some 5 else if t == 75 then some 25 else if t == 82 then some 2 else if t == 123 then some 3 else if t == 139 then some 3 else none
theorem Za1 {t : TypeId} {n : Nat} (h : aggTab t = some n) : AggT Tryz.prog t n := by
 unfold aggTab at h
 rcases Zam h with ⟨e, h⟩ | ⟨-, h⟩
 ·rw [beq_iff_eq] at e; subst e; cases h; exact agg_Package
 rcases Zam h with ⟨e, h⟩ | ⟨-, h⟩
 ·rw [beq_iff_eq] at e; subst e; cases h; exact agg_ser
 rcases Zam h with ⟨e, h⟩ | ⟨-, h⟩
 ·rw [beq_iff_eq] at e; subst e; cases h; exact Zce
 rcases Zam h with ⟨e, h⟩ | ⟨-, h⟩
 ·rw [beq_iff_eq] at e; subst e; cases h; exact Zgt
 rcases Zam h with ⟨e, h⟩ | ⟨-, h⟩
 ·rw [beq_iff_eq] at e; subst e; cases h; exact agg_Expr
 rcases Zam h with ⟨e, h⟩ | ⟨-, h⟩
 ·rw [beq_iff_eq] at e; subst e; cases h; exact agg_Binding
 rcases Zam h with ⟨e, h⟩ | ⟨-, h⟩
 ·rw [beq_iff_eq] at e; subst e; cases h; exact agg_Matrix
 rcases Zam h with ⟨e, h⟩ | ⟨-, h⟩
 ·rw [beq_iff_eq] at e; subst e; cases h; exact agg_Eta
 rcases Zam h with ⟨e, h⟩ | ⟨-, h⟩
 ·rw [beq_iff_eq] at e; subst e; cases h; exact agg_Spec
 rcases Zam h with ⟨e, h⟩ | ⟨-, h⟩
 ·rw [beq_iff_eq] at e; subst e; cases h; exact agg_FormSpace
 rcases Zam h with ⟨e, h⟩ | ⟨-, h⟩
 ·rw [beq_iff_eq] at e; subst e; cases h; exact agg_FormKind
 rcases Zam h with ⟨e, h⟩ | ⟨-, h⟩
 ·rw [beq_iff_eq] at e; subst e; cases h; exact agg_Certificate
 rcases Zam h with ⟨e, h⟩ | ⟨-, h⟩
 ·rw [beq_iff_eq] at e; subst e; cases h; exact Zf8
 rcases Zam h with ⟨e, h⟩ | ⟨-, h⟩
 ·rw [beq_iff_eq] at e; subst e; cases h; exact Zf9
 rcases Zam h with ⟨e, h⟩ | ⟨-, h⟩
 ·rw [beq_iff_eq] at e; subst e; cases h; exact Ze7
 ·cases h
def arrTab (t : TypeId) : Option Nat := none
theorem arr_tab {t : TypeId} {n : Nat} (h : arrTab t = some n) : SizeT Tryz.prog t n := by
 unfold arrTab at h
 cases h
def sizeTab (t : TypeId) : Option Nat := match aggTab t with | some n => some n | none => match arrTab t with | some n => some n | none => bif oneTab t then some 1 else none
theorem Zcg {t : TypeId} {n : Nat} (h : sizeTab t = some n) : SizeT Tryz.prog t n := by
  unfold sizeTab at h
  cases ha : aggTab t with
  | some m =>
    rw [ha] at h; injection h with h; subst h
    obtain ⟨fs, i, -, h2, h3⟩ := Za1 ha
    exact ⟨i, h2, h3⟩
  | none =>
    rw [ha] at h
    cases hr : arrTab t with
    | some m =>
      rw [hr] at h; injection h with h; subst h
      exact arr_tab hr
    | none =>
      rw [hr] at h
      cases ho : oneTab t with
      | false => simp [ho] at h
      | true =>
        simp [ho] at h; subst h
        obtain ⟨d, i, -, -, h3, h4⟩ := Za8 ho
        exact ⟨i, h3, h4⟩
def fieldTab (t : TypeId) (f : Nat) : Option Nat :=
 if t == 29 then (match f with | 0 => some 0 | 1 => some 1 | 2 => some 2 | 3 => some 3 | 4 => some 4 | 5 => some 5 | _ => none) else if t == 49 then (match f with | 0 => some 0 | 1 => some 1 | _ => none) else if t == 52 then (match f with | 0 => some 0 | 1 => some 1 | _ => none) else if t == 54 then (match f with | 0 => some 0 | 1 => some 2 | _ => none) else if t == 59 then (match f with | 0 => some 0 | 1 => some 1 | 2 => some 2 | 3 => some 6 | 4 => some 7 | _ => none) else if t == 61 then (match f with | 0 => some 0 | 1 => some 1 | _ => none) else if t == 63 then (match f with | 0 => some 0 | 1 => some 1 | 2 => some 2 | _ => none) else if t == 67 then (match f with | 0 => some 0 | 1 => some 1 | _ => none) else if t == 69 then (match f with | 0 => some 0 | 1 => some 1 | 2 => some 2 | _ => none) else if t == 71 then (match f with | 0 => some 0 | 1 => some 3 | 2 => some 4 | _ => none) else if t == 73 then (match f with | 0 => some 0 | 1 => some 1 | 2 => some 2 | 3 => some 3 | 4 => some 4 | _ => none) else if t == 75 then (match f with | 0 => some 0 | 1 => some 8 | 2 => some 16 | 3 => some 17 | 4 => some 22 | 5 => some 23 | _ => none) else if t == 82 then (match f with | 0 => some 0 | 1 => some 1 | _ => none) else if t == 123 then (match f with | 0 => some 0 | 1 => some 1 | 2 => some 2 | _ => none) else if t == 139 then (match f with | 0 => some 0 | 1 => some 1 | 2 => some 2 | _ => none) else none
theorem Zan {t : TypeId} {f off : Nat} (h : fieldTab t f = some off) : Za5 Tryz.prog t f off := by
 unfold fieldTab at h
 rcases Zam h with ⟨e, h⟩ | ⟨-, h⟩
 ·rw [beq_iff_eq] at e; subst e
  rcases f with _ | _ | _ | _ | _ | _ | f
  ·injection h with h; subst h; exact fld_Package0
  ·injection h with h; subst h; exact fld_Package1
  ·injection h with h; subst h; exact fld_Package2
  ·injection h with h; subst h; exact fld_Package3
  ·injection h with h; subst h; exact fld_Package4
  ·injection h with h; subst h; exact fld_Package5
  ·cases h
 rcases Zam h with ⟨e, h⟩ | ⟨-, h⟩
 ·rw [beq_iff_eq] at e; subst e
  rcases f with _ | _ | f
  ·injection h with h; subst h; exact fld_ser0
  ·injection h with h; subst h; exact fld_ser1
  ·cases h
 rcases Zam h with ⟨e, h⟩ | ⟨-, h⟩
 ·rw [beq_iff_eq] at e; subst e
  rcases f with _ | _ | f
  ·injection h with h; subst h; exact fld_int0
  ·injection h with h; subst h; exact fld_int1
  ·cases h
 rcases Zam h with ⟨e, h⟩ | ⟨-, h⟩
 ·rw [beq_iff_eq] at e; subst e
  rcases f with _ | _ | f
  ·injection h with h; subst h; exact fld_rat0
  ·injection h with h; subst h; exact fld_rat1
  ·cases h
 rcases Zam h with ⟨e, h⟩ | ⟨-, h⟩
 ·rw [beq_iff_eq] at e; subst e
  rcases f with _ | _ | _ | _ | _ | f
  ·injection h with h; subst h; exact fld_Expr0
  ·injection h with h; subst h; exact fld_Expr1
  ·injection h with h; subst h; exact fld_Expr2
  ·injection h with h; subst h; exact fld_Expr3
  ·injection h with h; subst h; exact fld_Expr4
  ·cases h
 rcases Zam h with ⟨e, h⟩ | ⟨-, h⟩
 ·rw [beq_iff_eq] at e; subst e
  rcases f with _ | _ | f
  ·injection h with h; subst h; exact fld_Binding0
  ·injection h with h; subst h; exact fld_Binding1
  ·cases h
 rcases Zam h with ⟨e, h⟩ | ⟨-, h⟩
 ·rw [beq_iff_eq] at e; subst e
  rcases f with _ | _ | _ | f
  ·injection h with h; subst h; exact fld_Matrix0
  ·injection h with h; subst h; exact fld_Matrix1
  ·injection h with h; subst h; exact fld_Matrix2
  ·cases h
 rcases Zam h with ⟨e, h⟩ | ⟨-, h⟩
 ·rw [beq_iff_eq] at e; subst e
  rcases f with _ | _ | f
  ·injection h with h; subst h; exact fld_Eta0
  ·injection h with h; subst h; exact fld_Eta1
  ·cases h
 rcases Zam h with ⟨e, h⟩ | ⟨-, h⟩
 ·rw [beq_iff_eq] at e; subst e
  rcases f with _ | _ | _ | f
  ·injection h with h; subst h; exact fld_Spec0
  ·injection h with h; subst h; exact fld_Spec1
  ·injection h with h; subst h; exact fld_Spec2
  ·cases h
 rcases Zam h with ⟨e, h⟩ | ⟨-, h⟩
 ·rw [beq_iff_eq] at e; subst e
  rcases f with _ | _ | _ | f
  ·injection h with h; subst h; exact fld_FormSpace0
  ·injection h with h; subst h; exact fld_FormSpace1
  ·injection h with h; subst h; exact fld_FormSpace2
  ·cases h
 rcases Zam h with ⟨e, h⟩ | ⟨-, h⟩
 ·rw [beq_iff_eq] at e; subst e
  rcases f with _ | _ | _ | _ | _ | f
  ·injection h with h; subst h; exact fld_FormKind0
  ·injection h with h; subst h; exact fld_FormKind1
  ·injection h with h; subst h; exact fld_FormKind2
  ·injection h with h; subst h; exact fld_FormKind3
  ·injection h with h; subst h; exact fld_FormKind4
  ·cases h
 rcases Zam h with ⟨e, h⟩ | ⟨-, h⟩
 ·rw [beq_iff_eq] at e; subst e
  rcases f with _ | _ | _ | _ | _ | _ | f
  ·injection h with h; subst h; exact fld_Certificate0
  ·injection h with h; subst h; exact fld_Certificate1
  ·injection h with h; subst h; exact fld_Certificate2
  ·injection h with h; subst h; exact fld_Certificate3
  ·injection h with h; subst h; exact fld_Certificate4
  ·injection h with h; subst h; exact fld_Certificate5
  ·cases h
 rcases Zam h with ⟨e, h⟩ | ⟨-, h⟩
 ·rw [beq_iff_eq] at e; subst e
  rcases f with _ | _ | f
  ·injection h with h; subst h; exact Zfp
  ·injection h with h; subst h; exact Zfo
  ·cases h
 rcases Zam h with ⟨e, h⟩ | ⟨-, h⟩
 ·rw [beq_iff_eq] at e; subst e
  rcases f with _ | _ | _ | f
  ·injection h with h; subst h; exact Zfs
  ·injection h with h; subst h; exact Zfr
  ·injection h with h; subst h; exact Zfq
  ·cases h
 rcases Zam h with ⟨e, h⟩ | ⟨-, h⟩
 ·rw [beq_iff_eq] at e; subst e
  rcases f with _ | _ | _ | f
  ·injection h with h; subst h; exact Zet
  ·injection h with h; subst h; exact Zes
  ·injection h with h; subst h; exact Zer
  ·cases h
 ·cases h
def zeroTab (t : TypeId) : Option (List Value) := if t == 29 then some zPackage else if t == 49 then some zS else if t == 52 then some zI else if t == 54 then some zQ else if t == 59 then some zExpr else if t == 61 then some zBinding else if t == 63 then some zMatrix else if t == 67 then some zEta else if t == 69 then some zSpec else if t == 71 then some zFormSpace else if t == 73 then some zFormKind else if t == 75 then some zCertificate else if t == 82 then some zinterchangewriter else if t == 123 then some zinterchangereader else if t == 139 then some zhalfplaneref59reader else none
theorem Zd7 {t : TypeId} {z : List Value} (h : zeroTab t = some z) : Ze8 Tryz.prog t z := by
 unfold zeroTab at h
 rcases Zam h with ⟨e, h⟩ | ⟨-, h⟩
 ·rw [beq_iff_eq] at e; subst e; cases h; exact zero_Package
 rcases Zam h with ⟨e, h⟩ | ⟨-, h⟩
 ·rw [beq_iff_eq] at e; subst e; cases h; exact zero_ser
 rcases Zam h with ⟨e, h⟩ | ⟨-, h⟩
 ·rw [beq_iff_eq] at e; subst e; cases h; exact zero_int
 rcases Zam h with ⟨e, h⟩ | ⟨-, h⟩
 ·rw [beq_iff_eq] at e; subst e; cases h; exact zero_rat
 rcases Zam h with ⟨e, h⟩ | ⟨-, h⟩
 ·rw [beq_iff_eq] at e; subst e; cases h; exact zero_Expr
 rcases Zam h with ⟨e, h⟩ | ⟨-, h⟩
 ·rw [beq_iff_eq] at e; subst e; cases h; exact zero_Binding
 rcases Zam h with ⟨e, h⟩ | ⟨-, h⟩
 ·rw [beq_iff_eq] at e; subst e; cases h; exact zero_Matrix
 rcases Zam h with ⟨e, h⟩ | ⟨-, h⟩
 ·rw [beq_iff_eq] at e; subst e; cases h; exact zero_Eta
 rcases Zam h with ⟨e, h⟩ | ⟨-, h⟩
 ·rw [beq_iff_eq] at e; subst e; cases h; exact zero_Spec
 rcases Zam h with ⟨e, h⟩ | ⟨-, h⟩
 ·rw [beq_iff_eq] at e; subst e; cases h; exact zero_FormSpace
 rcases Zam h with ⟨e, h⟩ | ⟨-, h⟩
 ·rw [beq_iff_eq] at e; subst e; cases h; exact zero_FormKind
 rcases Zam h with ⟨e, h⟩ | ⟨-, h⟩
 ·rw [beq_iff_eq] at e; subst e; cases h; exact zero_Certificate
 rcases Zam h with ⟨e, h⟩ | ⟨-, h⟩
 ·rw [beq_iff_eq] at e; subst e; cases h; exact Zfm
 rcases Zam h with ⟨e, h⟩ | ⟨-, h⟩
 ·rw [beq_iff_eq] at e; subst e; cases h; exact Zfn
 rcases Zam h with ⟨e, h⟩ | ⟨-, h⟩
 ·rw [beq_iff_eq] at e; subst e; cases h; exact Zeq
 ·cases h
def makeTab (t : TypeId) : Option (TypeId × Nat × Nat × List Value) := if t == 22 then some (49, 2, 32, [.int .i64 0, .slice none 0 0]) else if t == 23 then some (67, 2, 32, [.int .i64 0, .slice none 0 0]) else if t == 24 then some (61, 9, 152, [.string ⟨#[]⟩, .int .i64 0, .slice none 0 0, .bool false, .slice none 0 0, .bool false, .slice none 0 0, .string ⟨#[]⟩, .slice none 0 0]) else if t == 25 then some (75, 25, 376, [.int .i64 0, .slice none 0 0, .bool false, .slice none 0 0, .bool false, .slice none 0 0, .string ⟨#[]⟩, .slice none 0 0, .int .i64 0, .slice none 0 0, .bool false, .slice none 0 0, .bool false, .slice none 0 0, .string ⟨#[]⟩, .slice none 0 0, .slice none 0 0, .int .i64 0, .int .i64 0, .int .i64 0, .int .i64 0, .bool false, .int .i64 0, .int .i64 0, .slice none 0 0]) else if t == 26 then some (71, 5, 56, [.int .i64 0, .int .i64 0, .int .i64 0, .int .i64 0, .slice none 0 0]) else if t == 27 then some (63, 3, 40, [.int .i64 0, .int .i64 0, .slice none 0 0]) else if t == 32 then some (5, 1, 1, [.int .u8 0]) else if t == 47 then some (54, 4, 64, [.bool false, .slice none 0 0, .bool false, .slice none 0 0]) else if t == 50 then some (95, 1, 4, [.int .u32 0]) else if t == 56 then some (3, 1, 8, [.int .i64 0]) else if t == 57 then some (59, 8, 136, [.int .i64 0, .slice none 0 0, .bool false, .slice none 0 0, .bool false, .slice none 0 0, .string ⟨#[]⟩, .slice none 0 0]) else none
theorem Zaf {t : TypeId} {e : TypeId} {n b : Nat} {z : List Value} (h : makeTab t = some (e, n, b, z)) : Zek Tryz.prog t e n b z := by
 unfold makeTab at h
 rcases Zam h with ⟨e, h⟩ | ⟨-, h⟩
 ·rw [beq_iff_eq] at e; subst e; cases h; exact make_sers
 rcases Zam h with ⟨e, h⟩ | ⟨-, h⟩
 ·rw [beq_iff_eq] at e; subst e; cases h; exact make_LEta
 rcases Zam h with ⟨e, h⟩ | ⟨-, h⟩
 ·rw [beq_iff_eq] at e; subst e; cases h; exact make_LBinding
 rcases Zam h with ⟨e, h⟩ | ⟨-, h⟩
 ·rw [beq_iff_eq] at e; subst e; cases h; exact make_LCertificate
 rcases Zam h with ⟨e, h⟩ | ⟨-, h⟩
 ·rw [beq_iff_eq] at e; subst e; cases h; exact make_LFormSpace
 rcases Zam h with ⟨e, h⟩ | ⟨-, h⟩
 ·rw [beq_iff_eq] at e; subst e; cases h; exact make_LMatrix
 rcases Zam h with ⟨e, h⟩ | ⟨-, h⟩
 ·rw [beq_iff_eq] at e; subst e; cases h; exact make_Luint8
 rcases Zam h with ⟨e, h⟩ | ⟨-, h⟩
 ·rw [beq_iff_eq] at e; subst e; cases h; exact make_rats
 rcases Zam h with ⟨e, h⟩ | ⟨-, h⟩
 ·rw [beq_iff_eq] at e; subst e; cases h; exact make_u32s
 rcases Zam h with ⟨e, h⟩ | ⟨-, h⟩
 ·rw [beq_iff_eq] at e; subst e; cases h; exact make_ints
 rcases Zam h with ⟨e, h⟩ | ⟨-, h⟩
 ·rw [beq_iff_eq] at e; subst e; cases h; exact make_LExpr
 ·cases h
theorem Zac {t e : TypeId} {n b : Nat} {z : List Value} (h : makeTab t = some (e, n, b, z)) : ElemT Tryz.prog t e n := by
 obtain ⟨h1, i, v, h2, h3, -⟩ := Zaf h
 exact ⟨h1, i, h2, h3⟩
theorem Zby {t e : TypeId} {n b : Nat} {z : List Value} (h : makeTab t = some (e, n, b, z)) : Tryz.prog.underlying t = some (.slice e) := (Zaf h).1
def buildTab (t : TypeId) : Option (List Value × List (Nat × Nat)) := if t == 29 then some (zPackage, [(0, 1), (1, 1), (2, 1), (3, 1), (4, 1), (5, 1)]) else if t == 49 then some (zS, [(0, 1), (1, 1)]) else if t == 52 then some (zI, [(0, 1), (1, 1)]) else if t == 54 then some (zQ, [(0, 2), (2, 2)]) else if t == 59 then some (zExpr, [(0, 1), (1, 1), (2, 4), (6, 1), (7, 1)]) else if t == 61 then some (zBinding, [(0, 1), (1, 8)]) else if t == 63 then some (zMatrix, [(0, 1), (1, 1), (2, 1)]) else if t == 67 then some (zEta, [(0, 1), (1, 1)]) else if t == 69 then some (zSpec, [(0, 1), (1, 1), (2, 1)]) else if t == 71 then some (zFormSpace, [(0, 3), (3, 1), (4, 1)]) else if t == 73 then some (zFormKind, [(0, 1), (1, 1), (2, 1), (3, 1), (4, 1)]) else if t == 75 then some (zCertificate, [(0, 8), (8, 8), (16, 1), (17, 5), (22, 1), (23, 2)]) else if t == 82 then some (zinterchangewriter, [(0, 1), (1, 1)]) else if t == 123 then some (zinterchangereader, [(0, 1), (1, 1), (2, 1)]) else if t == 139 then some (zhalfplaneref59reader, [(0, 1), (1, 1), (2, 1)]) else none
theorem Zb0 {t : TypeId} {z : List Value} {pl : List (Nat × Nat)} (h : buildTab t = some (z, pl)) : Zdk Tryz.prog t z pl := by
 unfold buildTab at h
 rcases Zam h with ⟨e, h⟩ | ⟨-, h⟩
 ·rw [beq_iff_eq] at e; subst e; cases h; exact bld_Package
 rcases Zam h with ⟨e, h⟩ | ⟨-, h⟩
 ·rw [beq_iff_eq] at e; subst e; cases h; exact bld_ser
 rcases Zam h with ⟨e, h⟩ | ⟨-, h⟩
 ·rw [beq_iff_eq] at e; subst e; cases h; exact bld_int
 rcases Zam h with ⟨e, h⟩ | ⟨-, h⟩
 ·rw [beq_iff_eq] at e; subst e; cases h; exact bld_rat
 rcases Zam h with ⟨e, h⟩ | ⟨-, h⟩
 ·rw [beq_iff_eq] at e; subst e; cases h; exact bld_Expr
 rcases Zam h with ⟨e, h⟩ | ⟨-, h⟩
 ·rw [beq_iff_eq] at e; subst e; cases h; exact bld_Binding
 rcases Zam h with ⟨e, h⟩ | ⟨-, h⟩
 ·rw [beq_iff_eq] at e; subst e; cases h; exact bld_Matrix
 rcases Zam h with ⟨e, h⟩ | ⟨-, h⟩
 ·rw [beq_iff_eq] at e; subst e; cases h; exact bld_Eta
 rcases Zam h with ⟨e, h⟩ | ⟨-, h⟩
 ·rw [beq_iff_eq] at e; subst e; cases h; exact bld_Spec
 rcases Zam h with ⟨e, h⟩ | ⟨-, h⟩
 ·rw [beq_iff_eq] at e; subst e; cases h; exact bld_FormSpace
 rcases Zam h with ⟨e, h⟩ | ⟨-, h⟩
 ·rw [beq_iff_eq] at e; subst e; cases h; exact bld_FormKind
 rcases Zam h with ⟨e, h⟩ | ⟨-, h⟩
 ·rw [beq_iff_eq] at e; subst e; cases h; exact bld_Certificate
 rcases Zam h with ⟨e, h⟩ | ⟨-, h⟩
 ·rw [beq_iff_eq] at e; subst e; cases h; exact Zf6
 rcases Zam h with ⟨e, h⟩ | ⟨-, h⟩
 ·rw [beq_iff_eq] at e; subst e; cases h; exact Zf7
 rcases Zam h with ⟨e, h⟩ | ⟨-, h⟩
 ·rw [beq_iff_eq] at e; subst e; cases h; exact Ze4
 ·cases h
def intTab (t : TypeId) : Option IntKind := if t == 2 then some .i64 else if t == 3 then some .i64 else if t == 5 then some .u8 else if t == 12 then some .u64 else if t == 21 then some .i32 else if t == 33 then some .i64 else if t == 95 then some .u32 else if t == 98 then some .u64 else if t == 103 then some .u64 else none
theorem Zbh {t : TypeId} {k : IntKind} (h : intTab t = some k) : Tryz.prog.underlying t = some (.int k) := by
 unfold intTab at h
 rcases Zam h with ⟨e, h⟩ | ⟨-, h⟩
 ·rw [beq_iff_eq] at e; subst e; cases h; exact und_int64
 rcases Zam h with ⟨e, h⟩ | ⟨-, h⟩
 ·rw [beq_iff_eq] at e; subst e; cases h; exact und_int
 rcases Zam h with ⟨e, h⟩ | ⟨-, h⟩
 ·rw [beq_iff_eq] at e; subst e; cases h; exact Za3
 rcases Zam h with ⟨e, h⟩ | ⟨-, h⟩
 ·rw [beq_iff_eq] at e; subst e; cases h; exact und_uintptr
 rcases Zam h with ⟨e, h⟩ | ⟨-, h⟩
 ·rw [beq_iff_eq] at e; subst e; cases h; exact und_int32
 rcases Zam h with ⟨e, h⟩ | ⟨-, h⟩
 ·rw [beq_iff_eq] at e; subst e; cases h; exact und_errno
 rcases Zam h with ⟨e, h⟩ | ⟨-, h⟩
 ·rw [beq_iff_eq] at e; subst e; cases h; exact Za2
 rcases Zam h with ⟨e, h⟩ | ⟨-, h⟩
 ·rw [beq_iff_eq] at e; subst e; cases h; exact und_uint
 rcases Zam h with ⟨e, h⟩ | ⟨-, h⟩
 ·rw [beq_iff_eq] at e; subst e; cases h; exact Za0
 ·cases h
end Ab
namespace Ab
variable {dm mc : Bool}
open Go Go.RowKit Go.Proofs
def inbB (s : AS) : Option Tmp → Bool
 | some d => Nat.blt d s.nt
 | none => true
theorem Zaa {s : AS} {d : Option Tmp} (h : inbB s d = true) : InB s d := by
 cases d with
 | none => trivial
 | some d => simpa [inbB, InB] using h
section
variable {P : Program} {ops : Array Oper} {r : List Oper} {s : AS} {K : AS → Prop} {dst : Option Tmp} {op : Op} {ty : TypeId} {pos : String} {after : Array Edge} {x : TV} {e : Eff}
theorem Zbs (h : K s) : EvX dm mc P ops [] s K := h
theorem ev0 (h : Zbg dm P ops ⟨dst, op, ty, pos, after, none⟩ s x e) (k : EvX dm mc P ops r (s.act dst x e) K) : EvX dm mc P ops (⟨dst, op, ty, pos, after, none⟩ :: r) s K := .inl ⟨x, e, h, k⟩
theorem ev1 {j d : Nat} {want b : Bool} (hd : (ops[j]?).bind (·.dst) = some d) (hb : s.t d = some (.v (.p (.bool b)))) (hw : b = want) (h : Zbg dm P ops ⟨dst, op, ty, pos, after, some (j, want)⟩ s x e) (k : EvX dm mc P ops r (s.act dst x e) K) : EvX dm mc P ops (⟨dst, op, ty, pos, after, some (j, want)⟩ :: r) s K := .inl ⟨x, e, ⟨d, b, hd, hb, .inl ⟨hw, h⟩⟩, k⟩
theorem evS {j d : Nat} {want b : Bool} (hd : (ops[j]?).bind (·.dst) = some d) (hb : s.t d = some (.v (.p (.bool b)))) (hw : b ≠ want) (hin : inbB s dst = true) (k : EvX dm mc P ops r (s.act dst (.v (.tup [])) .none) K) : EvX dm mc P ops (⟨dst, op, ty, pos, after, some (j, want)⟩ :: r) s K := .inl ⟨_, _, ⟨d, b, hd, hb, .inr ⟨hw, rfl, rfl, Zaa hin⟩⟩, k⟩
end
section
variable {P : Program} {ops : Array Oper} {r : List Oper} {s : AS} {K : AS → Prop} {dst : Option Tmp} {op : Op} {ty : TypeId} {pos : String} {after : Array Edge} {x : TV} {e : Eff} {g : Option (Nat × Bool)}
def GOK (ops : Array Oper) (s : AS) : Option (Nat × Bool) → Prop
 | none => True
 | some (j, want) => ∃ d b, (ops[j]?).bind (·.dst) = some d ∧ s.t d = some (.v (.p (.bool b))) ∧ b = want
theorem evG (hg : GOK ops s g) (h : Zbg dm P ops ⟨dst, op, ty, pos, after, g⟩ s x e) (k : EvX dm mc P ops r (s.act dst x e) K) : EvX dm mc P ops (⟨dst, op, ty, pos, after, g⟩ :: r) s K := by
  cases g with
  | none => exact ev0 h k
  | some jw =>
    obtain ⟨j, want⟩ := jw
    obtain ⟨d, b, h1, h2, h3⟩ := hg
    exact ev1 h1 h2 h3 h k
theorem evSf {j d : Nat} {b : Bool} (hd : (ops[j]?).bind (·.dst) = some d) (hb : s.t d = some (.v (.p (.bool b)))) (hw : b = false) (hin : inbB s dst = true) (k : EvX dm mc P ops r (s.act dst (.v (.tup [])) .none) K) : EvX dm mc P ops (⟨dst, op, ty, pos, after, some (j, true)⟩ :: r) s K := evS hd hb (by rw [hw]; decide) hin k
theorem evSt {j d : Nat} {b : Bool} (hd : (ops[j]?).bind (·.dst) = some d) (hb : s.t d = some (.v (.p (.bool b)))) (hw : b = true) (hin : inbB s dst = true) (k : EvX dm mc P ops r (s.act dst (.v (.tup [])) .none) K) : EvX dm mc P ops (⟨dst, op, ty, pos, after, some (j, false)⟩ :: r) s K := evS hd hb (by rw [hw]; decide) hin k
theorem evSu {j d : Nat} {want : Bool} (hd : (ops[j]?).bind (·.dst) = some d) (ht : s.t d = some (.v (.tup []))) (hin : inbB s dst = true) (k : EvX dm true P ops r (s.act dst (.v (.tup [])) .none) K) : EvX dm true P ops (⟨dst, op, ty, pos, after, some (j, want)⟩ :: r) s K := by
 refine .inr ⟨rfl, fun w0 M0 hM a w hrel next Q hn => ?_⟩
 obtain ⟨ρ, hr⟩ := hrel
 obtain ⟨v, h4, h5⟩ := hr.tmps d _ ht
 obtain ⟨vs, rfl, -, -⟩ := tup_inv h5
 have hy : yielded ops a.tmps j = none := by simp [yielded, hd, h4]
 have hw : ¬ Region.wanted ⟨dst, op, ty, pos, after, some (j, want)⟩ (yielded ops a.tmps) = true := by simp [Region.wanted, hy]
 rw [if_neg hw]
 exact hn _ _ _ k ⟨ρ, hr.put (Zaa hin) (rep_undef _ _)⟩
theorem Zcv {id : Nat} {e : TypeId} {z : List Value} (hin : InB s (some id)) (ht : Ze8 P e z) (hid : s.m id = none) (h1 : z.all (·.oneCell') = true) (hn : (!s.nd || z.all nuV) = true) :
  Zbg dm P ops ⟨some id, .alloc e, ty, pos, after, g⟩ s (.ptr id 0) (.new id (.var (z.map fun u => .v (.p u)))) := ss_alloc id hin ht hid h1 hn
theorem Zgd {id : Nat} {e : TypeId} {y : Operand} {x : TV} {xs : List TV} (hin : InB s (some id)) (hid : s.m id = none) (hy : s.ev y = some x) (hx : Zc7 x = some xs) (hn : (!s.nd || xs.all TV.nu) = true) :
  Zbg dm P ops ⟨some id, .box e y, ty, pos, after, g⟩ s (.ptr id 0) (.new id (.var xs)) := ss_box id hin hid hy hx hn
end
theorem T.drawB {P : Program} {l : List Oper} {s : AS} {id : Nat} {Q : Exit → AS → Prop} (hm : P.follows .mixedOrders = true) (hA : okR s l (Region.before l.toArray) = true) (h : EvX dm false P l.toArray l s (Q .normal)) : T dm P (.region id l.toArray true) s Q := T.draw hm hA h
section
variable {P : Program} {ops : Array Oper} {r : List Oper} {s : AS} {K : AS → Prop} {dst : Option Tmp} {ty : TypeId} {pos : String} {after : Array Edge} {g : Option (Nat × Bool)}
theorem d_move {y : Operand} (h : EvX dm mc P ops (⟨dst, .move y, ty, pos, after, g⟩ :: r) s K) : EvX dm mc P ops (⟨dst, .move y, ty, pos, after, g⟩ :: r) s K := h
theorem Zgg {y : Operand} (h : EvX dm mc P ops (⟨dst, .assign y, ty, pos, after, g⟩ :: r) s K) : EvX dm mc P ops (⟨dst, .assign y, ty, pos, after, g⟩ :: r) s K := h
theorem d_box {t : TypeId} {y : Operand} (h : EvX dm mc P ops (⟨dst, .box t y, ty, pos, after, g⟩ :: r) s K) : EvX dm mc P ops (⟨dst, .box t y, ty, pos, after, g⟩ :: r) s K := h
theorem d_alloc {t : TypeId} (h : EvX dm mc P ops (⟨dst, .alloc t, ty, pos, after, g⟩ :: r) s K) : EvX dm mc P ops (⟨dst, .alloc t, ty, pos, after, g⟩ :: r) s K := h
theorem d_field {t : TypeId} {y : Operand} {f : Nat} (h : EvX dm mc P ops (⟨dst, .fieldAddr t y f, ty, pos, after, g⟩ :: r) s K) : EvX dm mc P ops (⟨dst, .fieldAddr t y f, ty, pos, after, g⟩ :: r) s K := h
theorem d_load {t : TypeId} {y : Operand} (h : EvX dm mc P ops (⟨dst, .load t y, ty, pos, after, g⟩ :: r) s K) : EvX dm mc P ops (⟨dst, .load t y, ty, pos, after, g⟩ :: r) s K := h
theorem d_store {t : TypeId} {y z : Operand} (h : EvX dm mc P ops (⟨dst, .store t y z, ty, pos, after, g⟩ :: r) s K) : EvX dm mc P ops (⟨dst, .store t y z, ty, pos, after, g⟩ :: r) s K := h
theorem Ze3 {y : Operand} {i : Nat} (h : EvX dm mc P ops (⟨dst, .extract y i, ty, pos, after, g⟩ :: r) s K) : EvX dm mc P ops (⟨dst, .extract y i, ty, pos, after, g⟩ :: r) s K := h
theorem d_bin {b : BinOp} {t u : TypeId} {y z : Operand} (h : EvX dm mc P ops (⟨dst, .binOp b t y z u, ty, pos, after, g⟩ :: r) s K) : EvX dm mc P ops (⟨dst, .binOp b t y z u, ty, pos, after, g⟩ :: r) s K := h
theorem d_un {b : UnOp} {t : TypeId} {y : Operand} (h : EvX dm mc P ops (⟨dst, .unOp b t y, ty, pos, after, g⟩ :: r) s K) : EvX dm mc P ops (⟨dst, .unOp b t y, ty, pos, after, g⟩ :: r) s K := h
theorem d_blt {b : Builtin} {az : Array Operand} {ts : Array TypeId} (h : EvX dm mc P ops (⟨dst, .call ⟨.builtin b, az, ts⟩, ty, pos, after, g⟩ :: r) s K) : EvX dm mc P ops (⟨dst, .call ⟨.builtin b, az, ts⟩, ty, pos, after, g⟩ :: r) s K := h
theorem d_build {t : TypeId} {ps : Array (Nat × Operand)} (h : EvX dm mc P ops (⟨dst, .build t ps, ty, pos, after, g⟩ :: r) s K) : EvX dm mc P ops (⟨dst, .build t ps, ty, pos, after, g⟩ :: r) s K := h
theorem d_pick {x y z : Operand} (h : EvX dm mc P ops (⟨dst, .pick x y z, ty, pos, after, g⟩ :: r) s K) : EvX dm mc P ops (⟨dst, .pick x y z, ty, pos, after, g⟩ :: r) s K := h
end
theorem Zbo {a : AV} {n : Nat} (h : a.cells.length = n) (h1 : a.cells.all AV.one = true) : ∀ x, x ∈ [a] → x.cells.length = n ∧ x.cells.all AV.one = true := fun x hx => by rw [List.mem_singleton] at hx; subst hx; exact ⟨h, h1⟩
theorem Zad {I : Nat → AS → Prop} {n k : Nat} {Q : Exit → AS → Prop} {s s' : AS} (h : k < n) (he : Ent s s') (hi : I k s') : loopQ I n Q .normal s := ⟨k, s', h, he, hi⟩
def midQ (I : AS → Prop) (Q : Exit → AS → Prop) : Exit → AS → Prop
 | .normal, s => ∃ s', Ent s s' ∧ I s'
 | e, s => Q e s
theorem Zao {I : AS → Prop} {Q : Exit → AS → Prop} {s s' : AS} (he : Ent s s') (hi : I s') : midQ I Q .normal s := ⟨s', he, hi⟩
theorem T.seqI {P : Program} {x y : Code} {s : AS} {Q : Exit → AS → Prop} (I : AS → Prop) (h : T dm P x s (midQ I Q)) (k : ∀ s, I s → T dm P y s Q) : T dm P (.seq x y) s Q :=
 T.seq (T.mono h fun e s' he => by
  cases e with
  | normal => obtain ⟨s2, h1, h2⟩ := he; exact T.weak h1 (k s2 h2)
  | _ => exact he)
section
variable {P : Program} {y : Code} {Q : Exit → AS → Prop} {s : AS} {id j n : Nat} {I : Nat → AS → Prop} {J : AS → Prop}
theorem T.condT {x : Code} {c : Operand} {b : Bool} (hc : s.ev c = some (.v (.p (.bool b)))) (hb : b = true) (h : T dm P x s Q) : T dm P (.cond c x y) s Q := T.cond hc (fun _ => h) (fun e => by rw [hb] at e; cases e)
theorem T.condF {x : Code} {c : Operand} {b : Bool} (hc : s.ev c = some (.v (.p (.bool b)))) (hb : b = false) (h : T dm P y s Q) : T dm P (.cond c x y) s Q := T.cond hc (fun e => by rw [hb] at e; cases e) (fun _ => h)
theorem Zbr (h : T dm P y s Q) : seqQ dm P y Q .normal s := h
theorem seqQ_e (h : Q (.exit j) s) : seqQ dm P y Q (.exit j) s := h
theorem seqQ_r (h : Q .ret s) : seqQ dm P y Q .ret s := h
theorem blockQ_n (h : Q .normal s) : blockQ id Q .normal s := h
theorem blockQ_r (h : Q .ret s) : blockQ id Q .ret s := h
theorem blockQ_e (hj : Nat.beq j id = true) (h : Q .normal s) : blockQ id Q (.exit j) s := by show bif Nat.beq j id then _ else _; rw [hj]; exact h
theorem blockQ_o (hj : Nat.beq j id = false) (h : Q (.exit j) s) : blockQ id Q (.exit j) s := by show bif Nat.beq j id then _ else _; rw [hj]; exact h
theorem loopQ_e (h : Q (.exit j) s) : loopQ I n Q (.exit j) s := h
theorem loopQ_r (h : Q .ret s) : loopQ I n Q .ret s := h
theorem midQ_e (h : Q (.exit j) s) : midQ J Q (.exit j) s := h
theorem midQ_r (h : Q .ret s) : midQ J Q .ret s := h
end
def roundQ (dm : Bool) (P : Program) (c : Code) (Q : Exit → AS → Prop) : Nat → Exit → AS → Prop
 | 0, .normal, _ => False
 | n + 1, .normal, s => T dm P c s (roundQ dm P c Q n)
 | _, x, s => Q x s
theorem T.unroll {P : Program} {c : Code} {s : AS} {Q : Exit → AS → Prop} (n : Nat) (h : T dm P c s (roundQ dm P c Q n)) : T dm P (.loop c) s Q := fun w0 M0 hM a w hr => by
  have key : ∀ n s a w, T dm P c s (roundQ dm P c Q n) → Rel w0 M0 s a w → Code.rounds P c (fun x a' w' => ∃ s', Q x s' ∧ Rel w0 M0 s' a' w') (n + 1) a w := by
    intro n
    induction n with
    | zero =>
      intro s a w h hr
      refine Code.wp_mono (fun e a' w' he => ?_) (h w0 M0 hM a w hr)
      obtain ⟨s', h1, h2⟩ := he
      cases e <;> first | exact h1.elim | exact ⟨s', h1, h2⟩
    | succ n ih =>
      intro s a w h hr
      refine Code.wp_mono (fun e a' w' he => ?_) (h w0 M0 hM a w hr)
      obtain ⟨s', h1, h2⟩ := he
      cases e <;> first | exact ih s' a' w' h1 h2 | exact ⟨s', h1, h2⟩
  exact wp_loop_rounds (n + 1) (key n s a w h hr)
section
variable {P : Program} {c : Code} {Q : Exit → AS → Prop} {s : AS} {n j : Nat}
theorem roundQ_n (h : T dm P c s (roundQ dm P c Q n)) : roundQ dm P c Q (n + 1) .normal s := h
theorem roundQ_e (h : Q (.exit j) s) : roundQ dm P c Q n (.exit j) s := by cases n <;> exact h
theorem roundQ_r (h : Q .ret s) : roundQ dm P c Q n .ret s := by cases n <;> exact h
end
theorem w64 {x : Int} (h0 : -9223372036854775808 ≤ x) (h1 : x ≤ 9223372036854775807) : IntKind.i64.wrap x = x := IntWalk.i64_in _ (by omega)
structure Keep (B : Prop) : Prop where
 out : B
theorem ggA {ops : Array Oper} {s : AS} {g : Option (Nat × Bool)} (h : GOK ops s g := by exact (by first | exact trivial | exact ⟨_, _, rfl, rfl, rfl⟩ | exact ⟨_, _, rfl, rfl, by assumption⟩)) : GOK ops s g := h
theorem stpA {A B : Prop} (h : B) (imp : Keep B → A := by intro hKeep; (first  | (refine d_move ?_; first | refine evG ggA (Zbj (Zaa rfl) rfl) ?_)  | (refine Zgg ?_; first | refine evG ggA (Zb4 (Zaa rfl) rfl) ?_)  | (refine d_load ?_; first | refine evG ggA (Zah (Zaa rfl) (Za8 rfl) rfl rfl rfl) ?_ | refine evG ggA (Zba (Zaa rfl) (Za1 rfl) rfl rfl rfl rfl) ?_ | refine evG ggA (Zb6 (Zaa rfl) (Za8 rfl) rfl rfl) ?_ | refine evG ggA (Zcp (Zaa rfl) (Za1 rfl) rfl rfl rfl) ?_)  | (refine d_field ?_; first | refine evG ggA (Zai (Zaa rfl) (Zan rfl) rfl) ?_ | refine evG ggA (Zb1 (Zaa rfl) (Zan rfl) rfl) ?_)  | (refine d_store ?_; first | refine evG ggA (Zbi rfl (Zcg rfl) rfl rfl rfl rfl rfl (Nat.le_of_ble_eq_true rfl) rfl) ?_)  | (refine Ze3 ?_; first | refine evG ggA (Zec (Zaa rfl) rfl rfl) ?_)  | (refine d_bin ?_; first | refine evG ggA (Zfu (Zaa rfl) rfl rfl rfl) ?_ | refine evG ggA (Zbk (Zaa rfl) rfl rfl (w64 (by omega) (by omega))) ?_ | refine evG ggA (ss_eqb (Zaa rfl) und_bool rfl rfl rfl) ?_)  | (refine d_un ?_; first | refine evG ggA (ss_not (Zaa rfl) rfl) ?_ | refine evG ggA (ss_neg (Zaa rfl) rfl (w64 (by omega) (by omega))) ?_)  | (refine d_blt ?_; first | refine evG ggA (ss_len (Zaa rfl) rfl (Zby rfl) rfl) ?_ | refine evG ggA (ss_min (Zaa rfl) rfl rfl) ?_ | refine evG ggA (ss_max (Zaa rfl) rfl rfl) ?_ | refine evG ggA (ss_min3 (Zaa rfl) rfl rfl rfl) ?_ | refine evG ggA (Zeb (Zaa rfl) rfl (Zby rfl) rfl) ?_ | refine evG ggA (Zea (Zaa rfl) rfl (Zby rfl) rfl rfl (by first | rfl | simp)) ?_)  | (refine d_build ?_; first | refine evG ggA (Zdv (Zaa rfl) (Zb0 rfl) rfl rfl rfl) ?_)  | (refine d_box ?_; first | refine evG ggA (Zgd (Zaa rfl) rfl rfl rfl rfl) ?_)  | (refine d_alloc ?_; first | refine evG ggA (Zcv (Zaa rfl) (Zd7 rfl) rfl rfl rfl) ?_)  | (refine d_pick ?_; first | refine evG ggA (Zex (Zaa rfl) rfl (by first | rfl | assumption) rfl) ?_ | refine evG ggA (Zey (Zaa rfl) rfl (by first | rfl | assumption) rfl) ?_)  | refine evSf rfl rfl (by first | rfl | assumption) rfl ?_ | refine evSt rfl rfl (by first | rfl | assumption) rfl ?_ | refine evSu rfl rfl rfl ?_); exact hKeep.out) : A := imp ⟨h⟩
theorem runA {A B : Prop} (h : B) (imp : Keep B → A := by intro hKeep; (repeat (first  | (refine d_move ?_; first | refine evG ggA (Zbj (Zaa rfl) rfl) ?_)  | (refine Zgg ?_; first | refine evG ggA (Zb4 (Zaa rfl) rfl) ?_)  | (refine d_load ?_; first | refine evG ggA (Zah (Zaa rfl) (Za8 rfl) rfl rfl rfl) ?_ | refine evG ggA (Zba (Zaa rfl) (Za1 rfl) rfl rfl rfl rfl) ?_ | refine evG ggA (Zb6 (Zaa rfl) (Za8 rfl) rfl rfl) ?_ | refine evG ggA (Zcp (Zaa rfl) (Za1 rfl) rfl rfl rfl) ?_)  | (refine d_field ?_; first | refine evG ggA (Zai (Zaa rfl) (Zan rfl) rfl) ?_ | refine evG ggA (Zb1 (Zaa rfl) (Zan rfl) rfl) ?_)  | (refine d_store ?_; first | refine evG ggA (Zbi rfl (Zcg rfl) rfl rfl rfl rfl rfl (Nat.le_of_ble_eq_true rfl) rfl) ?_)  | (refine Ze3 ?_; first | refine evG ggA (Zec (Zaa rfl) rfl rfl) ?_)  | (refine d_bin ?_; first | refine evG ggA (Zfu (Zaa rfl) rfl rfl rfl) ?_ | refine evG ggA (Zbk (Zaa rfl) rfl rfl (w64 (by omega) (by omega))) ?_ | refine evG ggA (ss_eqb (Zaa rfl) und_bool rfl rfl rfl) ?_)  | (refine d_un ?_; first | refine evG ggA (ss_not (Zaa rfl) rfl) ?_ | refine evG ggA (ss_neg (Zaa rfl) rfl (w64 (by omega) (by omega))) ?_)  | (refine d_blt ?_; first | refine evG ggA (ss_len (Zaa rfl) rfl (Zby rfl) rfl) ?_ | refine evG ggA (ss_min (Zaa rfl) rfl rfl) ?_ | refine evG ggA (ss_max (Zaa rfl) rfl rfl) ?_ | refine evG ggA (ss_min3 (Zaa rfl) rfl rfl rfl) ?_ | refine evG ggA (Zeb (Zaa rfl) rfl (Zby rfl) rfl) ?_ | refine evG ggA (Zea (Zaa rfl) rfl (Zby rfl) rfl rfl (by first | rfl | simp)) ?_)  | (refine d_build ?_; first | refine evG ggA (Zdv (Zaa rfl) (Zb0 rfl) rfl rfl rfl) ?_)  | (refine d_box ?_; first | refine evG ggA (Zgd (Zaa rfl) rfl rfl rfl rfl) ?_)  | (refine d_alloc ?_; first | refine evG ggA (Zcv (Zaa rfl) (Zd7 rfl) rfl rfl rfl) ?_)  | (refine d_pick ?_; first | refine evG ggA (Zex (Zaa rfl) rfl (by first | rfl | assumption) rfl) ?_ | refine evG ggA (Zey (Zaa rfl) rfl (by first | rfl | assumption) rfl) ?_)  | refine evSf rfl rfl (by first | rfl | assumption) rfl ?_ | refine evSt rfl rfl (by first | rfl | assumption) rfl ?_ | refine evSu rfl rfl rfl ?_)); exact hKeep.out) : A := imp ⟨h⟩
theorem regA {A B : Prop} (h : B) (imp : Keep B → A := by intro hKeep; (first | refine T.region ?_ | refine T.drawB mixed (by kernel_rfl) ?_); exact hKeep.out) : A := imp ⟨h⟩
theorem goA {A B : Prop} (h : B) (imp : Keep B → A := by intro hKeep; (repeat (first | (first  | (refine d_move ?_; first | refine evG ggA (Zbj (Zaa rfl) rfl) ?_)  | (refine Zgg ?_; first | refine evG ggA (Zb4 (Zaa rfl) rfl) ?_)  | (refine d_load ?_; first | refine evG ggA (Zah (Zaa rfl) (Za8 rfl) rfl rfl rfl) ?_ | refine evG ggA (Zba (Zaa rfl) (Za1 rfl) rfl rfl rfl rfl) ?_ | refine evG ggA (Zb6 (Zaa rfl) (Za8 rfl) rfl rfl) ?_ | refine evG ggA (Zcp (Zaa rfl) (Za1 rfl) rfl rfl rfl) ?_)  | (refine d_field ?_; first | refine evG ggA (Zai (Zaa rfl) (Zan rfl) rfl) ?_ | refine evG ggA (Zb1 (Zaa rfl) (Zan rfl) rfl) ?_)  | (refine d_store ?_; first | refine evG ggA (Zbi rfl (Zcg rfl) rfl rfl rfl rfl rfl (Nat.le_of_ble_eq_true rfl) rfl) ?_)  | (refine Ze3 ?_; first | refine evG ggA (Zec (Zaa rfl) rfl rfl) ?_)  | (refine d_bin ?_; first | refine evG ggA (Zfu (Zaa rfl) rfl rfl rfl) ?_ | refine evG ggA (Zbk (Zaa rfl) rfl rfl (w64 (by omega) (by omega))) ?_ | refine evG ggA (ss_eqb (Zaa rfl) und_bool rfl rfl rfl) ?_)  | (refine d_un ?_; first | refine evG ggA (ss_not (Zaa rfl) rfl) ?_ | refine evG ggA (ss_neg (Zaa rfl) rfl (w64 (by omega) (by omega))) ?_)  | (refine d_blt ?_; first | refine evG ggA (ss_len (Zaa rfl) rfl (Zby rfl) rfl) ?_ | refine evG ggA (ss_min (Zaa rfl) rfl rfl) ?_ | refine evG ggA (ss_max (Zaa rfl) rfl rfl) ?_ | refine evG ggA (ss_min3 (Zaa rfl) rfl rfl rfl) ?_ | refine evG ggA (Zeb (Zaa rfl) rfl (Zby rfl) rfl) ?_ | refine evG ggA (Zea (Zaa rfl) rfl (Zby rfl) rfl rfl (by first | rfl | simp)) ?_)  | (refine d_build ?_; first | refine evG ggA (Zdv (Zaa rfl) (Zb0 rfl) rfl rfl rfl) ?_)  | (refine d_box ?_; first | refine evG ggA (Zgd (Zaa rfl) rfl rfl rfl rfl) ?_)  | (refine d_alloc ?_; first | refine evG ggA (Zcv (Zaa rfl) (Zd7 rfl) rfl rfl rfl) ?_)  | (refine d_pick ?_; first | refine evG ggA (Zex (Zaa rfl) rfl (by first | rfl | assumption) rfl) ?_ | refine evG ggA (Zey (Zaa rfl) rfl (by first | rfl | assumption) rfl) ?_)  | refine evSf rfl rfl (by first | rfl | assumption) rfl ?_ | refine evSt rfl rfl (by first | rfl | assumption) rfl ?_ | refine evSu rfl rfl rfl ?_) | refine Zbs ?_ | (first | refine T.seq ?_ | refine T.block ?_ | refine T.ret ?_ | refine T.skip ?_ | refine T.exit ?_ | refine T.condT rfl (by first | rfl | assumption) ?_ | refine T.condF rfl (by first | rfl | assumption) ?_) | (first | refine T.region ?_ | refine T.drawB mixed (by kernel_rfl) ?_) | (first | with_reducible refine Zbr ?_ | with_reducible refine seqQ_e ?_ | with_reducible refine seqQ_r ?_ | with_reducible refine blockQ_n ?_ | with_reducible refine blockQ_r ?_ | with_reducible refine blockQ_e rfl ?_ | with_reducible refine blockQ_o rfl ?_ | with_reducible refine loopQ_e ?_ | with_reducible refine loopQ_r ?_ | with_reducible refine midQ_e ?_ | with_reducible refine midQ_r ?_ | with_reducible refine roundQ_n ?_ | with_reducible refine roundQ_e ?_ | with_reducible refine roundQ_r ?_))); exact hKeep.out) : A := imp ⟨h⟩
theorem r1A {A B : Prop} (h : B) (imp : Keep B → A := by intro hKeep; refine T.seq ?_; (first | refine T.region ?_ | refine T.drawB mixed (by kernel_rfl) ?_); (repeat (first  | (refine d_move ?_; first | refine evG ggA (Zbj (Zaa rfl) rfl) ?_)  | (refine Zgg ?_; first | refine evG ggA (Zb4 (Zaa rfl) rfl) ?_)  | (refine d_load ?_; first | refine evG ggA (Zah (Zaa rfl) (Za8 rfl) rfl rfl rfl) ?_ | refine evG ggA (Zba (Zaa rfl) (Za1 rfl) rfl rfl rfl rfl) ?_ | refine evG ggA (Zb6 (Zaa rfl) (Za8 rfl) rfl rfl) ?_ | refine evG ggA (Zcp (Zaa rfl) (Za1 rfl) rfl rfl rfl) ?_)  | (refine d_field ?_; first | refine evG ggA (Zai (Zaa rfl) (Zan rfl) rfl) ?_ | refine evG ggA (Zb1 (Zaa rfl) (Zan rfl) rfl) ?_)  | (refine d_store ?_; first | refine evG ggA (Zbi rfl (Zcg rfl) rfl rfl rfl rfl rfl (Nat.le_of_ble_eq_true rfl) rfl) ?_)  | (refine Ze3 ?_; first | refine evG ggA (Zec (Zaa rfl) rfl rfl) ?_)  | (refine d_bin ?_; first | refine evG ggA (Zfu (Zaa rfl) rfl rfl rfl) ?_ | refine evG ggA (Zbk (Zaa rfl) rfl rfl (w64 (by omega) (by omega))) ?_ | refine evG ggA (ss_eqb (Zaa rfl) und_bool rfl rfl rfl) ?_)  | (refine d_un ?_; first | refine evG ggA (ss_not (Zaa rfl) rfl) ?_ | refine evG ggA (ss_neg (Zaa rfl) rfl (w64 (by omega) (by omega))) ?_)  | (refine d_blt ?_; first | refine evG ggA (ss_len (Zaa rfl) rfl (Zby rfl) rfl) ?_ | refine evG ggA (ss_min (Zaa rfl) rfl rfl) ?_ | refine evG ggA (ss_max (Zaa rfl) rfl rfl) ?_ | refine evG ggA (ss_min3 (Zaa rfl) rfl rfl rfl) ?_ | refine evG ggA (Zeb (Zaa rfl) rfl (Zby rfl) rfl) ?_ | refine evG ggA (Zea (Zaa rfl) rfl (Zby rfl) rfl rfl (by first | rfl | simp)) ?_)  | (refine d_build ?_; first | refine evG ggA (Zdv (Zaa rfl) (Zb0 rfl) rfl rfl rfl) ?_)  | (refine d_box ?_; first | refine evG ggA (Zgd (Zaa rfl) rfl rfl rfl rfl) ?_)  | (refine d_alloc ?_; first | refine evG ggA (Zcv (Zaa rfl) (Zd7 rfl) rfl rfl rfl) ?_)  | (refine d_pick ?_; first | refine evG ggA (Zex (Zaa rfl) rfl (by first | rfl | assumption) rfl) ?_ | refine evG ggA (Zey (Zaa rfl) rfl (by first | rfl | assumption) rfl) ?_)  | refine evSf rfl rfl (by first | rfl | assumption) rfl ?_ | refine evSt rfl rfl (by first | rfl | assumption) rfl ?_ | refine evSu rfl rfl rfl ?_)); refine Zbs ?_; refine Zbr ?_; exact hKeep.out) : A := imp ⟨h⟩
theorem entA {s s' : AS} (h : Ent s s' := by (refine Ent.mk rfl rfl ?_ ?_ <;> (repeat (first | exact trivial | refine And.intro ?_ ?_ | exact ⟨_, rfl, .inl ⟨rfl, trivial⟩⟩ | exact ⟨_, rfl, .inl ⟨rfl, _, rfl⟩⟩ | exact .inl ⟨rfl, trivial⟩ | exact .inl ⟨rfl, _, rfl⟩ | exact ⟨_, rfl, .inr (.inl ⟨rfl, rfl⟩)⟩ | exact .inr (.inl ⟨rfl, rfl⟩) | exact ⟨_, rfl, .inr (.inr (.inl ⟨_, _, _, _, _, rfl, rfl, by first | rfl | assumption | simp, rfl, rfl⟩))⟩ | exact .inr (.inr (.inl ⟨_, _, _, _, _, rfl, rfl, by first | rfl | assumption | simp, rfl, rfl⟩)) | exact ⟨_, rfl, .inr (.inr (.inr ⟨_, _, _, rfl, rfl, rfl, rfl⟩))⟩ | exact .inr (.inr (.inr ⟨_, _, _, rfl, rfl, rfl, rfl⟩)) | rfl)))) : Ent s s' := h
theorem Zak {s s' : AS} (h : Ent s s' := by (refine Ent.mkP rfl rfl rfl rfl ?_ ?_ <;> (repeat (first | exact trivial | exact ⟨_, rfl, .inl ⟨rfl, ⟨_, rfl⟩, ⟨_, rfl⟩, trivial⟩⟩ | exact ⟨_, rfl, .inl ⟨rfl, ⟨_, rfl⟩, trivial⟩⟩ | refine And.intro ?_ ?_ | exact ⟨_, rfl, .inl ⟨rfl, trivial⟩⟩ | exact ⟨_, rfl, .inl ⟨rfl, _, rfl⟩⟩ | exact .inl ⟨rfl, trivial⟩ | exact .inl ⟨rfl, _, rfl⟩ | exact ⟨_, rfl, .inr (.inl ⟨rfl, rfl⟩)⟩ | exact .inr (.inl ⟨rfl, rfl⟩) | exact ⟨_, rfl, .inr (.inr (.inl ⟨_, _, _, _, _, rfl, rfl, by first | rfl | assumption | simp, rfl, rfl⟩))⟩ | exact .inr (.inr (.inl ⟨_, _, _, _, _, rfl, rfl, by first | rfl | assumption | simp, rfl, rfl⟩)) | exact ⟨_, rfl, .inr (.inr (.inr ⟨_, _, _, rfl, rfl, rfl, rfl⟩))⟩ | exact .inr (.inr (.inr ⟨_, _, _, rfl, rfl, rfl, rfl⟩)) | rfl)))) : Ent s s' := h
theorem osA {A B : Prop} (h : B) (imp : Keep B → A := by intro hKeep; (repeat (first | with_reducible refine Zbr ?_ | with_reducible refine seqQ_e ?_ | with_reducible refine seqQ_r ?_ | with_reducible refine blockQ_n ?_ | with_reducible refine blockQ_r ?_ | with_reducible refine blockQ_e rfl ?_ | with_reducible refine blockQ_o rfl ?_ | with_reducible refine loopQ_e ?_ | with_reducible refine loopQ_r ?_ | with_reducible refine midQ_e ?_ | with_reducible refine midQ_r ?_ | with_reducible refine roundQ_n ?_ | with_reducible refine roundQ_e ?_ | with_reducible refine roundQ_r ?_)); exact hKeep.out) : A := imp ⟨h⟩
end Ab
