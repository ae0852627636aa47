/- How facts of types are had from the kernel; no condition. -/
import Derived.Test.YtajhaoapcapgeaaGreatDoorAbsAll
import Derived.Test.YtajhaoapcapgeaaGreatDoorProg
import Derived.KernelRfl
set_option linter.all false
namespace Ab
open Go Go.RowKit Go.Proofs

theorem oneT_of {P : Program} {t : TypeId} (h : (match P.underlying t with | some (.struct _) => false | some (.array _ _) => false | none => false | some _ => match P.info? t with | some i => i.size == 1 | none => false) = true) : OneT P t := by
  cases hu : P.underlying t with
  | none => rw [hu] at h; cases h
  | some d =>
    rw [hu] at h
    cases hi : P.info? t with
    | none => rw [hi] at h; cases d <;> cases h
    | some i =>
      rw [hi] at h
      cases d <;> first | cases h | exact ⟨_, i, hu, trivial, hi, by simpa using h⟩
theorem aggT_of {P : Program} {t : TypeId} {n : Nat} (h : (match P.underlying t with | some (.struct _) => (match P.info? t with | some i => i.size == n | none => false) | _ => false) = true) : AggT P t n := by
  cases hu : P.underlying t with
  | none => rw [hu] at h; cases h
  | some d =>
    rw [hu] at h
    cases d <;> first | cases h | skip
    cases hi : P.info? t with
    | none => rw [hi] at h; cases h
    | some i => rw [hi] at h; exact ⟨_, i, hu, hi, by simpa using h⟩
theorem sizeT_of {P : Program} {t : TypeId} {n : Nat} (h : (P.info? t).map (·.size) = some n) : SizeT P t n := by
  obtain ⟨i, h1, h2⟩ := Option.map_eq_some_iff.1 h
  exact ⟨i, h1, h2⟩
theorem fieldAt_of {P : Program} {t : TypeId} {f off : Nat} (h : (match P.underlying t with | some (.struct fs) => (match fs[f]? with | some fd => (match P.info? fd.type with | some i => fd.offset == off && i.size != 0 | none => false) | none => false) | _ => false) = true) : FieldAt P t f off := by
  cases hu : P.underlying t with
  | none => rw [hu] at h; cases h
  | some d =>
    rw [hu] at h
    cases d <;> first | cases h | skip
    rename_i fs
    simp only at h
    cases hf : fs[f]? with
    | none => rw [hf] at h; cases h
    | some fd =>
      rw [hf] at h
      simp only at h
      cases hi : P.info? fd.type with
      | none => rw [hi] at h; cases h
      | some i =>
        rw [hi] at h
        simp at h
        exact ⟨fs, fd, i, hu, hf, h.1, hi, h.2⟩
theorem elemT_of {P : Program} {t e : TypeId} {n : Nat} (hu : P.underlying t = some (.slice e)) (h : (P.info? e).map (·.size) = some n) : ElemT P t e n := by
  obtain ⟨i, h1, h2⟩ := Option.map_eq_some_iff.1 h
  exact ⟨hu, i, h1, h2⟩
theorem zeroT_of {P : Program} {e : TypeId} {v : Value} {z : List Value} (h : (P.info? e).map (·.zero) = some (some v)) (hz : v.cells.toList = z) : ZeroT P e z := by
  obtain ⟨i, h1, h2⟩ := Option.map_eq_some_iff.1 h
  exact ⟨i, v, h1, h2, hz⟩
theorem makeT_of {P : Program} {t e : TypeId} {n bytes : Nat} {v : Value} {z : List Value} (hu : P.underlying t = some (.slice e)) (h : (P.info? e).map (fun i => (i.zero, i.size, i.bytes)) = some (some v, n, bytes)) (hz : v.cells.toList = z) (hl : z.length = n) : MakeT P t e n bytes z := by
  obtain ⟨i, h1, h2, h3, h4⟩ := info_parts h
  exact ⟨hu, i, v, h1, h3, h4, h2, hz, hl⟩
theorem buildT_of {P : Program} {t : TypeId} {fs : Array Field} {v : Value} {zs : List Value} {places : List (Nat × Nat)} (hu : P.underlying t = some (.struct fs)) (h : (P.info? t).map (·.zero) = some (some v)) (hz : v.cells.toList = zs)
    (hp : ∀ w, (fs.mapM (fun f => do pure (f.offset, ← Go.sizeOf f.type)) : Sem (Array (Nat × Nat))).run P w = .ok places.toArray w) : BuildT P t zs places := by
  obtain ⟨i, h1, h2⟩ := Option.map_eq_some_iff.1 h
  exact ⟨fs, i, v, hu, h1, h2, hz, hp⟩
end Ab
