/- How facts of types are had from the kernel. -/
import Derived.Test.YtalcdpjpapojeaaGreatDoorAbsAll
import Derived.Test.YtalcdpjpapojeaaGreatDoorProg
import Derived.KernelRfl
import Derived.LoopN
set_option linter.all false
namespace Ab
open Go Go.RowKit Go.Proofs
theorem Zcy {P : Program} {t : TypeId} (h : (match P.underlying t with | some (.struct _) => false | some (.array _ _) => false | none => false | some _ => match P.info? t with | some i => i.size == 1 | none => false) = true) : OneT P t := by
  cases hu : P.underlying t with
  | none => rw [hu] at h; cases h
  | some d =>
    rw [hu] at h
    cases hi : P.info? t with
    | none => rw [hi] at h; cases d <;> cases h
    | some i =>
      rw [hi] at h
      cases d <;> first | cases h | exact ⟨_, i, hu, trivial, hi, by simpa using h⟩
theorem aggT_of {P : Program} {t : TypeId} {n : Nat} (h : (match P.underlying t with | some (.struct _) => (match P.info? t with | some i => i.size == n | none => false) | _ => false) = true) : AggT P t n := by
  cases hu : P.underlying t with
  | none => rw [hu] at h; cases h
  | some d =>
    rw [hu] at h
    cases d <;> first | cases h | skip
    cases hi : P.info? t with
    | none => rw [hi] at h; cases h
    | some i => rw [hi] at h; exact ⟨_, i, hu, hi, by simpa using h⟩
theorem sizeT_of {P : Program} {t : TypeId} {n : Nat} (h : (P.info? t).map (·.size) = some n) : SizeT P t n := by
 obtain ⟨i, h1, h2⟩ := Option.map_eq_some_iff.1 h
 exact ⟨i, h1, h2⟩
theorem Zbo {P : Program} {t : TypeId} {f off : Nat} (h : (match P.underlying t with | some (.struct fs) => (match fs[f]? with | some fd => (match P.info? fd.type with | some i => fd.offset == off && i.size != 0 | none => false) | none => false) | _ => false) = true) : Zgg P t f off := by
  cases hu : P.underlying t with
  | none => rw [hu] at h; cases h
  | some d =>
    rw [hu] at h
    cases d <;> first | cases h | skip
    rename_i fs
    simp only at h
    cases hf : fs[f]? with
    | none => rw [hf] at h; cases h
    | some fd =>
      rw [hf] at h
      simp only at h
      cases hi : P.info? fd.type with
      | none => rw [hi] at h; cases h
      | some i =>
        rw [hi] at h
        simp at h
        exact ⟨fs, fd, i, hu, hf, h.1, hi, h.2⟩
theorem Zdl {P : Program} {e : TypeId} {v : Value} {z : List Value} (h : (P.info? e).map (·.zero) = some (some v)) (hz : v.cells.toList = z) : ZeroT P e z := by
 obtain ⟨i, h1, h2⟩ := Option.map_eq_some_iff.1 h
 exact ⟨i, v, h1, h2, hz⟩
theorem Zc7 {P : Program} {t e : TypeId} {n bytes : Nat} {v : Value} {z : List Value} (hu : P.underlying t = some (.slice e)) (h : (P.info? e).map (fun i => (i.zero, i.size, i.bytes)) = some (some v, n, bytes)) (hz : v.cells.toList = z) (hl : z.length = n) : MakeT P t e n bytes z := by
 obtain ⟨i, h1, h2, h3, h4⟩ := info_parts h
 exact ⟨hu, i, v, h1, h3, h4, h2, hz, hl⟩
theorem Zes {P : Program} {t : TypeId} {fs : Array Field} {v : Value} {zs : List Value} {places : List (Nat × Nat)} (hu : P.underlying t = some (.struct fs)) (h : (P.info? t).map (·.zero) = some (some v)) (hz : v.cells.toList = zs)
  (hp : ∀ w, (fs.mapM (fun f => do pure (f.offset, ← Go.sizeOf f.type)) : Sem (Array (Nat × Nat))).run P w = .ok places.toArray w) : BuildT P t zs places := by
 obtain ⟨i, h1, h2⟩ := Option.map_eq_some_iff.1 h
 exact ⟨fs, i, v, hu, h1, h2, hz, hp⟩
def look {α : Type} : List (Nat × α) → Nat → Option α
 | [], _ => none
 | (a, x) :: l, t => if t == a then some x else look l t
def LookP {α : Type} (p : Nat → α → Prop) : List (Nat × α) → Prop
 | [] => True
 | (a, x) :: l => p a x ∧ LookP p l
theorem Ze0 {α : Type} {p : Nat → α → Prop} : ∀ {l : List (Nat × α)}, LookP p l → ∀ {t : Nat} {x : α}, look l t = some x → p t x
  | [], _, _, _, h => by cases h
  | (a, y) :: l, hp, t, x, h => by
    unfold look at h
    by_cases e : (t == a) = true
    · rw [if_pos e] at h; rw [beq_iff_eq] at e; subst e; injection h with h; subst h; exact hp.1
    · rw [if_neg e] at h; exact Ze0 hp.2 h
theorem lC {α : Type} {p : Nat → α → Prop} {a : Nat} {x : α} {l : List (Nat × α)} (h : p a x) (k : LookP p l) : LookP p ((a, x) :: l) := ⟨h, k⟩
theorem lN {α : Type} {p : Nat → α → Prop} : LookP p [] := trivial
abbrev zS : List Value := [.int .i64 0, .slice none 0 0]
abbrev zI : List Value := [.bool false, .slice none 0 0]
abbrev zQ : List Value := [.bool false, .slice none 0 0, .bool false, .slice none 0 0]
abbrev zQuasiTerm : List Value := [.int .i64 0, .int .i64 0, .int .i64 0, .bool false, .slice none 0 0, .bool false, .slice none 0 0]
abbrev zCharacter : List Value := [.int .i64 0, .slice none 0 0]
abbrev zPrimePower : List Value := [.int .i64 0, .int .i64 0]
theorem one_int : OneT Tryz.prog 3 := Zcy (by kernel_rfl)
def oneL : List (Nat × Unit) := [(3, ()), (4, ()), (24, ()), (31, ()), (35, ()), (47, ()), (54, ()), (74, ()), (75, ()), (81, ()), (108, ()), (181, ()), (213, ()), (219, ())]
def oneU (t : TypeId) : Option Unit := look oneL t
def oneTab (t : TypeId) : Bool := (oneU t).isSome
theorem Zbi {t : TypeId} (h : oneTab t = true) : OneT Tryz.prog t := by
 unfold oneTab at h
 cases e : oneU t with
 | none => rw [e] at h; cases h
 | some x => exact Ze0 (p := fun t _ => OneT Tryz.prog t) (l := oneL) (lC one_int (lC (Zcy (by kernel_rfl)) (lC (Zcy (by kernel_rfl)) (lC (Zcy (by kernel_rfl)) (lC (Zcy (by kernel_rfl)) (lC (Zcy (by kernel_rfl)) (lC (Zcy (by kernel_rfl)) (lC (Zcy (by kernel_rfl)) (lC (Zcy (by kernel_rfl)) (lC (Zcy (by kernel_rfl)) (lC (Zcy (by kernel_rfl)) (lC (Zcy (by kernel_rfl)) (lC (Zcy (by kernel_rfl)) (lC (Zcy (by kernel_rfl)) lN)))))))))))))) e
theorem und_int : Tryz.prog.underlying 3 = some (.int .i64) := by kernel_rfl
theorem Zgi : Tryz.prog.underlying 4 = some .bool := by kernel_rfl
theorem und_u64 : Tryz.prog.underlying 75 = some (.int .u64) := by kernel_rfl
theorem und_uint : Tryz.prog.underlying 76 = some (.int .u64) := by kernel_rfl
theorem mixed : Tryz.prog.follows .mixedOrders = true := by kernel_rfl
theorem Zaj : AggT Tryz.prog 33 2 := aggT_of (by kernel_rfl)
theorem Zbj : AggT Tryz.prog 37 2 := aggT_of (by kernel_rfl)
theorem Zbg : AggT Tryz.prog 39 4 := aggT_of (by kernel_rfl)
theorem Ze8 : AggT Tryz.prog 175 2 := aggT_of (by kernel_rfl)
def aggTabL : List (Nat × (Nat)) := [(33, 2), (37, 2), (39, 4), (86, 7), (175, 2), (184, 2)]
def aggTab (t : TypeId) : Option (Nat) := look aggTabL t
theorem Zbc {t : TypeId} {n : Nat} (h : aggTab t = some n) : AggT Tryz.prog t n := Ze0 (p := fun t x => AggT Tryz.prog t x) (l := aggTabL) (lC Zaj (lC Zbj (lC Zbg (lC (aggT_of (by kernel_rfl)) (lC Ze8 (lC (aggT_of (by kernel_rfl)) lN)))))) h
def arrTabL : List (Nat × (Nat)) := [(90, 6)]
def arrTab (t : TypeId) : Option (Nat) := look arrTabL t
theorem arr_tab {t : TypeId} {n : Nat} (h : arrTab t = some n) : SizeT Tryz.prog t n := Ze0 (p := fun t x => SizeT Tryz.prog t x) (l := arrTabL) (lC (sizeT_of (by kernel_rfl)) lN) h
def sizeTab (t : TypeId) : Option Nat := match aggTab t with | some n => some n | none => match arrTab t with | some n => some n | none => bif oneTab t then some 1 else none
theorem Zbp {t : TypeId} {n : Nat} (h : sizeTab t = some n) : SizeT Tryz.prog t n := by
  unfold sizeTab at h
  cases ha : aggTab t with
  | some m =>
    rw [ha] at h; injection h with h; subst h
    obtain ⟨fs, i, -, h2, h3⟩ := Zbc ha
    exact ⟨i, h2, h3⟩
  | none =>
    rw [ha] at h
    cases hr : arrTab t with
    | some m =>
      rw [hr] at h; injection h with h; subst h
      exact arr_tab hr
    | none =>
      rw [hr] at h
      cases ho : oneTab t with
      | false => simp [ho] at h
      | true =>
        simp [ho] at h; subst h
        obtain ⟨d, i, -, -, h3, h4⟩ := Zbi ho
        exact ⟨i, h3, h4⟩
def FldP (t : TypeId) : Nat → List Nat → Prop
 | _, [] => True
 | f, x :: l => Zgg Tryz.prog t f x ∧ FldP t (f + 1) l
theorem fC {t f x : Nat} {l : List Nat} (h : Zgg Tryz.prog t f x) (k : FldP t (f + 1) l) : FldP t f (x :: l) := ⟨h, k⟩
theorem fld_ok {t : TypeId} : ∀ {l : List Nat} {i f x : Nat}, FldP t i l → l[f]? = some x → Zgg Tryz.prog t (i + f) x
  | [], _, _, _, _, h => by simp at h
  | y :: l, i, 0, x, hp, h => by simp at h; subst h; exact hp.1
  | y :: l, i, f + 1, x, hp, h => by
    rw [show i + (f + 1) = i + 1 + f by omega]
    exact fld_ok hp.2 (by simpa using h)
def fldLL : List (Nat × List Nat) := [(33, [0, 1]), (37, [0, 1]), (39, [0, 2]), (86, [0, 1, 2, 3]), (175, [0, 1]), (184, [0, 1])]
def fldL (t : TypeId) : Option (List Nat) := look fldLL t
def nthF : List Nat → Nat → Option Nat
 | [], _ => none
 | x :: _, 0 => some x
 | _ :: l, f + 1 => nthF l f
theorem nthF_eq : ∀ (l : List Nat) (f : Nat), nthF l f = l[f]?
 | [], _ => rfl
 | _ :: _, 0 => rfl
 | _ :: l, f + 1 => nthF_eq l f
def fieldTab (t : TypeId) (f : Nat) : Option Nat := match fldL t with
 | none => none
 | some l => nthF l f
theorem Zde {t : TypeId} {f off : Nat} (h : fieldTab t f = some off) : Zgg Tryz.prog t f off := by
  unfold fieldTab at h
  cases e : fldL t with
  | none => rw [e] at h; cases h
  | some l =>
    rw [e] at h
    have h1 := fld_ok (Ze0 (p := fun t l => FldP t 0 l) (l := fldLL) (lC ((fC (Zbo (by kernel_rfl)) (fC (Zbo (by kernel_rfl)) trivial))) (lC ((fC (Zbo (by kernel_rfl)) (fC (Zbo (by kernel_rfl)) trivial))) (lC ((fC (Zbo (by kernel_rfl)) (fC (Zbo (by kernel_rfl)) trivial))) (lC ((fC (Zbo (by kernel_rfl)) (fC (Zbo (by kernel_rfl)) (fC (Zbo (by kernel_rfl)) (fC (Zbo (by kernel_rfl)) trivial))))) (lC ((fC (Zbo (by kernel_rfl)) (fC (Zbo (by kernel_rfl)) trivial))) (lC ((fC (Zbo (by kernel_rfl)) (fC (Zbo (by kernel_rfl)) trivial))) lN)))))) e) ((nthF_eq l f).symm.trans h)
    rwa [Nat.zero_add] at h1
def zeroTabL : List (Nat × (List Value)) := [(33, zS), (37, zI), (39, zQ), (86, zQuasiTerm), (175, zCharacter), (184, zPrimePower), (90, [.int .i64 0, .slice none 0 0, .int .i64 0, .slice none 0 0, .int .i64 0, .slice none 0 0])]
def zeroTab (t : TypeId) : Option (List Value) := look zeroTabL t
theorem zero_tab {t : TypeId} {z : List Value} (h : zeroTab t = some z) : ZeroT Tryz.prog t z := Ze0 (p := fun t x => ZeroT Tryz.prog t x) (l := zeroTabL) (lC (Zdl (v := .agg #[.int .i64 0, .slice none 0 0]) (by kernel_rfl) rfl) (lC (Zdl (v := .agg #[.bool false, .slice none 0 0]) (by kernel_rfl) rfl) (lC (Zdl (v := .agg #[.bool false, .slice none 0 0, .bool false, .slice none 0 0]) (by kernel_rfl) rfl) (lC (Zdl (v := .agg #[.int .i64 0, .int .i64 0, .int .i64 0, .bool false, .slice none 0 0, .bool false, .slice none 0 0]) (by kernel_rfl) rfl) (lC (Zdl (v := .agg #[.int .i64 0, .slice none 0 0]) (by kernel_rfl) rfl) (lC (Zdl (v := .agg #[.int .i64 0, .int .i64 0]) (by kernel_rfl) rfl) (lC (Zdl (v := .agg #[.int .i64 0, .slice none 0 0, .int .i64 0, .slice none 0 0, .int .i64 0, .slice none 0 0]) (by kernel_rfl) rfl) lN))))))) h
def makeTabL : List (Nat × (TypeId × Nat × Nat × List Value)) := [(24, (33, 2, 32, [.int .i64 0, .slice none 0 0])), (31, (39, 4, 64, [.bool false, .slice none 0 0, .bool false, .slice none 0 0])), (35, (74, 1, 4, [.int .u32 0])), (47, (86, 7, 88, [.int .i64 0, .int .i64 0, .int .i64 0, .bool false, .slice none 0 0, .bool false, .slice none 0 0])), (54, (39, 4, 64, [.bool false, .slice none 0 0, .bool false, .slice none 0 0])), (81, (31, 1, 24, [.slice none 0 0])), (108, (3, 1, 8, [.int .i64 0])), (181, (184, 2, 16, [.int .i64 0, .int .i64 0])), (213, (37, 2, 32, [.bool false, .slice none 0 0])), (219, (222, 3, 24, [.int .i64 0, .int .i64 0, .int .i64 0]))]
def makeTab (t : TypeId) : Option (TypeId × Nat × Nat × List Value) := look makeTabL t
theorem Zaf {t : TypeId} {e : TypeId} {n b : Nat} {z : List Value} (h : makeTab t = some (e, n, b, z)) : MakeT Tryz.prog t e n b z := Ze0 (p := fun t x => MakeT Tryz.prog t x.1 x.2.1 x.2.2.1 x.2.2.2) (l := makeTabL) (lC (Zc7 (v := .agg #[.int .i64 0, .slice none 0 0]) (by kernel_rfl) (by kernel_rfl) rfl rfl) (lC (Zc7 (v := .agg #[.bool false, .slice none 0 0, .bool false, .slice none 0 0]) (by kernel_rfl) (by kernel_rfl) rfl rfl) (lC (Zc7 (v := .int .u32 0) (by kernel_rfl) (by kernel_rfl) rfl rfl) (lC (Zc7 (v := .agg #[.int .i64 0, .int .i64 0, .int .i64 0, .bool false, .slice none 0 0, .bool false, .slice none 0 0]) (by kernel_rfl) (by kernel_rfl) rfl rfl) (lC (Zc7 (v := .agg #[.bool false, .slice none 0 0, .bool false, .slice none 0 0]) (by kernel_rfl) (by kernel_rfl) rfl rfl) (lC (Zc7 (v := .slice none 0 0) (by kernel_rfl) (by kernel_rfl) rfl rfl) (lC (Zc7 (v := .int .i64 0) (by kernel_rfl) (by kernel_rfl) rfl rfl) (lC (Zc7 (v := .agg #[.int .i64 0, .int .i64 0]) (by kernel_rfl) (by kernel_rfl) rfl rfl) (lC (Zc7 (v := .agg #[.bool false, .slice none 0 0]) (by kernel_rfl) (by kernel_rfl) rfl rfl) (lC (Zc7 (v := .agg #[.int .i64 0, .int .i64 0, .int .i64 0]) (by kernel_rfl) (by kernel_rfl) rfl rfl) lN)))))))))) h
theorem Zag {t e : TypeId} {n b : Nat} {z : List Value} (h : makeTab t = some (e, n, b, z)) : ElemT Tryz.prog t e n := by
 obtain ⟨h1, i, v, h2, h3, -⟩ := Zaf h
 exact ⟨h1, i, h2, h3⟩
theorem Za3 {t e : TypeId} {n b : Nat} {z : List Value} (h : makeTab t = some (e, n, b, z)) : Tryz.prog.underlying t = some (.slice e) := (Zaf h).1
def buildTabL : List (Nat × (List Value × List (Nat × Nat))) := [(33, (zS, [(0, 1), (1, 1)])), (37, (zI, [(0, 1), (1, 1)])), (39, (zQ, [(0, 2), (2, 2)])), (86, (zQuasiTerm, [(0, 1), (1, 1), (2, 1), (3, 4)])), (175, (zCharacter, [(0, 1), (1, 1)])), (184, (zPrimePower, [(0, 1), (1, 1)]))]
def buildTab (t : TypeId) : Option (List Value × List (Nat × Nat)) := look buildTabL t
theorem Zer {t : TypeId} {z : List Value} {pl : List (Nat × Nat)} (h : buildTab t = some (z, pl)) : BuildT Tryz.prog t z pl := Ze0 (p := fun t x => BuildT Tryz.prog t x.1 x.2) (l := buildTabL) (lC (Zes (v := .agg #[.int .i64 0, .slice none 0 0]) (Tryz.underlying33) (by kernel_rfl) rfl (fun w => by kernel_rfl)) (lC (Zes (v := .agg #[.bool false, .slice none 0 0]) (Tryz.underlying37) (by kernel_rfl) rfl (fun w => by kernel_rfl)) (lC (Zes (v := .agg #[.bool false, .slice none 0 0, .bool false, .slice none 0 0]) (Tryz.underlying39) (by kernel_rfl) rfl (fun w => by kernel_rfl)) (lC (Zes (v := .agg #[.int .i64 0, .int .i64 0, .int .i64 0, .bool false, .slice none 0 0, .bool false, .slice none 0 0]) (Tryz.underlying86) (by kernel_rfl) rfl (fun w => by kernel_rfl)) (lC (Zes (v := .agg #[.int .i64 0, .slice none 0 0]) (Tryz.underlying175) (by kernel_rfl) rfl (fun w => by kernel_rfl)) (lC (Zes (v := .agg #[.int .i64 0, .int .i64 0]) (Tryz.underlying184) (by kernel_rfl) rfl (fun w => by kernel_rfl)) lN)))))) h
def intTabL : List (Nat × (IntKind)) := [(3, .i64), (74, .u32), (75, .u64)]
def intTab (t : TypeId) : Option (IntKind) := look intTabL t
theorem Zau {t : TypeId} {k : IntKind} (h : intTab t = some k) : Tryz.prog.underlying t = some (.int k) := Ze0 (p := fun t x => Tryz.prog.underlying t = some (.int x)) (l := intTabL) (lC (by kernel_rfl) (lC (by kernel_rfl) (lC (by kernel_rfl) lN))) h
end Ab
namespace Ab
variable {dm mc : Bool}
open Go Go.RowKit Go.Proofs
def inbB (s : AS) : Option Tmp → Bool
 | some d => Nat.blt d s.nt
 | none => true
theorem Zaa {s : AS} {d : Option Tmp} (h : inbB s d = true) : InB s d := by
 cases d with
 | none => trivial
 | some d => simpa [inbB, InB] using h
section
variable {P : Program} {ops : Array Oper} {r : List Oper} {s : AS} {K : AS → Prop} {dst : Option Tmp} {op : Op} {ty : TypeId} {pos : String} {after : Array Edge} {x : TV} {e : Eff}
theorem Zao (h : K s) : EvX dm mc P ops [] s K := h
theorem ev0 (h : Za9 dm P ops ⟨dst, op, ty, pos, after, none⟩ s x e) (k : EvX dm mc P ops r (s.act dst x e) K) : EvX dm mc P ops (⟨dst, op, ty, pos, after, none⟩ :: r) s K := .inl ⟨x, e, h, k⟩
theorem ev1 {j d : Nat} {want b : Bool} (hd : (ops[j]?).bind (·.dst) = some d) (hb : s.t d = some (.v (.p (.bool b)))) (hw : b = want) (h : Za9 dm P ops ⟨dst, op, ty, pos, after, some (j, want)⟩ s x e) (k : EvX dm mc P ops r (s.act dst x e) K) : EvX dm mc P ops (⟨dst, op, ty, pos, after, some (j, want)⟩ :: r) s K := .inl ⟨x, e, ⟨d, b, hd, hb, .inl ⟨hw, h⟩⟩, k⟩
theorem evS {j d : Nat} {want b : Bool} (hd : (ops[j]?).bind (·.dst) = some d) (hb : s.t d = some (.v (.p (.bool b)))) (hw : b ≠ want) (hin : inbB s dst = true) (k : EvX dm mc P ops r (s.act dst (.v (.tup [])) .none) K) : EvX dm mc P ops (⟨dst, op, ty, pos, after, some (j, want)⟩ :: r) s K := .inl ⟨_, _, ⟨d, b, hd, hb, .inr ⟨hw, rfl, rfl, Zaa hin⟩⟩, k⟩
end
section
variable {P : Program} {ops : Array Oper} {r : List Oper} {s : AS} {K : AS → Prop} {dst : Option Tmp} {op : Op} {ty : TypeId} {pos : String} {after : Array Edge} {x : TV} {e : Eff} {g : Option (Nat × Bool)}
def GOK (ops : Array Oper) (s : AS) : Option (Nat × Bool) → Prop
 | none => True
 | some (j, want) => ∃ d b, (ops[j]?).bind (·.dst) = some d ∧ s.t d = some (.v (.p (.bool b))) ∧ b = want
theorem evG (hg : GOK ops s g) (h : Za9 dm P ops ⟨dst, op, ty, pos, after, g⟩ s x e) (k : EvX dm mc P ops r (s.act dst x e) K) : EvX dm mc P ops (⟨dst, op, ty, pos, after, g⟩ :: r) s K := by
  cases g with
  | none => exact ev0 h k
  | some jw =>
    obtain ⟨j, want⟩ := jw
    obtain ⟨d, b, h1, h2, h3⟩ := hg
    exact ev1 h1 h2 h3 h k
theorem evSf {j d : Nat} {b : Bool} (hd : (ops[j]?).bind (·.dst) = some d) (hb : s.t d = some (.v (.p (.bool b)))) (hw : b = false) (hin : inbB s dst = true) (k : EvX dm mc P ops r (s.act dst (.v (.tup [])) .none) K) : EvX dm mc P ops (⟨dst, op, ty, pos, after, some (j, true)⟩ :: r) s K := evS hd hb (by rw [hw]; decide) hin k
theorem evSt {j d : Nat} {b : Bool} (hd : (ops[j]?).bind (·.dst) = some d) (hb : s.t d = some (.v (.p (.bool b)))) (hw : b = true) (hin : inbB s dst = true) (k : EvX dm mc P ops r (s.act dst (.v (.tup [])) .none) K) : EvX dm mc P ops (⟨dst, op, ty, pos, after, some (j, false)⟩ :: r) s K := evS hd hb (by rw [hw]; decide) hin k
theorem evSu {j d : Nat} {want : Bool} (hd : (ops[j]?).bind (·.dst) = some d) (ht : s.t d = some (.v (.tup []))) (hin : inbB s dst = true) (k : EvX dm true P ops r (s.act dst (.v (.tup [])) .none) K) : EvX dm true P ops (⟨dst, op, ty, pos, after, some (j, want)⟩ :: r) s K := by
 refine .inr ⟨rfl, fun w0 M0 hM a w hrel next Q hn => ?_⟩
 obtain ⟨ρ, hr⟩ := hrel
 obtain ⟨v, h4, h5⟩ := hr.tmps d _ ht
 obtain ⟨vs, rfl, -, -⟩ := tup_inv h5
 have hy : yielded ops a.tmps j = none := by simp [yielded, hd, h4]
 have hw : ¬ Region.wanted ⟨dst, op, ty, pos, after, some (j, want)⟩ (yielded ops a.tmps) = true := by simp [Region.wanted, hy]
 rw [if_neg hw]
 exact hn _ _ _ k ⟨ρ, hr.put (Zaa hin) (rep_undef _ _)⟩
theorem Zc1 {id : Nat} {e : TypeId} {z : List Value} (hin : InB s (some id)) (ht : ZeroT P e z) (hid : s.m id = none) (h1 : z.all (·.oneCell') = true) (hn : (!s.nd || z.all nuV) = true) :
  Za9 dm P ops ⟨some id, .alloc e, ty, pos, after, g⟩ s (.ptr id 0) (.new id (.var (z.map fun u => .v (.p u)))) := ss_alloc id hin ht hid h1 hn
theorem ss_box_d {id : Nat} {e : TypeId} {y : Operand} {x : TV} {xs : List TV} (hin : InB s (some id)) (hid : s.m id = none) (hy : s.ev y = some x) (hx : Zcd x = some xs) (hn : (!s.nd || xs.all TV.nu) = true) :
  Za9 dm P ops ⟨some id, .box e y, ty, pos, after, g⟩ s (.ptr id 0) (.new id (.var xs)) := ss_box id hin hid hy hx hn
end
theorem T.drawB {P : Program} {l : List Oper} {s : AS} {id : Nat} {Q : Exit → AS → Prop} (hm : P.follows .mixedOrders = true) (hA : okR s l (Region.before l.toArray) = true) (h : EvX dm false P l.toArray l s (Q .normal)) : T dm P (.region id l.toArray true) s Q := T.draw hm hA h
section
variable {P : Program} {ops : Array Oper} {r : List Oper} {s : AS} {K : AS → Prop} {dst : Option Tmp} {ty : TypeId} {pos : String} {after : Array Edge} {g : Option (Nat × Bool)}
theorem d_move {y : Operand} (h : EvX dm mc P ops (⟨dst, .move y, ty, pos, after, g⟩ :: r) s K) : EvX dm mc P ops (⟨dst, .move y, ty, pos, after, g⟩ :: r) s K := h
theorem d_assign {y : Operand} (h : EvX dm mc P ops (⟨dst, .assign y, ty, pos, after, g⟩ :: r) s K) : EvX dm mc P ops (⟨dst, .assign y, ty, pos, after, g⟩ :: r) s K := h
theorem d_box {t : TypeId} {y : Operand} (h : EvX dm mc P ops (⟨dst, .box t y, ty, pos, after, g⟩ :: r) s K) : EvX dm mc P ops (⟨dst, .box t y, ty, pos, after, g⟩ :: r) s K := h
theorem d_alloc {t : TypeId} (h : EvX dm mc P ops (⟨dst, .alloc t, ty, pos, after, g⟩ :: r) s K) : EvX dm mc P ops (⟨dst, .alloc t, ty, pos, after, g⟩ :: r) s K := h
theorem d_field {t : TypeId} {y : Operand} {f : Nat} (h : EvX dm mc P ops (⟨dst, .fieldAddr t y f, ty, pos, after, g⟩ :: r) s K) : EvX dm mc P ops (⟨dst, .fieldAddr t y f, ty, pos, after, g⟩ :: r) s K := h
theorem d_load {t : TypeId} {y : Operand} (h : EvX dm mc P ops (⟨dst, .load t y, ty, pos, after, g⟩ :: r) s K) : EvX dm mc P ops (⟨dst, .load t y, ty, pos, after, g⟩ :: r) s K := h
theorem d_store {t : TypeId} {y z : Operand} (h : EvX dm mc P ops (⟨dst, .store t y z, ty, pos, after, g⟩ :: r) s K) : EvX dm mc P ops (⟨dst, .store t y z, ty, pos, after, g⟩ :: r) s K := h
theorem Zg0 {y : Operand} {i : Nat} (h : EvX dm mc P ops (⟨dst, .extract y i, ty, pos, after, g⟩ :: r) s K) : EvX dm mc P ops (⟨dst, .extract y i, ty, pos, after, g⟩ :: r) s K := h
theorem d_bin {b : BinOp} {t u : TypeId} {y z : Operand} (h : EvX dm mc P ops (⟨dst, .binOp b t y z u, ty, pos, after, g⟩ :: r) s K) : EvX dm mc P ops (⟨dst, .binOp b t y z u, ty, pos, after, g⟩ :: r) s K := h
theorem d_un {b : UnOp} {t : TypeId} {y : Operand} (h : EvX dm mc P ops (⟨dst, .unOp b t y, ty, pos, after, g⟩ :: r) s K) : EvX dm mc P ops (⟨dst, .unOp b t y, ty, pos, after, g⟩ :: r) s K := h
theorem d_blt {b : Builtin} {az : Array Operand} {ts : Array TypeId} (h : EvX dm mc P ops (⟨dst, .call ⟨.builtin b, az, ts⟩, ty, pos, after, g⟩ :: r) s K) : EvX dm mc P ops (⟨dst, .call ⟨.builtin b, az, ts⟩, ty, pos, after, g⟩ :: r) s K := h
theorem d_build {t : TypeId} {ps : Array (Nat × Operand)} (h : EvX dm mc P ops (⟨dst, .build t ps, ty, pos, after, g⟩ :: r) s K) : EvX dm mc P ops (⟨dst, .build t ps, ty, pos, after, g⟩ :: r) s K := h
theorem d_pick {x y z : Operand} (h : EvX dm mc P ops (⟨dst, .pick x y z, ty, pos, after, g⟩ :: r) s K) : EvX dm mc P ops (⟨dst, .pick x y z, ty, pos, after, g⟩ :: r) s K := h
end
theorem Zci {a : AV} {n : Nat} (h : a.cells.length = n) (h1 : a.cells.all AV.one = true) : ∀ x, x ∈ [a] → x.cells.length = n ∧ x.cells.all AV.one = true := fun x hx => by rw [List.mem_singleton] at hx; subst hx; exact ⟨h, h1⟩
theorem Zab {I : Nat → AS → Prop} {n k : Nat} {Q : Exit → AS → Prop} {s s' : AS} (h : k < n) (he : Ent s s') (hi : I k s') : loopQ I n Q .normal s := ⟨k, s', h, he, hi⟩
def midQ (I : AS → Prop) (Q : Exit → AS → Prop) : Exit → AS → Prop
 | .normal, s => ∃ s', Ent s s' ∧ I s'
 | e, s => Q e s
theorem Zae {I : AS → Prop} {Q : Exit → AS → Prop} {s s' : AS} (he : Ent s s') (hi : I s') : midQ I Q .normal s := ⟨s', he, hi⟩
theorem T.seqI {P : Program} {x y : Code} {s : AS} {Q : Exit → AS → Prop} (I : AS → Prop) (h : T dm P x s (midQ I Q)) (k : ∀ s, I s → T dm P y s Q) : T dm P (.seq x y) s Q :=
 T.seq (T.mono h fun e s' he => by
  cases e with
  | normal => obtain ⟨s2, h1, h2⟩ := he; exact T.weak h1 (k s2 h2)
  | _ => exact he)
section
variable {P : Program} {y : Code} {Q : Exit → AS → Prop} {s : AS} {id j n : Nat} {I : Nat → AS → Prop} {J : AS → Prop}
theorem T.condT {x : Code} {c : Operand} {b : Bool} (hc : s.ev c = some (.v (.p (.bool b)))) (hb : b = true) (h : T dm P x s Q) : T dm P (.cond c x y) s Q := T.cond hc (fun _ => h) (fun e => by rw [hb] at e; cases e)
theorem T.condF {x : Code} {c : Operand} {b : Bool} (hc : s.ev c = some (.v (.p (.bool b)))) (hb : b = false) (h : T dm P y s Q) : T dm P (.cond c x y) s Q := T.cond hc (fun e => by rw [hb] at e; cases e) (fun _ => h)
theorem Za1 (h : T dm P y s Q) : seqQ dm P y Q .normal s := h
theorem seqQ_e (h : Q (.exit j) s) : seqQ dm P y Q (.exit j) s := h
theorem seqQ_r (h : Q .ret s) : seqQ dm P y Q .ret s := h
theorem blockQ_n (h : Q .normal s) : blockQ id Q .normal s := h
theorem blockQ_r (h : Q .ret s) : blockQ id Q .ret s := h
theorem blockQ_e (hj : Nat.beq j id = true) (h : Q .normal s) : blockQ id Q (.exit j) s := by show bif Nat.beq j id then _ else _; rw [hj]; exact h
theorem blockQ_o (hj : Nat.beq j id = false) (h : Q (.exit j) s) : blockQ id Q (.exit j) s := by show bif Nat.beq j id then _ else _; rw [hj]; exact h
theorem loopQ_e (h : Q (.exit j) s) : loopQ I n Q (.exit j) s := h
theorem loopQ_r (h : Q .ret s) : loopQ I n Q .ret s := h
theorem midQ_e (h : Q (.exit j) s) : midQ J Q (.exit j) s := h
theorem midQ_r (h : Q .ret s) : midQ J Q .ret s := h
end
def roundQ (dm : Bool) (P : Program) (c : Code) (Q : Exit → AS → Prop) : Nat → Exit → AS → Prop
 | 0, .normal, _ => False
 | n + 1, .normal, s => T dm P c s (roundQ dm P c Q n)
 | _, x, s => Q x s
section
variable {P : Program} {c : Code} {Q : Exit → AS → Prop} {s : AS} {n j : Nat}
theorem roundQ_n (h : T dm P c s (roundQ dm P c Q n)) : roundQ dm P c Q (n + 1) .normal s := h
theorem roundQ_e (h : Q (.exit j) s) : roundQ dm P c Q n (.exit j) s := by cases n <;> exact h
theorem roundQ_r (h : Q .ret s) : roundQ dm P c Q n .ret s := by cases n <;> exact h
end
theorem w64 {x : Int} (h0 : -9223372036854775808 ≤ x) (h1 : x ≤ 9223372036854775807) : IntKind.i64.wrap x = x := IntWalk.i64_in _ oM
structure Keep (B : Prop) : Prop where
 out : B
theorem ggA {ops : Array Oper} {s : AS} {g : Option (Nat × Bool)} (h : GOK ops s g := by exact (by first | exact trivial | exact ⟨_, _, rfl, rfl, rfl⟩ | exact ⟨_, _, rfl, rfl, by assumption⟩)) : GOK ops s g := h
theorem stpA {A B : Prop} (h : B) (imp : Keep B → A := by intro hKeep; (first  | (refine d_move ?_; first | refine evG ggA (ss_move (Zaa rfl) rfl) ?_)  | (refine d_assign ?_; first | refine evG ggA (Zgm (Zaa rfl) rfl) ?_)  | (refine d_load ?_; first | refine evG ggA (Zd5 (Zaa rfl) (Zbi rfl) rfl rfl rfl) ?_ | refine evG ggA (Zdb (Zaa rfl) (Zbc rfl) rfl rfl rfl rfl) ?_ | refine evG ggA (Zeu (Zaa rfl) (Zbi rfl) rfl rfl) ?_ | refine evG ggA (Zdm (Zaa rfl) (Zbc rfl) rfl rfl rfl) ?_)  | (refine d_field ?_; first | refine evG ggA (Zd6 (Zaa rfl) (Zde rfl) rfl) ?_ | refine evG ggA (Zev (Zaa rfl) (Zde rfl) rfl) ?_)  | (refine d_store ?_; first | refine evG ggA (Zd4 rfl (Zbp rfl) rfl rfl rfl rfl rfl (Nat.le_of_ble_eq_true rfl) rfl) ?_)  | (refine Zg0 ?_; first | refine evG ggA (Zfv (Zaa rfl) rfl rfl) ?_)  | (refine d_bin ?_; first | refine evG ggA (ss_cmp (Zaa rfl) rfl rfl rfl) ?_ | refine evG ggA (Zb3 (Zaa rfl) rfl rfl (w64 oM oM)) ?_ | refine evG ggA (ss_eqb (Zaa rfl) Zgi rfl rfl rfl) ?_)  | (refine d_un ?_; first | refine evG ggA (ss_not (Zaa rfl) rfl) ?_ | refine evG ggA (ss_neg (Zaa rfl) rfl (w64 oM oM)) ?_)  | (refine d_blt ?_; first | refine evG ggA (ss_len (Zaa rfl) rfl (Za3 rfl) rfl) ?_ | refine evG ggA (ss_min (Zaa rfl) rfl rfl) ?_ | refine evG ggA (ss_max (Zaa rfl) rfl rfl) ?_ | refine evG ggA (ss_min3 (Zaa rfl) rfl rfl rfl) ?_ | refine evG ggA (Zfu (Zaa rfl) rfl (Za3 rfl) rfl) ?_ | refine evG ggA (Zel (Zaa rfl) rfl (Za3 rfl) rfl rfl (by first | rfl | simp)) ?_)  | (refine d_build ?_; first | refine evG ggA (ss_build (Zaa rfl) (Zer rfl) rfl rfl rfl) ?_)  | (refine d_box ?_; first | refine evG ggA (ss_box_d (Zaa rfl) rfl rfl rfl rfl) ?_)  | (refine d_alloc ?_; first | refine evG ggA (Zc1 (Zaa rfl) (zero_tab rfl) rfl rfl rfl) ?_)  | (refine d_pick ?_; first | refine evG ggA (Zgk (Zaa rfl) rfl (by first | rfl | assumption) rfl) ?_ | refine evG ggA (Zgl (Zaa rfl) rfl (by first | rfl | assumption) rfl) ?_)  | refine evSf rfl rfl (by first | rfl | assumption) rfl ?_ | refine evSt rfl rfl (by first | rfl | assumption) rfl ?_ | refine evSu rfl rfl rfl ?_); exact hKeep.out) : A := imp ⟨h⟩
theorem runA {A B : Prop} (h : B) (imp : Keep B → A := by intro hKeep; (repeat (first  | (refine d_move ?_; first | refine evG ggA (ss_move (Zaa rfl) rfl) ?_)  | (refine d_assign ?_; first | refine evG ggA (Zgm (Zaa rfl) rfl) ?_)  | (refine d_load ?_; first | refine evG ggA (Zd5 (Zaa rfl) (Zbi rfl) rfl rfl rfl) ?_ | refine evG ggA (Zdb (Zaa rfl) (Zbc rfl) rfl rfl rfl rfl) ?_ | refine evG ggA (Zeu (Zaa rfl) (Zbi rfl) rfl rfl) ?_ | refine evG ggA (Zdm (Zaa rfl) (Zbc rfl) rfl rfl rfl) ?_)  | (refine d_field ?_; first | refine evG ggA (Zd6 (Zaa rfl) (Zde rfl) rfl) ?_ | refine evG ggA (Zev (Zaa rfl) (Zde rfl) rfl) ?_)  | (refine d_store ?_; first | refine evG ggA (Zd4 rfl (Zbp rfl) rfl rfl rfl rfl rfl (Nat.le_of_ble_eq_true rfl) rfl) ?_)  | (refine Zg0 ?_; first | refine evG ggA (Zfv (Zaa rfl) rfl rfl) ?_)  | (refine d_bin ?_; first | refine evG ggA (ss_cmp (Zaa rfl) rfl rfl rfl) ?_ | refine evG ggA (Zb3 (Zaa rfl) rfl rfl (w64 oM oM)) ?_ | refine evG ggA (ss_eqb (Zaa rfl) Zgi rfl rfl rfl) ?_)  | (refine d_un ?_; first | refine evG ggA (ss_not (Zaa rfl) rfl) ?_ | refine evG ggA (ss_neg (Zaa rfl) rfl (w64 oM oM)) ?_)  | (refine d_blt ?_; first | refine evG ggA (ss_len (Zaa rfl) rfl (Za3 rfl) rfl) ?_ | refine evG ggA (ss_min (Zaa rfl) rfl rfl) ?_ | refine evG ggA (ss_max (Zaa rfl) rfl rfl) ?_ | refine evG ggA (ss_min3 (Zaa rfl) rfl rfl rfl) ?_ | refine evG ggA (Zfu (Zaa rfl) rfl (Za3 rfl) rfl) ?_ | refine evG ggA (Zel (Zaa rfl) rfl (Za3 rfl) rfl rfl (by first | rfl | simp)) ?_)  | (refine d_build ?_; first | refine evG ggA (ss_build (Zaa rfl) (Zer rfl) rfl rfl rfl) ?_)  | (refine d_box ?_; first | refine evG ggA (ss_box_d (Zaa rfl) rfl rfl rfl rfl) ?_)  | (refine d_alloc ?_; first | refine evG ggA (Zc1 (Zaa rfl) (zero_tab rfl) rfl rfl rfl) ?_)  | (refine d_pick ?_; first | refine evG ggA (Zgk (Zaa rfl) rfl (by first | rfl | assumption) rfl) ?_ | refine evG ggA (Zgl (Zaa rfl) rfl (by first | rfl | assumption) rfl) ?_)  | refine evSf rfl rfl (by first | rfl | assumption) rfl ?_ | refine evSt rfl rfl (by first | rfl | assumption) rfl ?_ | refine evSu rfl rfl rfl ?_)); exact hKeep.out) : A := imp ⟨h⟩
theorem regA {A B : Prop} (h : B) (imp : Keep B → A := by intro hKeep; (first | refine T.region ?_ | refine T.drawB mixed (by kernel_rfl) ?_); exact hKeep.out) : A := imp ⟨h⟩
theorem goA {A B : Prop} (h : B) (imp : Keep B → A := by intro hKeep; (repeat (first | (first  | (refine d_move ?_; first | refine evG ggA (ss_move (Zaa rfl) rfl) ?_)  | (refine d_assign ?_; first | refine evG ggA (Zgm (Zaa rfl) rfl) ?_)  | (refine d_load ?_; first | refine evG ggA (Zd5 (Zaa rfl) (Zbi rfl) rfl rfl rfl) ?_ | refine evG ggA (Zdb (Zaa rfl) (Zbc rfl) rfl rfl rfl rfl) ?_ | refine evG ggA (Zeu (Zaa rfl) (Zbi rfl) rfl rfl) ?_ | refine evG ggA (Zdm (Zaa rfl) (Zbc rfl) rfl rfl rfl) ?_)  | (refine d_field ?_; first | refine evG ggA (Zd6 (Zaa rfl) (Zde rfl) rfl) ?_ | refine evG ggA (Zev (Zaa rfl) (Zde rfl) rfl) ?_)  | (refine d_store ?_; first | refine evG ggA (Zd4 rfl (Zbp rfl) rfl rfl rfl rfl rfl (Nat.le_of_ble_eq_true rfl) rfl) ?_)  | (refine Zg0 ?_; first | refine evG ggA (Zfv (Zaa rfl) rfl rfl) ?_)  | (refine d_bin ?_; first | refine evG ggA (ss_cmp (Zaa rfl) rfl rfl rfl) ?_ | refine evG ggA (Zb3 (Zaa rfl) rfl rfl (w64 oM oM)) ?_ | refine evG ggA (ss_eqb (Zaa rfl) Zgi rfl rfl rfl) ?_)  | (refine d_un ?_; first | refine evG ggA (ss_not (Zaa rfl) rfl) ?_ | refine evG ggA (ss_neg (Zaa rfl) rfl (w64 oM oM)) ?_)  | (refine d_blt ?_; first | refine evG ggA (ss_len (Zaa rfl) rfl (Za3 rfl) rfl) ?_ | refine evG ggA (ss_min (Zaa rfl) rfl rfl) ?_ | refine evG ggA (ss_max (Zaa rfl) rfl rfl) ?_ | refine evG ggA (ss_min3 (Zaa rfl) rfl rfl rfl) ?_ | refine evG ggA (Zfu (Zaa rfl) rfl (Za3 rfl) rfl) ?_ | refine evG ggA (Zel (Zaa rfl) rfl (Za3 rfl) rfl rfl (by first | rfl | simp)) ?_)  | (refine d_build ?_; first | refine evG ggA (ss_build (Zaa rfl) (Zer rfl) rfl rfl rfl) ?_)  | (refine d_box ?_; first | refine evG ggA (ss_box_d (Zaa rfl) rfl rfl rfl rfl) ?_)  | (refine d_alloc ?_; first | refine evG ggA (Zc1 (Zaa rfl) (zero_tab rfl) rfl rfl rfl) ?_)  | (refine d_pick ?_; first | refine evG ggA (Zgk (Zaa rfl) rfl (by first | rfl | assumption) rfl) ?_ | refine evG ggA (Zgl (Zaa rfl) rfl (by first | rfl | assumption) rfl) ?_)  | refine evSf rfl rfl (by first | rfl | assumption) rfl ?_ | refine evSt rfl rfl (by first | rfl | assumption) rfl ?_ | refine evSu rfl rfl rfl ?_) | refine Zao ?_ | (first | refine T.seq ?_ | refine T.block ?_ | refine T.ret ?_ | refine T.skip ?_ | refine T.exit ?_ | refine T.condT rfl (by first | rfl | assumption) ?_ | refine T.condF rfl (by first | rfl | assumption) ?_) | (first | refine T.region ?_ | refine T.drawB mixed (by kernel_rfl) ?_) | (first | with_reducible refine Za1 ?_ | with_reducible refine seqQ_e ?_ | with_reducible refine seqQ_r ?_ | with_reducible refine blockQ_n ?_ | with_reducible refine blockQ_r ?_ | with_reducible refine blockQ_e rfl ?_ | with_reducible refine blockQ_o rfl ?_ | with_reducible refine loopQ_e ?_ | with_reducible refine loopQ_r ?_ | with_reducible refine midQ_e ?_ | with_reducible refine midQ_r ?_ | with_reducible refine roundQ_n ?_ | with_reducible refine roundQ_e ?_ | with_reducible refine roundQ_r ?_))); exact hKeep.out) : A := imp ⟨h⟩
theorem r1A {A B : Prop} (h : B) (imp : Keep B → A := by intro hKeep; refine T.seq ?_; (first | refine T.region ?_ | refine T.drawB mixed (by kernel_rfl) ?_); (repeat (first  | (refine d_move ?_; first | refine evG ggA (ss_move (Zaa rfl) rfl) ?_)  | (refine d_assign ?_; first | refine evG ggA (Zgm (Zaa rfl) rfl) ?_)  | (refine d_load ?_; first | refine evG ggA (Zd5 (Zaa rfl) (Zbi rfl) rfl rfl rfl) ?_ | refine evG ggA (Zdb (Zaa rfl) (Zbc rfl) rfl rfl rfl rfl) ?_ | refine evG ggA (Zeu (Zaa rfl) (Zbi rfl) rfl rfl) ?_ | refine evG ggA (Zdm (Zaa rfl) (Zbc rfl) rfl rfl rfl) ?_)  | (refine d_field ?_; first | refine evG ggA (Zd6 (Zaa rfl) (Zde rfl) rfl) ?_ | refine evG ggA (Zev (Zaa rfl) (Zde rfl) rfl) ?_)  | (refine d_store ?_; first | refine evG ggA (Zd4 rfl (Zbp rfl) rfl rfl rfl rfl rfl (Nat.le_of_ble_eq_true rfl) rfl) ?_)  | (refine Zg0 ?_; first | refine evG ggA (Zfv (Zaa rfl) rfl rfl) ?_)  | (refine d_bin ?_; first | refine evG ggA (ss_cmp (Zaa rfl) rfl rfl rfl) ?_ | refine evG ggA (Zb3 (Zaa rfl) rfl rfl (w64 oM oM)) ?_ | refine evG ggA (ss_eqb (Zaa rfl) Zgi rfl rfl rfl) ?_)  | (refine d_un ?_; first | refine evG ggA (ss_not (Zaa rfl) rfl) ?_ | refine evG ggA (ss_neg (Zaa rfl) rfl (w64 oM oM)) ?_)  | (refine d_blt ?_; first | refine evG ggA (ss_len (Zaa rfl) rfl (Za3 rfl) rfl) ?_ | refine evG ggA (ss_min (Zaa rfl) rfl rfl) ?_ | refine evG ggA (ss_max (Zaa rfl) rfl rfl) ?_ | refine evG ggA (ss_min3 (Zaa rfl) rfl rfl rfl) ?_ | refine evG ggA (Zfu (Zaa rfl) rfl (Za3 rfl) rfl) ?_ | refine evG ggA (Zel (Zaa rfl) rfl (Za3 rfl) rfl rfl (by first | rfl | simp)) ?_)  | (refine d_build ?_; first | refine evG ggA (ss_build (Zaa rfl) (Zer rfl) rfl rfl rfl) ?_)  | (refine d_box ?_; first | refine evG ggA (ss_box_d (Zaa rfl) rfl rfl rfl rfl) ?_)  | (refine d_alloc ?_; first | refine evG ggA (Zc1 (Zaa rfl) (zero_tab rfl) rfl rfl rfl) ?_)  | (refine d_pick ?_; first | refine evG ggA (Zgk (Zaa rfl) rfl (by first | rfl | assumption) rfl) ?_ | refine evG ggA (Zgl (Zaa rfl) rfl (by first | rfl | assumption) rfl) ?_)  | refine evSf rfl rfl (by first | rfl | assumption) rfl ?_ | refine evSt rfl rfl (by first | rfl | assumption) rfl ?_ | refine evSu rfl rfl rfl ?_)); refine Zao ?_; refine Za1 ?_; exact hKeep.out) : A := imp ⟨h⟩
theorem entA {s s' : AS} (h : Ent s s' := by (refine Ent.mk rfl rfl ?_ ?_ <;> (repeat (first | exact trivial | refine And.intro ?_ ?_ | exact ⟨_, rfl, .inl ⟨rfl, trivial⟩⟩ | exact ⟨_, rfl, .inl ⟨rfl, _, rfl⟩⟩ | exact .inl ⟨rfl, trivial⟩ | exact .inl ⟨rfl, _, rfl⟩ | exact ⟨_, rfl, .inr (.inl ⟨rfl, rfl⟩)⟩ | exact .inr (.inl ⟨rfl, rfl⟩) | exact ⟨_, rfl, .inr (.inr (.inl ⟨_, _, _, _, _, rfl, rfl, by first | rfl | assumption | simp, rfl, rfl⟩))⟩ | exact .inr (.inr (.inl ⟨_, _, _, _, _, rfl, rfl, by first | rfl | assumption | simp, rfl, rfl⟩)) | exact ⟨_, rfl, .inr (.inr (.inr ⟨_, _, _, rfl, rfl, rfl, rfl⟩))⟩ | exact .inr (.inr (.inr ⟨_, _, _, rfl, rfl, rfl, rfl⟩)) | rfl)))) : Ent s s' := h
theorem entqA {s s' : AS} (h : Ent s s' := by (refine Ent.mkP rfl rfl rfl rfl ?_ ?_ <;> (repeat (first | exact trivial | exact ⟨_, rfl, .inl ⟨rfl, ⟨_, rfl⟩, ⟨_, rfl⟩, trivial⟩⟩ | exact ⟨_, rfl, .inl ⟨rfl, ⟨_, rfl⟩, trivial⟩⟩ | refine And.intro ?_ ?_ | exact ⟨_, rfl, .inl ⟨rfl, trivial⟩⟩ | exact ⟨_, rfl, .inl ⟨rfl, _, rfl⟩⟩ | exact .inl ⟨rfl, trivial⟩ | exact .inl ⟨rfl, _, rfl⟩ | exact ⟨_, rfl, .inr (.inl ⟨rfl, rfl⟩)⟩ | exact .inr (.inl ⟨rfl, rfl⟩) | exact ⟨_, rfl, .inr (.inr (.inl ⟨_, _, _, _, _, rfl, rfl, by first | rfl | assumption | simp, rfl, rfl⟩))⟩ | exact .inr (.inr (.inl ⟨_, _, _, _, _, rfl, rfl, by first | rfl | assumption | simp, rfl, rfl⟩)) | exact ⟨_, rfl, .inr (.inr (.inr ⟨_, _, _, rfl, rfl, rfl, rfl⟩))⟩ | exact .inr (.inr (.inr ⟨_, _, _, rfl, rfl, rfl, rfl⟩)) | rfl)))) : Ent s s' := h
theorem osA {A B : Prop} (h : B) (imp : Keep B → A := by intro hKeep; (repeat (first | with_reducible refine Za1 ?_ | with_reducible refine seqQ_e ?_ | with_reducible refine seqQ_r ?_ | with_reducible refine blockQ_n ?_ | with_reducible refine blockQ_r ?_ | with_reducible refine blockQ_e rfl ?_ | with_reducible refine blockQ_o rfl ?_ | with_reducible refine loopQ_e ?_ | with_reducible refine loopQ_r ?_ | with_reducible refine midQ_e ?_ | with_reducible refine midQ_r ?_ | with_reducible refine roundQ_n ?_ | with_reducible refine roundQ_e ?_ | with_reducible refine roundQ_r ?_)); exact hKeep.out) : A := imp ⟨h⟩
theorem clA {A B C : Prop} (c : C) (h : B) (imp : C → Keep B → A := by intro hc hKeep; refine evG ggA (ss_call (Zaa rfl) rfl rfl hc) ?_; exact hKeep.out) : A := imp c ⟨h⟩
theorem clG {A B C : Prop} (c : C) (h : B) (imp : C → Keep B → A := by intro hc hKeep; refine evG ggA (ss_call (Zaa rfl) rfl rfl hc) ?_; refine goA ?_; exact hKeep.out) : A := imp c ⟨h⟩
theorem ixA {A B C : Prop} (c : C) (h : B) (imp : C → Keep B → A := by intro hc hKeep; refine evG ggA (Zbh (Zaa rfl) (Zag rfl) rfl rfl oM hc rfl) ?_; exact hKeep.out) : A := imp c ⟨h⟩
theorem ixG {A B C : Prop} (c : C) (h : B) (imp : C → Keep B → A := by intro hc hKeep; refine evG ggA (Zbh (Zaa rfl) (Zag rfl) rfl rfl oM hc rfl) ?_; refine goA ?_; exact hKeep.out) : A := imp c ⟨h⟩
theorem remA {A B : Prop} (h : B) (imp : Keep B → A := by intro hKeep; refine evG ggA (Zbx (op := .rem) (Zaa rfl) rfl rfl oM rfl) ?_; exact hKeep.out) : A := imp ⟨h⟩
theorem midE {A : Prop} (h : A := by exact Zae (by exact entA) rfl) : A := h
theorem T.seqE {dm : Bool} {P : Program} {x y : Code} {s : AS} {Q : Exit → AS → Prop} (s2 : AS) (h : T dm P x s (midQ (fun s1 => s1 = s2) Q)) (k : T dm P y s2 Q) : T dm P (.seq x y) s Q := T.seqI (fun s1 => s1 = s2) h fun _ e => by subst e; exact k
theorem pb1 {dm : Bool} {P : Program} {f : FuncId} {fn : Func} {c : Code} {args : List AV} {r : AV} {rv : ResultVar} (hf : P.funcs[f]? = some fn) (hrt : Zac P rv r) (hT : T dm P c (Zgj args fn.ntmps true) (resQ [rv] r)) (hname : (fn.name == "runtime.NumGoroutine") = false := by exact rfl) (hb : fn.body = some c := by exact rfl) (hres : fn.results = #[rv] := by exact rfl) (hn : args.length ≤ fn.ntmps := by exact (Nat.le_of_ble_eq_true rfl)) : PCD dm P f args r := Zaz true hf hname hb hres hn hrt hT
theorem pb2 {dm : Bool} {P : Program} {f : FuncId} {fn : Func} {c : Code} {args : List AV} {a1 a2 : AV} {r1 r2 : ResultVar} (hf : P.funcs[f]? = some fn) (ht1 : Zac P r1 a1) (ht2 : Zac P r2 a2) (hT : T dm P c (Zgj args fn.ntmps true) (resQ [r1, r2] (.tup [a1, a2]))) (hname : (fn.name == "runtime.NumGoroutine") = false := by exact rfl) (hb : fn.body = some c := by exact rfl) (hres : fn.results = #[r1, r2] := by exact rfl) (hn : args.length ≤ fn.ntmps := by exact (Nat.le_of_ble_eq_true rfl)) : PCD dm P f args (.tup [a1, a2]) := pc_body2 true hf hname hb hres hn ht1 ht2 hT
end Ab
