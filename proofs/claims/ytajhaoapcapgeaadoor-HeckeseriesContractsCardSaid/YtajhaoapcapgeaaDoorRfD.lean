/- Package ref01: Same, Of, Divided; fields of structs; in abstract values. Package ref02: Over, Of, Normal, Mul, in abstract values. -/
import Derived.Test.YtajhaoapcapgeaaDoorRfC
set_option linter.all false
namespace Ab
open Go Go.RowKit Go.Proofs Hp
set_option maxRecDepth 100000

section
variable {dm : Bool} {P : Program} {ops : Array Oper} {s : AS} {dst : Option Tmp} {ty : TypeId} {pos : String} {after : Array Edge} {g : Option (Nat × Bool)}
def FieldG (P : Program) (t : TypeId) (f off n : Nat) : Prop := ∃ fs fd, P.underlying t = some (.struct fs) ∧ fs[f]? = some fd ∧ fd.offset = off ∧ AggT P fd.type n
def FieldO (P : Program) (t : TypeId) (f off : Nat) : Prop := ∃ fs fd, P.underlying t = some (.struct fs) ∧ fs[f]? = some fd ∧ fd.offset = off ∧ OneT P fd.type
theorem ss_fld_agg {t : TypeId} {y : Operand} {f off n : Nat} {cs l : List AV} (hin : InB s dst) (hf : FieldG P t f off n) (hy : s.ev y = some (.v (.agg cs))) (hl : (cs.drop off).take n = l) (hn : l.length = n) : SStep dm P ops ⟨dst, .field t y f, ty, pos, after, g⟩ s (.v (.agg l)) .none :=
  ss_pure hin fun s' hag w0 M0 ρ a w _ hr => by
    obtain ⟨fs, fd, h1, h2, h3, h4⟩ := hf
    obtain ⟨vs, h5, h6, h7, h8⟩ := agg_inv (hr.ev ((hag.ev (by simp [Op.operands])).trans hy))
    obtain ⟨k1, k2⟩ := isAgg_agg (w := w) h4
    subst hl
    refine ⟨.agg (vs.extract off (off + n)), ?_, ?_⟩
    · simp [execOp, h5, Instr.field, run_underlying h1, h2, asAgg, part, h3, k1, k2]
    · refine .agg _ _ (by simp [h6]; omega) (fun c hc => h7 c (List.mem_of_mem_drop (List.mem_of_mem_take hc))) (fun i c v hi hv => ?_)
      have hin : i < n := by have := (List.getElem?_eq_some_iff.1 hi).1; simp at this; omega
      have hi' : cs[off + i]? = some c := by
        rw [List.getElem?_take_of_lt hin, List.getElem?_drop] at hi
        exact hi
      obtain ⟨u, k3, k4⟩ := h8 (off + i) c hi'
      have : vs[off + i]? = some v := by
        rw [Array.getElem?_extract] at hv
        split at hv
        · exact hv
        · cases hv
      rw [k3] at this
      injection this with this
      subst this
      exact k4
theorem ss_fld_one {t : TypeId} {y : Operand} {f off : Nat} {cs : List AV} {c : AV} (hin : InB s dst) (hf : FieldO P t f off) (hy : s.ev y = some (.v (.agg cs))) (hc : cs[off]? = some c) : SStep dm P ops ⟨dst, .field t y f, ty, pos, after, g⟩ s (.v c) .none :=
  ss_pure hin fun s' hag w0 M0 ρ a w _ hr => by
    obtain ⟨fs, fd, h1, h2, h3, h4⟩ := hf
    obtain ⟨vs, h5, h6, h7, h8⟩ := agg_inv (hr.ev ((hag.ev (by simp [Op.operands])).trans hy))
    obtain ⟨k1, -⟩ := isAgg_one (w := w) h4
    obtain ⟨u, k3, k4⟩ := h8 off c hc
    refine ⟨u, ?_, k4⟩
    simp [execOp, h5, Instr.field, run_underlying h1, h2, asAgg, part, h3, k1, k3]
end
theorem fieldG_of {P : Program} {t : TypeId} {f off n : Nat} (h : (match P.underlying t with | some (.struct fs) => (match fs[f]? with | some fd => (match P.underlying fd.type, P.info? fd.type with | some (.struct _), some i => fd.offset == off && i.size == n | _, _ => false) | none => false) | _ => false) = true) : FieldG P t f off n := by
  cases hu : P.underlying t with
  | none => rw [hu] at h; cases h
  | some d =>
    rw [hu] at h
    cases d <;> first | cases h | skip
    rename_i fs
    simp only at h
    cases hf : fs[f]? with
    | none => rw [hf] at h; cases h
    | some fd =>
      rw [hf] at h
      simp only at h
      cases hu2 : P.underlying fd.type with
      | none => rw [hu2] at h; cases h
      | some d2 =>
        rw [hu2] at h
        cases d2 <;> first | cases h | skip
        rename_i fs2
        cases hi : P.info? fd.type with
        | none => rw [hi] at h; cases h
        | some i =>
          rw [hi] at h
          simp only [Bool.and_eq_true, beq_iff_eq] at h
          exact ⟨fs, fd, hu, hf, h.1, fs2, i, hu2, hi, h.2⟩
theorem fieldO_of {P : Program} {t : TypeId} {f off : Nat} (h : (match P.underlying t with | some (.struct fs) => (match fs[f]? with | some fd => (match P.underlying fd.type, P.info? fd.type with | some (.slice _), some i => fd.offset == off && i.size == 1 | _, _ => false) | none => false) | _ => false) = true) : FieldO P t f off := by
  cases hu : P.underlying t with
  | none => rw [hu] at h; cases h
  | some d =>
    rw [hu] at h
    cases d <;> first | cases h | skip
    rename_i fs
    simp only at h
    cases hf : fs[f]? with
    | none => rw [hf] at h; cases h
    | some fd =>
      rw [hf] at h
      simp only at h
      cases hu2 : P.underlying fd.type with
      | none => rw [hu2] at h; cases h
      | some d2 =>
        rw [hu2] at h
        cases d2 <;> first | cases h | skip
        rename_i e
        cases hi : P.info? fd.type with
        | none => rw [hi] at h; cases h
        | some i =>
          rw [hi] at h
          simp only [Bool.and_eq_true, beq_iff_eq] at h
          exact ⟨fs, fd, hu, hf, h.1, _, i, hu2, trivial, hi, h.2⟩
theorem fg_num : FieldG Tryd.prog 51 0 0 2 := fieldG_of (by kernel_rfl)
theorem fg_den : FieldG Tryd.prog 51 1 2 2 := fieldG_of (by kernel_rfl)
theorem fo_mag : FieldO Tryd.prog 49 1 1 := fieldO_of (by kernel_rfl)
end Ab
namespace Ab
open Go Go.RowKit Go.Proofs Hp
set_option maxRecDepth 100000

abbrev varQ : Blk := .var [.v (.p (.bool false)), .v (.p nilV), .v (.p (.bool false)), .v (.p nilV)]
/-- the divisor with its sign -/
def gsg (n d : Int) : Int := if d < 0 then -((Int.gcd n d : Nat) : Int) else ((Int.gcd n d : Nat) : Int)
theorem gcdZ_def (n d : Int) : gcdZ n d = ((Int.gcd n d : Nat) : Int) := rfl
theorem gsg_ne {n d : Int} (hd : d ≠ 0) : gsg n d ≠ 0 := by
  have : 0 < Int.gcd n d := Int.gcd_pos_of_ne_zero_right _ hd
  unfold gsg
  split <;> omega
theorem gsg_parts {n d : Int} (hd : d ≠ 0) : (Rat.divInt n d).num = n / gsg n d ∧ ((Rat.divInt n d).den : Int) = d / gsg n d := by
  by_cases h : d < 0
  · have e : Rat.divInt n d = Rat.divInt (-n) (-d) := (Rat.neg_divInt_neg n d).symm
    have hp := divInt_parts (n := -n) (d := -d) (by omega)
    rw [e, hp.1, hp.2, gcdZ_def, Int.gcd_neg, Int.neg_gcd]
    unfold gsg
    rw [if_pos h, Int.ediv_neg, Int.ediv_neg, Int.neg_ediv_of_dvd (Int.gcd_dvd_left n d), Int.neg_ediv_of_dvd (Int.gcd_dvd_right n d)]
    exact ⟨rfl, rfl⟩
  · have hp := divInt_parts (n := n) (d := d) (by omega)
    unfold gsg
    rw [if_neg h]
    exact hp
theorem gsg_lt {n d : Int} {k : Nat} (hd : d ≠ 0) (h : d.natAbs < pw k) : (gsg n d).natAbs < pw k := by
  have h1 : Int.gcd n d ≤ d.natAbs := Nat.gcd_le_right _ (by omega)
  have : (gsg n d).natAbs = Int.gcd n d := by unfold gsg; split <;> omega
  omega
theorem ri_iff {x y : Int} : decide (ri x = ri y) = decide (x = y) := by
  rw [decide_eq_decide]
  exact ⟨ri_inj, fun h => by rw [h]⟩
theorem lt_mul {x y : Int} {k l : Nat} (hx : x.natAbs < pw k) (hy : y.natAbs < pw l) : (x * y).natAbs < pw (k + l) := by
  rw [pw_nat] at hx hy ⊢
  rw [Int.natAbs_mul, Nat.pow_add]
  have := Nat.mul_lt_mul'' (show x.natAbs < 4294967296 ^ k by omega) (show y.natAbs < 4294967296 ^ l by omega)
  omega
end Ab
