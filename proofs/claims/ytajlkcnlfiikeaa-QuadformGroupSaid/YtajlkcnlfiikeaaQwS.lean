/- The statement QuadformEquivalent: walked. -/
import Derived.Test.YtajlkcnlfiikeaaQwR
set_option linter.all false
namespace Ab
open Go Go.RowKit Go.Proofs Qf
set_option maxRecDepth 100000

def inS (x : Int) : Bool := decide (-1073741824 ≤ x) && decide (x ≤ 1073741824)
theorem inS_iff {x : Int} : inS x = true ↔ Bd 1073741824 x := by unfold inS Bd; simp
theorem slinG_p (x : Int) : PC Try.prog 106 [iV x] (bV (inS x)) := by
  unfold inS
  refine pc_body1 true Try.func106 rfl rfl rfl (Nat.le_of_ble_eq_true rfl) CellT.tmp ?_
  refine runA ?_
  by_cases h : -1073741824 ≤ x
  · have k1 : decide (x ≥ -1073741824) = true := by simpa using h
    rw [decide_eq_true h]
    refine goA ?_
    exact rfl
  · have k1 : decide (x ≥ -1073741824) = false := by simpa using h
    rw [decide_eq_false h]
    refine goA ?_
    exact rfl
def fitsB (m : M) : Bool := inS m.a && inS m.b && inS m.c && inS m.d
theorem fitsG_p (m : M) : PC Try.prog 89 [mA m] (bV (fitsB m)) := by
  have c1 := slinG_p m.a
  have c2 := slinG_p m.b
  have c3 := slinG_p m.c
  have c4 := slinG_p m.d
  unfold fitsB
  refine pc_body1 true Try.func89 rfl rfl rfl (Nat.le_of_ble_eq_true rfl) CellT.tmp ?_
  generalize inS m.a = i1 at *
  generalize inS m.b = i2 at *
  generalize inS m.c = i3 at *
  generalize inS m.d = i4 at *
  cases i1 with
  | false =>
    refine goA ?_
    refine evG ggA (ss_call (InB_of rfl) rfl rfl c1) ?_
    refine goA ?_
    exact rfl
  | true =>
  cases i2 with
  | false =>
    refine goA ?_
    refine evG ggA (ss_call (InB_of rfl) rfl rfl c1) ?_
    refine goA ?_
    refine evG ggA (ss_call (InB_of rfl) rfl rfl c2) ?_
    refine goA ?_
    exact rfl
  | true =>
  cases i3 with
  | false =>
    refine goA ?_
    refine evG ggA (ss_call (InB_of rfl) rfl rfl c1) ?_
    refine goA ?_
    refine evG ggA (ss_call (InB_of rfl) rfl rfl c2) ?_
    refine goA ?_
    refine evG ggA (ss_call (InB_of rfl) rfl rfl c3) ?_
    refine goA ?_
    exact rfl
  | true =>
  refine goA ?_
  refine evG ggA (ss_call (InB_of rfl) rfl rfl c1) ?_
  refine goA ?_
  refine evG ggA (ss_call (InB_of rfl) rfl rfl c2) ?_
  refine goA ?_
  refine evG ggA (ss_call (InB_of rfl) rfl rfl c3) ?_
  refine goA ?_
  refine evG ggA (ss_call (InB_of rfl) rfl rfl c4) ?_
  refine goA ?_
  exact rfl
theorem fits_bd {m : M} (h : fitsB m = true) : MBd 1073741824 m := by
  unfold fitsB at h
  simp only [Bool.and_eq_true] at h
  exact ⟨inS_iff.1 h.1.1.1, inS_iff.1 h.1.1.2, inS_iff.1 h.1.2, inS_iff.1 h.2⟩
def slC (m : M) : Int := if fitsB m = true then (if m.det = 1 then 0 else 12) else 2
theorem slcheckG_p (m : M) : PC Try.prog 39 [mA m] (iV (slC m)) := by
  have c0 := fitsG_p m
  unfold slC
  by_cases h : fitsB m = true
  · rw [if_pos h]
    by_cases hd : m.det = 1
    · rw [if_pos hd]
      exact slcheck_p (fits_bd h) hd
    · rw [if_neg hd]
      have c1 := det_p (fits_bd h)
      have k : (m.det != 1) = true := by simpa using hd
      generalize m.det = d at *
      refine pc_body1 true Try.func39 rfl rfl rfl (Nat.le_of_ble_eq_true rfl) CellT.tmp ?_
      refine goA ?_
      refine evG ggA (ss_call (InB_of rfl) rfl rfl c1) ?_
      refine goA ?_
      exact rfl
  · rw [if_neg h]
    have hf : fitsB m = false := by simpa using h
    rw [hf] at c0
    have c1 : PC Try.prog 69 [mA m] (.tup [iV 0, iV 2]) := by
      refine pc_body2 true Try.func69 rfl rfl rfl (Nat.le_of_ble_eq_true rfl) CellT.tmp CellT.tmp ?_
      refine goA ?_
      refine evG ggA (ss_call (InB_of rfl) rfl rfl c0) ?_
      refine goA ?_
      exact rfl
    refine pc_body1 true Try.func39 rfl rfl rfl (Nat.le_of_ble_eq_true rfl) CellT.tmp ?_
    refine goA ?_
    refine evG ggA (ss_call (InB_of rfl) rfl rfl c1) ?_
    refine goA ?_
    exact rfl
def tnB (x : Int) : Bool := decide (-1000 ≤ x) && decide (x ≤ 1000)
theorem tn_t {x : Int} (h : tnB x = true) : decide (x < -1000) = false ∧ decide (x > 1000) = false := by
  unfold tnB at h
  simp at h
  constructor <;> simp <;> omega
theorem tn_f {x : Int} (h : tnB x = false) : decide (x < -1000) = true ∨ (decide (x < -1000) = false ∧ decide (x > 1000) = true) := by
  unfold tnB at h
  simp at h
  by_cases c : x < -1000
  · exact .inl (by simpa using c)
  · exact .inr ⟨by simpa using c, by simp; omega⟩
def tinyB (m : M) : Bool := tnB m.a && (tnB m.b && (tnB m.c && tnB m.d))
set_option maxHeartbeats 1000000 in
theorem tiny_p (m : M) : PC Try.prog 41 [mA m] (bV (tinyB m)) := by
  unfold tinyB
  refine pc_body1 true Try.func41 rfl rfl rfl (Nat.le_of_ble_eq_true rfl) CellT.tmp ?_
  cases h1 : tnB m.a with
  | false =>
    rcases tn_f h1 with k1 | ⟨k1, k1'⟩
    · refine goA ?_
      refine evG ggA (ss_build_arr (InB_of rfl) (bla_tab rfl) rfl rfl rfl rfl) ?_
      refine goA ?_
      refine T.unroll 4 ?_
      refine goA ?_
      refine evG ggA (ss_idx (InB_of rfl) rfl rfl rfl (by decide) (by decide) rfl) ?_
      refine goA ?_
      exact rfl
    · refine goA ?_
      refine evG ggA (ss_build_arr (InB_of rfl) (bla_tab rfl) rfl rfl rfl rfl) ?_
      refine goA ?_
      refine T.unroll 4 ?_
      refine goA ?_
      refine evG ggA (ss_idx (InB_of rfl) rfl rfl rfl (by decide) (by decide) rfl) ?_
      refine goA ?_
      exact rfl
  | true =>
  obtain ⟨l1, l1'⟩ := tn_t h1
  cases h2 : tnB m.b with
  | false =>
    rcases tn_f h2 with k1 | ⟨k1, k1'⟩
    · refine goA ?_
      refine evG ggA (ss_build_arr (InB_of rfl) (bla_tab rfl) rfl rfl rfl rfl) ?_
      refine goA ?_
      refine T.unroll 4 ?_
      refine goA ?_
      refine evG ggA (ss_idx (InB_of rfl) rfl rfl rfl (by decide) (by decide) rfl) ?_
      refine goA ?_
      refine evG ggA (ss_idx (InB_of rfl) rfl rfl rfl (by decide) (by decide) rfl) ?_
      refine goA ?_
      exact rfl
    · refine goA ?_
      refine evG ggA (ss_build_arr (InB_of rfl) (bla_tab rfl) rfl rfl rfl rfl) ?_
      refine goA ?_
      refine T.unroll 4 ?_
      refine goA ?_
      refine evG ggA (ss_idx (InB_of rfl) rfl rfl rfl (by decide) (by decide) rfl) ?_
      refine goA ?_
      refine evG ggA (ss_idx (InB_of rfl) rfl rfl rfl (by decide) (by decide) rfl) ?_
      refine goA ?_
      exact rfl
  | true =>
  obtain ⟨l2, l2'⟩ := tn_t h2
  cases h3 : tnB m.c with
  | false =>
    rcases tn_f h3 with k1 | ⟨k1, k1'⟩
    · refine goA ?_
      refine evG ggA (ss_build_arr (InB_of rfl) (bla_tab rfl) rfl rfl rfl rfl) ?_
      refine goA ?_
      refine T.unroll 4 ?_
      refine goA ?_
      refine evG ggA (ss_idx (InB_of rfl) rfl rfl rfl (by decide) (by decide) rfl) ?_
      refine goA ?_
      refine evG ggA (ss_idx (InB_of rfl) rfl rfl rfl (by decide) (by decide) rfl) ?_
      refine goA ?_
      refine evG ggA (ss_idx (InB_of rfl) rfl rfl rfl (by decide) (by decide) rfl) ?_
      refine goA ?_
      exact rfl
    · refine goA ?_
      refine evG ggA (ss_build_arr (InB_of rfl) (bla_tab rfl) rfl rfl rfl rfl) ?_
      refine goA ?_
      refine T.unroll 4 ?_
      refine goA ?_
      refine evG ggA (ss_idx (InB_of rfl) rfl rfl rfl (by decide) (by decide) rfl) ?_
      refine goA ?_
      refine evG ggA (ss_idx (InB_of rfl) rfl rfl rfl (by decide) (by decide) rfl) ?_
      refine goA ?_
      refine evG ggA (ss_idx (InB_of rfl) rfl rfl rfl (by decide) (by decide) rfl) ?_
      refine goA ?_
      exact rfl
  | true =>
  obtain ⟨l3, l3'⟩ := tn_t h3
  cases h4 : tnB m.d with
  | false =>
    rcases tn_f h4 with k1 | ⟨k1, k1'⟩
    · refine goA ?_
      refine evG ggA (ss_build_arr (InB_of rfl) (bla_tab rfl) rfl rfl rfl rfl) ?_
      refine goA ?_
      refine T.unroll 4 ?_
      refine goA ?_
      refine evG ggA (ss_idx (InB_of rfl) rfl rfl rfl (by decide) (by decide) rfl) ?_
      refine goA ?_
      refine evG ggA (ss_idx (InB_of rfl) rfl rfl rfl (by decide) (by decide) rfl) ?_
      refine goA ?_
      refine evG ggA (ss_idx (InB_of rfl) rfl rfl rfl (by decide) (by decide) rfl) ?_
      refine goA ?_
      refine evG ggA (ss_idx (InB_of rfl) rfl rfl rfl (by decide) (by decide) rfl) ?_
      refine goA ?_
      exact rfl
    · refine goA ?_
      refine evG ggA (ss_build_arr (InB_of rfl) (bla_tab rfl) rfl rfl rfl rfl) ?_
      refine goA ?_
      refine T.unroll 4 ?_
      refine goA ?_
      refine evG ggA (ss_idx (InB_of rfl) rfl rfl rfl (by decide) (by decide) rfl) ?_
      refine goA ?_
      refine evG ggA (ss_idx (InB_of rfl) rfl rfl rfl (by decide) (by decide) rfl) ?_
      refine goA ?_
      refine evG ggA (ss_idx (InB_of rfl) rfl rfl rfl (by decide) (by decide) rfl) ?_
      refine goA ?_
      refine evG ggA (ss_idx (InB_of rfl) rfl rfl rfl (by decide) (by decide) rfl) ?_
      refine goA ?_
      exact rfl
  | true =>
  obtain ⟨l4, l4'⟩ := tn_t h4
  refine goA ?_
  refine evG ggA (ss_build_arr (InB_of rfl) (bla_tab rfl) rfl rfl rfl rfl) ?_
  refine goA ?_
  refine T.unroll 4 ?_
  refine goA ?_
  refine evG ggA (ss_idx (InB_of rfl) rfl rfl rfl (by decide) (by decide) rfl) ?_
  refine goA ?_
  refine evG ggA (ss_idx (InB_of rfl) rfl rfl rfl (by decide) (by decide) rfl) ?_
  refine goA ?_
  refine evG ggA (ss_idx (InB_of rfl) rfl rfl rfl (by decide) (by decide) rfl) ?_
  refine goA ?_
  refine evG ggA (ss_idx (InB_of rfl) rfl rfl rfl (by decide) (by decide) rfl) ?_
  refine goA ?_
  exact rfl
theorem tiny_bd {m : M} (h : tinyB m = true) : MBd 1000 m := by
  unfold tinyB at h
  simp only [Bool.and_eq_true] at h
  have key : ∀ x, tnB x = true → Bd 1000 x := fun x hx => by
    unfold tnB at hx
    simp at hx
    unfold Bd
    omega
  exact ⟨key _ h.1, key _ h.2.1, key _ h.2.2.1, key _ h.2.2.2⟩
set_option maxHeartbeats 4000000 in
theorem equivalent_p (f : F) (m : M) (n : Int) (n0 : -9223372036854775808 ≤ n) (n1 : n ≤ 9223372036854775807) : PC Try.prog 10 [fA f, mA m, iV n] (bV true) := by
  have ca := awake_p
  have cf := check_p f
  have cm := slcheckG_p m
  have ct := tiny_p m
  by_cases h : chk f = 0
  case neg =>
    have k : (chk f != 0) = true := by simpa using h
    generalize chk f = c at *
    refine pc_body1 true Try.func10 rfl rfl rfl (Nat.le_of_ble_eq_true rfl) CellT.tmp ?_
    refine goA ?_
    refine evG ggA (ss_call (InB_of rfl) rfl rfl ca) ?_
    refine goA ?_
    refine evG ggA (ss_call (InB_of rfl) rfl rfl cf) ?_
    refine goA ?_
    exact rfl
  have crf := Reduce_p f
  have cpf := represent_p (f := f) n0 n1
  unfold redO at crf
  rw [if_pos h] at crf cpf
  obtain ⟨p, b⟩ := chk_zero h
  rw [h] at cf
  by_cases h2 : slC m = 0
  case neg =>
    have k : (slC m != 0) = true := by simpa using h2
    generalize slC m = c at *
    refine pc_body1 true Try.func10 rfl rfl rfl (Nat.le_of_ble_eq_true rfl) CellT.tmp ?_
    refine goA ?_
    refine evG ggA (ss_call (InB_of rfl) rfl rfl ca) ?_
    refine goA ?_
    refine evG ggA (ss_call (InB_of rfl) rfl rfl cf) ?_
    refine goA ?_
    refine evG ggA (ss_call (InB_of rfl) rfl rfl cm) ?_
    refine goA ?_
    exact rfl
  have hdet : m.det = 1 := by
    unfold slC at h2
    split at h2
    · split at h2
      · assumption
      · cases h2
    · cases h2
  rw [h2] at cm
  cases h3 : tinyB m with
  | false =>
    rw [h3] at ct
    refine pc_body1 true Try.func10 rfl rfl rfl (Nat.le_of_ble_eq_true rfl) CellT.tmp ?_
    refine goA ?_
    refine evG ggA (ss_call (InB_of rfl) rfl rfl ca) ?_
    refine goA ?_
    refine evG ggA (ss_call (InB_of rfl) rfl rfl cf) ?_
    refine goA ?_
    refine evG ggA (ss_call (InB_of rfl) rfl rfl cm) ?_
    refine goA ?_
    refine evG ggA (ss_call (InB_of rfl) rfl rfl ct) ?_
    refine goA ?_
    exact rfl
  | true =>
  rw [h3] at ct
  have mb := tiny_bd h3
  have q2 := bmul (show Bd 20000 (2 * f.a) by have := b.a; unfold Bd at *; omega) mb.a
  have q3 := bmul q2 mb.b
  have q4 := bmul (show Bd 20000 (2 * f.c) by have := b.c; unfold Bd at *; omega) mb.c
  have q5 := bmul q4 mb.d
  have x1 := bmul mb.a mb.d
  have x2 := bmul mb.b mb.c
  have q6 := bmul b.b (show Bd 2000000 (m.a * m.d + m.b * m.c) by unfold Bd at *; omega)
  have cb := rby_p (vb_of b mb.a mb.c (by decide) (by decide)) (vb_of b mb.b mb.d (by decide) (by decide)) (b.a.mono (by decide)) (b.c.mono (by decide)) ⟨mb.a.mono (by decide), mb.b.mono (by decide), mb.c.mono (by decide), mb.d.mono (by decide)⟩
    (q2.mono (by decide)) (q3.mono (by decide)) (q6.mono (by decide)) (q4.mono (by decide)) (q5.mono (by decide))
  have hrd := rd_by p hdet
  clear q2 q3 q4 q5 q6 x1 x2 mb h3 h2 h
  have cg := check_p (f.by m)
  have crg := Reduce_p (f.by m)
  have cpg := represent_p (f := f.by m) n0 n1
  unfold redO at crg
  by_cases h4 : chk (f.by m) = 0
  case neg =>
    have k : (chk (f.by m) != 0) = true := by simpa using h4
    clear crg cpg hrd
    generalize chk (f.by m) = c at *
    generalize f.by m = g at *
    refine pc_body1 true Try.func10 rfl rfl rfl (Nat.le_of_ble_eq_true rfl) CellT.tmp ?_
    refine goA ?_
    refine evG ggA (ss_call (InB_of rfl) rfl rfl ca) ?_
    refine goA ?_
    refine evG ggA (ss_call (InB_of rfl) rfl rfl cf) ?_
    refine goA ?_
    refine evG ggA (ss_call (InB_of rfl) rfl rfl cm) ?_
    refine goA ?_
    refine evG ggA (ss_call (InB_of rfl) rfl rfl ct) ?_
    refine goA ?_
    refine evG ggA (ss_call (InB_of rfl) rfl rfl cb) ?_
    refine goA ?_
    refine evG ggA (ss_call (InB_of rfl) rfl rfl cg) ?_
    refine goA ?_
    exact rfl
  rw [if_pos h4] at crg cpg
  rw [h4] at cg
  rw [hrd] at crg cpg
  clear h4 hrd p b hdet
  generalize f.by m = g at *
  generalize f.rd = r at *
  generalize f.rm = rm1 at *
  generalize g.rm = rm2 at *
  have e1 : decide ([r.a, r.b, r.c] = [r.a, r.b, r.c]) = true := by simp
  by_cases h5 : 0 ≤ n ∧ n ≤ 4000
  · rw [if_pos h5] at cpf cpg
    generalize rep r n = v at *
    have k5 : (v == v) = true := by simp
    refine pc_body1 true Try.func10 rfl rfl rfl (Nat.le_of_ble_eq_true rfl) CellT.tmp ?_
    refine goA ?_
    refine evG ggA (ss_call (InB_of rfl) rfl rfl ca) ?_
    refine goA ?_
    refine evG ggA (ss_call (InB_of rfl) rfl rfl cf) ?_
    refine goA ?_
    refine evG ggA (ss_call (InB_of rfl) rfl rfl cm) ?_
    refine goA ?_
    refine evG ggA (ss_call (InB_of rfl) rfl rfl ct) ?_
    refine goA ?_
    refine evG ggA (ss_call (InB_of rfl) rfl rfl cb) ?_
    refine goA ?_
    refine evG ggA (ss_call (InB_of rfl) rfl rfl cg) ?_
    refine goA ?_
    refine evG ggA (ss_call (InB_of rfl) rfl rfl crf) ?_
    refine goA ?_
    refine evG ggA (ss_call (InB_of rfl) rfl rfl crg) ?_
    refine goA ?_
    refine evG ggA (ss_call (InB_of rfl) rfl rfl cpf) ?_
    refine goA ?_
    refine evG ggA (ss_call (InB_of rfl) rfl rfl cpg) ?_
    refine goA ?_
    refine evG ggA (ss_eq3 (InB_of rfl) rfl rfl rfl rfl) ?_
    refine goA ?_
    rw [k5]
    exact rfl
  · rw [if_neg h5] at cpf cpg
    refine pc_body1 true Try.func10 rfl rfl rfl (Nat.le_of_ble_eq_true rfl) CellT.tmp ?_
    refine goA ?_
    refine evG ggA (ss_call (InB_of rfl) rfl rfl ca) ?_
    refine goA ?_
    refine evG ggA (ss_call (InB_of rfl) rfl rfl cf) ?_
    refine goA ?_
    refine evG ggA (ss_call (InB_of rfl) rfl rfl cm) ?_
    refine goA ?_
    refine evG ggA (ss_call (InB_of rfl) rfl rfl ct) ?_
    refine goA ?_
    refine evG ggA (ss_call (InB_of rfl) rfl rfl cb) ?_
    refine goA ?_
    refine evG ggA (ss_call (InB_of rfl) rfl rfl cg) ?_
    refine goA ?_
    refine evG ggA (ss_call (InB_of rfl) rfl rfl crf) ?_
    refine goA ?_
    refine evG ggA (ss_call (InB_of rfl) rfl rfl crg) ?_
    refine goA ?_
    refine evG ggA (ss_call (InB_of rfl) rfl rfl cpf) ?_
    refine goA ?_
    refine evG ggA (ss_call (InB_of rfl) rfl rfl cpg) ?_
    refine goA ?_
    refine evG ggA (ss_eq3 (InB_of rfl) rfl rfl rfl rfl) ?_
    refine goA ?_
    exact rfl
end Ab
