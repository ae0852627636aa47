/- Forms as abstract values; the small functions of quadform, sl2, ref18 and ref27. -/
import Derived.Test.YtajlkcnlfiikeaaTz
import Derived.Test.YtajlkcnlfiikeaaQfN
set_option linter.all false
namespace Ab
open Go Go.RowKit Go.Proofs Qf
set_option maxRecDepth 100000

def fA (f : F) : AV := .agg [iV f.a, iV f.b, iV f.c]
def mA (m : M) : AV := .agg [iV m.a, iV m.b, iV m.c, iV m.d]
def bV (b : Bool) : AV := .p (.bool b)
def Bd (N x : Int) : Prop := -N ≤ x ∧ x ≤ N
structure FBd (N : Int) (f : F) : Prop where
  a : Bd N f.a
  b : Bd N f.b
  c : Bd N f.c
structure MBd (N : Int) (f : M) : Prop where
  a : Bd N f.a
  b : Bd N f.b
  c : Bd N f.c
  d : Bd N f.d
theorem bmul {K N x y : Int} (hx : Bd K x) (hy : Bd N y) : Bd (K * N) (x * y) := by
  obtain ⟨a, b⟩ := hx
  obtain ⟨c, d⟩ := hy
  have h : (x * y).natAbs ≤ K.natAbs * N.natAbs := by
    rw [Int.natAbs_mul]
    exact Nat.mul_le_mul (by omega) (by omega)
  have e : ((K.natAbs * N.natAbs : Nat) : Int) = K * N := by
    rw [Int.natCast_mul, show ((K.natAbs : Nat) : Int) = K by omega, show ((N.natAbs : Nat) : Int) = N by omega]
  unfold Bd
  omega
theorem Bd.mono {K N x : Int} (h : Bd K x) (hn : K ≤ N) : Bd N x := by unfold Bd at *; omega
theorem FBd.mono {K N : Int} {f : F} (h : FBd K f) (hn : K ≤ N) : FBd N f := ⟨h.a.mono hn, h.b.mono hn, h.c.mono hn⟩
def inR (x : Int) : Bool := decide (-10000 ≤ x) && decide (x ≤ 10000)
def chk (f : F) : Int := if inR f.a = true ∧ inR f.b = true ∧ inR f.c = true then (if f.a ≤ 0 ∨ 0 ≤ f.disc then 27 else 0) else 2
theorem inR_iff {x : Int} : inR x = true ↔ Bd 10000 x := by unfold inR Bd; simp
theorem chk_zero {f : F} (h : chk f = 0) : f.Pos ∧ FBd 10000 f := by
  unfold chk at h
  split at h
  · rename_i h1
    split at h
    · cases h
    · rename_i h2
      exact ⟨⟨by omega, by omega⟩, ⟨inR_iff.1 h1.1, inR_iff.1 h1.2.1, inR_iff.1 h1.2.2⟩⟩
  · cases h
theorem chk_of {f : F} (h : f.Pos) (hb : FBd 10000 f) : chk f = 0 := by
  unfold chk
  rw [if_pos ⟨inR_iff.2 hb.a, inR_iff.2 hb.b, inR_iff.2 hb.c⟩, if_neg]
  have := h.a
  have := h.d
  omega
def FBd' (f : F) : Prop := Bd 10000 f.a ∧ Bd 10000 f.b ∧ Bd 10000 f.c
theorem chk_two {f : F} (h : ¬ FBd' f) : chk f = 2 := by
  unfold chk
  rw [if_neg]
  rintro ⟨h1, h2, h3⟩
  exact h ⟨inR_iff.1 h1, inR_iff.1 h2, inR_iff.1 h3⟩
theorem chk_in {f : F} (h : FBd 10000 f) : chk f = if f.a ≤ 0 ∨ 0 ≤ f.disc then 27 else 0 := by
  unfold chk
  rw [if_pos ⟨inR_iff.2 h.a, inR_iff.2 h.b, inR_iff.2 h.c⟩]
theorem disc_bds {f : F} {N : Int} (h : FBd N f) (hN : N ≤ 1000000000) : Bd 1000000000000000000 (f.b * f.b) ∧ Bd 4000000000000000000 (4 * f.a * f.c) := by
  have hb := bmul (h.b.mono hN) (h.b.mono hN)
  have ha := bmul (K := 4000000000) (x := 4 * f.a) (by have := h.a.mono hN; unfold Bd at *; omega) (h.c.mono hN)
  exact ⟨hb, ha⟩

theorem disc_p {f : F} {N : Int} (h : FBd N f) (hN : N ≤ 1000000000) : PC Try.prog 57 [fA f] (iV f.disc) := by
  obtain ⟨h1, h2⟩ := disc_bds h hN
  have h3 := h.a.mono hN
  unfold Bd at h1 h2 h3
  refine pc_body1 true Try.func57 rfl rfl rfl (Nat.le_of_ble_eq_true rfl) CellT.tmp ?_
  refine goA ?_
  exact rfl

theorem rdisc_p {f : F} {N : Int} (h : FBd N f) (hN : N ≤ 1000000000) : PC Try.prog 27 [fA f] (iV f.disc) := by
  obtain ⟨h1, h2⟩ := disc_bds h hN
  have h3 := h.a.mono hN
  unfold Bd at h1 h2 h3
  refine pc_body1 true Try.func27 rfl rfl rfl (Nat.le_of_ble_eq_true rfl) CellT.tmp ?_
  refine goA ?_
  exact rfl

set_option maxHeartbeats 2000000 in
theorem check_p (f : F) : PC Try.prog 26 [fA f] (iV (chk f)) := by
  refine pc_body1 true Try.func26 rfl rfl rfl (Nat.le_of_ble_eq_true rfl) CellT.tmp ?_
  refine goA ?_
  refine evG ggA (ss_build_arr (InB_of rfl) (bla_tab rfl) rfl rfl rfl rfl) ?_
  refine goA ?_
  refine T.unroll 3 ?_
  refine goA ?_
  refine evG ggA (ss_idx (InB_of rfl) rfl rfl rfl (by decide) (by decide) rfl) ?_
  refine runA ?_
  by_cases la : f.a < -10000
  case pos =>
    rw [chk_two (by unfold FBd' Bd; omega)]
    have k : decide (f.a < -10000) = true := by simp; omega
    refine goA ?_
    exact rfl
  have ka : decide (f.a < -10000) = false := by simp; omega
  refine runA ?_
  by_cases ga : 10000 < f.a
  case pos =>
    rw [chk_two (by unfold FBd' Bd; omega)]
    have m : decide (f.a > 10000) = true := by simp; omega
    refine goA ?_
    exact rfl
  have ma : decide (f.a > 10000) = false := by simp; omega
  refine goA ?_
  refine evG ggA (ss_idx (InB_of rfl) rfl rfl rfl (by decide) (by decide) rfl) ?_
  refine runA ?_
  by_cases lb : f.b < -10000
  case pos =>
    rw [chk_two (by unfold FBd' Bd; omega)]
    have k : decide (f.b < -10000) = true := by simp; omega
    refine goA ?_
    exact rfl
  have kb : decide (f.b < -10000) = false := by simp; omega
  refine runA ?_
  by_cases gb : 10000 < f.b
  case pos =>
    rw [chk_two (by unfold FBd' Bd; omega)]
    have m : decide (f.b > 10000) = true := by simp; omega
    refine goA ?_
    exact rfl
  have mb : decide (f.b > 10000) = false := by simp; omega
  refine goA ?_
  refine evG ggA (ss_idx (InB_of rfl) rfl rfl rfl (by decide) (by decide) rfl) ?_
  refine runA ?_
  by_cases lc : f.c < -10000
  case pos =>
    rw [chk_two (by unfold FBd' Bd; omega)]
    have k : decide (f.c < -10000) = true := by simp; omega
    refine goA ?_
    exact rfl
  have kc : decide (f.c < -10000) = false := by simp; omega
  refine runA ?_
  by_cases gc : 10000 < f.c
  case pos =>
    rw [chk_two (by unfold FBd' Bd; omega)]
    have m : decide (f.c > 10000) = true := by simp; omega
    refine goA ?_
    exact rfl
  have mc : decide (f.c > 10000) = false := by simp; omega
  refine goA ?_
  have hB : FBd 10000 f := ⟨by unfold Bd; omega, by unfold Bd; omega, by unfold Bd; omega⟩
  have cd := disc_p hB (by decide)
  rw [chk_in hB]
  by_cases p1 : f.a ≤ 0
  case pos =>
    have q1 : decide (f.a ≤ 0) = true := by simp; omega
    rw [if_pos (.inl p1)]
    refine goA ?_
    exact rfl
  have q1 : decide (f.a ≤ 0) = false := by simp; omega
  refine goA ?_
  refine evG ggA (ss_call (InB_of rfl) rfl rfl cd) ?_
  refine runA ?_
  by_cases p2 : 0 ≤ f.disc
  case pos =>
    have q2 : decide (f.disc ≥ 0) = true := by simp; omega
    rw [if_pos (.inr p2)]
    refine goA ?_
    exact rfl
  have q2 : decide (f.disc ≥ 0) = false := by simp; omega
  rw [if_neg (by omega)]
  refine goA ?_
  exact rfl

set_option maxHeartbeats 2000000 in
theorem rcheck_p (f : F) : PC Try.prog 18 [fA f] (iV (chk f)) := by
  refine pc_body1 true Try.func18 rfl rfl rfl (Nat.le_of_ble_eq_true rfl) CellT.tmp ?_
  refine goA ?_
  refine evG ggA (ss_build_arr (InB_of rfl) (bla_tab rfl) rfl rfl rfl rfl) ?_
  refine goA ?_
  refine T.unroll 3 ?_
  refine goA ?_
  refine evG ggA (ss_idx (InB_of rfl) rfl rfl rfl (by decide) (by decide) rfl) ?_
  refine runA ?_
  by_cases la : f.a < -10000
  case pos =>
    rw [chk_two (by unfold FBd' Bd; omega)]
    have k : decide (f.a < -10000) = true := by simp; omega
    refine goA ?_
    exact rfl
  have ka : decide (f.a < -10000) = false := by simp; omega
  refine runA ?_
  by_cases ga : 10000 < f.a
  case pos =>
    rw [chk_two (by unfold FBd' Bd; omega)]
    have m : decide (f.a > 10000) = true := by simp; omega
    refine goA ?_
    exact rfl
  have ma : decide (f.a > 10000) = false := by simp; omega
  refine goA ?_
  refine evG ggA (ss_idx (InB_of rfl) rfl rfl rfl (by decide) (by decide) rfl) ?_
  refine runA ?_
  by_cases lb : f.b < -10000
  case pos =>
    rw [chk_two (by unfold FBd' Bd; omega)]
    have k : decide (f.b < -10000) = true := by simp; omega
    refine goA ?_
    exact rfl
  have kb : decide (f.b < -10000) = false := by simp; omega
  refine runA ?_
  by_cases gb : 10000 < f.b
  case pos =>
    rw [chk_two (by unfold FBd' Bd; omega)]
    have m : decide (f.b > 10000) = true := by simp; omega
    refine goA ?_
    exact rfl
  have mb : decide (f.b > 10000) = false := by simp; omega
  refine goA ?_
  refine evG ggA (ss_idx (InB_of rfl) rfl rfl rfl (by decide) (by decide) rfl) ?_
  refine runA ?_
  by_cases lc : f.c < -10000
  case pos =>
    rw [chk_two (by unfold FBd' Bd; omega)]
    have k : decide (f.c < -10000) = true := by simp; omega
    refine goA ?_
    exact rfl
  have kc : decide (f.c < -10000) = false := by simp; omega
  refine runA ?_
  by_cases gc : 10000 < f.c
  case pos =>
    rw [chk_two (by unfold FBd' Bd; omega)]
    have m : decide (f.c > 10000) = true := by simp; omega
    refine goA ?_
    exact rfl
  have mc : decide (f.c > 10000) = false := by simp; omega
  refine goA ?_
  have hB : FBd 10000 f := ⟨by unfold Bd; omega, by unfold Bd; omega, by unfold Bd; omega⟩
  have cd := rdisc_p hB (by decide)
  rw [chk_in hB]
  by_cases p1 : f.a ≤ 0
  case pos =>
    have q1 : decide (f.a ≤ 0) = true := by simp; omega
    rw [if_pos (.inl p1)]
    refine goA ?_
    exact rfl
  have q1 : decide (f.a ≤ 0) = false := by simp; omega
  refine goA ?_
  refine evG ggA (ss_call (InB_of rfl) rfl rfl cd) ?_
  refine runA ?_
  by_cases p2 : 0 ≤ f.disc
  case pos =>
    have q2 : decide (f.disc ≥ 0) = true := by simp; omega
    rw [if_pos (.inr p2)]
    refine goA ?_
    exact rfl
  have q2 : decide (f.disc ≥ 0) = false := by simp; omega
  rw [if_neg (by omega)]
  refine goA ?_
  exact rfl

end Ab