/- Package ref01: Norm, signed, Neg, Abs, Sign, in abstract values. -/
import Derived.Test.YtmcfohngblbpbaaGreatRefA
namespace Ab
open Go Go.RowKit Go.Proofs Hp
set_option maxRecDepth 100000

theorem dgs_ne {n : Nat} : decide (((dgs n).length : Int) > 0) = decide (0 < n) := by
  rw [decide_eq_decide]
  by_cases h : n = 0
  · subst h; simp [dgs_zero]
  · rw [dgs_step h]; simp; omega
/-- cells of the normal form -/
theorem ci_raw (g : Bool) {ds : List Int} (hd : ∀ d, d ∈ ds → isDig d) : ci (zof g (vl ds)) = [.p (.bool (g && decide (0 < (vl ds).toNat))), .sl ((nd ds).map u32)] := by
  have h := vl_nonneg hd
  unfold ci nd
  have e1 : (zof g (vl ds)).natAbs = (vl ds).toNat := by unfold zof; split <;> omega
  have e2 : decide (zof g (vl ds) < 0) = (g && decide (0 < (vl ds).toNat)) := by
    cases g with
    | true => first | (simp [zof]; done) | (simp [zof]; omega)
    | false => first | (simp [zof]; done) | (simp [zof]; omega)
  rw [e1, e2]
theorem rnorm_p {a : AV} {k : Nat} {z : Int} (h : IsI a k z) (hk : k ≤ 17592186044416) : PW Tryz.prog 111 [a] (encI z) := by
  obtain ⟨cs, rfl, g, ds, rfl, hd, hl, rfl⟩ := h
  have c := trim_p hd (by omega)
  have e : (((nd ds).map u32).length : Int) = ((dgs (vl ds).toNat).length : Int) := by rw [List.length_map]; rfl
  have hn := dgs_ne (n := (vl ds).toNat)
  unfold encI
  rw [ci_raw g hd, ← hn, ← e]
  cases g with
  | true =>
    refine pc_body1 true Tryz.func111 rfl rfl rfl (Nat.le_of_ble_eq_true rfl) (CellT.agg agg_int) ?_
    refine goA ?_
    refine evG ggA (ss_call (InB_of rfl) rfl rfl c) ?_
    refine goA ?_
    exact rfl
  | false =>
    refine pc_body1 true Tryz.func111 rfl rfl rfl (Nat.le_of_ble_eq_true rfl) (CellT.agg agg_int) ?_
    refine goA ?_
    refine evG ggA (ss_call (InB_of rfl) rfl rfl c) ?_
    refine goA ?_
    exact rfl
theorem rsigned_p {g : Bool} {ds : List Int} {k : Nat} (hd : ∀ d, d ∈ ds → isDig d) (hl : ds.length ≤ k) (hk : k ≤ 17592186044416) : PW Tryz.prog 113 [.p (.bool g), .sl (ds.map u32)] (encI (zof g (vl ds))) := by
  have c := rnorm_p (a := .agg [.p (.bool g), .sl (ds.map u32)]) ⟨_, rfl, g, ds, rfl, hd, hl, rfl⟩ hk
  unfold encI at c ⊢
  refine pc_body1 true Tryz.func113 rfl rfl rfl (Nat.le_of_ble_eq_true rfl) (CellT.agg agg_int) ?_
  refine goA ?_
  refine evG ggA (ss_call (InB_of rfl) rfl rfl c) ?_
  refine goA ?_
  exact rfl
theorem zof_not (g : Bool) (x : Int) : zof (!g) x = -(zof g x) := by cases g <;> simp [zof]
theorem refneg_p {a : AV} {k : Nat} {z : Int} (h : IsI a k z) (hk : k ≤ 17592186044416) : PW Tryz.prog 109 [a] (encI (-z)) := by
  obtain ⟨cs, rfl, g, ds, rfl, hd, hl, rfl⟩ := h
  have c := rsigned_p (g := !g) hd hl hk
  rw [zof_not] at c
  unfold encI at c ⊢
  refine pc_body1 true Tryz.func109 rfl rfl rfl (Nat.le_of_ble_eq_true rfl) (CellT.agg agg_int) ?_
  refine goA ?_
  refine evG ggA (ss_call (InB_of rfl) rfl rfl c) ?_
  refine goA ?_
  exact rfl
theorem refabs_p {a : AV} {k : Nat} {z : Int} (h : IsI a k z) (hk : k ≤ 17592186044416) : PW Tryz.prog 126 [a] (encI (z.natAbs : Int)) := by
  obtain ⟨cs, rfl, g, ds, rfl, hd, hl, rfl⟩ := h
  have c := rsigned_p (g := false) hd hl hk
  have e : ((zof g (vl ds)).natAbs : Int) = zof false (vl ds) := by
    have := vl_nonneg hd
    cases g <;> simp [zof] <;> omega
  rw [e]
  unfold encI at c ⊢
  refine pc_body1 true Tryz.func126 rfl rfl rfl (Nat.le_of_ble_eq_true rfl) (CellT.agg agg_int) ?_
  refine goA ?_
  refine evG ggA (ss_call (InB_of rfl) rfl rfl c) ?_
  refine goA ?_
  exact rfl
end Ab
