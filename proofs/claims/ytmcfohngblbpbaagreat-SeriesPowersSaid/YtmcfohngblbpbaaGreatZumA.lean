/- Package ref02: Add, Neg, Sub, Same, in abstract values. -/
import Derived.Test.YtmcfohngblbpbaaGreatRefQ
import Derived.Test.YtmcfohngblbpbaaGreatBase
namespace Ab
open Go Go.RowKit Go.Proofs Hp
set_option maxRecDepth 100000

theorem lt_add {x y : Int} {k : Nat} (hx : x.natAbs < pw k) (hy : y.natAbs < pw k) : (x + y).natAbs < pw (k + 1) := by
  have h1 := pw_pos k
  have h2 : pw (k + 1) = pw k * 4294967296 := rfl
  omega
theorem rat_add_eq (p q : Rat) : p + q = Rat.divInt (p.num * q.den + q.num * p.den) (p.den * q.den) := by
  conv => lhs; rw [← Rat.num_divInt_den p, ← Rat.num_divInt_den q]
  rw [Rat.divInt_add_divInt _ _ (by have := p.den_nz; omega) (by have := q.den_nz; omega)]
set_option maxHeartbeats 2000000 in
theorem refadd2_p {a b : AV} {k l : Nat} {p q : Rat} (ha : IsV a k p) (hb : IsV b l q) (h1 : 1 ≤ k) (h2 : 1 ≤ l) (hk : k + l + 1 ≤ 274877906944) : PW Tryz.prog 54 [a, b] (encQ (p + q)) := by
  have hp := isV_ht ha h1
  have hq := isV_ht hb h2
  have n1 := refnormal_p ha (by omega)
  have n2 := refnormal_p hb (by omega)
  have dp : ((p.den : Nat) : Int).natAbs < pw k := by rw [Int.natAbs_natCast]; exact hp.2
  have dq : ((q.den : Nat) : Int).natAbs < pw l := by rw [Int.natAbs_natCast]; exact hq.2
  have i1 := isI_encI hp.1
  have i2 := isI_encI dp
  have i3 := isI_encI hq.1
  have i4 := isI_encI dq
  have c1 := refmul_p i1 i4 (by omega) (by omega)
  have c2 := refmul_p i3 i2 (by omega) (by omega)
  have b1 := lt_mul hp.1 dq
  have b2 := lt_mul hq.1 dp
  rw [Nat.add_comm l k] at b2
  have c3 := refadd_p (isI_encI b1) (isI_encI b2) (by omega)
  have c4 := refmul_p i2 i4 (by omega) (by omega)
  have c5 := over_p (isI_encI (lt_add b1 b2)) (isI_mono (isI_encI (lt_mul dp dq)) (Nat.le_succ _)) (by omega)
  rw [rat_add_eq]
  obtain ⟨g, x, g', x', rfl⟩ := isV_cells ha
  obtain ⟨j, y, j', y', rfl⟩ := isV_cells hb
  clear ha hb hp hq i1 i2 i3 i4 b1 b2 dp dq
  unfold encI at c1 c2 c3 c4 c5
  unfold encQ at n1 n2 c5 ⊢
  refine pc_body1 false Tryz.func54 rfl rfl rfl (Nat.le_of_ble_eq_true rfl) (CellT.agg agg_rat) ?_
  refine goA ?_
  refine evG ggA (ss_call (InB_of rfl) rfl rfl n1) ?_
  refine goA ?_
  refine evG ggA (ss_call (InB_of rfl) rfl rfl n2) ?_
  refine goA ?_
  refine evG ggA (ss_call (InB_of rfl) rfl rfl c1) ?_
  refine goA ?_
  refine evG ggA (ss_call (InB_of rfl) rfl rfl c2) ?_
  refine evG ggA (ss_call (InB_of rfl) rfl rfl c3) ?_
  refine goA ?_
  refine evG ggA (ss_call (InB_of rfl) rfl rfl c4) ?_
  refine evG ggA (ss_call (InB_of rfl) rfl rfl c5) ?_
  refine goA ?_
  exact rfl
theorem refneg2_p {a : AV} {k : Nat} {p : Rat} (h : IsV a k p) (hk : k ≤ 274877906944) : PW Tryz.prog 96 [a] (encQ (-p)) := by
  obtain ⟨cs, ds, n, d, rfl, h1, h2, rfl⟩ := h
  have c1 := refneg_p ⟨cs, rfl, h1⟩ (by omega)
  have c2 := over_p (isI_encI (z := -n) (k := k) (by rw [Int.natAbs_neg]; exact isC_lt h1)) ⟨ds, rfl, h2⟩ hk
  have e : -(Rat.divInt n d) = Rat.divInt (-n) d := (Rat.neg_divInt n d).symm ▸ rfl
  rw [e]
  obtain ⟨g, x, rfl, -⟩ := h1
  obtain ⟨g', x', rfl, -⟩ := h2
  unfold encI at c1 c2
  unfold encQ at c2 ⊢
  refine pc_body1 false Tryz.func96 rfl rfl rfl (Nat.le_of_ble_eq_true rfl) (CellT.agg agg_rat) ?_
  refine goA ?_
  refine evG ggA (ss_call (InB_of rfl) rfl rfl c1) ?_
  refine goA ?_
  refine evG ggA (ss_call (InB_of rfl) rfl rfl c2) ?_
  refine goA ?_
  exact rfl
theorem refsub2_p {a b : AV} {k l : Nat} {p q : Rat} (ha : IsV a k p) (hb : IsV b l q) (h1 : 1 ≤ k) (h2 : 1 ≤ l) (hk : k + l + 1 ≤ 274877906944) : PW Tryz.prog 75 [a, b] (encQ (p - q)) := by
  have c1 := refneg2_p hb (by omega)
  have c2 := refadd2_p ha (isV_encQ (ht_neg (isV_ht hb h2))) h1 h2 hk
  rw [← Rat.sub_eq_add_neg] at c2
  obtain ⟨g, x, g', x', rfl⟩ := isV_cells ha
  obtain ⟨j, y, j', y', rfl⟩ := isV_cells hb
  unfold encQ at c1 c2 ⊢
  refine pc_body1 false Tryz.func75 rfl rfl rfl (Nat.le_of_ble_eq_true rfl) (CellT.agg agg_rat) ?_
  refine goA ?_
  refine evG ggA (ss_call (InB_of rfl) rfl rfl c1) ?_
  refine evG ggA (ss_call (InB_of rfl) rfl rfl c2) ?_
  refine goA ?_
  exact rfl
/-- two normal fractions have the same fields just if they are equal -/
theorem refsame2_p {p q : Rat} {k : Nat} (hp : Ht p k) (hk : k ≤ 274877906944) : PW Tryz.prog 67 [encQ p, encQ q] (.p (.bool (decide (p = q)))) := by
  have l1 : (ri p.num).2.length ≤ 4611686018427387904 := by
    have : (dgs p.num.natAbs).length ≤ k := dgs_len hp.1
    show (dgs p.num.natAbs).length ≤ _
    omega
  have l2 : (ri (p.den : Int)).2.length ≤ 4611686018427387904 := by
    have : (dgs ((p.den : Int)).natAbs).length ≤ k := dgs_len (by rw [Int.natAbs_natCast]; exact hp.2)
    show (dgs ((p.den : Int)).natAbs).length ≤ _
    omega
  have c1 := refsame_p (ri p.num) (ri q.num) l1
  have c2 := refsame_p (ri (p.den : Int)) (ri (q.den : Int)) l2
  rw [ri_iff] at c1 c2
  have c1' : PW Tryz.prog 94 [encI p.num, encI q.num] (.p (.bool (decide (p.num = q.num)))) := c1
  have c2' : PW Tryz.prog 94 [encI (p.den : Int), encI (q.den : Int)] (.p (.bool (decide ((p.den : Int) = (q.den : Int))))) := c2
  clear c1 c2
  unfold encI ci at c1' c2'
  unfold encQ ci
  by_cases h1 : p.num = q.num
  · rw [decide_eq_true h1] at c1'
    have e : decide (p = q) = decide ((p.den : Int) = (q.den : Int)) := by
      rw [decide_eq_decide]
      constructor
      · intro h; rw [h]
      · intro h; rw [← Rat.num_divInt_den p, ← Rat.num_divInt_den q, h1, h]
    rw [e]
    refine pc_body1 false Tryz.func67 rfl rfl rfl (Nat.le_of_ble_eq_true rfl) CellT.tmp ?_
    refine goA ?_
    refine evG ggA (ss_call (InB_of rfl) rfl rfl c1') ?_
    refine goA ?_
    refine evG ggA (ss_call (InB_of rfl) rfl rfl c2') ?_
    refine goA ?_
    exact rfl
  · rw [decide_eq_false h1] at c1'
    have e : decide (p = q) = false := decide_eq_false fun h => h1 (by rw [h])
    rw [e]
    refine pc_body1 false Tryz.func67 rfl rfl rfl (Nat.le_of_ble_eq_true rfl) CellT.tmp ?_
    refine goA ?_
    refine evG ggA (ss_call (InB_of rfl) rfl rfl c1') ?_
    refine goA ?_
    exact rfl
end Ab
