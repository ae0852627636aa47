/- Package ref02: Add, Neg, Sub, Same, in abstract values. Package ref33: two, Coef, Add, Scale, Sub, Differ, in abstract values. Package ref33: Differ; the comparison of results. -/
import Derived.Test.YtajhaoapcapgeaaGreatDoorRefQ
import Derived.Test.YtajhaoapcapgeaaGreatDoorBase
import Derived.Test.YtajhaoapcapgeaaGreatDoorRJ
set_option linter.all false
namespace Ab
open Go Go.RowKit Go.Proofs Hp
set_option maxRecDepth 100000

theorem lt_add {x y : Int} {k : Nat} (hx : x.natAbs < pw k) (hy : y.natAbs < pw k) : (x + y).natAbs < pw (k + 1) := by
  have h1 := pw_pos k
  have h2 : pw (k + 1) = pw k * 4294967296 := rfl
  omega
theorem rat_add_eq (p q : Rat) : p + q = Rat.divInt (p.num * q.den + q.num * p.den) (p.den * q.den) := by
  conv => lhs; rw [← Rat.num_divInt_den p, ← Rat.num_divInt_den q]
  rw [Rat.divInt_add_divInt _ _ (by have := p.den_nz; omega) (by have := q.den_nz; omega)]
/-- two normal fractions have the same fields just if they are equal -/
theorem refsame2_p {p q : Rat} {k : Nat} (hp : Ht p k) (hk : k ≤ 274877906944) : PW Tryz.prog 38 [encQ p, encQ q] (.p (.bool (decide (p = q)))) := by
  have l1 : (ri p.num).2.length ≤ 4611686018427387904 := by
    have : (dgs p.num.natAbs).length ≤ k := dgs_len hp.1
    show (dgs p.num.natAbs).length ≤ _
    omega
  have l2 : (ri (p.den : Int)).2.length ≤ 4611686018427387904 := by
    have : (dgs ((p.den : Int)).natAbs).length ≤ k := dgs_len (by rw [Int.natAbs_natCast]; exact hp.2)
    show (dgs ((p.den : Int)).natAbs).length ≤ _
    omega
  have c1 := refsame_p (ri p.num) (ri q.num) l1
  have c2 := refsame_p (ri (p.den : Int)) (ri (q.den : Int)) l2
  rw [ri_iff] at c1 c2
  have c1' : PW Tryz.prog 99 [encI p.num, encI q.num] (.p (.bool (decide (p.num = q.num)))) := c1
  have c2' : PW Tryz.prog 99 [encI (p.den : Int), encI (q.den : Int)] (.p (.bool (decide ((p.den : Int) = (q.den : Int))))) := c2
  clear c1 c2
  unfold encI ci at c1' c2'
  unfold encQ ci
  by_cases h1 : p.num = q.num
  · rw [decide_eq_true h1] at c1'
    have e : decide (p = q) = decide ((p.den : Int) = (q.den : Int)) := by
      rw [decide_eq_decide]
      constructor
      · intro h; rw [h]
      · intro h; rw [← Rat.num_divInt_den p, ← Rat.num_divInt_den q, h1, h]
    rw [e]
    refine pc_body1 false Tryz.func38 rfl rfl rfl (Nat.le_of_ble_eq_true rfl) CellT.tmp ?_
    refine goA ?_
    refine evG ggA (ss_call (InB_of rfl) rfl rfl c1') ?_
    refine goA ?_
    refine evG ggA (ss_call (InB_of rfl) rfl rfl c2') ?_
    refine goA ?_
    exact rfl
  · rw [decide_eq_false h1] at c1'
    have e : decide (p = q) = false := decide_eq_false fun h => h1 (by rw [h])
    rw [e]
    refine pc_body1 false Tryz.func38 rfl rfl rfl (Nat.le_of_ble_eq_true rfl) CellT.tmp ?_
    refine goA ?_
    refine evG ggA (ss_call (InB_of rfl) rfl rfl c1') ?_
    refine goA ?_
    exact rfl
end Ab
namespace Ab
open Go Go.RowKit Go.Proofs Hp
set_option maxRecDepth 100000

theorem coef_p {s n : Int} {es : List AV} {l : List Rat} {K : Nat} (h : IsL es K l) (hK : K ≤ 274877906944) (a0 : -100 ≤ s) (a1 : s ≤ 1000) (a2 : (es.length : Int) ≤ 1000 - s) (n0 : -100000 ≤ n) (n1 : n ≤ 100000) : PC Tryz.prog 39 [serA s es, .p (.int .i64 n)] (encQ (cf s l n)) := by
  have hle := h.get.1
  have cz := q_p 0 (by decide) (by decide)
  have e0 : ((0 : Int) : Rat) = 0 := rfl
  rw [e0] at cz
  by_cases h1 : n < s
  · have hb1 : decide (n < s) = true := by simp [h1]
    rw [cf_lt h1]
    unfold encQ at cz ⊢
    refine pc_body1 true Tryz.func39 rfl rfl rfl (Nat.le_of_ble_eq_true rfl) (CellT.agg agg_rat) ?_
    refine goA ?_
    refine evG ggA (ss_call (InB_of rfl) rfl rfl cz) ?_
    refine goA ?_
    exact rfl
  have hb1 : decide (n < s) = false := by simp; omega
  by_cases h2 : s + es.length ≤ n
  · have hb2 : decide (n ≥ s + (es.length : Int)) = true := by simp [h2]
    rw [cf_ge (by omega)]
    unfold encQ at cz ⊢
    refine pc_body1 true Tryz.func39 rfl rfl rfl (Nat.le_of_ble_eq_true rfl) (CellT.agg agg_rat) ?_
    refine goA ?_
    refine evG ggA (ss_call (InB_of rfl) rfl rfl cz) ?_
    refine goA ?_
    exact rfl
  have hb2 : decide (n ≥ s + (es.length : Int)) = false := by simp; omega
  obtain ⟨g, xs, g', xs', q, e1, e2, e3⟩ := h.at (i := (n - s).toNat) (by omega)
  have hc : cf s l n = q := by
    unfold cf
    rw [if_neg h1, List.getD_eq_getElem?_getD, e2]
    rfl
  rw [hc]
  have cn : PC Tryz.prog 100 _ (encQ q) := (refnormal_p e3 hK).up
  unfold encQ at cn ⊢
  refine pc_body1 true Tryz.func39 rfl rfl rfl (Nat.le_of_ble_eq_true rfl) (CellT.agg agg_rat) ?_
  refine goA ?_
  refine evG ggA (ss_index_sl (InB_of rfl) (elem_tab rfl) rfl rfl (by omega) e1 rfl) ?_
  refine goA ?_
  refine evG ggA (ss_call (InB_of rfl) rfl rfl cn) ?_
  refine goA ?_
  exact rfl
theorem comb_one {s t : Int} {l m : List Rat} (i : Nat) : comb s l t m 1 i = cf s l (cfr s l.length t m.length + i) + cf t m (cfr s l.length t m.length + i) := by
  unfold comb
  have : ((1 : Int) : Rat) = 1 := rfl
  rw [this, Rat.one_mul]
/-- a multiple -/
def sclR (c : Rat) (s : Int) (l : List Rat) : Option (Int × List Rat) := if ValidP s l.length then nrm s (tk (fun i => c * l.getD i 0) l.length) else none
theorem Out.eq {x y : Option (Int × List Rat)} {p b b' : Int} {f : Int → Rat} {K K' : Nat} (h : Out x p f b K) (h' : Out y p f b' K') : x = y := by
  obtain ⟨s, l, e1, -, e3, -, -, e6, -, e8⟩ := h
  obtain ⟨t, m, k1, -, k3, -, -, k6, -, k8⟩ := h'
  obtain ⟨rfl, rfl⟩ := norm_eq (s := s) (t := t) (l := l) (m := m) e8 k8 (by omega) (fun n hn => by rw [e6 n (by omega), k6 n (by omega)])
  rw [e1, k1]
theorem scl_out {c : Rat} {s : Int} {l : List Rat} {k K : Nat} (hv : ValidP s l.length = true) (hc : Ht c k) (hk : 1 ≤ k) (hK : 1 ≤ K) (hl : ∀ q, q ∈ l → Ht q K) : Out (sclR c s l) (s + l.length) (fun n => c * cf s l n) s (k + K) := by
  obtain ⟨a0, a1, a2⟩ := valid_iff.1 hv
  have e : sclR c s l = nrm s (tk (fun i => c * l.getD i 0) l.length) := by unfold sclR; rw [hv]; rfl
  rw [e]
  have := nrm_out (s := s) (l := tk (fun i => c * l.getD i 0) l.length) (K := k + K) a0 (by rw [tk_len]; omega) (fun q hq => by
    obtain ⟨i, -, rfl⟩ := tk_mem hq
    exact ht_mul hc (ht_getD hK hl i) hk)
  refine this.congr (by rw [tk_len]) (fun n hn => ?_) (Int.le_refl _) (Nat.le_refl _)
  by_cases h2 : n < s
  · rw [cf_lt h2, cf_lt h2, Rat.mul_zero]
  · rw [cf_tk (by omega) (by omega)]
    unfold cf
    rw [if_neg h2]
/-- subtracting is adding the multiple by -1 -/
theorem sub_eq {s t u : Int} {l m c : List Rat} {K : Nat} (hv : ValidP s l.length = true) (hw : ValidP t m.length = true) (hK : 1 ≤ K) (hl : ∀ q, q ∈ l → Ht q K) (hm : ∀ q, q ∈ m → Ht q K) (he : sclR ((-1 : Int) : Rat) t m = some (u, c)) : ValidP u c.length = true ∧ (∀ q, q ∈ c → Ht q (1 + K)) ∧ combR s l u c 1 = combR s l t m (-1) := by
  obtain ⟨u', c', e1, e2, e3, e4, e5, e6, e7, e8⟩ := scl_out hw (ht_int (c := -1) (by decide)) (Nat.le_refl 1) hK hm
  rw [he] at e1
  injection e1 with e1
  injection e1 with h1 h2
  subst h1 h2
  have vc := Out.v e2 e3 e4
  refine ⟨vc, e7, ?_⟩
  have o1 := comb_out (c := 1) (K := 1 + K) hv vc (by decide) (by omega) (fun q hq => (hl q hq).mono (by omega)) e7
  have o2 := comb_out (c := -1) hv hw (by decide) hK hl hm
  refine Out.eq (o1.congr (p' := min (s + (l.length : Int)) (t + (m.length : Int))) (f' := fun n => cf s l n + ((-1 : Int) : Rat) * cf t m n) (by rw [e3]) (fun n hn => ?_) (Int.le_refl _) (Nat.le_refl _)) o2
  show cf s l n + ((1 : Int) : Rat) * cf u c n = cf s l n + ((-1 : Int) : Rat) * cf t m n
  rw [e6 n (by omega), show ((1 : Int) : Rat) = 1 from rfl, Rat.one_mul]
end Ab
namespace Ab
open Go Go.RowKit Go.Proofs Hp
set_option maxRecDepth 100000

/-- a result is the same as itself -/
theorem same_p {R : Option (Int × List Rat)} {K : Nat} (h : ∀ q, q ∈ sL R → Ht q K) (hK : K ≤ 100000000) (hl : (sL R).length ≤ 1000000) : PC Tryz.prog 11 [serA (sF R) ((sL R).map encQ), .p (.int .i64 (sE R)), serA (sF R) ((sL R).map encQ), .p (.int .i64 (sE R))] (.p (.bool true)) := by
  have c := sameQ_p (s := sF R) (t := sF R) (m := sL R) h (by omega) (by omega)
  rw [decide_eq_true ⟨rfl, rfl⟩] at c
  have hb : (sE R == sE R) = true := by simp
  have goal : PC Tryz.prog 11 [serA (sF R) ((sL R).map encQ), .p (.int .i64 (sE R)), serA (sF R) ((sL R).map encQ), .p (.int .i64 (sE R))] (.p (.bool (sE R == sE R))) := by
    generalize sE R = e at *
    generalize sF R = f at *
    generalize (sL R).map encQ = l at *
    refine pc_body1 true Tryz.func11 rfl rfl rfl (Nat.le_of_ble_eq_true rfl) CellT.tmp ?_
    refine goA ?_
    refine evG ggA (ss_call (InB_of rfl) rfl rfl c) ?_
    refine goA ?_
    exact rfl
  rw [hb] at goal
  exact goal
theorem out_ht {R : Option (Int × List Rat)} {p b : Int} {f : Int → Rat} {K : Nat} (h : Out R p f b K) : (∀ q, q ∈ sL R → Ht q K) ∧ (sL R).length ≤ 1000000 := by
  obtain ⟨s, l, rfl, h2, h3, h4, -, -, h7, -⟩ := h
  exact ⟨h7, by show l.length ≤ _; omega⟩
theorem none_ht {K : Nat} : (∀ q, q ∈ sL none → Ht q K) ∧ (sL none).length ≤ 1000000 := ⟨fun q h => by simp [sL] at h, Nat.zero_le _⟩
theorem comb_ht {s t c : Int} {l m : List Rat} {K : Nat} (hc : c.natAbs < 4294967296) (hK : 1 ≤ K) (h : ValidP s l.length = true → ValidP t m.length = true → (∀ q, q ∈ l → Ht q K) ∧ (∀ q, q ∈ m → Ht q K)) : (∀ q, q ∈ sL (combR s l t m c) → Ht q (2 * K + 2)) ∧ (sL (combR s l t m c)).length ≤ 1000000 := by
  cases h1 : ValidP s l.length && ValidP t m.length with
  | false => unfold combR; rw [h1]; exact none_ht
  | true =>
    simp only [Bool.and_eq_true] at h1
    obtain ⟨h2, h3⟩ := h h1.1 h1.2
    exact out_ht (comb_out h1.1 h1.2 hc hK h2 h3)
end Ab
