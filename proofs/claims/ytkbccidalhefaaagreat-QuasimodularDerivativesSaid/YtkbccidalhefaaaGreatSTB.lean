/- Small things (of other texts). Append of any element (of another text). Lists of elements (of another text). Fractions of the base; heights by the kernel (of other texts). Sums of fractions in the document (of another text). Signs of fractions in the document (of another text). -/
import Derived.Test.YtkbccidalhefaaaGreatEnc
import Derived.Test.YtkbccidalhefaaaGreatIB
import Derived.Test.YtkbccidalhefaaaGreatRfD
set_option linter.all false
namespace Ab
open Go Go.RowKit Go.Proofs Hp
set_option maxRecDepth 100000

def bV (b : Bool) : AV := .p (.bool b)
def Bn (N x : Int) : Prop := -N ≤ x ∧ x ≤ N
theorem tmod_lt {a b : Int} (h : b ≠ 0) : (a.tmod b).natAbs < b.natAbs := by
  rw [Int.natAbs_tmod]
  exact Nat.mod_lt _ (by omega)
end Ab
namespace Ab
open Go Go.RowKit Go.Proofs Hp
set_option maxRecDepth 100000

theorem ss_snocA {dm : Bool} {P : Program} {ops : Array Oper} {s : AS} {dst : Option Tmp} {ty : TypeId} {pos : String} {after : Array Edge} {g : Option (Nat × Bool)} {t e : TypeId} {n bytes : Nat} {z : List Value} {y x : Operand} {id m : Nat} {es : List AV} {a : AV} (hin : InB s dst) (ht : MakeT P t e n bytes z) (hy : s.ev y = some (.own id m)) (hm : s.m id = some (.lst n e es)) (hlen : es.length = m) (hx : s.ev x = some (.v (.sl [a])))
    (hn : a.cells.length = n) (hn0 : 0 < n) (hnu : a.cells.all AV.nu = true) (h63 : m + 1 ≤ 1000000) (hby : bytes ≤ 64) (hz : z.all nuV = true) :
    SStep dm P ops ⟨dst, .call ⟨.builtin .append, #[y, x], #[t, t]⟩, ty, pos, after, g⟩ s (.own id (m + 1)) (.set id (.lst n e (es ++ [a]))) :=
  ss_append (xs := [a]) hin ht hy hm hlen hx (fun b hb => by simp at hb; subst hb; exact hn) hn0 (by simp [maxLen]; omega) (by simp; have := Nat.mul_le_mul_left (m + 1) hby; omega) (by simp [hz]) (fun _ b hb c hc => by simp at hb; subst hb; exact List.all_eq_true.1 hnu c hc)
end Ab
namespace Ab
open Go Go.RowKit Go.Proofs Hp
set_option maxRecDepth 100000

theorem ones_ok {xs : List AV} {n : Nat} (h : (xs.all fun a => a.cells.length == n && a.cells.all AV.one) = true) : ∀ x, x ∈ xs → x.cells.length = n ∧ x.cells.all AV.one = true := fun x hx => by
  have := List.all_eq_true.1 h x hx
  simpa using this
end Ab
namespace Ab
open Go Go.RowKit Go.Proofs Hp
set_option maxRecDepth 100000

abbrev qvar0 : Blk := .var [.v (.p (.bool false)), .v (.p nilV), .v (.p (.bool false)), .v (.p nilV)]
def htB (n : Nat) (q : Rat) : Bool := Nat.blt q.num.natAbs (4294967296 ^ n) && Nat.blt q.den (4294967296 ^ n)
theorem htB_ht {n : Nat} {q : Rat} (h : htB n q = true) : Ht q n := by
  unfold htB at h
  rw [Bool.and_eq_true] at h
  have h1 : q.num.natAbs < 4294967296 ^ n := Nat.le_of_ble_eq_true h.1
  have h2 : q.den < 4294967296 ^ n := Nat.le_of_ble_eq_true h.2
  exact ⟨by rw [pw_nat]; exact Int.ofNat_lt.2 h1, by rw [pw_nat]; exact Int.ofNat_lt.2 h2⟩
def gI (a b : Int) : Int := (Nat.gcd a.natAbs b.natAbs : Nat)
theorem gI_zero (a : Int) : gI a 0 = max a (0 - a) := by
  unfold gI
  simp only [Int.natAbs_zero, Nat.gcd_zero_right]
  omega
theorem gI_step (a b : Int) : gI b (a.tmod b) = gI a b := by
  unfold gI
  rw [Int.natAbs_tmod, Nat.gcd_comm b.natAbs, ← Nat.gcd_rec, Nat.gcd_comm]
theorem gI_nonneg (a b : Int) : 0 ≤ gI a b := by unfold gI; omega
theorem tdiv_bn {x y N : Int} (h : Bn N x) : Bn N (x.tdiv y) := by
  unfold Bn at *
  have h1 : (x.tdiv y).natAbs ≤ x.natAbs := by rw [Int.natAbs_tdiv]; exact Nat.div_le_self _ _
  generalize x.tdiv y = q at *
  omega
set_option maxHeartbeats 1000000 in
theorem lfrac_p {n d : Int} (hn : Bn 1000000000000 n) (hd0 : 0 < d) (hd : Bn 1000000000000 d) : PC Tryz.prog 28 [iV n, iV d] (encQ (Rat.divInt n d)) := by
  have hg : gsg n d = gI n d := by unfold gsg; rw [if_neg (by omega)]; rfl
  obtain ⟨p1, p2⟩ := gsg_parts (n := n) (d := d) (by omega)
  rw [hg] at p1 p2
  have hgp : 0 < gI n d := by
    have := Int.gcd_pos_of_ne_zero_right n (show d ≠ 0 by omega)
    unfold gI
    unfold Int.gcd at this
    omega
  have d1 : gI n d ∣ n := Int.gcd_dvd_left ..
  have d2 : gI n d ∣ d := Int.gcd_dvd_right ..
  have t1 : n.tdiv (gI n d) = n / gI n d := Int.tdiv_eq_ediv_of_dvd d1
  have t2 : d.tdiv (gI n d) = d / gI n d := Int.tdiv_eq_ediv_of_dvd d2
  have q1 := tdiv_bn (y := gI n d) hn
  have q2 := tdiv_bn (y := gI n d) hd
  have z1 := z_p (n.tdiv (gI n d)) (by unfold Bn at q1; omega) (by unfold Bn at q1; omega)
  have z2 := z_p (d.tdiv (gI n d)) (by unfold Bn at q2; omega) (by unfold Bn at q2; omega)
  have hq : encQ (Rat.divInt n d) = .agg (ci (n.tdiv (gI n d)) ++ ci (d.tdiv (gI n d))) := by unfold encQ; rw [p1, p2, t1, t2]
  rw [hq]
  unfold encI at z1 z2
  have hb : decide (d < 0) = false := decide_eq_false (by omega)
  have eg : gI (max n (0 - n)) d = gI n d := by unfold gI; rw [show (max n (0 - n)).natAbs = n.natAbs by omega]
  clear p1 p2 t1 t2 d1 d2 hg hq
  unfold Bn at hn hd q1 q2
  refine pc_body1 true Tryz.func28 rfl rfl rfl (Nat.le_of_ble_eq_true rfl) (CellT.agg agg_rat) ?_
  refine r1A ?_
  refine T.seqI (fun s1 => s1 = mkS [(0, .v (iV n)), (1, .v (iV d)), (4, .ptr 4 0)] [(4, qvar0)] 33 true) ?_ ?_
  · refine goA ?_
    exact midQ_intro (by exact entA) rfl
  rintro _ rfl
  refine T.seqI (fun s1 => s1 = mkS [(0, .v (iV n)), (1, .v (iV d)), (4, .ptr 4 0), (5, .v (iV (max n (0 - n)))), (6, .v (iV d))] [(4, qvar0)] 33 true) ?_ ?_
  · refine goA ?_
    exact midQ_intro (by exact entA) rfl
  rintro _ rfl
  refine T.seqI (fun s1 => s1 = mkS [(0, .v (iV n)), (1, .v (iV d)), (4, .ptr 4 0), (5, .v (iV (gI n d)))] [(4, qvar0)] 33 true) ?_ ?_
  · refine T.block ?_
    refine T.loop (fun k s1 => ∃ a b : Int, 0 ≤ a ∧ 0 ≤ b ∧ a ≤ 1000000000000 ∧ b ≤ 1000000000000 ∧ gI a b = gI n d ∧ b.natAbs ≤ k ∧ s1 = mkS [(0, .v (iV n)), (1, .v (iV d)), (4, .ptr 4 0), (5, .v (iV a)), (6, .v (iV b))] [(4, qvar0)] 33 true) d.natAbs
      (s' := mkS [(0, .v (iV n)), (1, .v (iV d)), (4, .ptr 4 0), (5, .v (iV (max n (0 - n)))), (6, .v (iV d))] [(4, qvar0)] 33 true) (by exact entA) ⟨_, d, by omega, by omega, by omega, by omega, eg, Nat.le_refl _, rfl⟩ ?_
    rintro k _ ⟨a, b, a0, b0, a1, b1, e, hk, rfl⟩
    by_cases h0 : b = 0
    · subst h0
      have hb2 : decide ((0 : Int) > 0) = false := rfl
      rw [← e, gI_zero, show max a (0 - a) = a by omega]
      refine goA ?_
      exact midQ_intro (by exact entA) rfl
    · have hb2 : decide (b > 0) = true := decide_eq_true (by omega)
      have hl := tmod_lt (a := a) h0
      have hm0 : 0 ≤ a.tmod b := Int.tmod_nonneg _ a0
      refine goA ?_
      refine evG ggA (ss_div (op := .rem) (InB_of rfl) rfl rfl (by omega) rfl) ?_
      refine goA ?_
      exact loopQ_intro (k := (a.tmod b).natAbs) (s' := mkS [(0, .v (iV n)), (1, .v (iV d)), (4, .ptr 4 0), (5, .v (iV b)), (6, .v (iV (a.tmod b)))] [(4, qvar0)] 33 true) (by omega) (by exact entA) ⟨b, _, b0, hm0, b1, by omega, by rw [gI_step, e], Nat.le_refl _, rfl⟩
  rintro _ rfl
  generalize gI n d = g at *
  refine goA ?_
  refine evG ggA (ss_div (InB_of rfl) rfl rfl (by omega) (w64 (by omega) (by omega))) ?_
  refine goA ?_
  refine evG ggA (ss_call (InB_of rfl) rfl rfl z1) ?_
  refine goA ?_
  refine evG ggA (ss_div (InB_of rfl) rfl rfl (by omega) (w64 (by omega) (by omega))) ?_
  refine goA ?_
  refine evG ggA (ss_call (InB_of rfl) rfl rfl z2) ?_
  refine goA ?_
  exact rfl
theorem refneg2_p {a : AV} {k : Nat} {p : Rat} (h : IsV a k p) (hk : k ≤ 274877906944) : PW Tryz.prog 70 [a] (encQ (-p)) := by
  obtain ⟨cs, ds, n, d, rfl, h1, h2, rfl⟩ := h
  have c1 := refneg_p ⟨cs, rfl, h1⟩ (by omega)
  have c2 := over_p (isI_encI (z := -n) (k := k) (by rw [Int.natAbs_neg]; exact isC_lt h1)) ⟨ds, rfl, h2⟩ hk
  have e : -(Rat.divInt n d) = Rat.divInt (-n) d := (Rat.neg_divInt n d).symm ▸ rfl
  rw [e]
  obtain ⟨g, x, rfl, -⟩ := h1
  obtain ⟨g', x', rfl, -⟩ := h2
  unfold encI at c1 c2
  unfold encQ at c2 ⊢
  refine pc_body1 false Tryz.func70 rfl rfl rfl (Nat.le_of_ble_eq_true rfl) (CellT.agg agg_rat) ?_
  refine goA ?_
  refine evG ggA (ss_call (InB_of rfl) rfl rfl c1) ?_
  refine goA ?_
  refine evG ggA (ss_call (InB_of rfl) rfl rfl c2) ?_
  refine goA ?_
  exact rfl
end Ab
namespace Ab
open Go Go.RowKit Go.Proofs Hp
set_option maxRecDepth 100000
theorem lt_add {x y : Int} {k : Nat} (hx : x.natAbs < pw k) (hy : y.natAbs < pw k) : (x + y).natAbs < pw (k + 1) := by
  have h1 := pw_pos k
  have h2 : pw (k + 1) = pw k * 4294967296 := rfl
  omega
theorem rat_add_eq (p q : Rat) : p + q = Rat.divInt (p.num * q.den + q.num * p.den) (p.den * q.den) := by
  conv => lhs; rw [← Rat.num_divInt_den p, ← Rat.num_divInt_den q]
  rw [Rat.divInt_add_divInt _ _ (by have := p.den_nz; omega) (by have := q.den_nz; omega)]
set_option maxHeartbeats 2000000 in
theorem refadd2_p {a b : AV} {k l : Nat} {p q : Rat} (ha : IsV a k p) (hb : IsV b l q) (h1 : 1 ≤ k) (h2 : 1 ≤ l) (hk : k + l + 1 ≤ 274877906944) : PW Tryz.prog 80 [a, b] (encQ (p + q)) := by
  have hp := isV_ht ha h1
  have hq := isV_ht hb h2
  have n1 := refnormal_p ha (by omega)
  have n2 := refnormal_p hb (by omega)
  have dp : ((p.den : Nat) : Int).natAbs < pw k := by rw [Int.natAbs_natCast]; exact hp.2
  have dq : ((q.den : Nat) : Int).natAbs < pw l := by rw [Int.natAbs_natCast]; exact hq.2
  have i1 := isI_encI hp.1
  have i2 := isI_encI dp
  have i3 := isI_encI hq.1
  have i4 := isI_encI dq
  have c1 := refmul_p i1 i4 (by omega) (by omega)
  have c2 := refmul_p i3 i2 (by omega) (by omega)
  have b1 := lt_mul hp.1 dq
  have b2 := lt_mul hq.1 dp
  rw [Nat.add_comm l k] at b2
  have c3 := refadd_p (isI_encI b1) (isI_encI b2) (by omega)
  have c4 := refmul_p i2 i4 (by omega) (by omega)
  have c5 := over_p (isI_encI (lt_add b1 b2)) (isI_mono (isI_encI (lt_mul dp dq)) (Nat.le_succ _)) (by omega)
  rw [rat_add_eq]
  obtain ⟨g, x, g', x', rfl⟩ := isV_cells ha
  obtain ⟨j, y, j', y', rfl⟩ := isV_cells hb
  clear ha hb hp hq i1 i2 i3 i4 b1 b2 dp dq
  unfold encI at c1 c2 c3 c4 c5
  unfold encQ at n1 n2 c5 ⊢
  refine pc_body1 false Tryz.func80 rfl rfl rfl (Nat.le_of_ble_eq_true rfl) (CellT.agg agg_rat) ?_
  refine goA ?_
  refine evG ggA (ss_call (InB_of rfl) rfl rfl n1) ?_
  refine goA ?_
  refine evG ggA (ss_call (InB_of rfl) rfl rfl n2) ?_
  refine goA ?_
  refine evG ggA (ss_call (InB_of rfl) rfl rfl c1) ?_
  refine goA ?_
  refine evG ggA (ss_call (InB_of rfl) rfl rfl c2) ?_
  refine evG ggA (ss_call (InB_of rfl) rfl rfl c3) ?_
  refine goA ?_
  refine evG ggA (ss_call (InB_of rfl) rfl rfl c4) ?_
  refine evG ggA (ss_call (InB_of rfl) rfl rfl c5) ?_
  refine goA ?_
  exact rfl
end Ab
namespace Ab
open Go Go.RowKit Go.Proofs Hp
set_option maxRecDepth 100000
theorem rsign2_p {a : AV} {k : Nat} {q : Rat} (h : IsV a k q) (hk : k ≤ 17592186044416) : ∃ dsg : Int, (dsg = 0 ↔ q = 0) ∧ PW Tryz.prog 81 [a] (.p (.int .i64 dsg)) := by
  obtain ⟨cs, ds, n, d, rfl, h1, h2, rfl⟩ := h
  have c1 := refsign_p ⟨cs, rfl, h1⟩ hk
  have c2 := refsign_p ⟨ds, rfl, h2⟩ hk
  obtain ⟨m1, m2, m3⟩ := sgn_mul_range n d
  refine ⟨sgn n * sgn d, m3, ?_⟩
  obtain ⟨g, x, rfl, -⟩ := h1
  obtain ⟨g', x', rfl, -⟩ := h2
  refine pc_body1 false Tryz.func81 rfl rfl rfl (Nat.le_of_ble_eq_true rfl) CellT.tmp ?_
  refine goA ?_
  refine evG ggA (ss_call (InB_of rfl) rfl rfl c1) ?_
  refine goA ?_
  refine evG ggA (ss_call (InB_of rfl) rfl rfl c2) ?_
  refine goA ?_
  exact rfl
end Ab
