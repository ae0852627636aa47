/- Small functions of packages arith, series and heckeseries, walked. Powers of integers in package bigint, walked. The power of package bigint, for small numbers, walked. The factor of a Hecke operator, and the trimming of its result, walked. The trimming of a Hecke operator's result, and the check of a space, walked. -/
import Derived.Test.YtajhaoapcapgeaaGreatDoorTwJ
set_option linter.all false
namespace Ab
open Go Go.RowKit Go.Proofs Hp
set_option maxRecDepth 100000

theorem ss_max3 {dm : Bool} {P : Program} {ops : Array Oper} {s : AS} {dst : Option Tmp} {ty : TypeId} {pos : String} {after : Array Edge} {g : Option (Nat × Bool)} {ts : Array TypeId} {k : IntKind} {y z t : Operand} {p q r : Int} (hin : InB s dst) (hy : s.ev y = some (.v (.p (.int k p)))) (hz : s.ev z = some (.v (.p (.int k q)))) (ht : s.ev t = some (.v (.p (.int k r)))) : SStep dm P ops ⟨dst, .call ⟨.builtin .max, #[y, z, t], ts⟩, ty, pos, after, g⟩ s (.v (.p (.int k (max (max p q) r)))) .none :=
  ss_pure hin fun s' hag w0 M0 ρ a w _ hr => by
    have h1 := Rep.p_inv (hr.ev ((hag.ev (by simp [Op.operands, Call.operands])).trans hy))
    have h2 := Rep.p_inv (hr.ev ((hag.ev (by simp [Op.operands, Call.operands])).trans hz))
    have h3 := Rep.p_inv (hr.ev ((hag.ev (by simp [Op.operands, Call.operands])).trans ht))
    refine ⟨.int k (max (max p q) r), ?_, .p _ rfl⟩
    have e : (if q > p then q else p) = max p q := by omega
    have e2 : (if r > max p q then r else max p q) = max (max p q) r := by omega
    simp [execOp, resolve, invoke, builtin, h1, h2, h3, Builtin.max_, Builtin.max2, e, e2]
/-- the greatest common divisor -/
def gI (a b : Int) : Int := (Nat.gcd a.natAbs b.natAbs : Nat)
theorem gI_zero (a : Int) : gI a 0 = max a (0 - a) := by
  unfold gI
  simp only [Int.natAbs_zero, Nat.gcd_zero_right]
  omega
theorem gI_step (a b : Int) : gI b (a.tmod b) = gI a b := by
  unfold gI
  rw [Int.natAbs_tmod, Nat.gcd_comm b.natAbs, ← Nat.gcd_rec, Nat.gcd_comm]
theorem gcd_p {a b : Int} (ha : Bn 4000000000000000000 a) (hb : Bn 4000000000000000000 b) : PC Tryz.prog 23 [iV a, iV b] (iV (gI a b)) := by
  refine pc_body1 true Tryz.func23 rfl rfl rfl (Nat.le_of_ble_eq_true rfl) CellT.tmp ?_
  refine goA ?_
  refine T.loop (fun n s1 => ∃ x y : Int, Bn 4000000000000000000 x ∧ Bn 4000000000000000000 y ∧ gI x y = gI a b ∧ y.natAbs ≤ n ∧ s1 = mkS [(0, .v (iV x)), (1, .v (iV y)), (4, .v (iV 0))] [] 15 true) b.natAbs
    (s' := mkS [(0, .v (iV a)), (1, .v (iV b)), (4, .v (iV 0))] [] 15 true) (by exact entA) ⟨a, b, ha, hb, rfl, Nat.le_refl _, rfl⟩ ?_
  rintro n _ ⟨x, y, hx, hy, hg, hn, rfl⟩
  by_cases c : y = 0
  · subst c
    have hb : ((0 : Int) != 0) = false := rfl
    unfold Bn at hx
    rw [← hg, gI_zero]
    have e : max x (0 - x) = max (max x (0 - x)) 0 := by omega
    rw [e]
    refine goA ?_
    refine evG ggA (ss_max3 (InB_of rfl) rfl rfl rfl) ?_
    refine goA ?_
    exact rfl
  · have hb : (y != 0) = true := by simpa using c
    have hl := tmod_lt (a := x) c
    refine goA ?_
    refine evG ggA (ss_div (op := .rem) (InB_of rfl) rfl rfl (by omega) rfl) ?_
    refine goA ?_
    exact loopQ_intro (k := (x.tmod y).natAbs) (s' := mkS [(0, .v (iV y)), (1, .v (iV (x.tmod y))), (4, .v (iV 0))] [] 15 true) (by omega) (by exact entA) ⟨y, x.tmod y, hy, by unfold Bn at *; omega, by rw [gI_step, hg], Nat.le_refl _, rfl⟩
theorem inRange_p (m : Int) : PC Tryz.prog 158 [iV m] (bV (decide (1 ≤ m ∧ m ≤ 2147483647))) := by
  refine pc_body1 true Tryz.func158 rfl rfl rfl (Nat.le_of_ble_eq_true rfl) CellT.tmp ?_
  refine runA ?_
  by_cases h : 1 ≤ m
  · have k : decide (m ≥ 1) = true := by simpa using h
    have e : decide (1 ≤ m ∧ m ≤ 2147483647) = decide (m ≤ 2147483647) := by simp [h]
    rw [e]
    refine goA ?_
    exact rfl
  · have k : decide (m ≥ 1) = false := by simpa using h
    have e : decide (1 ≤ m ∧ m ≤ 2147483647) = false := by simp [h]
    rw [e]
    refine goA ?_
    exact rfl

theorem sprec_p {s : Int} {es : List AV} (hr : InR s es.length) : PC Tryz.prog 76 [serA s es] (.tup [iV (if ValidP s es.length = true then s + es.length else 0), iV (if ValidP s es.length = true then 0 else 2)]) := by
  obtain ⟨i1, i2, i3⟩ := hr
  have hva := valid_p i1 i2 i3
  refine pc_body2 true Tryz.func76 rfl rfl rfl (Nat.le_of_ble_eq_true rfl) CellT.tmp CellT.tmp ?_
  cases h1 : ValidP s es.length with
  | false =>
    rw [h1] at hva
    rw [if_neg (by decide), if_neg (by decide)]
    refine goA ?_
    refine evG ggA (ss_call (InB_of rfl) rfl rfl hva) ?_
    refine goA ?_
    exact rfl
  | true =>
    rw [h1] at hva
    rw [if_pos rfl, if_pos rfl]
    obtain ⟨a0, a1, a2⟩ := valid_iff.1 h1
    have hp := prec_p (es := es) a0 a1 a2
    refine goA ?_
    refine evG ggA (ss_call (InB_of rfl) rfl rfl hva) ?_
    refine goA ?_
    refine evG ggA (ss_call (InB_of rfl) rfl rfl hp) ?_
    refine goA ?_
    exact rfl
theorem seriesAt_p {s n : Int} {es : List AV} {l : List Rat} {K : Nat} (h : IsL es K l) (hK : 1 ≤ K ∧ K ≤ 268435456) (hv : ValidP s es.length = true) (n0 : -9223372036854775808 ≤ n) (n1 : n < s + es.length) : PC Tryz.prog 79 [serA s es, iV n] (.tup [encQ (cf s l n), iV 0]) := by
  obtain ⟨a0, a1, a2⟩ := valid_iff.1 hv
  have hva := valid_p (s := s) (es := es) (by omega) (by omega) (by omega)
  rw [hv] at hva
  have hp := prec_p (es := es) a0 a1 a2
  have ha := at_p h a0 a1 a2 n0 n1
  have hn := rnormal_p (isV_at (s := s) (m := n) h hK.1) (by omega)
  have k1 : decide (n ≥ s + (es.length : Int)) = false := decide_eq_false (by omega)
  obtain ⟨cs, hcs, hc4, hcp⟩ := isV_lit (isV_at (s := s) (m := n) h hK.1)
  rw [hcs] at ha hn
  refine pc_body2 true Tryz.func79 rfl rfl rfl (Nat.le_of_ble_eq_true rfl) (CellT.agg (l := ci (cf s l n).num ++ ci (cf s l n).den) agg_rat) CellT.tmp ?_
  refine goA ?_
  refine evG ggA (ss_call (InB_of rfl) rfl rfl hva) ?_
  refine goA ?_
  refine evG ggA (ss_call (InB_of rfl) rfl rfl hp) ?_
  refine goA ?_
  refine evG ggA (ss_call (InB_of rfl) rfl rfl ha) ?_
  refine goA ?_
  refine evG ggA (ss_call (InB_of rfl) rfl rfl hn) ?_
  refine goA ?_
  exact rfl
theorem fdown (n : Int) {d : Int} (hd : 1 ≤ d) : (if n.tdiv d * d > n then n.tdiv d - 1 else n.tdiv d) = n / d := by
  have h1 := Int.tmod_add_mul_tdiv n d
  have h2 := Int.mul_ediv_add_emod n d
  have h3 := Int.emod_nonneg n (show d ≠ 0 by omega)
  have h4 := Int.emod_lt_of_pos n (show 0 < d by omega)
  have h5 := emod_t (x := n) (m := d) (by omega)
  have h6 : n.tdiv d * d = d * n.tdiv d := Int.mul_comm _ _
  by_cases c : n.tmod d < 0
  · rw [if_pos c] at h5
    rw [if_pos (by omega)]
    have : d * (n.tdiv d - 1) = d * (n / d) := by rw [Int.mul_sub, Int.mul_one]; omega
    exact Int.eq_of_mul_eq_mul_left (by omega) this
  · rw [if_neg c] at h5
    rw [if_neg (by omega)]
    have : d * n.tdiv d = d * (n / d) := by omega
    exact Int.eq_of_mul_eq_mul_left (by omega) this
theorem down_p {n d : Int} (hd : 1 ≤ d) (hn : Bn 1000000 n) : PC Tryz.prog 125 [iV n, iV d] (iV (n / d)) := by
  unfold Bn at hn
  have hq : -1000000 ≤ n.tdiv d ∧ n.tdiv d ≤ 1000000 := by
    have h1 : (n.tdiv d).natAbs = n.natAbs / d.natAbs := Int.natAbs_tdiv n d
    have h2 := Nat.div_le_self n.natAbs d.natAbs
    omega
  have hm : -2000000 ≤ n.tdiv d * d ∧ n.tdiv d * d ≤ 2000000 := by
    have h1 := Int.tmod_add_mul_tdiv n d
    have h6 : n.tdiv d * d = d * n.tdiv d := Int.mul_comm _ _
    have h3 : (n.tmod d).natAbs = n.natAbs % d.natAbs := Int.natAbs_tmod n d
    have h4 := Nat.mod_le n.natAbs d.natAbs
    omega
  rw [← fdown n hd]
  refine pc_body1 true Tryz.func125 rfl rfl rfl (Nat.le_of_ble_eq_true rfl) CellT.tmp ?_
  by_cases c : n.tdiv d * d > n
  · have k1 : decide (n.tdiv d * d > n) = true := decide_eq_true c
    rw [if_pos c]
    refine goA ?_
    refine evG ggA (ss_div (InB_of rfl) rfl rfl (by omega) (w64 (by omega) (by omega))) ?_
    refine goA ?_
    exact rfl
  · have k1 : decide (n.tdiv d * d > n) = false := decide_eq_false c
    rw [if_neg c]
    refine goA ?_
    refine evG ggA (ss_div (InB_of rfl) rfl rfl (by omega) (w64 (by omega) (by omega))) ?_
    refine goA ?_
    exact rfl
theorem hup_p {n d : Int} (hd : 1 ≤ d) (hn : Bn 1000000 n) : PC Tryz.prog 78 [iV n, iV d] (iV (0 - (0 - n) / d)) := by
  have cd := down_p (n := 0 - n) hd (by unfold Bn at *; omega)
  have hq : -1000000 ≤ (0 - n) / d ∧ (0 - n) / d ≤ 1000000 := by
    unfold Bn at hn
    have h2 := Int.mul_ediv_add_emod (0 - n) d
    have h3 := Int.emod_nonneg (0 - n) (show d ≠ 0 by omega)
    have h4 := Int.emod_lt_of_pos (0 - n) (show 0 < d by omega)
    generalize (0 - n) / d = q at *
    constructor
    · refine Int.not_lt.1 fun h => ?_
      have : d * q ≤ d * (-1000001) := Int.mul_le_mul_of_nonneg_left (by omega) (by omega)
      omega
    · refine Int.not_lt.1 fun h => ?_
      have : d * 1000001 ≤ d * q := Int.mul_le_mul_of_nonneg_left (by omega) (by omega)
      omega
  unfold Bn at hn
  refine pc_body1 true Tryz.func78 rfl rfl rfl (Nat.le_of_ble_eq_true rfl) CellT.tmp ?_
  refine goA ?_
  refine evG ggA (ss_call (InB_of rfl) rfl rfl cd) ?_
  refine goA ?_
  exact rfl
def specA (N k d : Int) : AV := .agg [iV N, iV k, iV d]
def chiV (N d n : Int) : Int := if gI n N = 1 then Kr.kron d n else 0
theorem chi_p {N k d n : Int} (hN : Bn 4000000000000000000 N) (hd : Bn 4000000000000000000 d) (hn : n.natAbs < 1000) : PC Tryz.prog 129 [specA N k d, iV n] (iV (chiV N d n)) := by
  have cg := gcd_p (a := n) (b := N) (by unfold Bn; omega) hN
  have ck := kronecker_p (a := d) (n := n) hd hn
  unfold chiV
  refine pc_body1 true Tryz.func129 rfl rfl rfl (Nat.le_of_ble_eq_true rfl) CellT.tmp ?_
  unfold specA
  by_cases c : gI n N = 1
  · have k1 : (gI n N != 1) = false := by simpa using c
    rw [if_pos c]
    refine goA ?_
    refine evG ggA (ss_call (InB_of rfl) rfl rfl cg) ?_
    refine goA ?_
    refine evG ggA (ss_call (InB_of rfl) rfl rfl ck) ?_
    refine goA ?_
    exact rfl
  · have k1 : (gI n N != 1) = true := by simpa using c
    rw [if_neg c]
    refine goA ?_
    refine evG ggA (ss_call (InB_of rfl) rfl rfl cg) ?_
    refine goA ?_
    exact rfl
end Ab
namespace Ab
open Go Go.RowKit Go.Proofs Hp
set_option maxRecDepth 100000

theorem iof_p (x : Int) (h0 : -9223372036854775808 ≤ x) (h1 : x ≤ 9223372036854775807) : PC Tryz.prog 115 [.p (.int .i64 x)] (encI x) := by
  refine ⟨callOK Tryz.func115 rfl rfl, fun w M hM vs hvs => ?_⟩
  obtain ⟨v, rfl, hv⟩ := reps1 hvs
  rw [Rep.p_inv hv]
  refine (iof_c x w h0 h1).mono ?_
  rintro e w' ⟨v, rfl, hb, hr⟩
  exact ⟨v, rfl, hb, rep_encI hr (okm_below hM hb)⟩
theorem imul_p {a b : AV} {p q : Int} {k l : Nat} (ha : IsI a k p) (hk : k ≤ 8796093022208) (hb : IsI b l q) (hl : l ≤ 8796093022208) : PC Tryz.prog 114 [a, b] (encI (p * q)) := by
  refine ⟨callOK Tryz.func114 rfl rfl, fun w M hM vs hvs => ?_⟩
  obtain ⟨v, u, rfl, hv, hu⟩ := reps2 hvs
  refine (mul_c (isI_rep ha hv) (isI_rep hb hu) hk hl).mono ?_
  rintro e w' ⟨v, rfl, hb, hr⟩
  exact ⟨v, rfl, hb, rep_encI hr (okm_below hM hb)⟩
theorem inormal_p {a : AV} {z : Int} {k : Nat} (ha : IsI a k z) (hk : k ≤ 17592186044416) : PC Tryz.prog 143 [a] (encI z) := by
  refine ⟨callOK Tryz.func143 rfl rfl, fun w M hM vs hvs => ?_⟩
  obtain ⟨v, rfl, hv⟩ := reps1 hvs
  refine (normal_c ((isI_rep ha hv).mono hk)).mono ?_
  rintro e w' ⟨v, rfl, hb, hr⟩
  exact ⟨v, rfl, hb, rep_encI hr (okm_below hM hb)⟩
theorem dgs_one {d : Nat} (h0 : d ≠ 0) (h : d < 4294967296) : dgs d = [(d : Int)] := by
  rw [dgs_step h0, Nat.mod_eq_of_lt h, Nat.div_eq_of_lt h]
  rfl
theorem ci_one {d : Nat} (h0 : d ≠ 0) (h : d < 4294967296) : ci (d : Int) = [.p (.bool false), .sl [u32 (d : Int)]] := by
  unfold ci
  rw [decide_eq_false (by omega), Int.natAbs_natCast, dgs_one h0 h]
  rfl
theorem len32_p {d : Nat} (h : d < 4294967296) : PC Tryz.prog 171 [u32 (d : Int)] (iV (Lib.bitLen d)) := by
  refine ⟨callOK Tryz.func171 rfl rfl, fun w M hM vs hvs => ?_⟩
  obtain ⟨v, rfl, hv⟩ := reps1 hvs
  rw [Rep.p_inv hv]
  refine (len32_lib (d : Int) w (by omega) (by omega)).mono ?_
  rintro e w' ⟨rfl, rfl⟩
  exact ⟨_, rfl, Below.refl _ _, .p _ rfl⟩
theorem trim1_p {d : Nat} (h0 : d ≠ 0) : PC Tryz.prog 148 [.sl [u32 (d : Int)]] (.sl [u32 (d : Int)]) := by
  refine pc_body1 true Tryz.func148 rfl rfl rfl (Nat.le_of_ble_eq_true rfl) CellT.tmp ?_
  have k1 : ((d : Int) == 0) = false := by simp; omega
  have k2 : decide (((([u32 (d : Int)] : List AV).length : Nat) : Int) > 0) = true := rfl
  have k3 : ((([u32 (d : Int)] : List AV).length : Nat) : Int) = 1 := rfl
  refine goA ?_
  refine T.loop (fun n s1 => s1 = mkS [(0, .v (.sl [u32 (d : Int)]))] [] 21 true) 1 (s' := mkS [(0, .v (.sl [u32 (d : Int)]))] [] 21 true) (by exact entA) rfl ?_
  rintro n _ rfl
  refine goA ?_
  refine evG ggA (ss_index_sl (x := u32 (d : Int)) (i := 0) (InB_of rfl) (elem_tab rfl) rfl rfl (by decide) rfl rfl) ?_
  refine goA ?_
  exact rfl
theorem bits1_p {d : Nat} (h0 : d ≠ 0) (h : d < 4294967296) : PC Tryz.prog 156 [.agg [.p (.bool false), .sl [u32 (d : Int)]]] (iV (Lib.bitLen d)) := by
  have c1 := trim1_p h0
  have c2 := len32_p h
  have hl := Lib.bitLen_le d 32 (by omega) (by omega)
  have k2 : (((([u32 (d : Int)] : List AV).length : Nat) : Int) == 0) = false := rfl
  have k3 : ((([u32 (d : Int)] : List AV).length : Nat) : Int) = 1 := rfl
  have k4 : 32 * ((((([u32 (d : Int)] : List AV).length : Nat) : Int)) - 1) + (Lib.bitLen d : Int) = (Lib.bitLen d : Int) := by rw [k3]; omega
  refine pc_body1 true Tryz.func156 rfl rfl rfl (Nat.le_of_ble_eq_true rfl) CellT.tmp ?_
  refine goA ?_
  refine evG ggA (ss_call (InB_of rfl) rfl rfl c1) ?_
  refine goA ?_
  refine evG ggA (ss_index_sl (x := u32 (d : Int)) (i := 0) (InB_of rfl) (elem_tab rfl) rfl rfl (by decide) rfl rfl) ?_
  refine goA ?_
  refine evG ggA (ss_call (InB_of rfl) rfl rfl c2) ?_
  refine runA ?_
  rw [k4]
  refine goA ?_
  exact rfl
end Ab
namespace Ab
open Go Go.RowKit Go.Proofs Hp
set_option maxRecDepth 100000

theorem ss_bits {dm : Bool} {P : Program} {ops : Array Oper} {s : AS} {dst : Option Tmp} {ty : TypeId} {pos : String} {after : Array Edge} {g : Option (Nat × Bool)} {k : IntKind} {xt yt : TypeId} {y z : Operand} {p q c : Int} (hin : InB s dst) (hy : s.ev y = some (.v (.p (.int k p)))) (hz : s.ev z = some (.v (.p (.int k q))))
    (hc : bits .and k p q = c) : SStep dm P ops ⟨dst, .binOp .and xt y z yt, ty, pos, after, g⟩ s (.v (.p (.int k c))) .none :=
  ss_bin hin hy hz rfl fun w => by
    simp [eqGuard, binOp, Op.intBits, ← hc, bits]
theorem and_one {x : Nat} (h : x < 9223372036854775808) : bits .and .i64 (x : Int) 1 = ((x % 2 : Nat) : Int) := by
  have h1 : (BitVec.ofInt 64 (x : Int)).toNat = x := by
    rw [BitVec.ofInt_natCast, BitVec.toNat_ofNat]; exact Nat.mod_eq_of_lt (by omega)
  have h2 : (BitVec.ofInt 64 (1 : Int)).toNat = 1 := rfl
  show IntKind.i64.wrap ((BitVec.ofInt 64 (x : Int) &&& BitVec.ofInt 64 (1 : Int)).toNat : Int) = _
  rw [BitVec.toNat_and, h1, h2, Nat.and_one_is_mod]
  exact w64 (by omega) (by omega)
set_option maxHeartbeats 4000000 in
theorem len64_lib (x : Int) (w : World) (h0 : 0 ≤ x) (h1 : x ≤ 255) :
    Calls Tryz.prog 172 #[.int .u64 x] w fun e w' => e = .returned (.int .i64 (Lib.bitLen x.toNat)) ∧ w' = w := by
  go_enter Tryz.func172, Tryz.ntmps172
  go_wp2
  all_goals (go_ret; refine ⟨congrArg Ending.returned (congrArg (Value.int IntKind.i64) ?_), rfl⟩)
  all_goals first
    | (rw [Lib.len8_of x (by omega) (by omega)]
       have l := Lib.bitLen_le8' x (by omega) (by omega)
       unfold wrap64
       omega)
theorem len_p {x : Nat} (hx : x ≤ 255) : PC Tryz.prog 157 [uV x] (iV (Lib.bitLen x)) := by
  have c : PC Tryz.prog 172 [uV x] (iV (Lib.bitLen x)) := by
    refine ⟨callOK Tryz.func172 rfl rfl, fun w M hM vs hvs => ?_⟩
    obtain ⟨v, rfl, hv⟩ := reps1 hvs
    rw [Rep.p_inv hv]
    refine (len64_lib (x : Int) w (by omega) (by omega)).mono ?_
    rintro e w' ⟨rfl, rfl⟩
    exact ⟨_, rfl, Below.refl _ _, .p _ rfl⟩
  refine pc_body1 true Tryz.func157 rfl rfl rfl (Nat.le_of_ble_eq_true rfl) CellT.tmp ?_
  refine goA ?_
  refine evG ggA (ss_call (InB_of rfl) rfl rfl c) ?_
  refine goA ?_
  exact rfl
theorem bl_spec {e : Nat} (he : e ≤ 255) : Lib.bitLen e ≤ 8 ∧ e / 2 ^ Lib.bitLen e = 0 := by
  refine ⟨Lib.bitLen_le e 8 (by decide) (by omega), Nat.div_eq_of_lt ?_⟩
  by_cases h : e = 0
  · subst h; exact Nat.pow_pos (by decide)
  · exact (Lib.bitLenAux_bounds 64 e (by omega) h).2.2
theorem div_half (e j : Nat) : e / 2 ^ j = 2 * (e / 2 ^ (j + 1)) + e / 2 ^ j % 2 := by
  rw [Nat.pow_succ, ← Nat.div_div_eq_div_mul]
  omega
def cI (z : Int) : List TV := (ci z).map .v
set_option maxHeartbeats 4000000 in
theorem ipow_p {d e : Nat} (h0 : d ≠ 0) (hd : d ≤ 1000) (he : e ≤ 59) : PC Tryz.prog 130 [encI (d : Int), iV e] (.tup [encI ((d ^ e : Nat) : Int), iV 0]) := by
  have cb := bits1_p (d := d) h0 (by omega)
  have hb1 : 1 ≤ Lib.bitLen d := (Lib.bitLenAux_bounds 64 d (by omega) h0).1
  have hb2 : Lib.bitLen d ≤ 10 := Lib.bitLen_le d 10 (by decide) (by omega)
  have hb3 : Lib.bitLen d ≤ 1 → d = 1 := fun h => by
    have := (Lib.bitLenAux_bounds 64 d (by omega) h0).2.2
    unfold Lib.bitLen at h hb1
    rw [show Lib.bitLenAux 64 d = 1 by omega] at this
    omega
  have co := iof_p 1 (by decide) (by decide)
  have k0 : decide ((e : Int) < 0) = false := decide_eq_false (by omega)
  have kq : (59 : Int) < (1048576 : Int).tdiv (Lib.bitLen d : Int) := by
    rw [Int.tdiv_eq_ediv_of_nonneg (by decide)]
    have : (60 : Int) ≤ 1048576 / (Lib.bitLen d : Int) := (Int.le_ediv_iff_mul_le (by omega)).2 (by omega)
    omega
  have k2 : decide ((e : Int) > (1048576 : Int).tdiv (Lib.bitLen d : Int)) = false := decide_eq_false (by omega)
  have kw : IntKind.i64.wrap ((1048576 : Int).tdiv (Lib.bitLen d : Int)) = (1048576 : Int).tdiv (Lib.bitLen d : Int) := by
    refine w64 (by omega) ?_
    rw [Int.tdiv_eq_ediv_of_nonneg (by decide)]
    have := Int.ediv_le_self (a := 1048576) (Lib.bitLen d : Int) (by decide)
    omega
  have e5 : (e : Int).tmod 2 = ((e % 2 : Nat) : Int) := rfl
  -- the exponent that is used
  obtain ⟨E, hE, hE2, hE3⟩ : ∃ E : Nat, (if Lib.bitLen d ≤ 1 then min (e : Int) (2 + ((e % 2 : Nat) : Int)) else (e : Int)) = (E : Int) ∧ d ^ E = d ^ e ∧ E ≤ 59 := by
    by_cases c : Lib.bitLen d ≤ 1
    · rw [if_pos c]
      refine ⟨min e (2 + e % 2), by omega, by rw [hb3 c, Nat.one_pow, Nat.one_pow], by omega⟩
    · rw [if_neg c]
      exact ⟨e, rfl, rfl, he⟩
  have cl := len_p (x := E) (by omega)
  obtain ⟨l1, l2⟩ := bl_spec (e := E) (by omega)
  have hcd := ci_one h0 (show d < 4294967296 by omega)
  have hsmall : ∀ j, j ≤ 59 → ((d ^ j : Nat) : Int).natAbs < pw 20 := fun j hj => by
    rw [Int.natAbs_natCast]
    have h1 : d ^ j ≤ 1024 ^ j := Nat.pow_le_pow_left (by omega) j
    have h2 : 1024 ^ j ≤ 1024 ^ 59 := Nat.pow_le_pow_right (by decide) hj
    have h3 : ((1024 ^ 59 : Nat) : Int) < pw 20 := by decide +kernel
    have h4 : ((d ^ j : Nat) : Int) ≤ ((1024 ^ 59 : Nat) : Int) := by exact_mod_cast Nat.le_trans h1 h2
    omega
  have hd1 : ((d : Nat) : Int).natAbs < pw 1 := by
    have e1 : pw 1 = 4294967296 := by decide
    rw [e1]; omega
  rw [← hE2]
  have hid : IsI (encI (d : Int)) 1 (d : Int) := isI_encI hd1
  unfold encI at *
  rw [hcd] at hid ⊢
  refine pc_body2 true Tryz.func130 rfl rfl rfl (Nat.le_of_ble_eq_true rfl) (CellT.agg (l := ci ((d ^ E : Nat) : Int)) agg_int) CellT.tmp ?_
  refine goA ?_
  refine evG ggA (ss_call (InB_of rfl) rfl rfl cb) ?_
  refine runA ?_
  refine ev_nil ?_
  (repeat (first | with_reducible refine seqQ_n ?_ | with_reducible refine seqQ_e ?_ | with_reducible refine seqQ_r ?_ | with_reducible refine blockQ_n ?_ | with_reducible refine blockQ_r ?_ | with_reducible refine blockQ_e rfl ?_ | with_reducible refine blockQ_o rfl ?_ | with_reducible refine loopQ_e ?_ | with_reducible refine loopQ_r ?_ | with_reducible refine midQ_e ?_ | with_reducible refine midQ_r ?_ | with_reducible refine roundQ_n ?_ | with_reducible refine roundQ_e ?_ | with_reducible refine roundQ_r ?_))
  refine T.seqI (fun s1 => s1 = mkS [(1, .v (iV e)), (2, .ptr 2 0), (4, .ptr 4 0), (6, .v (iV (Lib.bitLen d)))] [(2, .var [.v (.p (.bool false)), .v (.sl [u32 (d : Int)])]), (4, .var [.v (.p (.bool false)), .v (.p nilV)])] 51 true) ?_ ?_
  · by_cases c : Lib.bitLen d ≤ 1
    · have k3 : decide ((Lib.bitLen d : Int) > 1) = false := decide_eq_false (by omega)
      refine goA ?_
      exact midQ_intro (by exact entA) rfl
    · have k3 : decide ((Lib.bitLen d : Int) > 1) = true := decide_eq_true (by omega)
      refine goA ?_
      refine evG ggA (ss_div (InB_of rfl) rfl rfl (by omega) kw) ?_
      refine goA ?_
      exact midQ_intro (by exact entA) rfl
  rintro _ rfl
  refine T.seqI (fun s1 => s1 = mkS [(1, .v (iV E)), (2, .ptr 2 0), (4, .ptr 4 0)] [(2, .var [.v (.p (.bool false)), .v (.sl [u32 (d : Int)])]), (4, .var [.v (.p (.bool false)), .v (.p nilV)])] 51 true) ?_ ?_
  · by_cases c : Lib.bitLen d ≤ 1
    · have k3 : decide ((Lib.bitLen d : Int) ≤ 1) = true := decide_eq_true (by omega)
      rw [if_pos c] at hE
      rw [← hE]
      refine goA ?_
      refine evG ggA (ss_div (op := .rem) (InB_of rfl) rfl rfl (by omega) rfl) ?_
      rw [e5]
      refine goA ?_
      exact midQ_intro (by exact entA) rfl
    · have k3 : decide ((Lib.bitLen d : Int) ≤ 1) = false := decide_eq_false (by omega)
      rw [if_neg c] at hE
      rw [← hE]
      refine goA ?_
      exact midQ_intro (by exact entA) rfl
  rintro _ rfl
  clear hE hE2 k0 kq k2 kw e5 cb hb1 hb2 hb3 he
  generalize Lib.bitLen E = B at *
  have hwu : IntKind.u64.wrap (E : Int) = (E : Int) := u64w (by omega) (by omega)
  refine goA ?_
  refine evG ggA (ss_call (InB_of rfl) rfl rfl co) ?_
  refine goA ?_
  refine evG ggA (ss_conv (InB_of rfl) und_int (show Tryz.prog.underlying 106 = some (.int .u64) by kernel_rfl) rfl hwu) ?_
  refine goA ?_
  refine evG ggA (ss_call (InB_of rfl) rfl rfl cl) ?_
  refine goA ?_
  refine T.loop (fun n s1 => ∃ i : Nat, i ≤ B ∧ n = i ∧ s1 = mkS [(1, .v (iV E)), (2, .ptr 2 0), (4, .ptr 4 0), (7, .ptr 7 0), (8, .v (iV ((i : Int) - 1)))] [(2, .var [.v (.p (.bool false)), .v (.sl [u32 (d : Int)])]), (4, .var [.v (.p (.bool false)), .v (.p nilV)]), (7, .var (cI ((d ^ (E / 2 ^ i) : Nat) : Int)))] 51 true) B
    (s' := mkS [(1, .v (iV E)), (2, .ptr 2 0), (4, .ptr 4 0), (7, .ptr 7 0), (8, .v (iV ((B : Int) - 1)))] [(2, .var [.v (.p (.bool false)), .v (.sl [u32 (d : Int)])]), (4, .var [.v (.p (.bool false)), .v (.p nilV)]), (7, .var (cI 1))] 51 true) (by exact entA) ⟨B, Nat.le_refl _, rfl, by rw [l2]; rfl⟩ ?_
  rintro n _ ⟨i, hi, rfl, rfl⟩
  cases n with
  | zero =>
    have k1 : decide ((((0 : Nat) : Int) - 1) ≥ 0) = false := rfl
    have e0 : E / 2 ^ 0 = E := by simp
    rw [e0]
    refine goA ?_
    exact rfl
  | succ j =>
    have k1 : decide ((((j + 1 : Nat) : Int) - 1) ≥ 0) = true := decide_eq_true (by omega)
    have hh := div_half E j
    have hle : E / 2 ^ j ≤ E := Nat.div_le_self _ _
    have hs1 := hsmall (E / 2 ^ (j + 1)) (by omega)
    have hs2 := hsmall (2 * (E / 2 ^ (j + 1))) (by omega)
    have c1 := imul_p (isI_encI hs1) (by decide) (isI_encI hs1) (by decide)
    have q1 : ((d ^ (E / 2 ^ (j + 1)) : Nat) : Int) * ((d ^ (E / 2 ^ (j + 1)) : Nat) : Int) = ((d ^ (2 * (E / 2 ^ (j + 1))) : Nat) : Int) := by
      rw [← Int.natCast_mul, ← Nat.pow_add]; congr 2; omega
    rw [q1] at c1
    have c2 := imul_p (isI_encI hs2) (by decide) hid (by decide)
    have q2 : ((d ^ (2 * (E / 2 ^ (j + 1))) : Nat) : Int) * (d : Int) = ((d ^ (2 * (E / 2 ^ (j + 1)) + 1) : Nat) : Int) := by
      rw [← Int.natCast_mul, ← Nat.pow_succ]
    rw [q2] at c2
    have hsh : (E : Int).fdiv (2 ^ (min (((j + 1 : Nat) : Int) - 1).toNat IntKind.i64.bits)) = ((E / 2 ^ j : Nat) : Int) := by
      have e1 : min (((j + 1 : Nat) : Int) - 1).toNat IntKind.i64.bits = j := by simp [IntKind.bits]; omega
      rw [e1, Int.fdiv_eq_ediv_of_nonneg _ (by exact_mod_cast Nat.zero_le _)]
      push_cast
      rfl
    have hand := and_one (x := E / 2 ^ j) (by omega)
    unfold encI at c1 c2
    clear hs1 hs2 hsmall q1 q2
    by_cases c : E / 2 ^ j % 2 = 1
    · have k4 : (((E / 2 ^ j % 2 : Nat) : Int) == 1) = true := by rw [c]; rfl
      have hx : E / 2 ^ j = 2 * (E / 2 ^ (j + 1)) + 1 := by omega
      refine goA ?_
      refine evG ggA (ss_call (InB_of rfl) rfl rfl c1) ?_
      refine goA ?_
      refine evG ggA (ss_shr (InB_of rfl) rfl rfl (by omega) hsh) ?_
      refine goA ?_
      refine evG ggA (ss_bits (InB_of rfl) rfl rfl hand) ?_
      refine goA ?_
      refine evG ggA (ss_call (InB_of rfl) rfl rfl c2) ?_
      refine goA ?_
      exact loopQ_intro (k := j) (s' := mkS [(1, .v (iV E)), (2, .ptr 2 0), (4, .ptr 4 0), (7, .ptr 7 0), (8, .v (iV (((j + 1 : Nat) : Int) - 1 - 1)))] [(2, .var [.v (.p (.bool false)), .v (.sl [u32 (d : Int)])]), (4, .var [.v (.p (.bool false)), .v (.p nilV)]), (7, .var (cI ((d ^ (2 * (E / 2 ^ (j + 1)) + 1) : Nat) : Int)))] 51 true) (by omega) (by exact entA) ⟨j, by omega, rfl, by rw [hx, show ((j + 1 : Nat) : Int) - 1 - 1 = (j : Int) - 1 by omega]⟩
    · have k4 : (((E / 2 ^ j % 2 : Nat) : Int) == 1) = false := by rw [beq_eq_false_iff_ne]; omega
      have hx : E / 2 ^ j = 2 * (E / 2 ^ (j + 1)) := by omega
      refine goA ?_
      refine evG ggA (ss_call (InB_of rfl) rfl rfl c1) ?_
      refine goA ?_
      refine evG ggA (ss_shr (InB_of rfl) rfl rfl (by omega) hsh) ?_
      refine goA ?_
      refine evG ggA (ss_bits (InB_of rfl) rfl rfl hand) ?_
      refine goA ?_
      exact loopQ_intro (k := j) (s' := mkS [(1, .v (iV E)), (2, .ptr 2 0), (4, .ptr 4 0), (7, .ptr 7 0), (8, .v (iV (((j + 1 : Nat) : Int) - 1 - 1)))] [(2, .var [.v (.p (.bool false)), .v (.sl [u32 (d : Int)])]), (4, .var [.v (.p (.bool false)), .v (.p nilV)]), (7, .var (cI ((d ^ (2 * (E / 2 ^ (j + 1))) : Nat) : Int)))] 51 true) (by omega) (by exact entA) ⟨j, by omega, rfl, by rw [hx, show ((j + 1 : Nat) : Int) - 1 - 1 = (j : Int) - 1 by omega]⟩
end Ab
namespace Ab
open Go Go.RowKit Go.Proofs Hp
set_option maxRecDepth 100000

theorem encQ_int (z : Int) : encQ (z : Rat) = .agg (ci z ++ ci 1) := by
  unfold encQ
  rw [Rat.num_intCast, Rat.den_intCast]
  rfl
theorem whole_p {z : Int} {k : Nat} (hz : z.natAbs < pw k) (hk : k ≤ 17592186044416) : PC Tryz.prog 131 [encI z] (encQ (z : Rat)) := by
  have c1 := inormal_p (isI_encI hz) hk
  have c2 := iof_p 1 (by decide) (by decide)
  rw [encQ_int]
  unfold encI at *
  refine pc_body1 true Tryz.func131 rfl rfl rfl (Nat.le_of_ble_eq_true rfl) (CellT.agg (l := ci z ++ ci 1) agg_rat) ?_
  refine goA ?_
  refine evG ggA (ss_call (InB_of rfl) rfl rfl c1) ?_
  refine goA ?_
  refine evG ggA (ss_call (InB_of rfl) rfl rfl c2) ?_
  refine goA ?_
  exact rfl
def facQ (N k d n : Int) : Rat := ((chiV N d n : Int) : Rat) * ((n.toNat ^ (k - 1).toNat : Nat) : Int)
theorem chiV_bd {N d n : Int} (hn : n.natAbs < 1000) : Bn 1 (chiV N d n) := by
  unfold chiV
  split
  · exact kron_bd hn
  · unfold Bn; omega
theorem pow_small {d e : Nat} (hd : d ≤ 1000) (he : e ≤ 59) : ((d ^ e : Nat) : Int).natAbs < pw 20 := by
  rw [Int.natAbs_natCast]
  have h1 : d ^ e ≤ 1024 ^ e := Nat.pow_le_pow_left (by omega) e
  have h2 : 1024 ^ e ≤ 1024 ^ 59 := Nat.pow_le_pow_right (by decide) he
  have h3 : ((1024 ^ 59 : Nat) : Int) < pw 20 := by decide +kernel
  have h4 : ((d ^ e : Nat) : Int) ≤ ((1024 ^ 59 : Nat) : Int) := by exact_mod_cast Nat.le_trans h1 h2
  omega
theorem ht_whole {z : Int} {k : Nat} (h : z.natAbs < pw k) (hk : 1 ≤ k) : Ht (z : Rat) k := ⟨by rw [Rat.num_intCast]; exact h, by rw [Rat.den_intCast]; exact (ht0 hk).2⟩
set_option maxHeartbeats 4000000 in
theorem factor_p {N k d n : Int} (hN : Bn 4000000000000000000 N) (hk : 1 ≤ k ∧ k ≤ 60) (hd : Bn 4000000000000000000 d) (hn : 1 ≤ n ∧ n < 1000) : PC Tryz.prog 81 [specA N k d, iV n] (encQ (facQ N k d n)) := by
  have cc := chi_p (N := N) (k := k) (d := d) (n := n) hN hd (by omega)
  have hb := chiV_bd (N := N) (d := d) (n := n) (by omega)
  unfold facQ
  obtain ⟨m, rfl⟩ : ∃ m : Nat, n = m := ⟨n.toNat, by omega⟩
  rw [Int.toNat_natCast]
  obtain ⟨e, rfl⟩ : ∃ e : Nat, k = (e : Int) + 1 := ⟨(k - 1).toNat, by omega⟩
  rw [show ((e : Int) + 1 - 1).toNat = e by omega]
  generalize chiV N d (m : Int) = X at *
  unfold Bn at hb
  by_cases c : X = 0
  · subst c
    have k1 : ((0 : Int) == 0) = true := rfl
    have c0 := rof_p 0 (by decide) (by decide)
    have e0 : (((0 : Int) : Rat)) * ((m ^ e : Nat) : Int) = ((0 : Int) : Rat) := by rw [show (((0 : Int) : Rat)) = 0 from rfl]; exact Rat.zero_mul _
    rw [e0]
    unfold specA at *
    refine pc_body1 true Tryz.func81 rfl rfl rfl (Nat.le_of_ble_eq_true rfl) (CellT.agg (l := ci ((0 : Int) : Rat).num ++ ci ((0 : Int) : Rat).den) agg_rat) ?_
    refine goA ?_
    refine evG ggA (ss_call (InB_of rfl) rfl rfl cc) ?_
    refine goA ?_
    refine evG ggA (ss_call (InB_of rfl) rfl rfl c0) ?_
    refine goA ?_
    exact rfl
  · have k1 : (X == 0) = false := by simpa using c
    have h20 := pow_small (d := m) (e := e) (by omega) (by omega)
    have c1 := iof_p (m : Int) (by omega) (by omega)
    have c2 := ipow_p (d := m) (e := e) (by omega) (by omega) (by omega)
    have c3 := rof_p X (by omega) (by omega)
    have c4 := whole_p h20 (by decide)
    have c5 := rmul_p (isV_encQ (ht_int (c := X) (by omega))) (by decide) (isV_encQ (ht_whole h20 (by decide))) (by decide)
    have ek : (e : Int) + 1 - 1 = e := by omega
    generalize (((m ^ e : Nat) : Int) : Rat) = Y at *
    unfold specA encI at *
    refine pc_body1 true Tryz.func81 rfl rfl rfl (Nat.le_of_ble_eq_true rfl) (CellT.agg (l := ci ((X : Rat) * Y).num ++ ci ((X : Rat) * Y).den) agg_rat) ?_
    refine goA ?_
    refine evG ggA (ss_call (InB_of rfl) rfl rfl cc) ?_
    refine goA ?_
    refine evG ggA (ss_call (InB_of rfl) rfl rfl c1) ?_
    refine goA ?_
    rw [ek]
    refine evG ggA (ss_call (InB_of rfl) rfl rfl c2) ?_
    refine goA ?_
    refine evG ggA (ss_call (InB_of rfl) rfl rfl c3) ?_
    refine goA ?_
    refine evG ggA (ss_call (InB_of rfl) rfl rfl c4) ?_
    refine goA ?_
    refine evG ggA (ss_call (InB_of rfl) rfl rfl c5) ?_
    refine goA ?_
    exact rfl
end Ab
namespace Ab
open Go Go.RowKit Go.Proofs Hp
set_option maxRecDepth 100000

def trR (f : Int) (l : List Rat) : Option (Int × List Rat) := if f + lead l < -100 then none else norR (f + lead l) (l.drop (lead l))
set_option maxHeartbeats 4000000 in
theorem htrim_p {f : Int} {l : List Rat} {K : Nat} (h : ∀ q, q ∈ l → Ht q K) (hK : 1 ≤ K ∧ K ≤ 268435456) (f0 : -1000000 ≤ f ∧ f ≤ 1000000) (hl : l.length ≤ 1000000) : PC Tryz.prog 82 [iV f, .sl (l.map encQ)] (serE (trR f l)) := by
  have hL := lead_le l
  rw [serE_eq]
  refine pc_body2 true Tryz.func82 rfl rfl rfl (Nat.le_of_ble_eq_true rfl) (CellT.agg agg_ser) CellT.tmp ?_
  refine r1A ?_
  refine T.seqI (fun s1 => s1 = mkS [(0, .v (iV (f + lead l))), (1, .v (.sl ((l.drop (lead l)).map encQ))), (4, .ptr 4 0), (5, .v (iV 0))] [(4, var0)] 29 true) ?_ ?_
  · refine T.block ?_
    refine T.loop (fun n s1 => ∃ (f' : Int) (m : List Rat), n = m.length ∧ f' + lead m = f + lead l ∧ m.drop (lead m) = l.drop (lead l) ∧ f ≤ f' ∧ (∀ q, q ∈ m → Ht q K) ∧ m.length ≤ 1000000 ∧ s1 = mkS [(0, .v (iV f')), (1, .v (.sl (m.map encQ))), (4, .ptr 4 0), (5, .v (iV 0))] [(4, var0)] 29 true) l.length
      (s' := mkS [(0, .v (iV f)), (1, .v (.sl (l.map encQ))), (4, .ptr 4 0), (5, .v (iV 0))] [(4, var0)] 29 true) (by exact entA) ⟨f, l, rfl, rfl, rfl, by omega, h, hl, rfl⟩ ?_
    rintro n _ ⟨f', m, rfl, e1, e2, e3, hm, hml, rfl⟩
    cases m with
    | nil =>
      have k1 : decide (((([] : List Rat).map encQ).length : Int) > 0) = false := rfl
      rw [← e1, ← e2]
      have e4 : f' + ((lead [] : Nat) : Int) = f' := by show f' + 0 = f'; omega
      rw [e4]
      refine goA ?_
      exact midQ_intro (by exact entA) rfl
    | cons q r =>
      have k1 : decide (((((q :: r) : List Rat).map encQ).length : Int) > 0) = true := decide_eq_true (by rw [List.length_map, List.length_cons]; omega)
      have hq := hm q (by simp)
      obtain ⟨sg, s1, s2, s3, cs⟩ := rsign_p (isV_encQ hq) (by omega)
      have e0 : (((q :: r) : List Rat).map encQ)[(0 : Int).toNat]? = some (encQ q) := rfl
      have hc4 : (encQ q).cells.length = 4 := rfl
      by_cases c : q = 0
      · have k2 : (sg == 0) = true := by simpa using s3.2 c
        have hlead : lead (q :: r) = lead r + 1 := by rw [lead, if_pos c]
        rw [hlead] at e1 e2
        have hisl : IsL ((q :: r).map encQ) K (q :: r) := isL_enc hm
        have hrl : r.length + 1 ≤ 1000000 := hml
        have hf2 : f' ≤ 2000000 := by
          have := lead_le r
          omega
        refine goA ?_
        refine evG ggA (ss_index_sl (x := encQ q) (i := 0) (InB_of rfl) (elem_tab rfl) rfl rfl (by decide) e0 rfl) ?_
        refine goA ?_
        refine evG ggA (ss_call (InB_of rfl) rfl rfl cs) ?_
        refine goA ?_
        refine evG ggA (ss_slice_l (InB_of rfl) (elem_tab rfl) rfl (isL_cells hisl) rfl (by omega) (by rw [List.length_map, List.length_cons]; omega)) ?_
        refine goA ?_
        exact loopQ_intro (k := r.length) (s' := mkS [(0, .v (iV (f' + 1))), (1, .v (.sl (r.map encQ))), (4, .ptr 4 0), (5, .v (iV 0))] [(4, var0)] 29 true) (by simp) (by exact entA) ⟨f' + 1, r, rfl, by rw [← e1]; push_cast; omega, by rw [← e2]; rfl, by omega, fun x hx => hm x (by simp [hx]), by omega, rfl⟩
      · have k2 : (sg == 0) = false := by simpa using fun e => c (s3.1 e)
        have hlead : lead (q :: r) = 0 := by rw [lead, if_neg c]
        rw [hlead] at e1 e2
        rw [← e1, ← e2]
        have e4 : f' + ((0 : Nat) : Int) = f' := by omega
        rw [e4, List.drop_zero]
        refine goA ?_
        refine evG ggA (ss_index_sl (x := encQ q) (i := 0) (InB_of rfl) (elem_tab rfl) rfl rfl (by decide) e0 rfl) ?_
        refine goA ?_
        refine evG ggA (ss_call (InB_of rfl) rfl rfl cs) ?_
        refine goA ?_
        exact midQ_intro (by exact entA) rfl
  rintro _ rfl
  unfold trR
  have hnl : (l.drop (lead l)).length ≤ 1000000 := by rw [List.length_drop]; omega
  have hht : ∀ q, q ∈ l.drop (lead l) → Ht q K := fun q hq => h q (List.mem_of_mem_drop hq)
  by_cases c : f + lead l < -100
  · have k1 : decide (f + (lead l : Int) < -100) = true := decide_eq_true c
    rw [if_pos c]
    refine goA ?_
    exact rfl
  · have k1 : decide (f + (lead l : Int) < -100) = false := decide_eq_false c
    rw [if_neg c]
    have cn := normal_p (s := f + lead l) (es := (l.drop (lead l)).map encQ) (l := l.drop (lead l)) (K := K) (fun _ => isL_enc hht) (by simp) ⟨by omega, by omega, by simp; omega⟩ hK
    rw [serE_eq] at cn
    generalize (l.drop (lead l)).map encQ = es at *
    refine goA ?_
    refine evG ggA (ss_call (InB_of rfl) rfl rfl cn) ?_
    refine goA ?_
    exact rfl
/-- the space is one -/
structure SpecOK (N k d : Int) : Prop where
  n0 : 1 ≤ N
  n1 : N ≤ 600
  k0 : 1 ≤ k
  k1 : k ≤ 60
  d0 : -600 ≤ d
  d1 : d ≤ 600
  fd : frefB d = true
  dv : N.tmod d = 0
theorem frefB_ne {d : Int} (h : frefB d = true) : d ≠ 0 := by
  rintro rfl
  revert h
  decide
set_option maxHeartbeats 4000000 in
theorem hcheck_p {N k d : Int} (h : SpecOK N k d) : PC Tryz.prog 75 [specA N k d] (iV 0) := by
  obtain ⟨n0, n1, k0, k1, d0, d1, fd, dv⟩ := h
  obtain ⟨a, b, e, cf, hf⟩ := fund_p (d := d) (by omega)
  obtain ⟨rfl, rfl, rfl⟩ := hf.2 fd
  have hne := frefB_ne fd
  have q1 : decide (N < 1) = false := decide_eq_false (by omega)
  have q2 : decide (N > 600) = false := decide_eq_false (by omega)
  have q3 : decide (k < 1) = false := decide_eq_false (by omega)
  have q4 : decide (k > 60) = false := decide_eq_false (by omega)
  have q5 : ((0 : Int) != 0) = false := rfl
  have q6 : (a != a) = false := by simp
  have q7 : ((1 : Int) != 1) = false := rfl
  have q8 : decide (a < -600) = false := decide_eq_false (by omega)
  have q9 : decide (a > 600) = false := decide_eq_false (by omega)
  have q10 : (N.tmod a != 0) = false := by simpa using dv
  unfold specA
  refine pc_body1 true Tryz.func75 rfl rfl rfl (Nat.le_of_ble_eq_true rfl) CellT.tmp ?_
  refine goA ?_
  refine evG ggA (ss_call (InB_of rfl) rfl rfl cf) ?_
  refine goA ?_
  refine evG ggA (ss_div (op := .rem) (InB_of rfl) rfl rfl hne rfl) ?_
  refine goA ?_
  exact rfl
end Ab
