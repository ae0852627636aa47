/- Strides and ceilings of package series, in abstract values. -/
import Derived.Test.YtalcdpjpapojeaaGreatDoorRJ
import Derived.Test.YtalcdpjpapojeaaGreatDoorKx
import Derived.Test.YtalcdpjpapojeaaGreatDoorZJ
import Derived.Test.YtalcdpjpapojeaaGreatDoorRPJ
set_option linter.all false
namespace Ab
open Go Go.RowKit Go.Proofs Hp
set_option maxRecDepth 100000
def gI (a b : Int) : Int := (Nat.gcd a.natAbs b.natAbs : Nat)
theorem gI_zero (a : Int) : gI a 0 = max a (0 - a) := by
 unfold gI
 simp only [Int.natAbs_zero, Nat.gcd_zero_right]
 omega
theorem gI_step (a b : Int) : gI b (a.tmod b) = gI a b := by
 unfold gI
 rw [Int.natAbs_tmod, Nat.gcd_comm b.natAbs, ← Nat.gcd_rec, Nat.gcd_comm]
theorem seriesAt_p {s n : Int} {es : List AV} {l : List Rat} {K : Nat} (h : IsL es K l) (hK : 1 ≤ K ∧ K ≤ 268435456) (hv : Zap s es.length = true) (n0 : -9223372036854775808 ≤ n) (n1 : n < s + es.length) : PC Tryz.prog 21 [serA s es, iV n] (.tup [encQ (cf s l n), iV 0]) := by
 obtain ⟨a0, a1, a2⟩ := Za2.1 hv
 have hva := Zdt (s := s) (es := es) oM oM oM
 rw [hv] at hva
 have hp := prec_p (es := es) a0 a1 a2
 have ha := at_p h a0 a1 a2 n0 n1
 have hn := Zfi (isV_at (s := s) (m := n) h hK.1) oM
 have k1 : decide (n ≥ s + (es.length : Int)) = false := decide_eq_false oM
 obtain ⟨cs, hcs, hc4, hcp⟩ := isV_lit (isV_at (s := s) (m := n) h hK.1)
 rw [hcs] at ha hn
 refine pb2 Tryz.func21 (Zac.agg (l := ci (cf s l n).num ++ ci (cf s l n).den) Zbg) Zac.tmp ?_
 refine goA ?_
 refine clG hva ?_
 refine clG hp ?_
 refine clG ha ?_
 refine clG hn ?_
 exact rfl
theorem iof_p (x : Int) (h0 : -9223372036854775808 ≤ x) (h1 : x ≤ 9223372036854775807) : PC Tryz.prog 83 [.p (.int .i64 x)] (encI x) := by
 refine ⟨Zdg Tryz.func83 rfl rfl, fun w M hM vs hvs => ?_⟩
 obtain ⟨v, rfl, hv⟩ := reps1 hvs
 rw [Rep.p_inv hv]
 refine (iof_c x w h0 h1).mono ?_
 rintro e w' ⟨v, rfl, hb, hr⟩
 exact ⟨v, rfl, hb, Zgp hr (Zbz hM hb)⟩
theorem imul_p {a b : AV} {p q : Int} {k l : Nat} (ha : IsI a k p) (hk : k ≤ 8796093022208) (hb : IsI b l q) (hl : l ≤ 8796093022208) : PC Tryz.prog 123 [a, b] (encI (p * q)) := by
 refine ⟨Zdg Tryz.func123 rfl rfl, fun w M hM vs hvs => ?_⟩
 obtain ⟨v, u, rfl, hv, hu⟩ := reps2 hvs
 refine (mul_c (Zei ha hv) (Zei hb hu) hk hl).mono ?_
 rintro e w' ⟨v, rfl, hb, hr⟩
 exact ⟨v, rfl, hb, Zgp hr (Zbz hM hb)⟩
theorem inormal_p {a : AV} {z : Int} {k : Nat} (ha : IsI a k z) (hk : k ≤ 17592186044416) : PC Tryz.prog 128 [a] (encI z) := by
 refine ⟨Zdg Tryz.func128 rfl rfl, fun w M hM vs hvs => ?_⟩
 obtain ⟨v, rfl, hv⟩ := reps1 hvs
 refine (normal_c ((Zei ha hv).mono hk)).mono ?_
 rintro e w' ⟨v, rfl, hb, hr⟩
 exact ⟨v, rfl, hb, Zgp hr (Zbz hM hb)⟩
theorem dgs_one {d : Nat} (h0 : d ≠ 0) (h : d < 4294967296) : dgs d = [(d : Int)] := by
 rw [dgs_step h0, Nat.mod_eq_of_lt h, Nat.div_eq_of_lt h]
 rfl
theorem ci_one {d : Nat} (h0 : d ≠ 0) (h : d < 4294967296) : ci (d : Int) = [.p (.bool false), .sl [u32 (d : Int)]] := by
 unfold ci
 rw [decide_eq_false oM, Int.natAbs_natCast, dgs_one h0 h]
 rfl
theorem len32_p {d : Nat} (h : d < 4294967296) : PC Tryz.prog 222 [u32 (d : Int)] (iV (Lib.bitLen d)) := by
 refine ⟨Zdg Tryz.func222 rfl rfl, fun w M hM vs hvs => ?_⟩
 obtain ⟨v, rfl, hv⟩ := reps1 hvs
 rw [Rep.p_inv hv]
 refine (len32_lib (d : Int) w oM oM).mono ?_
 rintro e w' ⟨rfl, rfl⟩
 exact ⟨_, rfl, Below.refl _ _, .p _ rfl⟩
theorem trim1_p {d : Nat} (h0 : d ≠ 0) : PC Tryz.prog 147 [.sl [u32 (d : Int)]] (.sl [u32 (d : Int)]) := by
 refine pb1 Tryz.func147 Zac.tmp ?_
 have k1 : ((d : Int) == 0) = false := by simp; omega
 have k2 : decide (((([u32 (d : Int)] : List AV).length : Nat) : Int) > 0) = true := rfl
 have k3 : ((([u32 (d : Int)] : List AV).length : Nat) : Int) = 1 := rfl
 refine goA ?_
 refine T.loop (fun n s1 => s1 = mkS [(0, .v (.sl [u32 (d : Int)]))] [] 21 true) 1 (s' := mkS [(0, .v (.sl [u32 (d : Int)]))] [] 21 true) entA rfl ?_
 rintro n _ rfl
 refine goA ?_
 refine evG ggA (Zbh (x := u32 (d : Int)) (i := 0) (Zaa rfl) (Zag rfl) rfl rfl dC rfl rfl) ?_
 refine goA ?_
 exact rfl
theorem bits1_p {d : Nat} (h0 : d ≠ 0) (h : d < 4294967296) : PC Tryz.prog 210 [.agg [.p (.bool false), .sl [u32 (d : Int)]]] (iV (Lib.bitLen d)) := by
 have c1 := trim1_p h0
 have c2 := len32_p h
 have hl := Lib.bitLen_le d 32 oM oM
 have k2 : (((([u32 (d : Int)] : List AV).length : Nat) : Int) == 0) = false := rfl
 have k3 : ((([u32 (d : Int)] : List AV).length : Nat) : Int) = 1 := rfl
 have k4 : 32 * ((((([u32 (d : Int)] : List AV).length : Nat) : Int)) - 1) + (Lib.bitLen d : Int) = (Lib.bitLen d : Int) := by rw [k3]; omega
 refine pb1 Tryz.func210 Zac.tmp ?_
 refine goA ?_
 refine clG c1 ?_
 refine evG ggA (Zbh (x := u32 (d : Int)) (i := 0) (Zaa rfl) (Zag rfl) rfl rfl dC rfl rfl) ?_
 refine goA ?_
 refine clA c2 ?_
 refine runA ?_
 rw [k4]
 refine goA ?_
 exact rfl
theorem ss_bits {dm : Bool} {P : Program} {ops : Array Oper} {s : AS} {dst : Option Tmp} {ty : TypeId} {pos : String} {after : Array Edge} {g : Option (Nat × Bool)} {k : IntKind} {xt yt : TypeId} {y z : Operand} {p q c : Int} (hin : InB s dst) (hy : s.ev y = some (.v (.p (.int k p)))) (hz : s.ev z = some (.v (.p (.int k q))))
  (hc : bits .and k p q = c) : Za9 dm P ops ⟨dst, .binOp .and xt y z yt, ty, pos, after, g⟩ s (.v (.p (.int k c))) .none :=
 ss_bin hin hy hz rfl fun w => by
  simp [eqGuard, binOp, Op.intBits, ← hc, bits]
theorem and_one {x : Nat} (h : x < 9223372036854775808) : bits .and .i64 (x : Int) 1 = ((x % 2 : Nat) : Int) := by
 have h1 : (BitVec.ofInt 64 (x : Int)).toNat = x := by
  rw [BitVec.ofInt_natCast, BitVec.toNat_ofNat]; exact Nat.mod_eq_of_lt oM
 have h2 : (BitVec.ofInt 64 (1 : Int)).toNat = 1 := rfl
 show IntKind.i64.wrap ((BitVec.ofInt 64 (x : Int) &&& BitVec.ofInt 64 (1 : Int)).toNat : Int) = _
 rw [BitVec.toNat_and, h1, h2, Nat.and_one_is_mod]
 exact w64 oM oM
set_option maxHeartbeats 4000000 in
theorem len64_lib (x : Int) (w : World) (h0 : 0 ≤ x) (h1 : x ≤ 255) :
    Calls Tryz.prog 223 #[.int .u64 x] w fun e w' => e = .returned (.int .i64 (Lib.bitLen x.toNat)) ∧ w' = w := by
  go_enter Tryz.func223, Tryz.ntmps223
  go_wp2
  all_goals (go_ret; refine ⟨congrArg Ending.returned (congrArg (Value.int IntKind.i64) ?_), rfl⟩)
  all_goals first
    | (rw [Lib.len8_of x oM oM]
       have l := Lib.bitLen_le8' x oM oM
       unfold wrap64
       omega)
theorem len_p {x : Nat} (hx : x ≤ 255) : PC Tryz.prog 211 [uV x] (iV (Lib.bitLen x)) := by
 have c : PC Tryz.prog 223 [uV x] (iV (Lib.bitLen x)) := by
  refine ⟨Zdg Tryz.func223 rfl rfl, fun w M hM vs hvs => ?_⟩
  obtain ⟨v, rfl, hv⟩ := reps1 hvs
  rw [Rep.p_inv hv]
  refine (len64_lib (x : Int) w oM oM).mono ?_
  rintro e w' ⟨rfl, rfl⟩
  exact ⟨_, rfl, Below.refl _ _, .p _ rfl⟩
 refine pb1 Tryz.func211 Zac.tmp ?_
 refine goA ?_
 refine clG c ?_
 exact rfl
theorem bl_spec {e : Nat} (he : e ≤ 255) : Lib.bitLen e ≤ 8 ∧ e / 2 ^ Lib.bitLen e = 0 := by
 refine ⟨Lib.bitLen_le e 8 dC oM, Nat.div_eq_of_lt ?_⟩
 by_cases h : e = 0
 ·subst h; exact Nat.pow_pos dC
 ·exact (Lib.bitLenAux_bounds 64 e oM h).2.2
theorem div_half (e j : Nat) : e / 2 ^ j = 2 * (e / 2 ^ (j + 1)) + e / 2 ^ j % 2 := by
 rw [Nat.pow_succ, ← Nat.div_div_eq_div_mul]
 omega
def cI (z : Int) : List TV := (ci z).map .v
set_option maxHeartbeats 4000000 in
theorem ipow_p {d e : Nat} (h0 : d ≠ 0) (hd : d ≤ 1000) (he : e ≤ 59) : PC Tryz.prog 192 [encI (d : Int), iV e] (.tup [encI ((d ^ e : Nat) : Int), iV 0]) := by
  have cb := bits1_p (d := d) h0 oM
  have hb1 : 1 ≤ Lib.bitLen d := (Lib.bitLenAux_bounds 64 d oM h0).1
  have hb2 : Lib.bitLen d ≤ 10 := Lib.bitLen_le d 10 dC oM
  have hb3 : Lib.bitLen d ≤ 1 → d = 1 := fun h => by
    have := (Lib.bitLenAux_bounds 64 d oM h0).2.2
    unfold Lib.bitLen at h hb1
    rw [show Lib.bitLenAux 64 d = 1 by omega] at this
    omega
  have co := iof_p 1 dC dC
  have k0 : decide ((e : Int) < 0) = false := decide_eq_false oM
  have kq : (59 : Int) < (1048576 : Int).tdiv (Lib.bitLen d : Int) := by
    rw [Int.tdiv_eq_ediv_of_nonneg dC]
    have : (60 : Int) ≤ 1048576 / (Lib.bitLen d : Int) := (Int.le_ediv_iff_mul_le oM).2 oM
    omega
  have k2 : decide ((e : Int) > (1048576 : Int).tdiv (Lib.bitLen d : Int)) = false := decide_eq_false oM
  have kw : IntKind.i64.wrap ((1048576 : Int).tdiv (Lib.bitLen d : Int)) = (1048576 : Int).tdiv (Lib.bitLen d : Int) := by
    refine w64 oM ?_
    rw [Int.tdiv_eq_ediv_of_nonneg dC]
    have := Int.ediv_le_self (a := 1048576) (Lib.bitLen d : Int) dC
    omega
  have e5 : (e : Int).tmod 2 = ((e % 2 : Nat) : Int) := rfl
  -- the exponent that is used
  obtain ⟨E, hE, hE2, hE3⟩ : ∃ E : Nat, (if Lib.bitLen d ≤ 1 then min (e : Int) (2 + ((e % 2 : Nat) : Int)) else (e : Int)) = (E : Int) ∧ d ^ E = d ^ e ∧ E ≤ 59 := by
    by_cases c : Lib.bitLen d ≤ 1
    · rw [if_pos c]
      refine ⟨min e (2 + e % 2), oM, by rw [hb3 c, Nat.one_pow, Nat.one_pow], oM⟩
    · rw [if_neg c]
      exact ⟨e, rfl, rfl, he⟩
  have cl := len_p (x := E) oM
  obtain ⟨l1, l2⟩ := bl_spec (e := E) oM
  have hcd := ci_one h0 (show d < 4294967296 by omega)
  have hsmall : ∀ j, j ≤ 59 → ((d ^ j : Nat) : Int).natAbs < pw 20 := fun j hj => by
    rw [Int.natAbs_natCast]
    have h1 : d ^ j ≤ 1024 ^ j := Nat.pow_le_pow_left oM j
    have h2 : 1024 ^ j ≤ 1024 ^ 59 := Nat.pow_le_pow_right dC hj
    have h3 : ((1024 ^ 59 : Nat) : Int) < pw 20 := by decide +kernel
    have h4 : ((d ^ j : Nat) : Int) ≤ ((1024 ^ 59 : Nat) : Int) := by exact_mod_cast Nat.le_trans h1 h2
    omega
  have hd1 : ((d : Nat) : Int).natAbs < pw 1 := by
    have e1 : pw 1 = 4294967296 := dC
    rw [e1]; omega
  rw [← hE2]
  have hid : IsI (encI (d : Int)) 1 (d : Int) := Zar hd1
  unfold encI at *
  rw [hcd] at hid ⊢
  refine pb2 Tryz.func192 (Zac.agg (l := ci ((d ^ E : Nat) : Int)) Zbj) Zac.tmp ?_
  refine goA ?_
  refine clA cb ?_
  refine runA ?_
  refine Zao ?_
  refine osA ?_
  refine T.seqE (mkS [(1, .v (iV e)), (2, .ptr 2 0), (4, .ptr 4 0), (6, .v (iV (Lib.bitLen d)))] [(2, .var [.v (.p (.bool false)), .v (.sl [u32 (d : Int)])]), (4, .var [.v (.p (.bool false)), .v (.p nilV)])] 51 true) ?_ ?_
  · by_cases c : Lib.bitLen d ≤ 1
    · have k3 : decide ((Lib.bitLen d : Int) > 1) = false := decide_eq_false oM
      refine goA ?_
      exact midE
    · have k3 : decide ((Lib.bitLen d : Int) > 1) = true := decide_eq_true oM
      refine goA ?_
      refine evG ggA (Zbx (Zaa rfl) rfl rfl oM kw) ?_
      refine goA ?_
      exact midE
  refine T.seqE (mkS [(1, .v (iV E)), (2, .ptr 2 0), (4, .ptr 4 0)] [(2, .var [.v (.p (.bool false)), .v (.sl [u32 (d : Int)])]), (4, .var [.v (.p (.bool false)), .v (.p nilV)])] 51 true) ?_ ?_
  · by_cases c : Lib.bitLen d ≤ 1
    · have k3 : decide ((Lib.bitLen d : Int) ≤ 1) = true := decide_eq_true oM
      rw [if_pos c] at hE
      rw [← hE]
      refine goA ?_
      refine remA ?_
      rw [e5]
      refine goA ?_
      exact midE
    · have k3 : decide ((Lib.bitLen d : Int) ≤ 1) = false := decide_eq_false oM
      rw [if_neg c] at hE
      rw [← hE]
      refine goA ?_
      exact midE
  clear hE hE2 k0 kq k2 kw e5 cb hb1 hb2 hb3 he
  generalize Lib.bitLen E = B at *
  have hwu : IntKind.u64.wrap (E : Int) = (E : Int) := u64w oM oM
  refine goA ?_
  refine clG co ?_
  refine evG ggA (Zbf (Zaa rfl) und_int (show Tryz.prog.underlying 76 = some (.int .u64) by kernel_rfl) rfl hwu) ?_
  refine goA ?_
  refine clG cl ?_
  refine T.loop (fun n s1 => ∃ i : Nat, i ≤ B ∧ n = i ∧ s1 = mkS [(1, .v (iV E)), (2, .ptr 2 0), (4, .ptr 4 0), (7, .ptr 7 0), (8, .v (iV ((i : Int) - 1)))] [(2, .var [.v (.p (.bool false)), .v (.sl [u32 (d : Int)])]), (4, .var [.v (.p (.bool false)), .v (.p nilV)]), (7, .var (cI ((d ^ (E / 2 ^ i) : Nat) : Int)))] 51 true) B
    (s' := mkS [(1, .v (iV E)), (2, .ptr 2 0), (4, .ptr 4 0), (7, .ptr 7 0), (8, .v (iV ((B : Int) - 1)))] [(2, .var [.v (.p (.bool false)), .v (.sl [u32 (d : Int)])]), (4, .var [.v (.p (.bool false)), .v (.p nilV)]), (7, .var (cI 1))] 51 true) entA ⟨B, Nat.le_refl _, rfl, by rw [l2]; rfl⟩ ?_
  rintro n _ ⟨i, hi, rfl, rfl⟩
  cases n with
  | zero =>
    have k1 : decide ((((0 : Nat) : Int) - 1) ≥ 0) = false := rfl
    have e0 : E / 2 ^ 0 = E := by simp
    rw [e0]
    refine goA ?_
    exact rfl
  | succ j =>
    have k1 : decide ((((j + 1 : Nat) : Int) - 1) ≥ 0) = true := decide_eq_true oM
    have hh := div_half E j
    have hle : E / 2 ^ j ≤ E := Nat.div_le_self _ _
    have hs1 := hsmall (E / 2 ^ (j + 1)) oM
    have hs2 := hsmall (2 * (E / 2 ^ (j + 1))) oM
    have c1 := imul_p (Zar hs1) dC (Zar hs1) dC
    have q1 : ((d ^ (E / 2 ^ (j + 1)) : Nat) : Int) * ((d ^ (E / 2 ^ (j + 1)) : Nat) : Int) = ((d ^ (2 * (E / 2 ^ (j + 1))) : Nat) : Int) := by
      rw [← Int.natCast_mul, ← Nat.pow_add]; congr 2; omega
    rw [q1] at c1
    have c2 := imul_p (Zar hs2) dC hid dC
    have q2 : ((d ^ (2 * (E / 2 ^ (j + 1))) : Nat) : Int) * (d : Int) = ((d ^ (2 * (E / 2 ^ (j + 1)) + 1) : Nat) : Int) := by
      rw [← Int.natCast_mul, ← Nat.pow_succ]
    rw [q2] at c2
    have hsh : (E : Int).fdiv (2 ^ (min (((j + 1 : Nat) : Int) - 1).toNat IntKind.i64.bits)) = ((E / 2 ^ j : Nat) : Int) := by
      have e1 : min (((j + 1 : Nat) : Int) - 1).toNat IntKind.i64.bits = j := by simp [IntKind.bits]; omega
      rw [e1, Int.fdiv_eq_ediv_of_nonneg _ (by exact_mod_cast Nat.zero_le _)]
      push_cast
      rfl
    have hand := and_one (x := E / 2 ^ j) oM
    unfold encI at c1 c2
    clear hs1 hs2 hsmall q1 q2
    by_cases c : E / 2 ^ j % 2 = 1
    · have k4 : (((E / 2 ^ j % 2 : Nat) : Int) == 1) = true := by rw [c]; rfl
      have hx : E / 2 ^ j = 2 * (E / 2 ^ (j + 1)) + 1 := oM
      refine goA ?_
      refine clG c1 ?_
      refine evG ggA (Zfh (Zaa rfl) rfl rfl oM hsh) ?_
      refine goA ?_
      refine evG ggA (ss_bits (Zaa rfl) rfl rfl hand) ?_
      refine goA ?_
      refine clG c2 ?_
      exact Zab (k := j) (s' := mkS [(1, .v (iV E)), (2, .ptr 2 0), (4, .ptr 4 0), (7, .ptr 7 0), (8, .v (iV (((j + 1 : Nat) : Int) - 1 - 1)))] [(2, .var [.v (.p (.bool false)), .v (.sl [u32 (d : Int)])]), (4, .var [.v (.p (.bool false)), .v (.p nilV)]), (7, .var (cI ((d ^ (2 * (E / 2 ^ (j + 1)) + 1) : Nat) : Int)))] 51 true) oM entA ⟨j, oM, rfl, by rw [hx, show ((j + 1 : Nat) : Int) - 1 - 1 = (j : Int) - 1 by omega]⟩
    · have k4 : (((E / 2 ^ j % 2 : Nat) : Int) == 1) = false := by rw [beq_eq_false_iff_ne]; omega
      have hx : E / 2 ^ j = 2 * (E / 2 ^ (j + 1)) := oM
      refine goA ?_
      refine clG c1 ?_
      refine evG ggA (Zfh (Zaa rfl) rfl rfl oM hsh) ?_
      refine goA ?_
      refine evG ggA (ss_bits (Zaa rfl) rfl rfl hand) ?_
      refine goA ?_
      exact Zab (k := j) (s' := mkS [(1, .v (iV E)), (2, .ptr 2 0), (4, .ptr 4 0), (7, .ptr 7 0), (8, .v (iV (((j + 1 : Nat) : Int) - 1 - 1)))] [(2, .var [.v (.p (.bool false)), .v (.sl [u32 (d : Int)])]), (4, .var [.v (.p (.bool false)), .v (.p nilV)]), (7, .var (cI ((d ^ (2 * (E / 2 ^ (j + 1))) : Nat) : Int)))] 51 true) oM entA ⟨j, oM, rfl, by rw [hx, show ((j + 1 : Nat) : Int) - 1 - 1 = (j : Int) - 1 by omega]⟩
theorem encQ_int (z : Int) : encQ (z : Rat) = .agg (ci z ++ ci 1) := by
 unfold encQ
 rw [Rat.num_intCast, Rat.den_intCast]
 rfl
theorem whole_p {z : Int} {k : Nat} (hz : z.natAbs < pw k) (hk : k ≤ 17592186044416) : PC Tryz.prog 148 [encI z] (encQ (z : Rat)) := by
 have c1 := inormal_p (Zar hz) hk
 have c2 := iof_p 1 dC dC
 rw [encQ_int]
 unfold encI at *
 refine pb1 Tryz.func148 (Zac.agg (l := ci z ++ ci 1) Zbg) ?_
 refine goA ?_
 refine clG c1 ?_
 refine clG c2 ?_
 exact rfl
theorem ht_whole {z : Int} {k : Nat} (h : z.natAbs < pw k) (hk : 1 ≤ k) : Ht (z : Rat) k := ⟨by rw [Rat.num_intCast]; exact h, by rw [Rat.den_intCast]; exact (ht0 hk).2⟩
end Ab
namespace Ab
open Go Go.RowKit Go.Proofs Kr
set_option maxRecDepth 100000
end Ab
namespace Ab
open Go Go.RowKit Go.Proofs Hp
set_option maxRecDepth 100000
set_option maxHeartbeats 2000000 in
theorem scale_p {a : AV} {c : Rat} {k : Nat} {s : Int} {es : List AV} {l : List Rat} {K : Nat} (ha : IsV a k c) (h : Zap s es.length = true → IsL es K l) (hle : es.length = l.length) (hr : InR s es.length) (hk : 1 ≤ k) (hK : 1 ≤ K) (hkK : k + K ≤ 100000000) : PC Tryz.prog 69 [a, serA s es] (serE (sclR c s l)) := by
  have hva := Zdt hr.1 hr.2 hr.3
  obtain ⟨g, xs, g', xs', rfl⟩ := Zax ha
  rw [Zbm]
  unfold sclR
  rw [← hle]
  cases hv : Zap s es.length with
  | false =>
    rw [hv] at hva
    refine pb2 Tryz.func69 (Zac.agg Zaj) Zac.tmp ?_
    refine goA ?_
    refine clG hva ?_
    exact rfl
  | true =>
  rw [hv] at hva
  have hL := h hv
  obtain ⟨a0, a1, a2⟩ := Za2.1 hv
  obtain ⟨N, hN⟩ : ∃ N, N = es.length := ⟨_, rfl⟩
  have hF : ∀ (i : Nat) q, l[i]? = some q → (fun i => c * l.getD i 0) i = c * q := fun i q hq => by
    show c * l.getD i 0 = _
    rw [List.getD_eq_getElem?_getD, hq]; rfl
  have hhF : ∀ i, Ht ((fun i => c * l.getD i 0) i) (k + K) := fun i => Zbq (Zfc ha hk) (ht_getD hK (Zdz hL hK) i) hk
  rw [← hN]
  generalize (fun i => c * l.getD i 0) = F at *
  refine pb2 Tryz.func69 (Zac.agg Zaj) Zac.tmp ?_
  refine r1A ?_
  refine T.seqE (mkS [(2, .ptr 2 0), (3, .ptr 3 0), (4, .ptr 4 0)] [(2, .var [.v (.p (.bool g)), .v (.sl xs), .v (.p (.bool g')), .v (.sl xs')]), (3, .var [.v (iV s), .v (.sl es)]), (4, var0)] 37 true) ?_ ?_
  · refine goA ?_
    refine clG hva ?_
    exact midE
  refine T.seq ?_
  refine regA ?_
  refine runA ?_
  refine evG ggA (Zdv 30 (e0 := rz) (Zaa rfl) (Zaf rfl) rfl rfl rfl oM oM oM oM rfl rfl rfl) ?_
  refine runA ?_
  refine Zao ?_
  refine Za1 ?_
  refine T.seqE (mkS [(3, .ptr 3 0), (4, .ptr 4 0), (6, .own 30 N)] [(3, .var [.v (iV s), .v (.sl es)]), (4, var0), (30, .lst 4 39 ((tk F N).map encQ))] 37 true) ?_ ?_
  · refine r1A ?_
    refine T.block ?_
    refine T.loop (fun n s1 => ∃ j : Nat, n = N - j ∧ j ≤ N ∧ s1 = mkS [(2, .ptr 2 0), (3, .ptr 3 0), (4, .ptr 4 0), (6, .own 30 j), (18, .v (.sl es)), (19, .v (iV N)), (20, .v (iV (j : Nat)))] [(2, .var [.v (.p (.bool g)), .v (.sl xs), .v (.p (.bool g')), .v (.sl xs')]), (3, .var [.v (iV s), .v (.sl es)]), (4, var0), (30, .lst 4 39 ((tk F j).map encQ))] 37 true) N
      (s' := mkS [(2, .ptr 2 0), (3, .ptr 3 0), (4, .ptr 4 0), (6, .own 30 0), (18, .v (.sl es)), (19, .v (iV es.length)), (20, .v (iV (0 : Nat)))] [(2, .var [.v (.p (.bool g)), .v (.sl xs), .v (.p (.bool g')), .v (.sl xs')]), (3, .var [.v (iV s), .v (.sl es)]), (4, var0), (30, .lst 4 39 ((tk F 0).map encQ))] 37 true) entA ⟨0, rfl, Nat.zero_le _, by rw [hN]⟩ ?_
    rintro n _ ⟨j, rfl, hj, rfl⟩
    by_cases hlt : j < N
    · have hb : decide ((j : Int) < (N : Int)) = true := by simp; omega
      obtain ⟨y, ys, y', ys', q, e1, e2, e3⟩ := hL.at (i := j) oM
      have e1' : es[((j : Nat) : Int).toNat]? = some (.agg [.p (.bool y), .sl ys, .p (.bool y'), .sl ys']) := by rw [Int.toNat_natCast]; exact e1
      have cm := Zdw ha oM e3 oM
      rw [← hF j q e2] at cm
      clear hF hhF hL h ha
      refine goA ?_
      refine ixG e1' ?_
      refine clA cm ?_
      refine appA ?_
      refine goA ?_
      exact Zab (k := N - (j + 1)) (s' := mkS [(2, .ptr 2 0), (3, .ptr 3 0), (4, .ptr 4 0), (6, .own 30 (j + 1)), (18, .v (.sl es)), (19, .v (iV N)), (20, .v (iV ((j : Int) + 1)))] [(2, .var [.v (.p (.bool g)), .v (.sl xs), .v (.p (.bool g')), .v (.sl xs')]), (3, .var [.v (iV s), .v (.sl es)]), (4, var0), (30, .lst 4 39 ((tk F j ++ [F j]).map encQ))] 37 true) oM entA ⟨j + 1, rfl, hlt, by rw [Zdu]; rfl⟩
    · obtain rfl : j = N := oM
      have hb : decide ((j : Int) < (j : Int)) = false := by simp
      refine goA ?_
      exact Zae (s' := mkS [(3, .ptr 3 0), (4, .ptr 4 0), (6, .own 30 j)] [(3, .var [.v (iV s), .v (.sl es)]), (4, var0), (30, .lst 4 39 ((tk F j).map encQ))] 37 true) entA rfl
  have hbuild := Ze7 (s := s) (Zbb (l := tk F N) (k := k + K) (fun q hq => by obtain ⟨i, -, rfl⟩ := Zfb hq; exact hhF i)) oM oM oM (by rw [tk_len]; omega)
  rw [Zbm] at hbuild
  refine T.weak (s' := mkS [(3, .ptr 3 0), (4, .ptr 4 0), (6, .v (.sl ((tk F N).map encQ)))] [(3, .var [.v (iV s), .v (.sl es)]), (4, var0)] 37 true) entA ?_
  refine goA ?_
  refine clG hbuild ?_
  exact rfl
theorem pow_le15 {x : Int} (hx : x.natAbs ≤ 60) {e : Nat} (he : e ≤ 15) : (x ^ e).natAbs < pw 3 := by
 have h1 : x.natAbs ^ e ≤ 60 ^ e := Nat.pow_le_pow_left hx e
 have h2 : 60 ^ e ≤ 60 ^ 15 := Nat.pow_le_pow_right dC he
 have h3 : (((60 : Nat) ^ 15 : Nat) : Int) < pw 3 := by decide +kernel
 rw [Int.natAbs_pow]
 have h4 : ((x.natAbs ^ e : Nat) : Int) ≤ ((60 ^ 15 : Nat) : Int) := Int.ofNat_le.2 (Nat.le_trans h1 h2)
 exact Int.lt_of_le_of_lt h4 h3
theorem sq_idx0 {e f m y : Nat} (h : m = 2 * y) : f + (e + e) * y = f + e * m := by subst h; grind
theorem sq_idx2 {e f m y : Nat} (h : m = 2 * y + 1) : f + e + (e + e) * y = f + e * m := by subst h; grind
theorem sq_idx1 {e f m y : Nat} (h : m = 1) (hy : y = 0) : f + e + e * y = f + e * m := by subst h hy; simp
set_option maxHeartbeats 4000000 in
theorem rraised_p {x : Int} {n : Nat} (hx : x.natAbs ≤ 60) (hn : n ≤ 15) : PC Tryz.prog 167 [encI x, iV n] (encI (x ^ n)) := by
 have c1 : PC Tryz.prog 98 [iV 1] (encI 1) := (refof_p 1 dC dC).up
 have hone : encI 1 = encI (x ^ 0) := by rw [Int.pow_zero]
 have hx1 : encI x = encI (x ^ 1) := by rw [Int.pow_succ, Int.pow_zero, Int.one_mul]
 have hI : ∀ e : Nat, e ≤ 15 → IsI (encI (x ^ e)) 3 (x ^ e) := fun e he => Zar (pow_le15 hx he)
 have hm : ∀ e f : Nat, e ≤ 15 → f ≤ 15 → PC Tryz.prog 115 [encI (x ^ e), encI (x ^ f)] (encI (x ^ (e + f))) := fun e f he hf => by
  have : PC Tryz.prog 115 [encI (x ^ e), encI (x ^ f)] (encI (x ^ e * x ^ f)) := (Zdo (hI e he) (hI f hf) dC dC).up
  rwa [← Int.pow_add] at this
 rw [hx1]
 rw [hone] at c1
 clear hone hx1 hI hx
 unfold encI at *
 refine pb1 Tryz.func167 (Zac.agg (l := ci (x ^ n)) Zbj) ?_
 refine goA ?_
 refine clA c1 ?_
 refine runA ?_
 refine Zao ?_
 refine osA ?_
 refine T.seqE (mkS [(4, .ptr 4 0), (5, .ptr 5 0)] [(4, .var [.v (.p (.bool false)), .v (.p nilV)]), (5, .var ((ci (x ^ n)).map .v))] 23 true) ?_ ?_
 ·refine T.block ?_
  refine T.loop (fun m s1 => ∃ e f k : Nat, m = k ∧ k ≤ n ∧ f + e * k = n ∧ s1 = mkS [(1, .v (iV k)), (2, .ptr 2 0), (4, .ptr 4 0), (5, .ptr 5 0)] [(2, .var ((ci (x ^ e)).map .v)), (4, .var [.v (.p (.bool false)), .v (.p nilV)]), (5, .var ((ci (x ^ f)).map .v))] 23 true) n
   (s' := mkS [(1, .v (iV n)), (2, .ptr 2 0), (4, .ptr 4 0), (5, .ptr 5 0)] [(2, .var ((ci (x ^ 1)).map .v)), (4, .var [.v (.p (.bool false)), .v (.p nilV)]), (5, .var ((ci (x ^ 0)).map .v))] 23 true) entA ⟨1, 0, n, rfl, Nat.le_refl _, oM, rfl⟩ ?_
  rintro m _ ⟨e, f, k, rfl, hkn, hfe, rfl⟩
  by_cases hk : 0 < m
  ·have k1 : decide ((m : Int) > 0) = true := decide_eq_true oM
   have he : e ≤ 15 := by
    have : e * 1 ≤ e * m := Nat.mul_le_mul_left _ hk
    omega
   have hf : f ≤ 15 := oM
   have em : (m : Int).tmod 2 = ((m % 2 : Nat) : Int) := rfl
   have eq2 : (m : Int).tdiv 2 = ((m / 2 : Nat) : Int) := rfl
   have hmd : m = 2 * (m / 2) + m % 2 := oM
   by_cases c1 : m % 2 = 1
   ·have k2 : (((m % 2 : Nat) : Int) == 1) = true := by rw [c1]; rfl
    by_cases c2 : 0 < m / 2
    ·have k3 : decide (((m / 2 : Nat) : Int) > 0) = true := decide_eq_true oM
     refine goA ?_
     refine remA ?_
     rw [em]
     refine goA ?_
     refine clG (hm f e hf he) ?_
     refine evG ggA (Zbx (Zaa rfl) rfl rfl dC (w64 oM oM)) ?_
     rw [eq2]
     refine goA ?_
     refine clG (hm e e he he) ?_
     exact Zab (k := m / 2) (s' := mkS [(1, .v (iV ((m / 2 : Nat) : Int))), (2, .ptr 2 0), (4, .ptr 4 0), (5, .ptr 5 0)] [(2, .var ((ci (x ^ (e + e))).map .v)), (4, .var [.v (.p (.bool false)), .v (.p nilV)]), (5, .var ((ci (x ^ (f + e))).map .v))] 23 true) oM entA ⟨e + e, f + e, m / 2, rfl, oM, by rw [← hfe]; exact sq_idx2 oM, rfl⟩
    ·have k3 : decide (((m / 2 : Nat) : Int) > 0) = false := decide_eq_false oM
     refine goA ?_
     refine remA ?_
     rw [em]
     refine goA ?_
     refine clG (hm f e hf he) ?_
     refine evG ggA (Zbx (Zaa rfl) rfl rfl dC (w64 oM oM)) ?_
     rw [eq2]
     refine goA ?_
     exact Zab (k := m / 2) (s' := mkS [(1, .v (iV ((m / 2 : Nat) : Int))), (2, .ptr 2 0), (4, .ptr 4 0), (5, .ptr 5 0)] [(2, .var ((ci (x ^ (e))).map .v)), (4, .var [.v (.p (.bool false)), .v (.p nilV)]), (5, .var ((ci (x ^ (f + e))).map .v))] 23 true) oM entA ⟨e, f + e, m / 2, rfl, oM, by rw [← hfe]; exact sq_idx1 oM oM, rfl⟩
   ·have k2 : (((m % 2 : Nat) : Int) == 1) = false := by rw [show m % 2 = 0 by omega]; rfl
    by_cases c2 : 0 < m / 2
    ·have k3 : decide (((m / 2 : Nat) : Int) > 0) = true := decide_eq_true oM
     refine goA ?_
     refine remA ?_
     rw [em]
     refine goA ?_
     refine evG ggA (Zbx (Zaa rfl) rfl rfl dC (w64 oM oM)) ?_
     rw [eq2]
     refine goA ?_
     refine clG (hm e e he he) ?_
     exact Zab (k := m / 2) (s' := mkS [(1, .v (iV ((m / 2 : Nat) : Int))), (2, .ptr 2 0), (4, .ptr 4 0), (5, .ptr 5 0)] [(2, .var ((ci (x ^ (e + e))).map .v)), (4, .var [.v (.p (.bool false)), .v (.p nilV)]), (5, .var ((ci (x ^ (f))).map .v))] 23 true) oM entA ⟨e + e, f, m / 2, rfl, oM, by rw [← hfe]; exact sq_idx0 oM, rfl⟩
    ·omega
  ·obtain rfl : m = 0 := oM
   have k1 : decide (((0 : Nat) : Int) > 0) = false := rfl
   obtain rfl : f = n := oM
   refine goA ?_
   exact midE
 refine goA ?_
 exact rfl
theorem rwhole_p {z : Int} {k : Nat} (hz : z.natAbs < pw k) (hk : k ≤ 17592186044416) : PC Tryz.prog 166 [encI z] (encQ (z : Rat)) := by
 have c1 : PC Tryz.prog 99 [encI z] (encI z) := (Zex (Zar hz) hk).up
 have c2 : PC Tryz.prog 98 [iV 1] (encI 1) := (refof_p 1 dC dC).up
 rw [encQ_int]
 unfold encI at *
 refine pb1 Tryz.func166 (Zac.agg (l := ci z ++ ci 1) Zbg) ?_
 refine goA ?_
 refine clG c1 ?_
 refine clG c2 ?_
 exact rfl
end Ab
