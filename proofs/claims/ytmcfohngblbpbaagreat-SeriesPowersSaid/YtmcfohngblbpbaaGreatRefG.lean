/- Package ref01: split, shifted, Bits, in abstract values. -/
import Derived.Test.YtmcfohngblbpbaaGreatRefF
namespace Ab
open Go Go.RowKit Go.Proofs Hp
set_option maxRecDepth 100000

theorem split_p (n : Nat) (hn : n < 18446744073709551616) : PW Tryz.prog 128 [.p (.int .u64 n)] (.sl ((dgs n).map u32)) := by
  have hd : ∀ d, d ∈ [((n % 4294967296 : Nat) : Int), ((n / 4294967296 : Nat) : Int)] → isDig d := fun d h => by
    simp only [List.mem_cons, List.not_mem_nil, or_false] at h
    unfold isDig B
    rcases h with rfl | rfl <;> omega
  have c := trim_p hd (Nat.le_of_ble_eq_true rfl)
  have e : nd [((n % 4294967296 : Nat) : Int), ((n / 4294967296 : Nat) : Int)] = dgs n := by
    unfold nd
    congr 1
    rw [vl_cons, vl_cons, vl_nil, B_def]
    omega
  rw [e] at c
  have h1 : IntKind.u32.wrap (n : Int) = ((n % 4294967296 : Nat) : Int) := by rw [u32m]; omega
  have h2 : (n : Int).fdiv (2 ^ (min (32 : Int).toNat IntKind.u64.bits)) = ((n / 4294967296 : Nat) : Int) := by rw [shr32 (by omega)]; omega
  have h3 : IntKind.u32.wrap ((n / 4294967296 : Nat) : Int) = ((n / 4294967296 : Nat) : Int) := u32w (by omega) (by omega)
  refine pc_body1 false Tryz.func128 rfl rfl rfl (Nat.le_of_ble_eq_true rfl) CellT.tmp ?_
  refine goA ?_
  refine evG ggA (ss_conv (InB_of rfl) (int_tab rfl) (int_tab rfl) rfl h1) ?_
  refine goA ?_
  refine evG ggA (ss_shr (InB_of rfl) rfl rfl (by decide) h2) ?_
  refine evG ggA (ss_conv (InB_of rfl) (int_tab rfl) (int_tab rfl) rfl h3) ?_
  refine evG ggA (ss_bslice (InB_of rfl) (make_tab rfl) rfl rfl rfl rfl (fun x hx => by simp only [List.mem_cons, List.not_mem_nil, or_false] at hx; rcases hx with rfl | rfl <;> exact ⟨rfl, rfl⟩) (Nat.le_of_ble_eq_true rfl)) ?_
  refine evG ggA (ss_call (InB_of rfl) rfl rfl c) ?_
  refine goA ?_
  exact rfl
/-- powers of 2 by digits -/
theorem pw_two (q : Nat) : pw q = 2 ^ (32 * q) := by
  induction q with
  | zero => rfl
  | succ q ih => rw [pw_succ, ih, show 32 * (q + 1) = 32 * q + 32 by omega, Int.pow_add]; rfl
theorem two_split (n : Nat) : (2 : Int) ^ n = 2 ^ (n % 32) * pw (n / 32) := by
  rw [pw_two, ← Int.pow_add]
  congr 1
  omega
theorem two_pos (n : Nat) : (0 : Int) < 2 ^ n := Int.pow_pos (by decide)
theorem two_le {m n : Nat} (h : m ≤ n) : (2 : Int) ^ m ≤ 2 ^ n := by
  obtain ⟨k, rfl⟩ := Nat.exists_eq_add_of_le h
  rw [Int.pow_add]
  have h1 := two_pos m
  have h2 := two_pos k
  have := Int.mul_le_mul_of_nonneg_left (show (1 : Int) ≤ 2 ^ k by omega) (show (0 : Int) ≤ 2 ^ m by omega)
  omega
theorem digs_snoc {os : List Int} {x : Int} (h : ∀ d, d ∈ os → isDig d) (hx : isDig x) : ∀ d, d ∈ os ++ [x] → isDig d := fun d hd => by
  rcases List.mem_append.1 hd with hd | hd
  · exact h d hd
  · rw [List.mem_singleton] at hd; subst hd; exact hx
theorem digs_rep {n : Nat} : ∀ d, d ∈ List.replicate n (0 : Int) → isDig d := fun d hd => by rw [List.eq_of_mem_replicate hd]; exact dig0
theorem vl_rep (n : Nat) : vl (List.replicate n (0 : Int)) = 0 := by
  induction n with
  | zero => rfl
  | succ n ih => rw [List.replicate_succ, vl_cons, ih]; rfl
set_option maxHeartbeats 2000000 in
theorem shifted_p {ds : List Int} (hd : ∀ d, d ∈ ds → isDig d) (hl : ds.length ≤ 1099511627776) (n : Nat) (hn : n ≤ 35184372088832) : PW Tryz.prog 143 [.sl (ds.map u32), .p (.int .i64 n)] (.sl ((dgs ((vl ds).toNat * 2 ^ n)).map u32)) := by
  have hq : IntKind.i64.wrap ((n : Int).tdiv 32) = ((n / 32 : Nat) : Int) := by rw [Int.tdiv_eq_ediv_of_nonneg (by omega)]; rw [w64 (by omega) (by omega)]; omega
  have hr : (n : Int).tmod 32 = ((n % 32 : Nat) : Int) := by rw [Int.tmod_eq_emod_of_nonneg (by omega)]; omega
  obtain ⟨q, hqd⟩ : ∃ q, q = n / 32 := ⟨_, rfl⟩
  obtain ⟨r, hrd⟩ : ∃ r, r = n % 32 := ⟨_, rfl⟩
  have hsp := two_split n
  rw [← hqd, ← hrd] at hsp
  rw [← hqd] at hq
  rw [← hrd] at hr
  have hr32 : r < 32 := by omega
  have hP0 := two_pos r
  have hP1 : (2 : Int) ^ r ≤ 2147483648 := two_le (n := 31) (by omega)
  obtain ⟨P, hP⟩ : ∃ P : Int, P = 2 ^ r := ⟨_, rfl⟩
  have hqb : q ≤ 1099511627776 := by omega
  rw [← hP] at hsp hP0 hP1
  refine pc_body1 false Tryz.func143 rfl rfl rfl (Nat.le_of_ble_eq_true rfl) CellT.tmp ?_
  refine r1A ?_
  refine T.seq ?_
  refine regA ?_
  refine runA ?_
  refine evG ggA (ss_div (InB_of rfl) rfl rfl (by decide) hq) ?_
  refine evG ggA (ss_make 30 (e0 := u32 0) (InB_of rfl) (make_tab rfl) rfl rfl rfl (by omega) (by omega) (by omega) (by omega) rfl rfl rfl) ?_
  refine runA ?_
  refine ev_nil ?_
  refine seqQ_n ?_
  refine r1A ?_
  refine T.seqI (fun s1 => ∃ (os : List Int) (last : Int), os.length = q + ds.length ∧ (∀ d, d ∈ os → isDig d) ∧ 0 ≤ last ∧ last < P ∧ vl os + last * pw (q + ds.length) = vl ds * P * pw q ∧ s1 = mkS [(5, .own 30 (q + ds.length)), (6, .v (.p (.int .u64 last)))] [(30, .lst 1 49 (os.map u32))] 42 false) ?_ ?_
  · refine r1A ?_
    refine T.block ?_
    refine T.loop (fun k s1 => ∃ (i : Nat) (os : List Int) (last : Int), k = ds.length - i ∧ i ≤ ds.length ∧ os.length = q + i ∧ (∀ d, d ∈ os → isDig d) ∧ 0 ≤ last ∧ last < P ∧ vl os + last * pw (q + i) = val (fun i => ds.getD i 0) i * P * pw q ∧ s1 = mkS [(0, .v (.sl (ds.map u32))), (1, .v (.p (.int .i64 n))), (5, .own 30 (q + i)), (6, .v (.p (.int .u64 last))), (7, .v (.p (.int .i64 (i : Nat))))] [(30, .lst 1 49 (os.map u32))] 42 false) ds.length
      (s' := mkS [(0, .v (.sl (ds.map u32))), (1, .v (.p (.int .i64 n))), (5, .own 30 q), (6, .v (.p (.int .u64 0))), (7, .v (.p (.int .i64 (0 : Nat))))] [(30, .lst 1 49 (List.replicate q (u32 0)))] 42 false) (by exact entA) ⟨0, List.replicate q 0, 0, rfl, Nat.zero_le _, by simp, digs_rep, Int.le_refl _, hP0, by rw [vl_rep]; simp [val], by rw [List.map_replicate]; rfl⟩ ?_
    rintro _ _ ⟨i, os, last, rfl, hi, hol, hod, hl0, hl1, hv, rfl⟩
    by_cases hlt : i < ds.length
    · have hA' : decide ((i : Int) < ((ds.map u32).length : Int)) = true := by simp; omega
      have hg := u32_get hlt
      have gx : ds.getD i 0 = ds[i] := by simp [hlt]
      have h1 := gd_b hd i
      rw [gx] at h1
      have hm0 : 0 ≤ ds[i] * P := Int.mul_nonneg h1.1 (by omega)
      have hm1 : ds[i] * P ≤ 4294967295 * P := Int.mul_le_mul_of_nonneg_right (by omega) (by omega)
      have hsl : IntKind.u64.wrap (ds[i] * 2 ^ (min ((r : Int)).toNat IntKind.u64.bits)) = ds[i] * P := by
        rw [show min ((r : Int)).toNat IntKind.u64.bits = r by rw [Int.toNat_natCast]; exact Nat.min_eq_left (by show r ≤ 64; omega), ← hP]
        exact u64w hm0 (by omega)
      obtain ⟨x, hx⟩ : ∃ x, x = ds[i] * P + last := ⟨_, rfl⟩
      have had : IntKind.u64.wrap (ds[i] * P + last) = x := by rw [hx]; exact u64w (by omega) (by omega)
      have hco : IntKind.u32.wrap x = x % 4294967296 := u32m _
      have hsh : x.fdiv (2 ^ (min (32 : Int).toNat IntKind.u64.bits)) = x / 4294967296 := shr32 (by omega)
      have hel : (os.map u32).length = q + i := by simp [hol]
      have hnl : (os ++ [x % 4294967296]).length = q + (i + 1) := by simp [hol]; omega
      have hnv : vl (os ++ [x % 4294967296]) + x / 4294967296 * pw (q + (i + 1)) = val (fun i => ds.getD i 0) (i + 1) * P * pw q := by
        rw [vl_snoc, hol, show q + (i + 1) = q + i + 1 by omega, pw_succ, val_succ]
        show _ = (val (fun i => ds.getD i 0) i + ds.getD i 0 * pw i) * P * pw q
        rw [gx]
        have a1 : x % 4294967296 * pw (q + i) + x / 4294967296 * (pw (q + i) * 4294967296) = x * pw (q + i) := by
          have := Int.mul_ediv_add_emod x 4294967296
          rw [Int.mul_comm (pw (q + i)), ← Int.mul_assoc, ← Int.add_mul]
          congr 1
          omega
        have a2 : x * pw (q + i) = ds[i] * P * pw (q + i) + last * pw (q + i) := by rw [hx, Int.add_mul]
        have a3 : ds[i] * P * pw (q + i) = ds[i] * pw i * P * pw q := by
          rw [pw_add]
          simp only [Int.mul_assoc, Int.mul_comm, Int.mul_left_comm]
        rw [Int.add_mul, Int.add_mul, Int.add_assoc, a1, a2, a3, ← hv]
        omega
      refine T.seqI (fun s1 => s1 = mkS [(0, .v (.sl (ds.map u32))), (1, .v (.p (.int .i64 n))), (5, .own 30 (q + i)), (6, .v (.p (.int .u64 last))), (7, .v (.p (.int .i64 (i : Nat))))] [(30, .lst 1 49 (os.map u32))] 42 false) ?_ ?_
      · refine goA ?_
        exact midQ_intro (by exact entA) rfl
      rintro _ rfl
      refine T.seq ?_
      refine T.block ?_
      refine T.seq ?_
      refine regA ?_
      refine runA ?_
      refine evG ggA (ss_index_sl (InB_of rfl) (elem_tab rfl) rfl rfl (by omega) hg rfl) ?_
      refine runA ?_
      refine evG ggA (ss_conv (InB_of rfl) (int_tab rfl) (int_tab rfl) rfl (u64w h1.1 (by omega))) ?_
      refine runA ?_
      refine evG ggA (ss_div (InB_of rfl) rfl rfl (by decide) hr) ?_
      refine evG ggA (ss_conv (InB_of rfl) (int_tab rfl) und_uint rfl (u64w (by omega) (by omega))) ?_
      refine evG ggA (ss_shl (InB_of rfl) rfl rfl (by omega) hsl) ?_
      refine runA ?_
      refine evG ggA (ss_arith (InB_of rfl) rfl rfl had) ?_
      refine runA ?_
      refine ev_nil ?_
      refine seqQ_n ?_
      refine T.seq ?_
      refine regA ?_
      refine runA ?_
      refine evG ggA (ss_conv (InB_of rfl) (int_tab rfl) (int_tab rfl) rfl hco) ?_
      refine evG ggA (ss_bslice (InB_of rfl) (make_tab rfl) rfl rfl rfl rfl (one_ok rfl rfl) (Nat.le_of_ble_eq_true rfl)) ?_
      refine evG ggA (ss_append (InB_of rfl) (make_tab rfl) rfl rfl hel rfl u32_one (by decide) (by simp [maxLen]; omega) (by simp; omega) rfl (fun h => by cases h)) ?_
      refine runA ?_
      refine ev_nil ?_
      refine seqQ_n ?_
      refine regA ?_
      refine runA ?_
      refine evG ggA (ss_shr (InB_of rfl) rfl rfl (by decide) hsh) ?_
      refine goA ?_
      refine loopQ_intro (k := ds.length - (i + 1)) (s' := mkS [(0, .v (.sl (ds.map u32))), (1, .v (.p (.int .i64 n))), (5, .own 30 (q + i + 1)), (6, .v (.p (.int .u64 (x / 4294967296)))), (7, .v (.p (.int .i64 ((i : Int) + 1))))] [(30, .lst 1 49 (os.map u32 ++ [u32 (x % 4294967296)]))] 42 false) (by omega) (by exact entA) ⟨i + 1, os ++ [x % 4294967296], x / 4294967296, rfl, hlt, hnl, digs_snoc hod (mod_dig x), by omega, by omega, hnv, by rw [List.map_append]; rfl⟩
    · obtain rfl : i = ds.length := by omega
      have hA' : decide (((ds.length : Nat) : Int) < ((ds.map u32).length : Int)) = false := by simp
      refine goA ?_
      exact midQ_intro (s' := mkS [(5, .own 30 (q + ds.length)), (6, .v (.p (.int .u64 last)))] [(30, .lst 1 49 (os.map u32))] 42 false) (by exact entA) ⟨os, last, hol, hod, hl0, hl1, hv, rfl⟩
  rintro _ ⟨os, last, hol, hod, hl0, hl1, hv, rfl⟩
  have hel : (os.map u32).length = q + ds.length := by simp [hol]
  have hel2 : (os.map u32 ++ [u32 last]).length = q + ds.length + 1 := by simp [hol]
  have c := trim_p (digs_snoc hod (show isDig last from ⟨hl0, by unfold B; omega⟩)) (by simp [hol]; omega)
  have e : nd (os ++ [last]) = dgs ((vl ds).toNat * 2 ^ n) := by
    unfold nd
    congr 1
    rw [vl_snoc, hol, hv]
    have hv0 := vl_nonneg hd
    have : vl ds * P * pw q = (((vl ds).toNat * 2 ^ n : Nat) : Int) := by
      rw [Int.natCast_mul, Int.mul_assoc, ← hsp, Int.toNat_of_nonneg hv0]
      rw [Int.natCast_pow]
      rfl
    rw [this, Int.toNat_natCast]
  rw [e, List.map_append] at c
  refine T.seq ?_
  refine T.regionW 5 ?_
  show EvL _ _ _ (_ :: _) _ _
  refine runA ?_
  refine evG ggA (ss_conv (InB_of rfl) (int_tab rfl) (int_tab rfl) rfl (u32w hl0 (by omega))) ?_
  refine evG ggA (ss_bslice (InB_of rfl) (make_tab rfl) rfl rfl rfl rfl (one_ok rfl rfl) (Nat.le_of_ble_eq_true rfl)) ?_
  refine evG ggA (ss_append (InB_of rfl) (make_tab rfl) rfl rfl hel rfl u32_one (by decide) (by simp [maxLen]; omega) (by simp; omega) rfl (fun h => by cases h)) ?_
  refine ev_nil ?_
  refine ⟨mkS [(40, .v (.sl (os.map u32 ++ [u32 last])))] [] 42 false, by exact entA, ?_⟩
  show EvL _ _ _ (_ :: _) _ _
  refine evG ggA (ss_call (InB_of rfl) rfl rfl c) ?_
  refine goA ?_
  exact rfl
theorem bit_top {ds : List Int} (hd : ∀ d, d ∈ ds → isDig d) {m : Nat} (hm : ds.length = m + 1) (h0 : ds.getD m 0 ≠ 0) : bit' (vl ds).toNat = 32 * m + bit' (ds.getD m 0).toNat := by
  obtain ⟨h1, h2⟩ := gd_b hd m
  obtain ⟨t, ht⟩ : ∃ t : Nat, ds.getD m 0 = t := ⟨(ds.getD m 0).toNat, by omega⟩
  rw [ht] at h0 h2 ⊢
  obtain ⟨b, k1, k2, k3⟩ := bit_spec (z := t) (by omega)
  rw [Int.toNat_natCast, k1]
  have hv : vl ds = val (fun i => ds.getD i 0) m + t * pw m := by rw [vl_def, hm, val_succ, ← ht]
  have hD : Digs (fun i => ds.getD i 0) m := fun i _ => gd_dig hd i
  have v0 := val_nonneg hD
  have v1 := val_lt hD
  have p0 := pw_pos m
  have e1 : ((2 ^ (32 * m + b) : Nat) : Int) = 2 ^ b * pw m := by rw [pw_two, Int.natCast_pow, ← Int.pow_add, Nat.add_comm b]; rfl
  have e2 : ((2 ^ (32 * m + b + 1) : Nat) : Int) = 2 ^ (b + 1) * pw m := by rw [pw_two, Int.natCast_pow, ← Int.pow_add]; congr 1; omega
  have k2' : (2 : Int) ^ b ≤ t := by have : ((2 ^ b : Nat) : Int) ≤ t := by omega
                                     rw [Int.natCast_pow] at this; exact this
  have k3' : (t : Int) + 1 ≤ 2 ^ (b + 1) := by have : (t : Int) + 1 ≤ ((2 ^ (b + 1) : Nat) : Int) := by omega
                                               rw [Int.natCast_pow] at this; exact this
  have f1 := Int.mul_le_mul_of_nonneg_right k2' (show 0 ≤ pw m by omega)
  have f2 := Int.mul_le_mul_of_nonneg_right k3' (show 0 ≤ pw m by omega)
  rw [Int.add_mul, Int.one_mul] at f2
  rw [← Nat.add_assoc]
  exact bit_eq (by omega) (by omega)
theorem bit_le (z : Nat) : bit' z ≤ z := by
  by_cases h : z = 0
  · subst h; exact Nat.le_refl _
  · obtain ⟨b, h1, h2, -⟩ := bit_spec h
    have := @Nat.lt_two_pow_self b
    omega
set_option maxHeartbeats 1000000 in
theorem bits_p {a : AV} {k : Nat} {z : Int} (h : IsI a k z) (hk : k ≤ 17592186044416) : PW Tryz.prog 142 [a] (.p (.int .i64 (bit' z.natAbs))) := by
  obtain ⟨cs, rfl, g, ds, rfl, hd, hl, rfl⟩ := h
  have hz : (zof g (vl ds)).natAbs = (vl ds).toNat := by
    have := vl_nonneg hd
    unfold zof; split <;> omega
  rw [hz]
  have c := trim_p hd (by omega)
  have hll := nd_len hd
  have hnd : ∀ d, d ∈ nd ds → isDig d := fun d h => dgs_dig d h
  have hlast : Canon (fun i => (nd ds).getD i 0) (nd ds).length := canon_of (dgs_last _)
  have hvv : vl (nd ds) = ((vl ds).toNat : Int) := dgs_vl _
  have hbe : (vl (nd ds)).toNat = (vl ds).toNat := by omega
  rw [← hbe]
  generalize nd ds = es at *
  by_cases h0 : es.length = 0
  · have hb : (((es.map u32).length : Int) == 0) = true := by simp; exact List.eq_nil_of_length_eq_zero h0
    obtain rfl : es = [] := List.eq_nil_of_length_eq_zero h0
    refine pc_body1 false Tryz.func142 rfl rfl rfl (Nat.le_of_ble_eq_true rfl) CellT.tmp ?_
    refine goA ?_
    refine evG ggA (ss_call (InB_of rfl) rfl rfl c) ?_
    refine goA ?_
    exact rfl
  · have hb : (((es.map u32).length : Int) == 0) = false := by simp; intro e; subst e; exact h0 rfl
    obtain ⟨m, hm⟩ : ∃ m, es.length = m + 1 := ⟨es.length - 1, by omega⟩
    have hlt : m < es.length := by omega
    have gx : es.getD m 0 = es[m] := by simp [hlt]
    have htop : es.getD m 0 ≠ 0 := by
      rcases hlast with h1 | h1
      · omega
      · rw [hm] at h1; exact h1
    rw [bit_top hnd hm htop]
    have hx := gd_b hnd m
    obtain ⟨t, ht⟩ : ∃ t : Nat, es.getD m 0 = t := ⟨(es.getD m 0).toNat, by omega⟩
    have hg : (es.map u32)[(((es.map u32).length : Int) - 1).toNat]? = some (.p (.int .u32 t)) := u32_at (by rw [show (((es.map u32).length : Int) - 1).toNat = m by simp [hm], List.getElem?_eq_getElem hlt, ← gx, ht])
    rw [ht, Int.toNat_natCast]
    have htb : t < 4294967296 := by omega
    have hbt := bit_le t
    refine pc_body1 false Tryz.func142 rfl rfl rfl (Nat.le_of_ble_eq_true rfl) CellT.tmp ?_
    refine r1A ?_
    refine T.seq ?_
    refine regA ?_
    refine runA ?_
    refine evG ggA (ss_call (InB_of rfl) rfl rfl c) ?_
    refine runA ?_
    refine ev_nil ?_
    refine seqQ_n ?_
    refine T.seqI (fun s1 => s1 = mkS [(3, .v (.sl (es.map u32)))] [] 29 false) ?_ ?_
    · refine goA ?_
      exact midQ_intro (by exact entA) rfl
    rintro _ rfl
    have hmb : m ≤ 17592186044416 := by omega
    have hlm : ((es.map u32).length : Int) = m + 1 := by simp [hm]
    rw [hlm] at hg
    refine T.seqI (fun s1 => s1 = mkS [(3, .v (.sl (es.map u32))), (4, .v (.p (.int .i64 (32 * m : Nat))))] [] 29 false) ?_ ?_
    · have hmul : (32 : Int) * (((es.map u32).length : Int) - 1) = ((32 * m : Nat) : Int) := by omega
      refine goA ?_
      exact midQ_intro (s' := mkS [(3, .v (.sl (es.map u32))), (4, .v (.p (.int .i64 (32 * (((es.map u32).length : Int) - 1)))))] [] 29 false) (by exact entA) (by rw [hmul])
    rintro _ rfl
    refine T.seqI (fun s1 => s1 = mkS [(4, .v (.p (.int .i64 ((32 * m + bit' t : Nat) : Int))))] [] 29 false) ?_ ?_
    · refine T.seq ?_
      refine regA ?_
      refine runA ?_
      refine evG ggA (ss_index_sl (InB_of rfl) (elem_tab rfl) rfl rfl (by omega) (by rw [hlm]; exact hg) rfl) ?_
      refine runA ?_
      refine ev_nil ?_
      refine seqQ_n ?_
      refine T.block ?_
      refine T.loop (fun k s1 => ∃ (x j : Nat), k = x ∧ x < 4294967296 ∧ j + bit' x = 32 * m + bit' t ∧ s1 = mkS [(4, .v (.p (.int .i64 (j : Nat)))), (5, .v (.p (.int .u32 (x : Nat))))] [] 29 false) t
        (s' := mkS [(4, .v (.p (.int .i64 (32 * m : Nat)))), (5, .v (.p (.int .u32 t)))] [] 29 false) (by exact entA) ⟨t, 32 * m, rfl, htb, rfl, rfl⟩ ?_
      rintro x _ ⟨_, j, rfl, hxb, hj, rfl⟩
      by_cases hx0 : x = 0
      · subst hx0
        have hb : decide (((0 : Nat) : Int) > 0) = false := by decide
        rw [bit_zero, Nat.add_zero] at hj
        subst hj
        refine goA ?_
        exact midQ_intro (s' := mkS [(4, .v (.p (.int .i64 ((32 * m + bit' t : Nat) : Int))))] [] 29 false) (by exact entA) rfl
      · have hb : decide ((x : Int) > 0) = true := by simp; omega
        have hdv : IntKind.u32.wrap ((x : Int).tdiv 2) = ((x / 2 : Nat) : Int) := by rw [Int.tdiv_eq_ediv_of_nonneg (by omega), u32w (by omega) (by omega)]; omega
        rw [bit_step hx0] at hj
        refine goA ?_
        refine evG ggA (ss_div (InB_of rfl) rfl rfl (by decide) hdv) ?_
        refine goA ?_
        refine loopQ_intro (k := x / 2) (s' := mkS [(4, .v (.p (.int .i64 ((j : Int) + 1)))), (5, .v (.p (.int .u32 ((x / 2 : Nat) : Int))))] [] 29 false) (by omega) (by exact entA) ⟨x / 2, j + 1, rfl, by omega, by omega, rfl⟩
    rintro _ rfl
    refine goA ?_
    exact rfl
end Ab
