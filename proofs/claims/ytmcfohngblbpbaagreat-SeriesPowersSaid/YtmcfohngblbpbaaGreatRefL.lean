/- Package ref01: Mul, in abstract values. -/
import Derived.Test.YtmcfohngblbpbaaGreatRefK
namespace Ab
open Go Go.RowKit Go.Proofs Hp
set_option maxRecDepth 100000

theorem vl_put {os : List Int} {i : Nat} (h : i < os.length) (e : Int) : vl (os.set i e) = vl os + (e - os.getD i 0) * pw i := by
  have := vl_set h (e - os.getD i 0)
  rw [show os.getD i 0 + (e - os.getD i 0) = e by omega] at this
  exact this
/-- what the inner rounds keep -/
structure MulI (xs ys : List Int) (n m i k : Nat) (os : List Int) (c : Int) : Prop where
  len : os.length = n + m
  dig : ∀ d, d ∈ os → isDig d
  c0 : 0 ≤ c
  c1 : c < 4294967296
  v : vl os + c * pw (i + k) = val (fun j => xs.getD j 0) i * vl ys + xs.getD i 0 * pw i * val (fun j => ys.getD j 0) k
  z : ∀ j, i + m ≤ j → os.getD j 0 = 0
theorem sq_b {a b : Int} (ha : 0 ≤ a ∧ a < 4294967296) (hb : 0 ≤ b ∧ b < 4294967296) : 0 ≤ a * b ∧ a * b ≤ 18446744065119617025 := by
  have h1 : 0 ≤ a * b := Int.mul_nonneg ha.1 hb.1
  have h2 : a * b ≤ 4294967295 * b := Int.mul_le_mul_of_nonneg_right (by omega) hb.1
  omega
theorem MulI.s_b {xs ys : List Int} {n m i k : Nat} {os : List Int} {c : Int} (h : MulI xs ys n m i k os c) (hx : ∀ d, d ∈ xs → isDig d) (hy : ∀ d, d ∈ ys → isDig d) : 0 ≤ xs.getD i 0 * ys.getD k 0 ∧ xs.getD i 0 * ys.getD k 0 ≤ 18446744065119617025 ∧ 0 ≤ os.getD (i + k) 0 ∧ os.getD (i + k) 0 < 4294967296 := by
  have h1 := sq_b (gd_b hx i) (gd_b hy k)
  have h2 := gd_b h.dig (i + k)
  exact ⟨h1.1, h1.2, h2.1, h2.2⟩
theorem MulI.step {xs ys : List Int} {n m i k : Nat} {os : List Int} {c : Int} (h : MulI xs ys n m i k os c) (hx : ∀ d, d ∈ xs → isDig d) (hy : ∀ d, d ∈ ys → isDig d) (hi : i < n) (hk : k < m) {s : Int} (hs : s = xs.getD i 0 * ys.getD k 0 + os.getD (i + k) 0 + c) : MulI xs ys n m i (k + 1) (os.set (i + k) (s % 4294967296)) (s / 4294967296) := by
  obtain ⟨b1, b2, b3, b4⟩ := h.s_b hx hy
  have c0 := h.c0
  have c1 := h.c1
  have hlt : i + k < os.length := by rw [h.len]; omega
  refine ⟨by rw [List.length_set]; exact h.len, set_dig h.dig (mod_dig s), by omega, by omega, ?_, fun j hj => ?_⟩
  · rw [vl_put hlt, ← Nat.add_assoc, pw_succ, val_succ]
    have hv := h.v
    have e1 : s % 4294967296 * pw (i + k) + s / 4294967296 * (pw (i + k) * 4294967296) = s * pw (i + k) := by
      have := Int.mul_ediv_add_emod s 4294967296
      rw [Int.mul_comm (pw (i + k)), ← Int.mul_assoc, ← Int.add_mul]
      congr 1
      omega
    have e2 : s * pw (i + k) = xs.getD i 0 * ys.getD k 0 * pw (i + k) + os.getD (i + k) 0 * pw (i + k) + c * pw (i + k) := by rw [hs, Int.add_mul, Int.add_mul]
    have e3 : xs.getD i 0 * ys.getD k 0 * pw (i + k) = xs.getD i 0 * pw i * (ys.getD k 0 * pw k) := by
      rw [pw_add]
      simp only [Int.mul_assoc, Int.mul_comm, Int.mul_left_comm]
    rw [Int.sub_mul, Int.mul_add]
    omega
  · rw [getD_set_ne' (by omega)]; exact h.z j hj
theorem MulI.out {xs ys : List Int} {n m i : Nat} {os : List Int} {c : Int} (h : MulI xs ys n m i m os c) (hm : ys.length = m) (hi : i < n) : MulI xs ys n m (i + 1) 0 (os.set (i + m) c) 0 := by
  have hlt : i + m < os.length := by rw [h.len]; omega
  refine ⟨by rw [List.length_set]; exact h.len, set_dig h.dig ⟨h.c0, by unfold B; exact h.c1⟩, Int.le_refl _, by decide, ?_, fun j hj => ?_⟩
  · rw [vl_put hlt, h.z (i + m) (Nat.le_refl _), Int.sub_zero, h.v, val_succ]
    have : val (fun j => ys.getD j 0) m = vl ys := by rw [vl_def, hm]
    rw [this, show val (fun j => ys.getD j 0) 0 = 0 from rfl, Int.add_mul]
    simp
  · rw [getD_set_ne' (by omega)]; exact h.z j (by omega)
theorem zof_mul (g g' : Bool) (x y : Int) : zof (g != g') (x * y) = zof g x * zof g' y := by
  cases g <;> cases g' <;> simp [zof, Int.neg_mul, Int.mul_neg]
set_option maxHeartbeats 4000000 in
theorem refmul_p {a b : AV} {k l : Nat} {p q : Int} (ha : IsI a k p) (hb : IsI b l q) (hk : k ≤ 1099511627776) (hl : l ≤ 1099511627776) : PW Tryz.prog 91 [a, b] (encI (p * q)) := by
  obtain ⟨cs, rfl, g, ds, rfl, hd, hdl, rfl⟩ := ha
  obtain ⟨cs, rfl, g', ds', rfl, hd', hdl', rfl⟩ := hb
  have c1 := trim_p hd (by omega)
  have c2 := trim_p hd' (by omega)
  have l1 := nd_len hd
  have l2 := nd_len hd'
  have v1 : vl (nd ds) = vl ds := by unfold nd; rw [dgs_vl]; have := vl_nonneg hd; omega
  have v2 : vl (nd ds') = vl ds' := by unfold nd; rw [dgs_vl]; have := vl_nonneg hd'; omega
  have hx : ∀ d, d ∈ nd ds → isDig d := fun d h => dgs_dig d h
  have hy : ∀ d, d ∈ nd ds' → isDig d := fun d h => dgs_dig d h
  rw [← v1, ← v2, ← zof_mul]
  generalize nd ds = xs at *
  generalize nd ds' = ys at *
  obtain ⟨n, hn⟩ : ∃ n, n = xs.length := ⟨_, rfl⟩
  obtain ⟨m, hm⟩ : ∃ m, m = ys.length := ⟨_, rfl⟩
  have elx : ((xs.map u32).length : Int) = n := by simp [hn]
  have ely : ((ys.map u32).length : Int) = m := by simp [hm]
  have hnb : n ≤ 1099511627776 := by omega
  have hmb : m ≤ 1099511627776 := by omega
  refine pc_body1 false Tryz.func91 rfl rfl rfl (Nat.le_of_ble_eq_true rfl) (CellT.agg agg_int) ?_
  refine goA ?_
  refine evG ggA (ss_call (InB_of rfl) rfl rfl c1) ?_
  refine goA ?_
  refine evG ggA (ss_call (InB_of rfl) rfl rfl c2) ?_
  refine goA ?_
  refine evG ggA (ss_make 30 (bytes := 4) (e0 := u32 0) (InB_of rfl) (make_tab rfl) rfl rfl rfl (by omega) (by omega) (by omega) (by omega) rfl rfl rfl) ?_
  refine runA ?_
  refine ev_nil ?_
  refine seqQ_n ?_
  have e0 : (((xs.map u32).length : Int) + ((ys.map u32).length : Int)).toNat = n + m := by omega
  rw [e0]
  have hz : ∀ i, (List.replicate (n + m) (0 : Int)).getD i 0 = 0 := fun i => by
    rw [List.getD_eq_getElem?_getD]
    cases h : (List.replicate (n + m) (0 : Int))[i]? with
    | none => rfl
    | some d => exact List.eq_of_mem_replicate (List.mem_of_getElem? h)
  have hM0 : MulI xs ys n m 0 0 (List.replicate (n + m) 0) 0 := ⟨by simp, digs_rep, Int.le_refl _, by decide, by rw [vl_rep]; simp [val], fun j _ => hz j⟩
  refine T.seqI (fun s1 => ∃ os : List Int, MulI xs ys n m n 0 os 0 ∧ s1 = mkS [(2, .ptr 2 0), (3, .ptr 3 0), (4, .ptr 4 0), (7, .own 30 (n + m))] [(2, .var [.v (.p (.bool g)), .v (.sl (ds.map u32))]), (3, .var [.v (.p (.bool g')), .v (.sl (ds'.map u32))]), (4, varI), (30, .lst 1 49 (os.map u32))] 81 false) ?_ ?_
  · refine r1A ?_
    refine T.block ?_
    refine T.loop (fun z s1 => ∃ (i : Nat) (os : List Int), z = n - i ∧ i ≤ n ∧ MulI xs ys n m i 0 os 0 ∧ s1 = mkS [(2, .ptr 2 0), (3, .ptr 3 0), (4, .ptr 4 0), (5, .v (.sl (xs.map u32))), (6, .v (.sl (ys.map u32))), (7, .own 30 (n + m)), (8, .v (.p (.int .i64 (i : Nat))))] [(2, .var [.v (.p (.bool g)), .v (.sl (ds.map u32))]), (3, .var [.v (.p (.bool g')), .v (.sl (ds'.map u32))]), (4, varI), (30, .lst 1 49 (os.map u32))] 81 false) n
      (s' := mkS [(2, .ptr 2 0), (3, .ptr 3 0), (4, .ptr 4 0), (5, .v (.sl (xs.map u32))), (6, .v (.sl (ys.map u32))), (7, .own 30 (n + m)), (8, .v (.p (.int .i64 (0 : Nat))))] [(2, .var [.v (.p (.bool g)), .v (.sl (ds.map u32))]), (3, .var [.v (.p (.bool g')), .v (.sl (ds'.map u32))]), (4, varI), (30, .lst 1 49 (List.replicate (n + m) (u32 0)))] 81 false) (by exact entA) ⟨0, List.replicate (n + m) 0, rfl, Nat.zero_le _, hM0, by rw [List.map_replicate]⟩ ?_
    clear c1 c2 hM0 hz e0
    rintro _ _ ⟨i, os, rfl, hi, hM, rfl⟩
    by_cases hlt : i < n
    · have hA : decide ((i : Int) < ((xs.map u32).length : Int)) = true := by simp; omega
      have hgx := u32_get (ds := xs) (j := i) (by omega)
      have gx : xs.getD i 0 = xs[i] := by simp [← hn, hlt]
      refine T.seqI (fun s1 => s1 = mkS [(2, .ptr 2 0), (3, .ptr 3 0), (4, .ptr 4 0), (5, .v (.sl (xs.map u32))), (6, .v (.sl (ys.map u32))), (7, .own 30 (n + m)), (8, .v (.p (.int .i64 (i : Nat))))] [(2, .var [.v (.p (.bool g)), .v (.sl (ds.map u32))]), (3, .var [.v (.p (.bool g')), .v (.sl (ds'.map u32))]), (4, varI), (30, .lst 1 49 (os.map u32))] 81 false) ?_ ?_
      · refine goA ?_
        exact midQ_intro (by exact entA) rfl
      rintro _ rfl
      refine T.seq ?_
      refine T.block ?_
      refine r1A ?_
      refine T.seqI (fun s1 => ∃ (os : List Int) (c : Int), MulI xs ys n m i m os c ∧ s1 = mkS [(2, .ptr 2 0), (3, .ptr 3 0), (4, .ptr 4 0), (5, .v (.sl (xs.map u32))), (6, .v (.sl (ys.map u32))), (7, .own 30 (n + m)), (8, .v (.p (.int .i64 (i : Nat)))), (9, .v (.p (.int .u64 c)))] [(2, .var [.v (.p (.bool g)), .v (.sl (ds.map u32))]), (3, .var [.v (.p (.bool g')), .v (.sl (ds'.map u32))]), (4, varI), (30, .lst 1 49 (os.map u32))] 81 false) ?_ ?_
      · refine r1A ?_
        refine T.block ?_
        refine T.loop (fun z s1 => ∃ (k : Nat) (os : List Int) (c : Int), z = m - k ∧ k ≤ m ∧ MulI xs ys n m i k os c ∧ s1 = mkS [(2, .ptr 2 0), (3, .ptr 3 0), (4, .ptr 4 0), (5, .v (.sl (xs.map u32))), (6, .v (.sl (ys.map u32))), (7, .own 30 (n + m)), (8, .v (.p (.int .i64 (i : Nat)))), (9, .v (.p (.int .u64 c))), (10, .v (.p (.int .i64 (k : Nat))))] [(2, .var [.v (.p (.bool g)), .v (.sl (ds.map u32))]), (3, .var [.v (.p (.bool g')), .v (.sl (ds'.map u32))]), (4, varI), (30, .lst 1 49 (os.map u32))] 81 false) m
          (s' := mkS [(2, .ptr 2 0), (3, .ptr 3 0), (4, .ptr 4 0), (5, .v (.sl (xs.map u32))), (6, .v (.sl (ys.map u32))), (7, .own 30 (n + m)), (8, .v (.p (.int .i64 (i : Nat)))), (9, .v (.p (.int .u64 0))), (10, .v (.p (.int .i64 (0 : Nat))))] [(2, .var [.v (.p (.bool g)), .v (.sl (ds.map u32))]), (3, .var [.v (.p (.bool g')), .v (.sl (ds'.map u32))]), (4, varI), (30, .lst 1 49 (os.map u32))] 81 false) (by exact entA) ⟨0, os, 0, rfl, Nat.zero_le _, hM, rfl⟩ ?_
        clear hM
        rintro _ _ ⟨k, os, c, rfl, hk, hM, rfl⟩
        by_cases hlt2 : k < m
        · have hB : decide ((k : Int) < ((ys.map u32).length : Int)) = true := by simp; omega
          have hgy := u32_get (ds := ys) (j := k) (by omega)
          have gy : ys.getD k 0 = ys[k] := by simp [← hm, hlt2]
          have hio : i + k < os.length := by rw [hM.len]; omega
          have hgo : (os.map u32)[(((i : Int) + (k : Int))).toNat]? = some (.p (.int .u32 os[i + k])) := u32_at (by rw [show (((i : Int) + (k : Int))).toNat = i + k by omega]; exact List.getElem?_eq_getElem hio)
          have go' : os.getD (i + k) 0 = os[i + k] := by simp [hio]
          obtain ⟨b1, b2, b3, b4⟩ := hM.s_b hx hy
          have hc0 := hM.c0
          have hc1 := hM.c1
          obtain ⟨s, hs⟩ : ∃ s, s = xs.getD i 0 * ys.getD k 0 + os.getD (i + k) 0 + c := ⟨_, rfl⟩
          have hst := hM.step hx hy hlt hlt2 hs
          have hxb := gd_b hx i
          have hyb := gd_b hy k
          rw [gx, gy, go'] at hs
          rw [gx, gy] at b1 b2
          rw [go'] at b3 b4
          rw [gx] at hxb
          rw [gy] at hyb
          have hel : (os.map u32).length = n + m := by rw [List.length_map]; exact hM.len
          have m1 : IntKind.u64.wrap (xs[i] * ys[k]) = xs[i] * ys[k] := u64w b1 (by omega)
          have m2 : IntKind.u64.wrap (xs[i] * ys[k] + os[i + k]) = xs[i] * ys[k] + os[i + k] := u64w (by omega) (by omega)
          have m3 : IntKind.u64.wrap (xs[i] * ys[k] + os[i + k] + c) = s := by rw [hs]; exact u64w (by omega) (by omega)
          have m4 : IntKind.u32.wrap s = s % 4294967296 := u32m s
          have m5 : s.fdiv (2 ^ (min (32 : Int).toNat IntKind.u64.bits)) = s / 4294967296 := shr32 (by omega)
          clear hM
          refine goA ?_
          refine evG ggA (ss_index_sl (InB_of rfl) (elem_tab rfl) rfl rfl (by omega) hgx rfl) ?_
          refine goA ?_
          refine evG ggA (ss_conv (InB_of rfl) (int_tab rfl) (int_tab rfl) rfl (u64w hxb.1 (by omega))) ?_
          refine goA ?_
          refine evG ggA (ss_index_sl (InB_of rfl) (elem_tab rfl) rfl rfl (by omega) hgy rfl) ?_
          refine goA ?_
          refine evG ggA (ss_conv (InB_of rfl) (int_tab rfl) (int_tab rfl) rfl (u64w hyb.1 (by omega))) ?_
          refine evG ggA (ss_arith (InB_of rfl) rfl rfl m1) ?_
          refine goA ?_
          refine evG ggA (ss_index_own (InB_of rfl) (elem_tab rfl) rfl rfl hel rfl (by omega) (by omega)) ?_
          refine evG ggA (ss_load_op1 (InB_of rfl) (one_tab rfl) rfl rfl hel hgo rfl) ?_
          refine evG ggA (ss_conv (InB_of rfl) (int_tab rfl) (int_tab rfl) rfl (u64w b3 (by omega))) ?_
          refine evG ggA (ss_arith (InB_of rfl) rfl rfl m2) ?_
          refine goA ?_
          refine evG ggA (ss_arith (InB_of rfl) rfl rfl m3) ?_
          refine goA ?_
          refine evG ggA (ss_conv (InB_of rfl) (int_tab rfl) (int_tab rfl) rfl m4) ?_
          refine evG ggA (ss_index_own (InB_of rfl) (elem_tab rfl) rfl rfl hel rfl (by omega) (by omega)) ?_
          refine evG ggA (ss_store_own rfl (size_tab rfl) rfl rfl hel (by omega) rfl rfl (fun l e => by cases e) rfl) ?_
          refine goA ?_
          refine evG ggA (ss_shr (InB_of rfl) rfl rfl (by decide) m5) ?_
          refine goA ?_
          refine loopQ_intro (k := m - (k + 1)) (s' := mkS [(2, .ptr 2 0), (3, .ptr 3 0), (4, .ptr 4 0), (5, .v (.sl (xs.map u32))), (6, .v (.sl (ys.map u32))), (7, .own 30 (n + m)), (8, .v (.p (.int .i64 (i : Nat)))), (9, .v (.p (.int .u64 (s / 4294967296)))), (10, .v (.p (.int .i64 ((k : Int) + 1))))] [(2, .var [.v (.p (.bool g)), .v (.sl (ds.map u32))]), (3, .var [.v (.p (.bool g')), .v (.sl (ds'.map u32))]), (4, varI), (30, .lst 1 49 ((os.map u32).set (((i : Int) + (k : Int))).toNat (.p (.int .u32 (s % 4294967296)))))] 81 false) (by omega) (by exact entA) ⟨k + 1, _, _, rfl, hlt2, hst, by rw [show (((i : Int) + (k : Int))).toNat = i + k by omega, List.map_set]; rfl⟩
        · obtain rfl : k = m := by omega
          have hB : decide ((k : Int) < ((ys.map u32).length : Int)) = false := by simp; omega
          refine goA ?_
          exact midQ_intro (s' := mkS [(2, .ptr 2 0), (3, .ptr 3 0), (4, .ptr 4 0), (5, .v (.sl (xs.map u32))), (6, .v (.sl (ys.map u32))), (7, .own 30 (n + k)), (8, .v (.p (.int .i64 (i : Nat)))), (9, .v (.p (.int .u64 c)))] [(2, .var [.v (.p (.bool g)), .v (.sl (ds.map u32))]), (3, .var [.v (.p (.bool g')), .v (.sl (ds'.map u32))]), (4, varI), (30, .lst 1 49 (os.map u32))] 81 false) (by exact entA) ⟨os, c, hM, rfl⟩
      rintro _ ⟨os, c, hM, rfl⟩
      have hout := hM.out hm.symm hlt
      have hel : (os.map u32).length = n + m := by rw [List.length_map]; exact hM.len
      have m4 : IntKind.u32.wrap c = c := u32w hM.c0 hM.c1
      clear hM
      refine goA ?_
      refine evG ggA (ss_conv (InB_of rfl) (int_tab rfl) (int_tab rfl) rfl m4) ?_
      refine evG ggA (ss_index_own (InB_of rfl) (elem_tab rfl) rfl rfl hel rfl (by omega) (by omega)) ?_
      refine evG ggA (ss_store_own rfl (size_tab rfl) rfl rfl hel (by omega) rfl rfl (fun l e => by cases e) rfl) ?_
      refine goA ?_
      refine loopQ_intro (k := n - (i + 1)) (s' := mkS [(2, .ptr 2 0), (3, .ptr 3 0), (4, .ptr 4 0), (5, .v (.sl (xs.map u32))), (6, .v (.sl (ys.map u32))), (7, .own 30 (n + m)), (8, .v (.p (.int .i64 ((i : Int) + 1))))] [(2, .var [.v (.p (.bool g)), .v (.sl (ds.map u32))]), (3, .var [.v (.p (.bool g')), .v (.sl (ds'.map u32))]), (4, varI), (30, .lst 1 49 ((os.map u32).set (((i : Int) + ((ys.map u32).length : Int))).toNat (.p (.int .u32 c))))] 81 false) (by omega) (by exact entA) ⟨i + 1, _, rfl, hlt, hout, by rw [show (((i : Int) + ((ys.map u32).length : Int))).toNat = i + m by omega, List.map_set]; rfl⟩
    · obtain rfl : i = n := by omega
      have hA : decide ((i : Int) < ((xs.map u32).length : Int)) = false := by simp; omega
      refine goA ?_
      exact midQ_intro (s' := mkS [(2, .ptr 2 0), (3, .ptr 3 0), (4, .ptr 4 0), (7, .own 30 (i + m))] [(2, .var [.v (.p (.bool g)), .v (.sl (ds.map u32))]), (3, .var [.v (.p (.bool g')), .v (.sl (ds'.map u32))]), (4, varI), (30, .lst 1 49 (os.map u32))] 81 false) (by exact entA) ⟨os, hM, rfl⟩
  rintro _ ⟨os, hM, rfl⟩
  have hv := hM.v
  rw [show val (fun j => xs.getD j 0) n = vl xs by rw [vl_def, ← hn], show val (fun j => ys.getD j 0) 0 = 0 from rfl, Int.mul_zero, Int.zero_mul, Int.add_zero, Int.add_zero] at hv
  have c3 := rsigned_p (g := g != g') hM.dig (Nat.le_refl _) (by rw [hM.len]; omega)
  rw [hv] at c3
  have hel : (os.map u32).length = n + m := by rw [List.length_map]; exact hM.len
  unfold encI at c3 ⊢
  refine T.weak (s' := mkS [(2, .ptr 2 0), (3, .ptr 3 0), (4, .ptr 4 0), (7, .v (.sl (os.map u32)))] [(2, .var [.v (.p (.bool g)), .v (.sl (ds.map u32))]), (3, .var [.v (.p (.bool g')), .v (.sl (ds'.map u32))]), (4, varI)] 81 false) (by exact entA) ?_
  clear c1 c2 hM hM0
  refine goA ?_
  refine evG ggA (ss_call (InB_of rfl) rfl rfl c3) ?_
  refine goA ?_
  exact rfl
end Ab
