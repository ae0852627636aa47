/- Small numbers as integers, fractions and series: what the statements build; in abstract values. -/
import Derived.Test.YtkbccidalhefaaaInv
set_option linter.all false
namespace Ab
open Go Go.RowKit Go.Proofs Hp
set_option maxRecDepth 100000

theorem dg_eq : ∀ n k, n ≤ k → dg k n = dgs n := by
  intro n
  induction n using Nat.strongRecOn with
  | _ n ih =>
    intro k hk
    by_cases h0 : n = 0
    · subst h0
      cases k <;> simp [dg, dgs]
    · obtain ⟨k', rfl⟩ : ∃ k', k = k' + 1 := ⟨k - 1, by omega⟩
      obtain ⟨n', rfl⟩ : ∃ n', n = n' + 1 := ⟨n - 1, by omega⟩
      have hlt : (n' + 1) / 4294967296 < n' + 1 := Nat.div_lt_self (by omega) (by omega)
      have e1 : dg (k' + 1) (n' + 1) = (((n' + 1) % 4294967296 : Nat) : Int) :: dg k' ((n' + 1) / 4294967296) := by simp [dg]
      have e2 : dgs (n' + 1) = (((n' + 1) % 4294967296 : Nat) : Int) :: dg n' ((n' + 1) / 4294967296) := by simp [dgs, dg]
      rw [e1, e2, ih _ hlt k' (by omega), ih _ hlt n' (by omega)]
theorem dgs_step {n : Nat} (h : n ≠ 0) : dgs n = ((n % 4294967296 : Nat) : Int) :: dgs (n / 4294967296) := by
  obtain ⟨n', rfl⟩ : ∃ n', n = n' + 1 := ⟨n - 1, by omega⟩
  have hlt : (n' + 1) / 4294967296 < n' + 1 := Nat.div_lt_self (by omega) (by omega)
  have e2 : dgs (n' + 1) = (((n' + 1) % 4294967296 : Nat) : Int) :: dg n' ((n' + 1) / 4294967296) := by simp [dgs, dg]
  rw [e2, dg_eq _ n' (by omega)]
theorem dgs_zero : dgs 0 = [] := rfl
theorem dgs_len {z k : Nat} (h : (z : Int) < pw k) : (dgs z).length ≤ k := by
  obtain ⟨g, ds, e, -, h2, -⟩ := isC_ci (z := (z : Int)) (k := k) (by simpa using h)
  simp only [ci, Int.natAbs_natCast, List.cons.injEq, and_true, AV.sl.injEq] at e
  have := congrArg List.length e.2
  simp only [List.length_map] at this
  omega
set_option maxHeartbeats 1000000 in
theorem z_p (x : Int) (h0 : -9223372036854775808 ≤ x) (h1 : x ≤ 9223372036854775807) : PC Try.prog 22 [.p (.int .i64 x)] (encI x) := by
  refine pc_body1 false Try.func22 rfl rfl rfl (Nat.le_of_ble_eq_true rfl) (CellT.agg (l := ci x) agg_int) ?_
  refine r1A ?_
  refine T.seq ?_
  refine regA ?_
  refine runA ?_
  refine evG ggA (ss_conv (InB_of rfl) (int_tab rfl) (int_tab rfl) rfl rfl) ?_
  refine runA ?_
  refine ev_nil ?_
  refine seqQ_n ?_
  refine T.seqI (fun s1 => s1 = mkS [(0, .v (.p (.int .i64 x))), (2, .ptr 2 0), (3, .v (.p (.int .u64 (x.natAbs : Int))))] [(2, .var [.v (.p (.bool false)), .v (.p nilV)])] 26 false) ?_ ?_
  · by_cases hx : x < 0
    · have hb : decide (x < 0) = true := by simp [hx]
      have hw : IntKind.u64.wrap (0 - IntKind.u64.wrap x) = (x.natAbs : Int) := by rw [IntKind.wrap_u64, IntKind.wrap_u64]; omega
      refine goA ?_
      refine evG ggA (ss_neg (InB_of rfl) rfl hw) ?_
      refine goA ?_
      exact midQ_intro (by exact entA) rfl
    · have hb : decide (x < 0) = false := by simp; omega
      have hw : IntKind.u64.wrap x = (x.natAbs : Int) := by rw [IntKind.wrap_u64]; omega
      rw [hw]
      refine goA ?_
      exact midQ_intro (by exact entA) rfl
  rintro _ rfl
  refine T.seq ?_
  refine regA ?_
  refine stpA ?_
  refine stpA ?_
  refine evG ggA (ss_build_raw (InB_of rfl) (build_tab rfl) rfl rfl rfl) ?_
  refine runA ?_
  refine ev_nil ?_
  refine seqQ_n ?_
  have hlen3 : (dgs x.natAbs).length ≤ 3 := dgs_len (by rw [show pw 3 = 79228162514264337593543950336 from by decide]; omega)
  refine T.seqI (fun s1 => s1 = mkS [(2, .ptr 2 0), (4, .ptr 4 0)] [(2, .var [.v (.p (.bool false)), .v (.p nilV)]), (4, .var [.v (.p (.bool (decide (x < 0)))), .v (.sl ((dgs x.natAbs).map u32))])] 26 false) ?_ ?_
  · refine T.block ?_
    refine T.loop (fun n s1 => ∃ (u : Nat) (es : List Int), n = u ∧ u < 18446744073709551616 ∧ es.length ≤ 18446744073709551616 - u ∧ dgs x.natAbs = es ++ dgs u ∧ s1 = mkS [(2, .ptr 2 0), (3, .v (.p (.int .u64 u))), (4, .ptr 4 0)] [(2, .var [.v (.p (.bool false)), .v (.p nilV)]), (4, .var [.v (.p (.bool (decide (x < 0)))), .own 100 es.length]), (100, .lst 1 65 (es.map u32))] 26 false) x.natAbs
      (s' := mkS [(2, .ptr 2 0), (3, .v (.p (.int .u64 (x.natAbs : Int)))), (4, .ptr 4 0)] [(2, .var [.v (.p (.bool false)), .v (.p nilV)]), (4, .var [.v (.p (.bool (decide (x < 0)))), .own 100 0]), (100, .lst 1 65 [])] 26 false) (by exact entA) ⟨x.natAbs, [], rfl, by omega, by simp, by simp, rfl⟩ ?_
    rintro u _ ⟨_, es, rfl, hu, hle, hes, rfl⟩
    by_cases h00 : u = 0
    · subst h00
      have hb : decide (((0 : Nat) : Int) > 0) = false := by decide
      rw [dgs_zero, List.append_nil] at hes
      have hel : (es.map u32).length = es.length := by simp
      refine goA ?_
      exact midQ_intro (s' := mkS [(2, .ptr 2 0), (4, .ptr 4 0)] [(2, .var [.v (.p (.bool false)), .v (.p nilV)]), (4, .var [.v (.p (.bool (decide (x < 0)))), .v (.sl (es.map u32))])] 26 false) (by exact entA) (by rw [hes])
    · have hb : decide ((u : Int) > 0) = true := by simp; omega
      have hw : IntKind.u32.wrap (u : Int) = ((u % 4294967296 : Nat) : Int) := by rw [IntKind.wrap_u32']; omega
      have hsh : (u : Int).fdiv (2 ^ (min (32 : Int).toNat IntKind.u64.bits)) = ((u / 4294967296 : Nat) : Int) := by
        rw [show ((2 : Int) ^ (min (32 : Int).toNat IntKind.u64.bits)) = 4294967296 from by decide, Int.fdiv_eq_ediv_of_nonneg _ (by decide)]
        omega
      have hdl : u / 4294967296 < u := Nat.div_lt_self (by omega) (by omega)
      have hel : (es.map u32).length = es.length := by simp
      refine T.seq ?_
      refine T.seq ?_
      refine regA ?_
      refine runA ?_
      refine ev_nil ?_
      refine seqQ_n ?_
      refine T.condT rfl hb ?_
      refine T.skip ?_
      refine seqQ_n ?_
      refine T.block ?_
      refine T.seq ?_
      refine regA ?_
      refine runA ?_
      refine evG ggA (ss_conv (InB_of rfl) (int_tab rfl) (int_tab rfl) rfl hw) ?_
      refine evG ggA (ss_bslice (InB_of rfl) (make_tab rfl) rfl rfl rfl rfl (one_ok rfl rfl) (Nat.le_of_ble_eq_true rfl)) ?_
      refine evG ggA (ss_append (InB_of rfl) (make_tab rfl) rfl rfl hel rfl (fun a ha => by rw [List.mem_singleton] at ha; subst ha; rfl) (by decide) ?_ ?_ rfl (fun h => by cases h)) ?_
      · simp [maxLen]; have := congrArg List.length hes; simp at this; omega
      · simp; have := congrArg List.length hes; simp at this; omega
      refine runA ?_
      refine ev_nil ?_
      refine seqQ_n ?_
      refine regA ?_
      refine runA ?_
      refine evG ggA (ss_shr (InB_of rfl) rfl rfl (by decide) hsh) ?_
      refine goA ?_
      refine loopQ_intro (k := u / 4294967296) (s' := mkS [(2, .ptr 2 0), (3, .v (.p (.int .u64 ((u / 4294967296 : Nat) : Int)))), (4, .ptr 4 0)] [(2, .var [.v (.p (.bool false)), .v (.p nilV)]), (4, .var [.v (.p (.bool (decide (x < 0)))), .own 100 (es.length + 1)]), (100, .lst 1 65 (es.map u32 ++ [u32 ((u % 4294967296 : Nat) : Int)]))] 26 false) hdl (by exact entA) ⟨u / 4294967296, es ++ [((u % 4294967296 : Nat) : Int)], rfl, by omega, by simp; omega, by rw [hes, dgs_step h00, List.append_assoc]; rfl, by simp⟩
  rintro _ rfl
  refine goA ?_
  exact rfl
theorem q_p (x : Int) (h0 : -9223372036854775808 ≤ x) (h1 : x ≤ 9223372036854775807) : PC Try.prog 9 [.p (.int .i64 x)] (encQ (x : Rat)) := by
  have c1 := z_p x h0 h1
  have c2 := z_p 1 (by decide) (by decide)
  have e : encQ (x : Rat) = .agg (ci x ++ ci 1) := by unfold encQ; rw [Rat.num_intCast, Rat.den_intCast]; rfl
  rw [e]
  refine pc_body1 true Try.func9 rfl rfl rfl (Nat.le_of_ble_eq_true rfl) (CellT.agg agg_rat) ?_
  refine goA ?_
  refine evG ggA (ss_call (InB_of rfl) rfl rfl c1) ?_
  refine evG ggA (ss_call (InB_of rfl) rfl rfl c2) ?_
  refine goA ?_
  exact rfl
end Ab
