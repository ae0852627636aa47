/- The product of series, in abstract values. The inverse of a series, in abstract values. The inverse of a series: the walk, in abstract values. Small numbers as integers, fractions and series: what the statements build; in abstract values. -/
import Derived.Test.YtkbccidalhefaaaGreatSerC
set_option linter.all false
namespace Ab
open Go Go.RowKit Go.Proofs Hp
set_option maxRecDepth 100000

/-- the first j summands of the coefficient k of a product -/
def cs (l m : List Rat) (k : Nat) : Nat → Rat
  | 0 => 0
  | j + 1 => cs l m k j + l.getD j 0 * m.getD (k - j) 0
def conv (l m : List Rat) (k : Nat) : Rat := cs l m k (k + 1)
def mlen (s : Int) (n m : Nat) : Nat := (max 0 (min (min (n : Int) m) (1000 - s))).toNat
def mulN (s : Int) (l : List Rat) (t : Int) (m : List Rat) : Option (Int × List Rat) := nrm (s + t) (tk (conv l m) (mlen (s + t) l.length m.length))
def mulR (s : Int) (l : List Rat) (t : Int) (m : List Rat) : Option (Int × List Rat) :=
  if ValidP s l.length && ValidP t m.length then mulN (s + lead l) (l.drop (lead l)) (t + lead m) (m.drop (lead m)) else none
theorem getD_ht {l : List Rat} {K : Nat} (hK : 1 ≤ K) (h : ∀ q, q ∈ l → Ht q K) (i : Nat) : Ht (l.getD i 0) K := by
  rw [List.getD_eq_getElem?_getD]
  cases hq : l[i]? with
  | none => exact ht0 hK
  | some q => exact h q (List.mem_of_getElem? hq)
theorem ht_cs {l m : List Rat} {K : Nat} (hK : 1 ≤ K) (hl : ∀ q, q ∈ l → Ht q K) (hm : ∀ q, q ∈ m → Ht q K) (k : Nat) : ∀ j, Ht (cs l m k j) ((2 * K + 1) * j + 1)
  | 0 => ht0 (Nat.le_refl _)
  | j + 1 => by
    refine (ht_add (ht_cs hK hl hm k j) (ht_mul (getD_ht hK hl j) (getD_ht hK hm (k - j)) hK)).mono ?_
    rw [Nat.mul_succ]; omega
theorem cs_zero {l m : List Rat} {k j : Nat} (h : l.getD j 0 = 0 ∨ m.getD (k - j) 0 = 0) : cs l m k (j + 1) = cs l m k j := by
  show cs l m k j + _ = _
  rcases h with h | h <;> rw [h] <;> simp [Rat.add_zero]
/-- a variable that holds a fraction -/
abbrev qvar (q : Rat) : Blk := .var [.v (.p (.bool (decide (q.num < 0)))), .v (.sl ((dgs q.num.natAbs).map u32)), .v (.p (.bool (decide ((q.den : Int) < 0)))), .v (.sl ((dgs (q.den : Int).natAbs).map u32))]
abbrev svar (s : Int) (l : List Rat) : Blk := .var [.v (.p (.int .i64 s)), .v (.sl (l.map encQ))]
theorem enc_at {l : List Rat} {i : Nat} {q : Rat} (h : l[i]? = some q) : (l.map encQ)[i]? = some (encQ q) := by rw [List.getElem?_map, h]; rfl
end Ab
namespace Ab
open Go Go.RowKit Go.Proofs Hp
set_option maxRecDepth 100000

/-- the sum of l[i] x[k-i] for i from 1 to j -/
def iss (l x : List Rat) (k : Nat) : Nat → Rat
  | 0 => 0
  | j + 1 => iss l x k j + l.getD (j + 1) 0 * x.getD (k - (j + 1)) 0
/-- the first n coefficients of the inverse -/
def ivs (l : List Rat) : Nat → List Rat
  | 0 => []
  | 1 => [1 / l.getD 0 0]
  | n + 2 => ivs l (n + 1) ++ [-(1 / l.getD 0 0 * iss l (ivs l (n + 1)) (n + 1) (n + 1))]
theorem ivs_len (l : List Rat) : ∀ n, (ivs l n).length = n
  | 0 => rfl
  | 1 => rfl
  | n + 2 => by rw [ivs, List.length_append, ivs_len l (n + 1)]; rfl
/-- a series with its error -/
abbrev Res := Int × List Rat × Int
def serT (r : Res) : AV := .tup [serA r.1 (r.2.1.map encQ), .p (.int .i64 r.2.2)]
def nrmT (x : Option (Int × List Rat)) : Res := (sF x, sL x, sE x)
theorem serE_T (x : Option (Int × List Rat)) : serE x = serT (nrmT x) := serE_eq x
def invT (s : Int) (l : List Rat) : Res :=
  if ValidP s l.length then (if l.drop (lead l) = [] then (0, [], 18) else nrmT (nrm (-(s + lead l)) (ivs (l.drop (lead l)) (l.drop (lead l)).length))) else (0, [], 2)
/-- bounds on the digits of the inverse's coefficients -/
def HB (K k : Nat) : Nat := 26 * (K + 2) * 2 ^ k
theorem HB_succ (K k : Nat) : HB K (k + 1) = 2 * HB K k := by unfold HB; rw [Nat.pow_succ]; simp only [Nat.mul_comm, Nat.mul_assoc, Nat.mul_left_comm]
theorem HB_mono (K : Nat) {i k : Nat} (h : i ≤ k) : HB K i ≤ HB K k := by
  induction h with
  | refl => exact Nat.le_refl _
  | step h ih => rw [HB_succ]; omega
theorem HB_le {K k : Nat} (hK : K ≤ 100) (hk : k ≤ 24) : HB K k ≤ 44493176832 := by
  have h1 := HB_mono K hk
  have h2 : HB K 24 = 26 * (K + 2) * 16777216 := rfl
  omega
theorem ht_iss {l x : List Rat} {K k : Nat} (hK : 1 ≤ K) (hl : ∀ q, q ∈ l → Ht q K) (hx : ∀ i, i < k → Ht (x.getD i 0) (HB K i)) : ∀ j, j ≤ k → Ht (iss l x k j) (HB K k - HB K (k - j) + j * (K + 1) + 1)
  | 0, _ => (ht0 (Nat.le_refl _)).mono (by omega)
  | j + 1, h => by
    have ih := ht_iss hK hl hx j (by omega)
    refine (ht_add ih (ht_mul (getD_ht hK hl (j + 1)) (hx (k - (j + 1)) (by omega)) hK)).mono ?_
    have e : HB K (k - j) = 2 * HB K (k - (j + 1)) := by rw [show k - j = (k - (j + 1)) + 1 by omega, HB_succ]
    have m := HB_mono K (show k - j ≤ k by omega)
    rw [Nat.add_mul]
    omega
theorem ivs_get (l : List Rat) : ∀ n i, i < n → (ivs l n).getD i 0 = (if i = 0 then 1 / l.getD 0 0 else -(1 / l.getD 0 0 * iss l (ivs l i) i i))
  | 0, i, h => by omega
  | 1, i, h => by obtain rfl : i = 0 := by omega
                  rfl
  | n + 2, i, h => by
    have hl := ivs_len l (n + 1)
    rw [ivs, List.getD_eq_getElem?_getD]
    by_cases hi : i < n + 1
    · rw [List.getElem?_append_left (by omega), ← List.getD_eq_getElem?_getD]
      exact ivs_get l (n + 1) i hi
    · obtain rfl : i = n + 1 := by omega
      rw [List.getElem?_append_right (by omega), hl, Nat.sub_self, if_neg (by omega)]
      rfl
theorem ht_iv {l : List Rat} {K : Nat} (hK : 1 ≤ K) (hl : ∀ q, q ∈ l → Ht q K) : ∀ n, n ≤ 24 → ∀ i, i < n → Ht ((ivs l n).getD i 0) (HB K i) := by
  intro n hn i
  induction i using Nat.strongRecOn generalizing n with
  | _ i ih =>
    intro hi
    have h1 : Ht (1 / l.getD 0 0) K := by
      rw [Rat.div_def, Rat.one_mul]
      exact ht_inv (getD_ht hK hl 0) hK
    rw [ivs_get l n i hi]
    split
    · refine h1.mono ?_
      have : HB K 0 = 26 * (K + 2) * 1 := rfl
      have := HB_mono K (Nat.zero_le i)
      omega
    · rename_i h0
      refine (ht_neg (ht_mul h1 (ht_iss hK hl (fun j hj => ih j hj i (by omega) hj) i (Nat.le_refl _)) hK)).mono ?_
      rw [Nat.sub_self]
      have e0 : HB K 0 = 26 * (K + 2) * 1 := rfl
      have m := HB_mono K (Nat.zero_le i)
      have : i * (K + 1) ≤ 24 * (K + 1) := Nat.mul_le_mul_right _ (by omega)
      omega
end Ab
namespace Ab
open Go Go.RowKit Go.Proofs Hp
set_option maxRecDepth 100000
end Ab
namespace Ab
open Go Go.RowKit Go.Proofs Hp
set_option maxRecDepth 100000

theorem dg_eq : ∀ n k, n ≤ k → dg k n = dgs n := by
  intro n
  induction n using Nat.strongRecOn with
  | _ n ih =>
    intro k hk
    by_cases h0 : n = 0
    · subst h0
      cases k <;> simp [dg, dgs]
    · obtain ⟨k', rfl⟩ : ∃ k', k = k' + 1 := ⟨k - 1, by omega⟩
      obtain ⟨n', rfl⟩ : ∃ n', n = n' + 1 := ⟨n - 1, by omega⟩
      have hlt : (n' + 1) / 4294967296 < n' + 1 := Nat.div_lt_self (by omega) (by omega)
      have e1 : dg (k' + 1) (n' + 1) = (((n' + 1) % 4294967296 : Nat) : Int) :: dg k' ((n' + 1) / 4294967296) := by simp [dg]
      have e2 : dgs (n' + 1) = (((n' + 1) % 4294967296 : Nat) : Int) :: dg n' ((n' + 1) / 4294967296) := by simp [dgs, dg]
      rw [e1, e2, ih _ hlt k' (by omega), ih _ hlt n' (by omega)]
theorem dgs_step {n : Nat} (h : n ≠ 0) : dgs n = ((n % 4294967296 : Nat) : Int) :: dgs (n / 4294967296) := by
  obtain ⟨n', rfl⟩ : ∃ n', n = n' + 1 := ⟨n - 1, by omega⟩
  have hlt : (n' + 1) / 4294967296 < n' + 1 := Nat.div_lt_self (by omega) (by omega)
  have e2 : dgs (n' + 1) = (((n' + 1) % 4294967296 : Nat) : Int) :: dg n' ((n' + 1) / 4294967296) := by simp [dgs, dg]
  rw [e2, dg_eq _ n' (by omega)]
theorem dgs_zero : dgs 0 = [] := rfl
theorem dgs_len {z k : Nat} (h : (z : Int) < pw k) : (dgs z).length ≤ k := by
  obtain ⟨g, ds, e, -, h2, -⟩ := isC_ci (z := (z : Int)) (k := k) (by simpa using h)
  simp only [ci, Int.natAbs_natCast, List.cons.injEq, and_true, AV.sl.injEq] at e
  have := congrArg List.length e.2
  simp only [List.length_map] at this
  omega
set_option maxHeartbeats 1000000 in
theorem z_p (x : Int) (h0 : -9223372036854775808 ≤ x) (h1 : x ≤ 9223372036854775807) : PC Tryz.prog 54 [.p (.int .i64 x)] (encI x) := by
  refine pc_body1 false Tryz.func54 rfl rfl rfl (Nat.le_of_ble_eq_true rfl) (CellT.agg (l := ci x) agg_int) ?_
  refine r1A ?_
  refine T.seq ?_
  refine regA ?_
  refine runA ?_
  refine evG ggA (ss_conv (InB_of rfl) (int_tab rfl) (int_tab rfl) rfl rfl) ?_
  refine runA ?_
  refine ev_nil ?_
  refine seqQ_n ?_
  refine T.seqI (fun s1 => s1 = mkS [(0, .v (.p (.int .i64 x))), (2, .ptr 2 0), (3, .v (.p (.int .u64 (x.natAbs : Int))))] [(2, .var [.v (.p (.bool false)), .v (.p nilV)])] 26 false) ?_ ?_
  · by_cases hx : x < 0
    · have hb : decide (x < 0) = true := by simp [hx]
      have hw : IntKind.u64.wrap (0 - IntKind.u64.wrap x) = (x.natAbs : Int) := by rw [IntKind.wrap_u64, IntKind.wrap_u64]; omega
      refine goA ?_
      refine evG ggA (ss_neg (InB_of rfl) rfl hw) ?_
      refine goA ?_
      exact midQ_intro (by exact entA) rfl
    · have hb : decide (x < 0) = false := by simp; omega
      have hw : IntKind.u64.wrap x = (x.natAbs : Int) := by rw [IntKind.wrap_u64]; omega
      rw [hw]
      refine goA ?_
      exact midQ_intro (by exact entA) rfl
  rintro _ rfl
  refine T.seq ?_
  refine regA ?_
  refine stpA ?_
  refine stpA ?_
  refine evG ggA (ss_build_raw (InB_of rfl) (build_tab rfl) rfl rfl rfl) ?_
  refine runA ?_
  refine ev_nil ?_
  refine seqQ_n ?_
  have hlen3 : (dgs x.natAbs).length ≤ 3 := dgs_len (by rw [show pw 3 = 79228162514264337593543950336 from by decide]; omega)
  refine T.seqI (fun s1 => s1 = mkS [(2, .ptr 2 0), (4, .ptr 4 0)] [(2, .var [.v (.p (.bool false)), .v (.p nilV)]), (4, .var [.v (.p (.bool (decide (x < 0)))), .v (.sl ((dgs x.natAbs).map u32))])] 26 false) ?_ ?_
  · refine T.block ?_
    refine T.loop (fun n s1 => ∃ (u : Nat) (es : List Int), n = u ∧ u < 18446744073709551616 ∧ es.length ≤ 18446744073709551616 - u ∧ dgs x.natAbs = es ++ dgs u ∧ s1 = mkS [(2, .ptr 2 0), (3, .v (.p (.int .u64 u))), (4, .ptr 4 0)] [(2, .var [.v (.p (.bool false)), .v (.p nilV)]), (4, .var [.v (.p (.bool (decide (x < 0)))), .own 100 es.length]), (100, .lst 1 82 (es.map u32))] 26 false) x.natAbs
      (s' := mkS [(2, .ptr 2 0), (3, .v (.p (.int .u64 (x.natAbs : Int)))), (4, .ptr 4 0)] [(2, .var [.v (.p (.bool false)), .v (.p nilV)]), (4, .var [.v (.p (.bool (decide (x < 0)))), .own 100 0]), (100, .lst 1 82 [])] 26 false) (by exact entA) ⟨x.natAbs, [], rfl, by omega, by simp, by simp, rfl⟩ ?_
    rintro u _ ⟨_, es, rfl, hu, hle, hes, rfl⟩
    by_cases h00 : u = 0
    · subst h00
      have hb : decide (((0 : Nat) : Int) > 0) = false := by decide
      rw [dgs_zero, List.append_nil] at hes
      have hel : (es.map u32).length = es.length := by simp
      refine goA ?_
      exact midQ_intro (s' := mkS [(2, .ptr 2 0), (4, .ptr 4 0)] [(2, .var [.v (.p (.bool false)), .v (.p nilV)]), (4, .var [.v (.p (.bool (decide (x < 0)))), .v (.sl (es.map u32))])] 26 false) (by exact entA) (by rw [hes])
    · have hb : decide ((u : Int) > 0) = true := by simp; omega
      have hw : IntKind.u32.wrap (u : Int) = ((u % 4294967296 : Nat) : Int) := by rw [IntKind.wrap_u32']; omega
      have hsh : (u : Int).fdiv (2 ^ (min (32 : Int).toNat IntKind.u64.bits)) = ((u / 4294967296 : Nat) : Int) := by
        rw [show ((2 : Int) ^ (min (32 : Int).toNat IntKind.u64.bits)) = 4294967296 from by decide, Int.fdiv_eq_ediv_of_nonneg _ (by decide)]
        omega
      have hdl : u / 4294967296 < u := Nat.div_lt_self (by omega) (by omega)
      have hel : (es.map u32).length = es.length := by simp
      refine T.seq ?_
      refine T.seq ?_
      refine regA ?_
      refine runA ?_
      refine ev_nil ?_
      refine seqQ_n ?_
      refine T.condT rfl hb ?_
      refine T.skip ?_
      refine seqQ_n ?_
      refine T.block ?_
      refine T.seq ?_
      refine regA ?_
      refine runA ?_
      refine evG ggA (ss_conv (InB_of rfl) (int_tab rfl) (int_tab rfl) rfl hw) ?_
      refine evG ggA (ss_bslice (InB_of rfl) (make_tab rfl) rfl rfl rfl rfl (one_ok rfl rfl) (Nat.le_of_ble_eq_true rfl)) ?_
      refine evG ggA (ss_append (InB_of rfl) (make_tab rfl) rfl rfl hel rfl (fun a ha => by rw [List.mem_singleton] at ha; subst ha; rfl) (by decide) ?_ ?_ rfl (fun h => by cases h)) ?_
      · simp [maxLen]; have := congrArg List.length hes; simp at this; omega
      · simp; have := congrArg List.length hes; simp at this; omega
      refine runA ?_
      refine ev_nil ?_
      refine seqQ_n ?_
      refine regA ?_
      refine runA ?_
      refine evG ggA (ss_shr (InB_of rfl) rfl rfl (by decide) hsh) ?_
      refine goA ?_
      refine loopQ_intro (k := u / 4294967296) (s' := mkS [(2, .ptr 2 0), (3, .v (.p (.int .u64 ((u / 4294967296 : Nat) : Int)))), (4, .ptr 4 0)] [(2, .var [.v (.p (.bool false)), .v (.p nilV)]), (4, .var [.v (.p (.bool (decide (x < 0)))), .own 100 (es.length + 1)]), (100, .lst 1 82 (es.map u32 ++ [u32 ((u % 4294967296 : Nat) : Int)]))] 26 false) hdl (by exact entA) ⟨u / 4294967296, es ++ [((u % 4294967296 : Nat) : Int)], rfl, by omega, by simp; omega, by rw [hes, dgs_step h00, List.append_assoc]; rfl, by simp⟩
  rintro _ rfl
  refine goA ?_
  exact rfl
theorem q_p (x : Int) (h0 : -9223372036854775808 ≤ x) (h1 : x ≤ 9223372036854775807) : PC Tryz.prog 29 [.p (.int .i64 x)] (encQ (x : Rat)) := by
  have c1 := z_p x h0 h1
  have c2 := z_p 1 (by decide) (by decide)
  have e : encQ (x : Rat) = .agg (ci x ++ ci 1) := by unfold encQ; rw [Rat.num_intCast, Rat.den_intCast]; rfl
  rw [e]
  refine pc_body1 true Tryz.func29 rfl rfl rfl (Nat.le_of_ble_eq_true rfl) (CellT.agg agg_rat) ?_
  refine goA ?_
  refine evG ggA (ss_call (InB_of rfl) rfl rfl c1) ?_
  refine evG ggA (ss_call (InB_of rfl) rfl rfl c2) ?_
  refine goA ?_
  exact rfl
end Ab
