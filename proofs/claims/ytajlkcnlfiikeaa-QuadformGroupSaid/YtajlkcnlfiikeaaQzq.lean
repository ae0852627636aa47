/- Small numbers as integers and fractions, the document's and the program's; equality of numbers. (From Base, SerC.) -/
import Derived.Test.YtajlkcnlfiikeaaTz
import Derived.Test.YtajlkcnlfiikeaaEnc
set_option linter.all false
namespace Ab
open Go Go.RowKit Go.Proofs Hp
set_option maxRecDepth 100000

theorem dg_eq : ∀ n k, n ≤ k → dg k n = dgs n := by
  intro n
  induction n using Nat.strongRecOn with
  | _ n ih =>
    intro k hk
    by_cases h0 : n = 0
    · subst h0
      cases k <;> simp [dg, dgs]
    · obtain ⟨k', rfl⟩ : ∃ k', k = k' + 1 := ⟨k - 1, by omega⟩
      obtain ⟨n', rfl⟩ : ∃ n', n = n' + 1 := ⟨n - 1, by omega⟩
      have hlt : (n' + 1) / 4294967296 < n' + 1 := Nat.div_lt_self (by omega) (by omega)
      have e1 : dg (k' + 1) (n' + 1) = (((n' + 1) % 4294967296 : Nat) : Int) :: dg k' ((n' + 1) / 4294967296) := by simp [dg]
      have e2 : dgs (n' + 1) = (((n' + 1) % 4294967296 : Nat) : Int) :: dg n' ((n' + 1) / 4294967296) := by simp [dgs, dg]
      rw [e1, e2, ih _ hlt k' (by omega), ih _ hlt n' (by omega)]
theorem dgs_step {n : Nat} (h : n ≠ 0) : dgs n = ((n % 4294967296 : Nat) : Int) :: dgs (n / 4294967296) := by
  obtain ⟨n', rfl⟩ : ∃ n', n = n' + 1 := ⟨n - 1, by omega⟩
  have hlt : (n' + 1) / 4294967296 < n' + 1 := Nat.div_lt_self (by omega) (by omega)
  have e2 : dgs (n' + 1) = (((n' + 1) % 4294967296 : Nat) : Int) :: dg n' ((n' + 1) / 4294967296) := by simp [dgs, dg]
  rw [e2, dg_eq _ n' (by omega)]
theorem dgs_zero : dgs 0 = [] := rfl
theorem dgs_len {z k : Nat} (h : (z : Int) < pw k) : (dgs z).length ≤ k := by
  obtain ⟨g, ds, e, -, h2, -⟩ := isC_ci (z := (z : Int)) (k := k) (by simpa using h)
  simp only [ci, Int.natAbs_natCast, List.cons.injEq, and_true, AV.sl.injEq] at e
  have := congrArg List.length e.2
  simp only [List.length_map] at this
  omega
set_option maxHeartbeats 1000000 in
theorem z_p (x : Int) (h0 : -9223372036854775808 ≤ x) (h1 : x ≤ 9223372036854775807) : PC Try.prog 80 [.p (.int .i64 x)] (encI x) := by
  refine pc_body1 false Try.func80 rfl rfl rfl (Nat.le_of_ble_eq_true rfl) (CellT.agg (l := ci x) agg_int) ?_
  refine r1A ?_
  refine T.seq ?_
  refine regA ?_
  refine runA ?_
  refine evG ggA (ss_conv (InB_of rfl) (int_tab rfl) (int_tab rfl) rfl rfl) ?_
  refine runA ?_
  refine ev_nil ?_
  refine seqQ_n ?_
  refine T.seqI (fun s1 => s1 = mkS [(0, .v (.p (.int .i64 x))), (2, .ptr 2 0), (3, .v (.p (.int .u64 (x.natAbs : Int))))] [(2, .var [.v (.p (.bool false)), .v (.p nilV)])] 26 false) ?_ ?_
  · by_cases hx : x < 0
    · have hb : decide (x < 0) = true := by simp [hx]
      have hw : IntKind.u64.wrap (0 - IntKind.u64.wrap x) = (x.natAbs : Int) := by rw [IntKind.wrap_u64, IntKind.wrap_u64]; omega
      refine goA ?_
      refine evG ggA (ss_neg (InB_of rfl) rfl hw) ?_
      refine goA ?_
      exact midQ_intro (by exact entA) rfl
    · have hb : decide (x < 0) = false := by simp; omega
      have hw : IntKind.u64.wrap x = (x.natAbs : Int) := by rw [IntKind.wrap_u64]; omega
      rw [hw]
      refine goA ?_
      exact midQ_intro (by exact entA) rfl
  rintro _ rfl
  refine T.seq ?_
  refine regA ?_
  refine stpA ?_
  refine stpA ?_
  refine evG ggA (ss_build_raw (InB_of rfl) (build_tab rfl) rfl rfl rfl) ?_
  refine runA ?_
  refine ev_nil ?_
  refine seqQ_n ?_
  have hlen3 : (dgs x.natAbs).length ≤ 3 := dgs_len (by rw [show pw 3 = 79228162514264337593543950336 from by decide]; omega)
  refine T.seqI (fun s1 => s1 = mkS [(2, .ptr 2 0), (4, .ptr 4 0)] [(2, .var [.v (.p (.bool false)), .v (.p nilV)]), (4, .var [.v (.p (.bool (decide (x < 0)))), .v (.sl ((dgs x.natAbs).map u32))])] 26 false) ?_ ?_
  · refine T.block ?_
    refine T.loop (fun n s1 => ∃ (u : Nat) (es : List Int), n = u ∧ u < 18446744073709551616 ∧ es.length ≤ 18446744073709551616 - u ∧ dgs x.natAbs = es ++ dgs u ∧ s1 = mkS [(2, .ptr 2 0), (3, .v (.p (.int .u64 u))), (4, .ptr 4 0)] [(2, .var [.v (.p (.bool false)), .v (.p nilV)]), (4, .var [.v (.p (.bool (decide (x < 0)))), .own 100 es.length]), (100, .lst 1 114 (es.map u32))] 26 false) x.natAbs
      (s' := mkS [(2, .ptr 2 0), (3, .v (.p (.int .u64 (x.natAbs : Int)))), (4, .ptr 4 0)] [(2, .var [.v (.p (.bool false)), .v (.p nilV)]), (4, .var [.v (.p (.bool (decide (x < 0)))), .own 100 0]), (100, .lst 1 114 [])] 26 false) (by exact entA) ⟨x.natAbs, [], rfl, by omega, by simp, by simp, rfl⟩ ?_
    rintro u _ ⟨_, es, rfl, hu, hle, hes, rfl⟩
    by_cases h00 : u = 0
    · subst h00
      have hb : decide (((0 : Nat) : Int) > 0) = false := by decide
      rw [dgs_zero, List.append_nil] at hes
      have hel : (es.map u32).length = es.length := by simp
      refine goA ?_
      exact midQ_intro (s' := mkS [(2, .ptr 2 0), (4, .ptr 4 0)] [(2, .var [.v (.p (.bool false)), .v (.p nilV)]), (4, .var [.v (.p (.bool (decide (x < 0)))), .v (.sl (es.map u32))])] 26 false) (by exact entA) (by rw [hes])
    · have hb : decide ((u : Int) > 0) = true := by simp; omega
      have hw : IntKind.u32.wrap (u : Int) = ((u % 4294967296 : Nat) : Int) := by rw [IntKind.wrap_u32']; omega
      have hsh : (u : Int).fdiv (2 ^ (min (32 : Int).toNat IntKind.u64.bits)) = ((u / 4294967296 : Nat) : Int) := by
        rw [show ((2 : Int) ^ (min (32 : Int).toNat IntKind.u64.bits)) = 4294967296 from by decide, Int.fdiv_eq_ediv_of_nonneg _ (by decide)]
        omega
      have hdl : u / 4294967296 < u := Nat.div_lt_self (by omega) (by omega)
      have hel : (es.map u32).length = es.length := by simp
      refine T.seq ?_
      refine T.seq ?_
      refine regA ?_
      refine runA ?_
      refine ev_nil ?_
      refine seqQ_n ?_
      refine T.condT rfl hb ?_
      refine T.skip ?_
      refine seqQ_n ?_
      refine T.block ?_
      refine T.seq ?_
      refine regA ?_
      refine runA ?_
      refine evG ggA (ss_conv (InB_of rfl) (int_tab rfl) (int_tab rfl) rfl hw) ?_
      refine evG ggA (ss_bslice (InB_of rfl) (make_tab rfl) rfl rfl rfl rfl (one_ok rfl rfl) (Nat.le_of_ble_eq_true rfl)) ?_
      refine evG ggA (ss_append (InB_of rfl) (make_tab rfl) rfl rfl hel rfl (fun a ha => by rw [List.mem_singleton] at ha; subst ha; rfl) (by decide) ?_ ?_ rfl (fun h => by cases h)) ?_
      · simp [maxLen]; have := congrArg List.length hes; simp at this; omega
      · simp; have := congrArg List.length hes; simp at this; omega
      refine runA ?_
      refine ev_nil ?_
      refine seqQ_n ?_
      refine regA ?_
      refine runA ?_
      refine evG ggA (ss_shr (InB_of rfl) rfl rfl (by decide) hsh) ?_
      refine goA ?_
      refine loopQ_intro (k := u / 4294967296) (s' := mkS [(2, .ptr 2 0), (3, .v (.p (.int .u64 ((u / 4294967296 : Nat) : Int)))), (4, .ptr 4 0)] [(2, .var [.v (.p (.bool false)), .v (.p nilV)]), (4, .var [.v (.p (.bool (decide (x < 0)))), .own 100 (es.length + 1)]), (100, .lst 1 114 (es.map u32 ++ [u32 ((u % 4294967296 : Nat) : Int)]))] 26 false) hdl (by exact entA) ⟨u / 4294967296, es ++ [((u % 4294967296 : Nat) : Int)], rfl, by omega, by simp; omega, by rw [hes, dgs_step h00, List.append_assoc]; rfl, by simp⟩
  rintro _ rfl
  refine goA ?_
  exact rfl
theorem isign_p {a : AV} {k : Nat} {z : Int} (h : IsI a k z) (hk : k ≤ 17592186044416) : PC Try.prog 85 [a] (.p (.int .i64 (sgn z))) := by
  refine ⟨callOK Try.func85 rfl rfl, fun w M hM vs hvs => ?_⟩
  obtain ⟨v, rfl, hv⟩ := reps1 hvs
  refine (isign_c (isI_rep h hv) hk).mono ?_
  rintro e w' ⟨v, rfl, hb, hr⟩
  exact ⟨v, rfl, hb, by rw [hr]; exact .p _ rfl⟩
abbrev RQ := (Bool × List Int) × (Bool × List Int)
def rawI (r : Bool × List Int) : AV := .agg [.p (.bool r.1), .sl (r.2.map u32)]
def rawA (r : RQ) : AV := .agg [.p (.bool r.1.1), .sl (r.1.2.map u32), .p (.bool r.2.1), .sl (r.2.2.map u32)]
def ri (z : Int) : Bool × List Int := (decide (z < 0), dgs z.natAbs)
def rq (q : Rat) : RQ := (ri q.num, ri q.den)
theorem encQ_raw (q : Rat) : encQ q = rawA (rq q) := rfl
theorem encI_raw (z : Int) : encI z = rawI (ri z) := rfl
theorem encs_raw (l : List Rat) : l.map encQ = (l.map rq).map rawA := by rw [List.map_map]; rfl
theorem ri_inj {x y : Int} (h : ri x = ri y) : x = y := by
  simp only [ri, Prod.mk.injEq, decide_eq_decide] at h
  obtain ⟨h1, h2⟩ := h
  have h3 : (x.natAbs : Int) = y.natAbs := by rw [← dgs_vl, ← dgs_vl, h2]
  omega
theorem rq_inj {x y : Rat} (h : rq x = rq y) : x = y := by
  simp only [rq, Prod.mk.injEq] at h
  have h1 := ri_inj h.1
  have h2 := ri_inj h.2
  rw [← Rat.num_divInt_den x, ← Rat.num_divInt_den y, h1, h2]
theorem rqs_inj : ∀ {l m : List Rat}, l.map rq = m.map rq → l = m
  | [], [], _ => rfl
  | [], _ :: _, h => by simp at h
  | _ :: _, [], h => by simp at h
  | x :: l, y :: m, h => by
    simp only [List.map_cons, List.cons.injEq] at h
    rw [rq_inj h.1, rqs_inj h.2]
theorem u32_at {ds : List Int} {i : Nat} {d : Int} (h : ds[i]? = some d) : (ds.map u32)[i]? = some (.p (.int .u32 d)) := by rw [List.getElem?_map, h]; rfl
set_option maxHeartbeats 1000000 in
theorem sameInt_p (r q : Bool × List Int) (hr : r.2.length ≤ 4611686018427387904) : PC Try.prog 65 [rawI r, rawI q] (.p (.bool (decide (r = q)))) := by
  obtain ⟨g, ds⟩ := r
  obtain ⟨g', es⟩ := q
  have hr : ds.length ≤ 4611686018427387904 := hr
  by_cases h1 : g = g'
  · subst h1
    have hb1 : (!(g == g)) = false := by simp
    by_cases h2 : ds.length = es.length
    · have hb2 : (((ds.map u32).length : Int) != ((es.map u32).length : Int)) = false := by simp [h2]
      refine pc_body1 false Try.func65 rfl rfl rfl (Nat.le_of_ble_eq_true rfl) CellT.tmp ?_
      refine r1A ?_
      refine T.seqI (fun s1 => s1 = mkS [(2, .ptr 2 0), (3, .ptr 3 0)] [(2, .var [.v (.p (.bool g)), .v (.sl (ds.map u32))]), (3, .var [.v (.p (.bool g)), .v (.sl (es.map u32))])] 38 false) ?_ ?_
      · refine goA ?_
        exact midQ_intro (by exact entA) rfl
      rintro _ rfl
      refine T.seqI (fun s1 => ds = es ∧ s1 = mkS [] [] 38 false) ?_ ?_
      · refine r1A ?_
        refine T.block ?_
        refine T.loop (fun n s1 => ∃ k : Nat, n = ds.length - k ∧ k ≤ ds.length ∧ (∀ i, i < k → ds[i]? = es[i]?) ∧ s1 = mkS [(5, .v (.p (.int .i64 k))), (2, .ptr 2 0), (3, .ptr 3 0)] [(2, .var [.v (.p (.bool g)), .v (.sl (ds.map u32))]), (3, .var [.v (.p (.bool g)), .v (.sl (es.map u32))])] 38 false) ds.length
          (s' := mkS [(5, .v (.p (.int .i64 (0 : Nat)))), (2, .ptr 2 0), (3, .ptr 3 0)] [(2, .var [.v (.p (.bool g)), .v (.sl (ds.map u32))]), (3, .var [.v (.p (.bool g)), .v (.sl (es.map u32))])] 38 false) (by exact entA) ⟨0, rfl, Nat.zero_le _, fun i hi => absurd hi (Nat.not_lt_zero _), rfl⟩ ?_
        rintro n _ ⟨k, rfl, hk, hz, rfl⟩
        by_cases hlt : k < ds.length
        · have hb : decide ((k : Int) < ((ds.map u32).length : Int)) = true := by simp; omega
          have e1 : ds[k]? = some ds[k] := List.getElem?_eq_getElem hlt
          have e2 : es[k]? = some es[k] := List.getElem?_eq_getElem (by omega)
          have e3 := u32_at e1
          have e4 := u32_at e2
          refine goA ?_
          refine evG ggA (ss_index_sl (InB_of rfl) (elem_tab rfl) rfl rfl (by omega) e3 rfl) ?_
          refine goA ?_
          refine evG ggA (ss_index_sl (InB_of rfl) (elem_tab rfl) rfl rfl (by omega) e4 rfl) ?_
          by_cases hd : ds[k] = es[k]
          · have hb3 : (ds[k] != es[k]) = false := by simp [hd]
            refine goA ?_
            refine loopQ_intro (k := ds.length - (k + 1)) (s' := mkS [(5, .v (.p (.int .i64 ((k : Int) + 1)))), (2, .ptr 2 0), (3, .ptr 3 0)] [(2, .var [.v (.p (.bool g)), .v (.sl (ds.map u32))]), (3, .var [.v (.p (.bool g)), .v (.sl (es.map u32))])] 38 false) (by omega) (by exact entA) ⟨k + 1, rfl, hlt, fun i hi => ?_, by simp⟩
            by_cases hik : i = k
            · subst hik; rw [e1, e2, hd]
            · exact hz i (by omega)
          · have hb3 : (ds[k] != es[k]) = true := by simp [hd]
            have hne : decide ((g, ds) = (g, es)) = false := by
              simp only [Prod.mk.injEq, true_and, decide_eq_false_iff_not]
              intro e; subst e; exact hd rfl
            rw [hne]
            refine goA ?_
            exact rfl
        · have hb : decide ((k : Int) < ((ds.map u32).length : Int)) = false := by simp; omega
          have hde : ds = es := by
            apply List.ext_getElem?
            intro i
            by_cases hi : i < k
            · exact hz i hi
            · rw [List.getElem?_eq_none (by omega), List.getElem?_eq_none (by omega)]
          refine goA ?_
          exact midQ_intro (s' := mkS [] [] 38 false) (by exact entA) ⟨hde, rfl⟩
      rintro _ ⟨rfl, rfl⟩
      have hne : decide ((g, ds) = (g, ds)) = true := by simp
      rw [hne]
      refine goA ?_
      exact rfl
    · have hb2 : (((ds.map u32).length : Int) != ((es.map u32).length : Int)) = true := by simp; omega
      have hne : decide ((g, ds) = (g, es)) = false := by
        simp only [Prod.mk.injEq, true_and, decide_eq_false_iff_not]
        intro e; subst e; exact h2 rfl
      rw [hne]
      refine pc_body1 false Try.func65 rfl rfl rfl (Nat.le_of_ble_eq_true rfl) CellT.tmp ?_
      refine goA ?_
      exact rfl
  · have hb1 : (!(g == g')) = true := by simp [h1]
    have hne : decide ((g, ds) = (g', es)) = false := by
      simp only [Prod.mk.injEq, decide_eq_false_iff_not]
      exact fun e => h1 e.1
    rw [hne]
    refine pc_body1 false Try.func65 rfl rfl rfl (Nat.le_of_ble_eq_true rfl) CellT.tmp ?_
    refine goA ?_
    exact rfl
theorem sameRat_p (r q : RQ) (h1 : r.1.2.length ≤ 4611686018427387904) (h2 : r.2.2.length ≤ 4611686018427387904) : PC Try.prog 32 [rawA r, rawA q] (.p (.bool (decide (r = q)))) := by
  obtain ⟨⟨g, ds⟩, ⟨g', ds'⟩⟩ := r
  obtain ⟨⟨k, es⟩, ⟨k', es'⟩⟩ := q
  have c1 := sameInt_p (g, ds) (k, es) h1
  have c2 := sameInt_p (g', ds') (k', es') h2
  cases hd : decide ((g, ds) = (k, es)) with
  | false =>
    rw [hd] at c1
    have e : decide (((g, ds), (g', ds')) = ((k, es), (k', es'))) = false := by
      simp only [decide_eq_false_iff_not, Prod.mk.injEq] at hd ⊢
      exact fun h => hd h.1
    rw [e]
    refine pc_body1 true Try.func32 rfl rfl rfl (Nat.le_of_ble_eq_true rfl) CellT.tmp ?_
    refine goA ?_
    refine evG ggA (ss_call (InB_of rfl) rfl rfl c1) ?_
    refine goA ?_
    exact rfl
  | true =>
    rw [hd] at c1
    have e : decide (((g, ds), (g', ds')) = ((k, es), (k', es'))) = decide ((g', ds') = (k', es')) := by
      have hd := of_decide_eq_true hd
      rw [hd]
      simp
    rw [e]
    refine pc_body1 true Try.func32 rfl rfl rfl (Nat.le_of_ble_eq_true rfl) CellT.tmp ?_
    refine goA ?_
    refine evG ggA (ss_call (InB_of rfl) rfl rfl c1) ?_
    refine goA ?_
    refine evG ggA (ss_call (InB_of rfl) rfl rfl c2) ?_
    refine goA ?_
    exact rfl
def gsg (n d : Int) : Int := if d < 0 then -((Int.gcd n d : Nat) : Int) else ((Int.gcd n d : Nat) : Int)
theorem gcdZ_def (n d : Int) : gcdZ n d = ((Int.gcd n d : Nat) : Int) := rfl
theorem gsg_ne {n d : Int} (hd : d ≠ 0) : gsg n d ≠ 0 := by
  have : 0 < Int.gcd n d := Int.gcd_pos_of_ne_zero_right _ hd
  unfold gsg
  split <;> omega
theorem gsg_parts {n d : Int} (hd : d ≠ 0) : (Rat.divInt n d).num = n / gsg n d ∧ ((Rat.divInt n d).den : Int) = d / gsg n d := by
  by_cases h : d < 0
  · have e : Rat.divInt n d = Rat.divInt (-n) (-d) := (Rat.neg_divInt_neg n d).symm
    have hp := divInt_parts (n := -n) (d := -d) (by omega)
    rw [e, hp.1, hp.2, gcdZ_def, Int.gcd_neg, Int.neg_gcd]
    unfold gsg
    rw [if_pos h, Int.ediv_neg, Int.ediv_neg, Int.neg_ediv_of_dvd (Int.gcd_dvd_left n d), Int.neg_ediv_of_dvd (Int.gcd_dvd_right n d)]
    exact ⟨rfl, rfl⟩
  · have hp := divInt_parts (n := n) (d := d) (by omega)
    unfold gsg
    rw [if_neg h]
    exact hp
theorem iof_p (x : Int) (h0 : -9223372036854775808 ≤ x) (h1 : x ≤ 9223372036854775807) : PC Try.prog 64 [.p (.int .i64 x)] (encI x) := by
  refine ⟨callOK Try.func64 rfl rfl, fun w M hM vs hvs => ?_⟩
  obtain ⟨v, rfl, hv⟩ := reps1 hvs
  rw [Rep.p_inv hv]
  refine (iof_c x w h0 h1).mono ?_
  rintro e w' ⟨v, rfl, hb, hr⟩
  exact ⟨v, rfl, hb, rep_encI hr (okm_below hM hb)⟩
theorem over_p {a b : AV} {p q : Int} {k l : Nat} (ha : IsI a k p) (hk : k ≤ 8796093022208) (hb : IsI b l q) (hl : l ≤ 8796093022208) : PC Try.prog 86 [a, b] (encQ (Rat.divInt p q)) := by
  refine ⟨callOK Try.func86 rfl rfl, fun w M hM vs hvs => ?_⟩
  obtain ⟨v, u, rfl, hv, hu⟩ := reps2 hvs
  refine (over_c (isI_rep ha hv) (isI_rep hb hu) hk hl).mono ?_
  rintro e w' ⟨v, rfl, hb, hr⟩
  exact ⟨v, rfl, hb, rep_encQ hr (okm_below hM hb)⟩
end Ab
