/- The statement HeckeseriesAlgebra: its walk. -/
import Derived.Test.YtajhaoapcapgeaaGreatDoorHkP
import Derived.Test.YtajhaoapcapgeaaGreatDoorAlgM
import Derived.Test.YtajhaoapcapgeaaGreatDoorGood
set_option linter.all false
namespace Ab
open Go Go.RowKit Go.Proofs Hp
set_option maxRecDepth 100000

section
variable {dm : Bool} {P : Program} {ops : Array Oper} {s : AS} {dst : Option Tmp} {ty : TypeId} {pos : String} {after : Array Edge} {g : Option (Nat × Bool)}
def ArrT (P : Program) (t : TypeId) (len n : Nat) : Prop := ∃ e i, P.underlying t = some (.array len e) ∧ P.info? e = some i ∧ i.size = n
/-- an element of an array that is the call's own variable -/
theorem ss_index_arr {t : TypeId} {len n : Nat} {y z : Operand} {k : IntKind} {i : Int} {id o : Nat} (hin : InB s dst) (ht : ArrT P t len n) (hy : s.ev y = some (.ptr id o)) (hz : s.ev z = some (.v (.p (.int k i)))) (h0 : 0 ≤ i) (hi : i < len) : SStep dm P ops ⟨dst, .indexAddr t y z, ty, pos, after, g⟩ s (.ptr id (o + i.toNat * n)) .none :=
  ss_pure hin fun s' hag w0 M0 ρ a w _ hr => by
    obtain ⟨e, ei, h1, h2, h3⟩ := ht
    obtain ⟨h6, b, kk, h7, h8⟩ := hr.ev ((hag.ev (by simp [Op.operands])).trans hy)
    have h9 := Rep.p_inv (hr.ev ((hag.ev (by simp [Op.operands])).trans hz))
    refine ⟨.pointer (some ⟨b, o + i.toNat * n, none⟩), ?_, h6, b, kk, h7, rfl⟩
    have hi' : 0 ≤ i ∧ i < (len : Int) := ⟨h0, hi⟩
    simp [execOp, h8, h9, Instr.indexAt, asIntOf, run_underlying h1, hi', Go.sizeOf, typeInfo, h2, h3, addr_add, Instr.sureAddr]
end
theorem arrT_of {P : Program} {t : TypeId} {len n : Nat} (h : (match P.underlying t with | some (.array l e) => (match P.info? e with | some i => l == len && i.size == n | none => false) | _ => false) = true) : ArrT P t len n := by
  cases hu : P.underlying t with
  | none => rw [hu] at h; cases h
  | some d =>
    rw [hu] at h
    cases d <;> first | cases h | skip
    rename_i l e
    simp only at h
    cases hi : P.info? e with
    | none => rw [hi] at h; cases h
    | some i =>
      rw [hi] at h
      simp only [Bool.and_eq_true, beq_iff_eq] at h
      obtain ⟨rfl, rfl⟩ := h
      exact ⟨e, i, hu, hi, rfl⟩
theorem arr_two : ArrT Tryz.prog 25 2 1 := arrT_of (by kernel_rfl)
def arrA (x y : Int) : AV := .agg [.p (.int .i64 x), .p (.int .i64 y)]
theorem plain_get {N k d s : Int} {es : List AV} (h : plainB N k d s es = true) : ValidP s es.length = true ∧ SpecOK N k d ∧ k ≤ 16 ∧ 1 ≤ s + es.length ∧ s + es.length ≤ 60 ∧ -2 ≤ s ∧ longB 60 es = false := by
  unfold plainB at h
  simp only [Bool.and_eq_true, decide_eq_true_eq, beq_iff_eq, Bool.not_eq_true'] at h
  obtain ⟨h1, h2, h3, h4, h5, h6, h7⟩ := h
  exact ⟨h1, rcC_ok h2, h3, by omega, by omega, by omega, h7⟩
/-- what the gate lets in -/
theorem plain_isL {N k d : Int} {a : Ser} (ha : SerOK a) (h : plainB N k d a.from' (a.coef.map rawA) = true) : IsL (a.coef.map rawA) 4 (a.coef.map ratO) := by
  obtain ⟨h1, -, -, -, -, -, h7⟩ := plain_get h
  exact (isL_long ha.dig h7).1
theorem Tn_congr {f : Nat → Rat} {a b : Int → Rat} {n : Nat} {M : Int} (h : ∀ t, t ∈ dl n M → a (M / t * ((n / t : Nat) : Int)) = b (M / t * ((n / t : Nat) : Int))) : Tn f a n M = Tn f b n M := by
  unfold Tn
  exact rs_congr fun t ht => by rw [h t ht]
/-- an index that a Hecke operator asks for -/
theorem ix_lt {M p : Int} {n t : Nat} (hn : 1 ≤ n) (hp : 1 ≤ p) (ht : t ∈ dl n M) (h : M * n < p) : M / t * ((n / t : Nat) : Int) < p := by
  obtain ⟨⟨t0, -⟩, ⟨y, rfl⟩, ⟨x, rfl⟩⟩ := mem_dl.1 ht
  have hy : 1 ≤ y := by
    rcases Nat.eq_zero_or_pos y with e | e
    · subst e; simp at hn
    · exact e
  rw [Int.mul_ediv_cancel_left _ (by omega), Nat.mul_div_cancel_left _ (by omega)]
  by_cases c : x ≤ 0
  · have : x * y ≤ 0 * (y : Int) := Int.mul_le_mul_of_nonneg_right c (by omega)
    omega
  · have h2 : 0 ≤ x * (y : Int) := Int.mul_nonneg (by omega) (by omega)
    have h3 : (1 : Int) ≤ (t : Int) * t := by
      have := Nat.mul_le_mul t0 t0
      omega
    have h4 : x * y * 1 ≤ x * y * ((t : Int) * t) := Int.mul_le_mul_of_nonneg_left h3 h2
    have h5 : (t : Int) * x * ((t * y : Nat) : Int) = x * y * ((t : Int) * t) := by push_cast; grind
    omega
/-- one Hecke operator -/
theorem hk_one {N k d A : Int} {L : List Rat} {K n : Nat} (hk : 1 ≤ k ∧ k ≤ 60) (hA0 : -100 ≤ A) (hA1 : A + L.length ≤ 1000) (hp : 1 ≤ A + L.length) (hn : 1 ≤ n ∧ n ≤ 36) (hAn : -100 ≤ A * n) (hK : 1 ≤ K) (hL : ∀ q, q ∈ L → Ht q K) :
    ∃ u c, hkR N k d A L n = some (u, c) ∧ -100 ≤ u ∧ u + c.length ≤ 1000 ∧ 1 ≤ u + c.length ∧ (u + c.length - 1) * n < A + L.length ∧ min 0 (A * n) ≤ u ∧ (∀ M, M < u + c.length → cf u c M = Tn (fun e => facQ N k d e) (cf A L) n M) ∧ (∀ q, q ∈ c → Ht q (1 + 36 * (22 + K))) ∧ lead c = 0 ∧ u + c.length ≤ A + L.length := by
  obtain ⟨u, c, e, e1, e2, e3, e4, e5, e6, e7⟩ := hk_out (N := N) (k := k) (d := d) (A := A) (n := n) (L := L) (K := K) hk hA0 hA1 hp ⟨by omega, by omega⟩ hAn hK hL
  obtain ⟨u1, u2, u3⟩ := up_bd (p := A + L.length) (n := n) (by omega) hp
  refine ⟨u, c, e, e1, by omega, by omega, by rw [e2]; exact u3, ?_, fun M hM => ?_, fun q hq => (e6 q hq).mono ?_, e7, by omega⟩
  · refine Int.le_trans ?_ e4
    unfold hkFrom
    split <;> omega
  · rw [e5 M (by omega), hkC_rs hn.1 hn.2]
    rfl
  · have : (n : Int).toNat * (22 + K) ≤ 36 * (22 + K) := Nat.mul_le_mul_right _ (by omega)
    omega
theorem dn_comm (m n : Nat) : dn m n = dn n m := by
  unfold dn
  refine List.filter_congr fun t _ => Bool.and_comm _ _
/-- two Hecke operators -/
theorem hk_two {N k d A : Int} {L : List Rat} {m n : Nat} (hk : 1 ≤ k ∧ k ≤ 60) (hA0 : -2 ≤ A) (hp : 1 ≤ A + L.length) (hA1 : A + L.length ≤ 60) (hm : 1 ≤ m ∧ m ≤ 6) (hn : 1 ≤ n ∧ n ≤ 6) (hL : ∀ q, q ∈ L → Ht q 4) :
    ∃ u1 c1 u2 c2, hkR N k d A L n = some (u1, c1) ∧ ValidP u1 c1.length = true ∧ 1 ≤ u1 + c1.length ∧ (∀ q, q ∈ c1 → Ht q 1000) ∧ lead c1 = 0 ∧
      hkR N k d u1 c1 m = some (u2, c2) ∧ ValidP u2 c2.length = true ∧ (∀ q, q ∈ c2 → Ht q 40000) ∧ (∀ M, M < u2 + c2.length → cf u2 c2 M = rs (fun e => facQ N k d e * Tn (fun e => facQ N k d e) (cf A L) (m * n / e / e) M) (dn m n)) := by
  have h6 : (-2) * (n : Int) ≤ A * n := Int.mul_le_mul_of_nonneg_right hA0 (by omega)
  obtain ⟨u, c, e, e1, e2, e3, e4, e5, e6, e7, e8, e9⟩ := hk_one (N := N) (k := k) (d := d) (A := A) (L := L) (K := 4) (n := n) hk (by omega) (by omega) hp ⟨by omega, by omega⟩ (by omega) (by decide) hL
  have h7 : (-12) * (m : Int) ≤ u * m := Int.mul_le_mul_of_nonneg_right (by omega) (by omega)
  obtain ⟨v, b, f, f1, f2, f3, f4, f5, f6, f7, f8, f9⟩ := hk_one (N := N) (k := k) (d := d) (A := u) (L := c) (K := 1 + 36 * (22 + 4)) (n := m) hk e1 e2 e3 ⟨by omega, by omega⟩ (by omega) (by decide) e7
  refine ⟨u, c, v, b, e, valid_iff.2 ⟨e1, by omega, by omega⟩, e3, fun q hq => (e7 q hq).mono (by decide), e8, f, valid_iff.2 ⟨f1, by omega, by omega⟩, fun q hq => (f7 q hq).mono (by decide), fun M hM => ?_⟩
  rw [f6 M hM, ← T_law (fun t u ht hu h => facQ_mul ht hu h) hm hn M]
  refine Tn_congr fun t ht => ?_
  refine e6 _ (ix_lt hm.1 e3 ht ?_)
  have : M * m ≤ (v + b.length - 1) * m := Int.mul_le_mul_of_nonneg_right (by omega) (by omega)
  omega
/-- the summands for the common divisors below t -/
def dls (m n t : Nat) : List Nat := (upto (t - 1)).filter fun e => m % e == 0 && n % e == 0
theorem dls_end : ∀ m, m < 7 → ∀ n, n < 7 → 1 ≤ m → 1 ≤ n → dls m n 7 = dn m n := by decide +kernel
theorem dls_step {m n t : Nat} (ht : 1 ≤ t) : dls m n (t + 1) = dls m n t ++ (if (m % t == 0 && n % t == 0) = true then [t] else []) := by
  unfold dls
  rw [show t + 1 - 1 = (t - 1) + 1 by omega]
  show (upto (t - 1) ++ [t - 1 + 1]).filter _ = _
  rw [List.filter_append, show t - 1 + 1 = t by omega]
  congr 1
  rw [List.filter_cons, List.filter_nil]
structure SumOK (N k d A : Int) (L : List Rat) (m n t : Nat) (U : Int) (C : List Rat) : Prop where
  v : ValidP U C.length = true
  h : ∀ q, q ∈ C → Ht q (3000 * 4 ^ t)
  c : ∀ M, M < U + C.length → cf U C M = rs (fun e => facQ N k d e * Tn (fun e => facQ N k d e) (cf A L) (m * n / e / e) M) (dls m n t)
theorem sum_nil (N k d A : Int) (L : List Rat) (m n : Nat) : SumOK N k d A L m n 1 1000 [] := by
  refine ⟨by decide, fun q hq => by simp at hq, fun M hM => ?_⟩
  rw [cf_lt (by simp at hM; omega)]
  rfl
theorem sum_skip {N k d A : Int} {L : List Rat} {m n t : Nat} {U : Int} {C : List Rat} (h : SumOK N k d A L m n t U C) (ht : 1 ≤ t) (hc : (m % t == 0 && n % t == 0) = false) : SumOK N k d A L m n (t + 1) U C := by
  refine ⟨h.v, fun q hq => (h.h q hq).mono (by rw [Nat.pow_succ]; omega), fun M hM => ?_⟩
  rw [dls_step ht, hc, h.c M hM]
  simp
theorem sum_add {N k d A : Int} {L : List Rat} {m n t : Nat} {U W : Int} {C D : List Rat} (h : SumOK N k d A L m n t U C) (ht : 1 ≤ t) (ht6 : t ≤ 6) (hc : (m % t == 0 && n % t == 0) = true) (hk : 1 ≤ k ∧ k ≤ 60) (hv : ValidP W D.length = true) (hh : ∀ q, q ∈ D → Ht q 1000)
    (hd : ∀ M, M < W + D.length → cf W D M = Tn (fun e => facQ N k d e) (cf A L) (m * n / t / t) M) :
    ∃ X E U2 C2, sclR (facQ N k d t) W D = some (X, E) ∧ ValidP X E.length = true ∧ (∀ q, q ∈ E → Ht q 1021) ∧ combR U C X E 1 = some (U2, C2) ∧ SumOK N k d A L m n (t + 1) U2 C2 := by
  have hf := facQ_ht (N := N) (d := d) hk (n := (t : Int)) (by omega)
  obtain ⟨X, E, e, e1, e2, e3, e4, e5, e6, e7⟩ := scl_out (c := facQ N k d t) (s := W) (l := D) (k := 21) (K := 1000) hv hf (by decide) (by decide) hh
  have hXv : ValidP X E.length = true := valid_iff.2 ⟨e1, by omega, by omega⟩
  obtain ⟨b, hb⟩ : ∃ b, b = 3000 * 4 ^ t := ⟨_, rfl⟩
  have hb1 : 3000 ≤ b := by
    have : 4 ^ 0 ≤ 4 ^ t := Nat.pow_le_pow_right (by decide) (Nat.zero_le _)
    omega
  obtain ⟨U2, C2, g, g1, g2, g3, g4, g5, g6, g7⟩ := comb_out (c := 1) (s := U) (l := C) (t := X) (m := E) (K := b) h.v hXv (by decide) (by omega) (fun q hq => hb ▸ h.h q hq) (fun q hq => (e6 q hq).mono (by omega))
  refine ⟨X, E, U2, C2, e, hXv, e6, g, valid_iff.2 ⟨g1, by omega, by omega⟩, fun q hq => (g6 q hq).mono (by rw [Nat.pow_succ]; omega), fun M hM => ?_⟩
  rw [g5 M (by omega), dls_step ht, hc, if_pos rfl, rs_app]
  show cf U C M + ((1 : Int) : Rat) * cf X E M = _
  rw [h.c M (by omega), e5 M (by omega)]
  show _ + ((1 : Int) : Rat) * (_ * cf W D M) = _
  rw [hd M (by omega)]
  show _ + ((1 : Int) : Rat) * _ = _ + (_ + (0 : Rat))
  rw [Rat.add_zero, Rat.intCast_one, Rat.one_mul]
theorem facQ_int (N k d : Int) (t : Nat) : (((chiV N d t * (t : Int) ^ (k - 1).toNat : Int)) : Rat) = facQ N k d t := by
  unfold facQ
  rw [Rat.intCast_mul, Int.toNat_natCast, Int.natCast_pow]
set_option maxHeartbeats 8000000 in
theorem algebra_p (a : Ser) (N k d x y : Int) (ha : SerOK a) : PC Tryz.prog 4 [serO a, specA N k d, arrA x y] (bV true) := by
  have aw := hawake_p
  have g1 := plain_p (N := N) (k := k) (d := d) (s := a.from') (es := a.coef.map rawA) (fun e he => by obtain ⟨r, -, rfl⟩ := List.mem_map.1 he; exact c4_raw r) (inR_ser ha)
  have k1 := fun h => plain_isL (N := N) (k := k) (d := d) ha h
  have r1 := inR_ser ha
  have le1 : (a.coef.map rawA).length = (a.coef.map ratO).length := by simp
  unfold serO arrA
  generalize a.coef.map ratO = l at *
  generalize a.coef.map rawA = es at *
  generalize a.from' = s at *
  cases hg : plainB N k d s es with
  | false =>
    rw [hg] at g1
    clear k1
    unfold specA at *
    refine pc_body1 true Tryz.func4 rfl rfl rfl (Nat.le_of_ble_eq_true rfl) CellT.tmp ?_
    refine goA ?_
    refine evG ggA (ss_call (InB_of rfl) rfl rfl g1) ?_
    refine goA ?_
    refine evG ggA (ss_call (InB_of rfl) rfl rfl aw) ?_
    refine goA ?_
    exact rfl
  | true =>
  rw [hg] at g1
  by_cases b1 : 1 ≤ x ∧ x ≤ 6 ∧ 1 ≤ y ∧ y ≤ 6
  · obtain ⟨x0, x1, y0, y1⟩ := b1
    obtain ⟨m, rfl⟩ : ∃ m : Nat, x = m := ⟨x.toNat, by omega⟩
    obtain ⟨n, rfl⟩ : ∃ n : Nat, y = n := ⟨y.toNat, by omega⟩
    have q1 : decide ((m : Int) < 1) = false := decide_eq_false (by omega)
    have q2 : decide ((m : Int) > 6) = false := decide_eq_false (by omega)
    have q3 : decide ((n : Int) < 1) = false := decide_eq_false (by omega)
    have q4 : decide ((n : Int) > 6) = false := decide_eq_false (by omega)
    have qe : ((0 : Int) != 0) = false := rfl
    have qz : ((0 : Int) == 0) = true := rfl
    have hL := k1 hg
    obtain ⟨hv, hs, hk16, hp1, hp60, hs2, -⟩ := plain_get hg
    have hht := isL_ht hL (by decide)
    have ll := lead_le l
    have hlen : s + (lead l : Int) + ((l.drop (lead l)).length : Int) = s + es.length := by rw [List.length_drop, le1]; omega
    have hdl : ∀ q, q ∈ l.drop (lead l) → Ht q 4 := fun q hq => hht q (List.mem_of_mem_drop hq)
    obtain ⟨u1, c1, u2, c2, e1, v1, p1, h1, z1, e2, v2, h2, f2⟩ := hk_two (N := N) (k := k) (d := d) (A := s + lead l) (L := l.drop (lead l)) (m := n) (n := m) ⟨hs.k0, hs.k1⟩ (by omega) (by omega) (by omega) ⟨by omega, by omega⟩ ⟨by omega, by omega⟩ hdl
    obtain ⟨w1, d1, w2, d2, e3, v3, p3, h3, z3, e4, v4, h4, f4⟩ := hk_two (N := N) (k := k) (d := d) (A := s + lead l) (L := l.drop (lead l)) (m := m) (n := n) ⟨hs.k0, hs.k1⟩ (by omega) (by omega) (by omega) ⟨by omega, by omega⟩ ⟨by omega, by omega⟩ hdl
    have m1 := hecke_p (n := (m : Int)) hs hL le1 (by decide) hv hp1 (by omega) (by omega)
    rw [e1] at m1
    have m1 : PC Tryz.prog 22 [serA s es, specA N k d, iV m] (.tup [serA u1 (c1.map encQ), iV 0]) := m1
    have m3 := hecke_p (n := (n : Int)) hs hL le1 (by decide) hv hp1 (by omega) (by omega)
    rw [e3] at m3
    have m3 : PC Tryz.prog 22 [serA s es, specA N k d, iV n] (.tup [serA w1 (d1.map encQ), iV 0]) := m3
    have m2 := hecke_p (s := u1) (es := c1.map encQ) (l := c1) (n := (n : Int)) (K := 1000) hs (isL_enc h1) (by simp) (by decide) (by rw [List.length_map]; exact v1) (by rw [List.length_map]; exact p1) (by omega) (by omega)
    rw [z1, List.drop_zero, show u1 + ((0 : Nat) : Int) = u1 by omega, e2] at m2
    have m2 : PC Tryz.prog 22 [serA u1 (c1.map encQ), specA N k d, iV n] (.tup [serA u2 (c2.map encQ), iV 0]) := m2
    have m4 := hecke_p (s := w1) (es := d1.map encQ) (l := d1) (n := (m : Int)) (K := 1000) hs (isL_enc h3) (by simp) (by decide) (by rw [List.length_map]; exact v3) (by rw [List.length_map]; exact p3) (by omega) (by omega)
    rw [z3, List.drop_zero, show w1 + ((0 : Nat) : Int) = w1 by omega, e4] at m4
    have m4 : PC Tryz.prog 22 [serA w1 (d1.map encQ), specA N k d, iV m] (.tup [serA w2 (d2.map encQ), iV 0]) := m4
    clear k1 e1 e2 e3 e4 h1 h3 v1 v3 p1 p3 z1 z3
    rw [Nat.mul_comm n m, dn_comm n m] at f2
    -- the two are the same
    obtain ⟨pd, hd1⟩ := dif_no v2 v4 (fun M a b => by rw [f2 M a, f4 M b])
    have D1 := differ_p (s := u2) (t := w2) (es := c2.map encQ) (fs := d2.map encQ) (l := c2) (m := d2) (K := 40000) ⟨fun _ _ => ⟨isL_enc h2, isL_enc h4⟩, by simp, by simp, by have := valid_iff.1 v2; exact ⟨by omega, by omega, by rw [List.length_map]; omega⟩, by have := valid_iff.1 v4; exact ⟨by omega, by omega, by rw [List.length_map]; omega⟩⟩ (by decide)
    rw [hd1] at D1
    have D1 : PC Tryz.prog 31 [serA u2 (c2.map encQ), serA w2 (d2.map encQ)] (.tup [iV pd, bV false, iV 0]) := D1
    have hmn36 : m * n ≤ 36 := Nat.mul_le_mul (show m ≤ 6 by omega) (show n ≤ 6 by omega)
    unfold specA at m1 m2 m3 m4 g1
    unfold specA
    refine pc_body1 true Tryz.func4 rfl rfl rfl (Nat.le_of_ble_eq_true rfl) CellT.tmp ?_
    refine goA ?_
    refine evG ggA (ss_call (InB_of rfl) rfl rfl g1) ?_
    refine goA ?_
    refine evG ggA (ss_index_arr (InB_of rfl) arr_two rfl rfl (by decide) (by decide)) ?_
    refine goA ?_
    refine evG ggA (ss_index_arr (InB_of rfl) arr_two rfl rfl (by decide) (by decide)) ?_
    refine goA ?_
    refine evG ggA (ss_index_arr (InB_of rfl) arr_two rfl rfl (by decide) (by decide)) ?_
    refine goA ?_
    refine evG ggA (ss_index_arr (InB_of rfl) arr_two rfl rfl (by decide) (by decide)) ?_
    refine goA ?_
    refine evG ggA (ss_index_arr (InB_of rfl) arr_two rfl rfl (by decide) (by decide)) ?_
    refine goA ?_
    refine evG ggA (ss_call (InB_of rfl) rfl rfl m1) ?_
    refine goA ?_
    refine evG ggA (ss_index_arr (InB_of rfl) arr_two rfl rfl (by decide) (by decide)) ?_
    refine goA ?_
    refine evG ggA (ss_call (InB_of rfl) rfl rfl m2) ?_
    refine goA ?_
    refine evG ggA (ss_index_arr (InB_of rfl) arr_two rfl rfl (by decide) (by decide)) ?_
    refine goA ?_
    refine evG ggA (ss_call (InB_of rfl) rfl rfl m3) ?_
    refine goA ?_
    refine evG ggA (ss_index_arr (InB_of rfl) arr_two rfl rfl (by decide) (by decide)) ?_
    refine goA ?_
    refine evG ggA (ss_call (InB_of rfl) rfl rfl m4) ?_
    refine runA ?_
    refine ev_nil ?_
    (repeat (first | with_reducible refine seqQ_n ?_ | with_reducible refine seqQ_e ?_ | with_reducible refine seqQ_r ?_ | with_reducible refine blockQ_n ?_ | with_reducible refine blockQ_r ?_ | with_reducible refine blockQ_e rfl ?_ | with_reducible refine blockQ_o rfl ?_ | with_reducible refine loopQ_e ?_ | with_reducible refine loopQ_r ?_ | with_reducible refine midQ_e ?_ | with_reducible refine midQ_r ?_ | with_reducible refine roundQ_n ?_ | with_reducible refine roundQ_e ?_ | with_reducible refine roundQ_r ?_))
    refine T.seqI (fun s1 => s1 = mkS [(3, .ptr 3 0), (4, .ptr 4 0), (5, .ptr 5 0), (6, .v (bV false)), (7, .ptr 7 0), (10, .ptr 10 0)] [(3, .var [.v (iV s), .v (.sl es)]), (4, .var [.v (iV N), .v (iV k), .v (iV d)]), (5, .var [.v (iV m), .v (iV n)]), (7, .var [.v (iV u2), .v (.sl (c2.map encQ))]), (10, .var [.v (iV w2), .v (.sl (d2.map encQ))])] 195 true) ?_ ?_
    · refine goA ?_
      exact midQ_intro (by exact entA) rfl
    rintro _ rfl
    refine T.seqI (fun s1 => s1 = mkS [(3, .ptr 3 0), (4, .ptr 4 0), (5, .ptr 5 0), (6, .v (bV false)), (7, .ptr 7 0), (10, .ptr 10 0), (13, .ptr 13 0)] [(3, .var [.v (iV s), .v (.sl es)]), (4, .var [.v (iV N), .v (iV k), .v (iV d)]), (5, .var [.v (iV m), .v (iV n)]), (7, .var [.v (iV u2), .v (.sl (c2.map encQ))]), (10, .var [.v (iV w2), .v (.sl (d2.map encQ))]), (13, .var [.v (iV (1000)), .v (.sl [])])] 195 true) ?_ ?_
    · refine goA ?_
      exact midQ_intro (by exact entA) rfl
    rintro _ rfl
    clear m1 m2 m3 m4 g1
    refine T.seqI (fun s1 => ∃ U C, SumOK N k d (s + lead l) (l.drop (lead l)) m n 7 U C ∧ s1 = mkS [(3, .ptr 3 0), (4, .ptr 4 0), (5, .ptr 5 0), (6, .v (bV false)), (7, .ptr 7 0), (10, .ptr 10 0), (13, .ptr 13 0)] [(3, .var [.v (iV s), .v (.sl es)]), (4, .var [.v (iV N), .v (iV k), .v (iV d)]), (5, .var [.v (iV m), .v (iV n)]), (7, .var [.v (iV u2), .v (.sl (c2.map encQ))]), (10, .var [.v (iV w2), .v (.sl (d2.map encQ))]), (13, .var [.v (iV (U)), .v (.sl (C.map encQ))])] 195 true) ?_ ?_
    · clear D1 aw
      refine r1A ?_
      refine T.block ?_
      refine T.loop (fun z s1 => ∃ (t : Nat) (U : Int) (C : List Rat), z = 7 - t ∧ 1 ≤ t ∧ t ≤ 7 ∧ SumOK N k d (s + lead l) (l.drop (lead l)) m n t U C ∧ s1 = mkS [(3, .ptr 3 0), (4, .ptr 4 0), (5, .ptr 5 0), (6, .v (bV false)), (7, .ptr 7 0), (10, .ptr 10 0), (13, .ptr 13 0), (14, .v (iV (t)))] [(3, .var [.v (iV s), .v (.sl es)]), (4, .var [.v (iV N), .v (iV k), .v (iV d)]), (5, .var [.v (iV m), .v (iV n)]), (7, .var [.v (iV u2), .v (.sl (c2.map encQ))]), (10, .var [.v (iV w2), .v (.sl (d2.map encQ))]), (13, .var [.v (iV (U)), .v (.sl (C.map encQ))])] 195 true) 6
        (s' := mkS [(3, .ptr 3 0), (4, .ptr 4 0), (5, .ptr 5 0), (6, .v (bV false)), (7, .ptr 7 0), (10, .ptr 10 0), (13, .ptr 13 0), (14, .v (iV (1)))] [(3, .var [.v (iV s), .v (.sl es)]), (4, .var [.v (iV N), .v (iV k), .v (iV d)]), (5, .var [.v (iV m), .v (iV n)]), (7, .var [.v (iV u2), .v (.sl (c2.map encQ))]), (10, .var [.v (iV w2), .v (.sl (d2.map encQ))]), (13, .var [.v (iV (1000)), .v (.sl [])])] 195 true) (by exact entA) ⟨1, 1000, [], rfl, by decide, by decide, sum_nil _ _ _ _ _ _ _, rfl⟩ ?_
      rintro z _ ⟨t, U, C, rfl, t1, t7, hS, rfl⟩
      by_cases ht : t ≤ 6
      · have j1 : decide ((t : Int) ≤ 6) = true := decide_eq_true (by omega)
        have rm1 : ((m : Int).tmod (t : Int)) = ((m % t : Nat) : Int) := rfl
        have rn1 : ((n : Int).tmod (t : Int)) = ((n % t : Nat) : Int) := rfl
        by_cases cm : m % t = 0
        · have j2 : (((m % t : Nat) : Int) != 0) = false := by rw [cm]; rfl
          by_cases cn : n % t = 0
          · have j3 : (((n % t : Nat) : Int) != 0) = false := by rw [cn]; rfl
            have hdt1 : t ∣ m := Nat.dvd_of_mod_eq_zero cm
            have hdt2 : t ∣ n := Nat.dvd_of_mod_eq_zero cn
            obtain ⟨w, hw⟩ : ∃ w, m * n = t * t * w := by
              obtain ⟨p, hp⟩ := hdt1
              obtain ⟨q, hq⟩ := hdt2
              exact ⟨p * q, by rw [hp, hq]; grind⟩
            have hw0 : 1 ≤ w := by
              rcases Nat.eq_zero_or_pos w with e | e
              · subst e
                have : 0 < m * n := Nat.mul_pos (by omega) (by omega)
                omega
              · exact e
            have hw36 : w ≤ 36 := by
              have : 1 * w ≤ t * t * w := Nat.mul_le_mul_right _ (Nat.mul_pos t1 t1)
              omega
            have hdd : m * n / t / t = w := by rw [hw, Nat.mul_assoc, Nat.mul_div_cancel_left _ (by omega), Nat.mul_div_cancel_left _ (by omega)]
            have eA : (-2) * (w : Int) ≤ (s + (lead l : Int)) * w := Int.mul_le_mul_of_nonneg_right (by omega) (by omega)
            obtain ⟨W, D, eT, T1, T2, T3, T4, T5, T6, T7, T8, T9⟩ := hk_one (N := N) (k := k) (d := d) (A := s + lead l) (L := l.drop (lead l)) (K := 4) (n := w) ⟨hs.k0, hs.k1⟩ (by omega) (by omega) (by omega) ⟨hw0, hw36⟩ (by omega) (by decide) hdl
            have hDv : ValidP W D.length = true := valid_iff.2 ⟨T1, by omega, by omega⟩
            obtain ⟨X, E, U2, C2, eX, hEv, hEh, eC, hS2⟩ := sum_add hS t1 ht (by rw [Bool.and_eq_true, beq_iff_eq, beq_iff_eq]; exact ⟨cm, cn⟩) ⟨hs.k0, hs.k1⟩ hDv (fun q hq => (T7 q hq).mono (by decide)) (by rw [hdd]; exact T6)
            have mT := hecke_p (n := (w : Int)) hs hL le1 (by decide) hv hp1 (by omega) (by omega)
            rw [eT] at mT
            have mT : PC Tryz.prog 22 [serA s es, .agg [iV N, iV k, iV d], iV w] (.tup [serA W (D.map encQ), iV 0]) := mT
            have iW := valid_iff.1 hDv
            have iU := valid_iff.1 hS.v
            have iE := valid_iff.1 hEv
            have hcb := chiV_bd (N := N) (d := d) (n := (t : Int)) (by omega)
            unfold Bn at hcb
            have cz1 := z_p (chiV N d t) (by omega) (by omega)
            have cz2 := z_p (t : Int) (by omega) (by omega)
            have crs := rraised_p (x := (t : Int)) (n := (k - 1).toNat) (by omega) (by have := hs.k0; omega)
            rw [show (((k - 1).toNat : Nat) : Int) = k - 1 by have := hs.k0; omega] at crs
            have hp15 := pow_le15 (x := (t : Int)) (by omega) (show (k - 1).toNat ≤ 15 by have := hs.k0; omega)
            have hc1 : (chiV N d t).natAbs < pw 1 := by
              have e1 : pw 1 = 4294967296 := by decide
              rw [e1]; omega
            have cmu : PC Tryz.prog 27 [encI (chiV N d t), encI ((t : Int) ^ (k - 1).toNat)] (encI (chiV N d t * (t : Int) ^ (k - 1).toNat)) := (refmul_p (isI_encI hc1) (isI_encI hp15) (by decide) (by decide)).up
            have hmp : (chiV N d t * (t : Int) ^ (k - 1).toNat).natAbs < pw 3 := by
              rw [Int.natAbs_mul]
              have h1 : (chiV N d t).natAbs * ((t : Int) ^ (k - 1).toNat).natAbs ≤ 1 * ((t : Int) ^ (k - 1).toNat).natAbs := Nat.mul_le_mul_right _ (by omega)
              omega
            have cwh := rwhole_p hmp (by decide)
            rw [facQ_int] at cwh
            have hfh := facQ_ht (N := N) (d := d) ⟨hs.k0, hs.k1⟩ (n := (t : Int)) (by omega)
            have csc := scale_p (c := facQ N k d t) (s := W) (es := D.map encQ) (l := D) (K := 1000) (isV_encQ hfh) (fun _ => isL_enc fun q hq => (T7 q hq).mono (by decide)) (by simp) ⟨by omega, by omega, by rw [List.length_map]; omega⟩ (by decide) (by decide) (by decide)
            rw [eX] at csc
            have csc : PC Tryz.prog 25 [encQ (facQ N k d t), serA W (D.map encQ)] (.tup [serA X (E.map encQ), iV 0]) := csc
            have hb1 : 3000 * 4 ^ t ≤ 12288000 := by
              have : 4 ^ t ≤ 4 ^ 6 := Nat.pow_le_pow_right (by decide) ht
              omega
            have cad := add_p (s := U) (t := X) (es := C.map encQ) (fs := E.map encQ) (l := C) (m := E) (K := 12288000) ⟨fun _ _ => ⟨isL_enc fun q hq => (hS.h q hq).mono hb1, isL_enc fun q hq => (hEh q hq).mono (by decide)⟩, by simp, by simp, ⟨by omega, by omega, by rw [List.length_map]; omega⟩, ⟨by omega, by omega, by rw [List.length_map]; omega⟩⟩ (by decide)
            rw [eC] at cad
            have cad : PC Tryz.prog 30 [serA U (C.map encQ), serA X (E.map encQ)] (.tup [serA U2 (C2.map encQ), iV 0]) := cad
            have emn : (m : Int) * (n : Int) = ((m * n : Nat) : Int) := (Int.natCast_mul m n).symm
            obtain ⟨qt, hqt⟩ : ∃ qt, qt = m * n / t := ⟨_, rfl⟩
            have ed1 : (((m * n : Nat) : Int)).tdiv (t : Int) = ((qt : Nat) : Int) := by rw [hqt]; rfl
            have ed2 : ((qt : Nat) : Int).tdiv (t : Int) = ((w : Nat) : Int) := by rw [← hdd, hqt]; rfl
            have hle1 : qt ≤ 36 := by rw [hqt]; exact Nat.le_trans (Nat.div_le_self _ _) hmn36
            clear hqt
            have cg := gcd_p (a := (t : Int)) (b := N) (by unfold Bn; omega) (by have := hs.n0; have := hs.n1; unfold Bn; omega)
            have ck := kronecker_p (a := d) (n := (t : Int)) (by have := hs.d0; have := hs.d1; unfold Bn; omega) (by omega)
            have hkb : -1000 ≤ k - 1 ∧ k - 1 ≤ 1000 := by have := hs.k0; omega
            have hkr := kron_bd (d := d) (n := (t : Int)) (by omega)
            unfold Bn at hkr
            clear eT eX eC T1 T2 T3 T4 T5 T6 T7 T8 T9 hfh hmp hp15 hc1 hDv hEh hEv hdt1 hdt2 iE iU iW
            generalize facQ N k d t = fq at *
            refine goA ?_
            refine evG ggA (ss_index_arr (InB_of rfl) arr_two rfl rfl (by decide) (by decide)) ?_
            refine goA ?_
            refine evG ggA (ss_div (op := .rem) (InB_of rfl) rfl rfl (by omega) rfl) ?_
            rw [rm1]
            refine goA ?_
            refine evG ggA (ss_index_arr (InB_of rfl) arr_two rfl rfl (by decide) (by decide)) ?_
            refine goA ?_
            refine evG ggA (ss_div (op := .rem) (InB_of rfl) rfl rfl (by omega) rfl) ?_
            rw [rn1]
            refine goA ?_
            refine evG ggA (ss_call (InB_of rfl) rfl rfl cg) ?_
            refine goA ?_
            refine T.cutI (fun s1 => s1 = mkS [(3, .ptr 3 0), (4, .ptr 4 0), (5, .ptr 5 0), (6, .v (bV false)), (7, .ptr 7 0), (10, .ptr 10 0), (13, .ptr 13 0), (14, .v (iV (t))), (15, .v (iV (chiV N d t)))] [(3, .var [.v (iV s), .v (.sl es)]), (4, .var [.v (iV N), .v (iV k), .v (iV d)]), (5, .var [.v (iV m), .v (iV n)]), (7, .var [.v (iV u2), .v (.sl (c2.map encQ))]), (10, .var [.v (iV w2), .v (.sl (d2.map encQ))]), (13, .var [.v (iV (U)), .v (.sl (C.map encQ))])] 195 true) ?_ ?_
            · by_cases c : gI t N = 1
              · have kc : (gI t N == 1) = true := by simpa using c
                have ec : chiV N d t = Kr.kron d t := by unfold chiV; rw [if_pos c]
                rw [ec]
                refine goA ?_
                refine evG ggA (ss_call (InB_of rfl) rfl rfl ck) ?_
                refine goA ?_
                exact midQ_intro (by exact entA) rfl
              · have kc : (gI t N == 1) = false := by simpa using c
                have ec : chiV N d t = 0 := by unfold chiV; rw [if_neg c]
                rw [ec]
                refine goA ?_
                exact midQ_intro (by exact entA) rfl
            rintro _ rfl
            clear cg ck hkr
            generalize chiV N d t = ch at *
            refine goA ?_
            refine evG ggA (ss_index_arr (InB_of rfl) arr_two rfl rfl (by decide) (by decide)) ?_
            refine goA ?_
            refine evG ggA (ss_index_arr (InB_of rfl) arr_two rfl rfl (by decide) (by decide)) ?_
            refine goA ?_
            rw [emn]
            refine evG ggA (ss_div (InB_of rfl) rfl rfl (by omega) (w64 (by rw [ed1]; omega) (by rw [ed1]; omega))) ?_
            rw [ed1]
            refine goA ?_
            refine evG ggA (ss_div (InB_of rfl) rfl rfl (by omega) (w64 (by rw [ed2]; omega) (by rw [ed2]; omega))) ?_
            rw [ed2]
            refine goA ?_
            refine evG ggA (ss_call (InB_of rfl) rfl rfl mT) ?_
            refine goA ?_
            refine evG ggA (ss_call (InB_of rfl) rfl rfl cz1) ?_
            refine goA ?_
            refine evG ggA (ss_call (InB_of rfl) rfl rfl cz2) ?_
            refine goA ?_
            refine evG ggA (ss_call (InB_of rfl) rfl rfl crs) ?_
            refine goA ?_
            refine evG ggA (ss_call (InB_of rfl) rfl rfl cmu) ?_
            refine goA ?_
            refine evG ggA (ss_call (InB_of rfl) rfl rfl cwh) ?_
            refine goA ?_
            refine evG ggA (ss_call (InB_of rfl) rfl rfl csc) ?_
            refine goA ?_
            refine evG ggA (ss_call (InB_of rfl) rfl rfl cad) ?_
            refine goA ?_
            exact loopQ_intro (k := 7 - (t + 1)) (s' := mkS [(3, .ptr 3 0), (4, .ptr 4 0), (5, .ptr 5 0), (6, .v (bV false)), (7, .ptr 7 0), (10, .ptr 10 0), (13, .ptr 13 0), (14, .v (iV (((t + 1 : Nat) : Int))))] [(3, .var [.v (iV s), .v (.sl es)]), (4, .var [.v (iV N), .v (iV k), .v (iV d)]), (5, .var [.v (iV m), .v (iV n)]), (7, .var [.v (iV u2), .v (.sl (c2.map encQ))]), (10, .var [.v (iV w2), .v (.sl (d2.map encQ))]), (13, .var [.v (iV (U2)), .v (.sl (C2.map encQ))])] 195 true) (by omega) (by exact entA) ⟨t + 1, U2, C2, rfl, by omega, by omega, hS2, rfl⟩
          · have j3 : (((n % t : Nat) : Int) != 0) = true := by simpa using fun h => cn (by exact_mod_cast h)
            have hS' := sum_skip hS t1 (by rw [Bool.and_eq_false_iff]; right; simpa using cn)
            refine goA ?_
            refine evG ggA (ss_index_arr (InB_of rfl) arr_two rfl rfl (by decide) (by decide)) ?_
            refine goA ?_
            refine evG ggA (ss_div (op := .rem) (InB_of rfl) rfl rfl (by omega) rfl) ?_
            rw [rm1]
            refine goA ?_
            refine evG ggA (ss_index_arr (InB_of rfl) arr_two rfl rfl (by decide) (by decide)) ?_
            refine goA ?_
            refine evG ggA (ss_div (op := .rem) (InB_of rfl) rfl rfl (by omega) rfl) ?_
            rw [rn1]
            refine goA ?_
            exact loopQ_intro (k := 7 - (t + 1)) (s' := mkS [(3, .ptr 3 0), (4, .ptr 4 0), (5, .ptr 5 0), (6, .v (bV false)), (7, .ptr 7 0), (10, .ptr 10 0), (13, .ptr 13 0), (14, .v (iV (((t + 1 : Nat) : Int))))] [(3, .var [.v (iV s), .v (.sl es)]), (4, .var [.v (iV N), .v (iV k), .v (iV d)]), (5, .var [.v (iV m), .v (iV n)]), (7, .var [.v (iV u2), .v (.sl (c2.map encQ))]), (10, .var [.v (iV w2), .v (.sl (d2.map encQ))]), (13, .var [.v (iV (U)), .v (.sl (C.map encQ))])] 195 true) (by omega) (by exact entA) ⟨t + 1, U, C, rfl, by omega, by omega, hS', rfl⟩
        · have j2 : (((m % t : Nat) : Int) != 0) = true := by simpa using fun h => cm (by exact_mod_cast h)
          have hS' := sum_skip hS t1 (by rw [Bool.and_eq_false_iff]; left; simpa using cm)
          refine goA ?_
          refine evG ggA (ss_index_arr (InB_of rfl) arr_two rfl rfl (by decide) (by decide)) ?_
          refine goA ?_
          refine evG ggA (ss_div (op := .rem) (InB_of rfl) rfl rfl (by omega) rfl) ?_
          rw [rm1]
          refine goA ?_
          exact loopQ_intro (k := 7 - (t + 1)) (s' := mkS [(3, .ptr 3 0), (4, .ptr 4 0), (5, .ptr 5 0), (6, .v (bV false)), (7, .ptr 7 0), (10, .ptr 10 0), (13, .ptr 13 0), (14, .v (iV (((t + 1 : Nat) : Int))))] [(3, .var [.v (iV s), .v (.sl es)]), (4, .var [.v (iV N), .v (iV k), .v (iV d)]), (5, .var [.v (iV m), .v (iV n)]), (7, .var [.v (iV u2), .v (.sl (c2.map encQ))]), (10, .var [.v (iV w2), .v (.sl (d2.map encQ))]), (13, .var [.v (iV (U)), .v (.sl (C.map encQ))])] 195 true) (by omega) (by exact entA) ⟨t + 1, U, C, rfl, by omega, by omega, hS', rfl⟩
      · obtain rfl : t = 7 := by omega
        have j1 : decide ((((7 : Nat)) : Int) ≤ 6) = false := rfl
        refine goA ?_
        exact midQ_intro (s' := mkS [(3, .ptr 3 0), (4, .ptr 4 0), (5, .ptr 5 0), (6, .v (bV false)), (7, .ptr 7 0), (10, .ptr 10 0), (13, .ptr 13 0)] [(3, .var [.v (iV s), .v (.sl es)]), (4, .var [.v (iV N), .v (iV k), .v (iV d)]), (5, .var [.v (iV m), .v (iV n)]), (7, .var [.v (iV u2), .v (.sl (c2.map encQ))]), (10, .var [.v (iV w2), .v (.sl (d2.map encQ))]), (13, .var [.v (iV (U)), .v (.sl (C.map encQ))])] 195 true) (by exact entA) ⟨U, C, hS, rfl⟩
    rintro _ ⟨U, C, hS, rfl⟩
    obtain ⟨pe, hd2⟩ := dif_no v2 hS.v (fun M a b => by rw [f2 M a, hS.c M b, dls_end m (by omega) n (by omega) (by omega) (by omega)])
    have D2 := differ_p (s := u2) (t := U) (es := c2.map encQ) (fs := C.map encQ) (l := c2) (m := C) (K := 100000000) ⟨fun _ _ => ⟨isL_enc fun q hq => (h2 q hq).mono (by decide), isL_enc fun q hq => (hS.h q hq).mono (by decide)⟩, by simp, by simp, by have := valid_iff.1 v2; exact ⟨by omega, by omega, by rw [List.length_map]; omega⟩, by have := valid_iff.1 hS.v; exact ⟨by omega, by omega, by rw [List.length_map]; omega⟩⟩ (by decide)
    rw [hd2] at D2
    have D2 : PC Tryz.prog 31 [serA u2 (c2.map encQ), serA U (C.map encQ)] (.tup [iV pe, bV false, iV 0]) := D2
    refine goA ?_
    refine evG ggA (ss_call (InB_of rfl) rfl rfl D1) ?_
    refine goA ?_
    refine evG ggA (ss_call (InB_of rfl) rfl rfl D2) ?_
    refine goA ?_
    refine evG ggA (ss_call (InB_of rfl) rfl rfl aw) ?_
    refine goA ?_
    exact rfl
  · clear k1
    by_cases c1 : x < 1
    · have q1 : decide (x < 1) = true := decide_eq_true c1
      unfold specA at *
      refine pc_body1 true Tryz.func4 rfl rfl rfl (Nat.le_of_ble_eq_true rfl) CellT.tmp ?_
      refine goA ?_
      refine evG ggA (ss_call (InB_of rfl) rfl rfl g1) ?_
      refine goA ?_
      refine evG ggA (ss_index_arr (InB_of rfl) arr_two rfl rfl (by decide) (by decide)) ?_
      refine goA ?_
      refine evG ggA (ss_call (InB_of rfl) rfl rfl aw) ?_
      refine goA ?_
      exact rfl
    have q1 : decide (x < 1) = false := decide_eq_false c1
    by_cases c2 : x > 6
    · have q2 : decide (x > 6) = true := decide_eq_true c2
      unfold specA at *
      refine pc_body1 true Tryz.func4 rfl rfl rfl (Nat.le_of_ble_eq_true rfl) CellT.tmp ?_
      refine goA ?_
      refine evG ggA (ss_call (InB_of rfl) rfl rfl g1) ?_
      refine goA ?_
      refine evG ggA (ss_index_arr (InB_of rfl) arr_two rfl rfl (by decide) (by decide)) ?_
      refine goA ?_
      refine evG ggA (ss_index_arr (InB_of rfl) arr_two rfl rfl (by decide) (by decide)) ?_
      refine goA ?_
      refine evG ggA (ss_call (InB_of rfl) rfl rfl aw) ?_
      refine goA ?_
      exact rfl
    have q2 : decide (x > 6) = false := decide_eq_false c2
    by_cases c3 : y < 1
    · have q3 : decide (y < 1) = true := decide_eq_true c3
      unfold specA at *
      refine pc_body1 true Tryz.func4 rfl rfl rfl (Nat.le_of_ble_eq_true rfl) CellT.tmp ?_
      refine goA ?_
      refine evG ggA (ss_call (InB_of rfl) rfl rfl g1) ?_
      refine goA ?_
      refine evG ggA (ss_index_arr (InB_of rfl) arr_two rfl rfl (by decide) (by decide)) ?_
      refine goA ?_
      refine evG ggA (ss_index_arr (InB_of rfl) arr_two rfl rfl (by decide) (by decide)) ?_
      refine goA ?_
      refine evG ggA (ss_index_arr (InB_of rfl) arr_two rfl rfl (by decide) (by decide)) ?_
      refine goA ?_
      refine evG ggA (ss_call (InB_of rfl) rfl rfl aw) ?_
      refine goA ?_
      exact rfl
    have q3 : decide (y < 1) = false := decide_eq_false c3
    have q4 : decide (y > 6) = true := decide_eq_true (by omega)
    unfold specA at *
    refine pc_body1 true Tryz.func4 rfl rfl rfl (Nat.le_of_ble_eq_true rfl) CellT.tmp ?_
    refine goA ?_
    refine evG ggA (ss_call (InB_of rfl) rfl rfl g1) ?_
    refine goA ?_
    refine evG ggA (ss_index_arr (InB_of rfl) arr_two rfl rfl (by decide) (by decide)) ?_
    refine goA ?_
    refine evG ggA (ss_index_arr (InB_of rfl) arr_two rfl rfl (by decide) (by decide)) ?_
    refine goA ?_
    refine evG ggA (ss_index_arr (InB_of rfl) arr_two rfl rfl (by decide) (by decide)) ?_
    refine goA ?_
    refine evG ggA (ss_index_arr (InB_of rfl) arr_two rfl rfl (by decide) (by decide)) ?_
    refine goA ?_
    refine evG ggA (ss_call (InB_of rfl) rfl rfl aw) ?_
    refine goA ?_
    exact rfl
end Ab
