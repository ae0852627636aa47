/- Package ref33: Scale, Shift, Monomial; arrays; in abstract values. -/
import Derived.Test.YtmcfohngblbpbaaRefQ
import Derived.Test.YtmcfohngblbpbaaSplN
namespace Ab
open Go Go.RowKit Go.Proofs Hp
set_option maxRecDepth 100000

section
variable {dm : Bool} {P : Program} {ops : Array Oper} {s : AS} {dst : Option Tmp} {ty : TypeId} {pos : String} {after : Array Edge} {g : Option (Nat × Bool)}
def ArrT (P : Program) (t : TypeId) (len n : Nat) : Prop := ∃ e i, P.underlying t = some (.array len e) ∧ P.info? e = some i ∧ i.size = n
/-- an element of an array that is the call's own variable -/
theorem ss_index_arr {t : TypeId} {len n : Nat} {y z : Operand} {k : IntKind} {i : Int} {id o : Nat} (hin : InB s dst) (ht : ArrT P t len n) (hy : s.ev y = some (.ptr id o)) (hz : s.ev z = some (.v (.p (.int k i)))) (h0 : 0 ≤ i) (hi : i < len) : SStep dm P ops ⟨dst, .indexAddr t y z, ty, pos, after, g⟩ s (.ptr id (o + i.toNat * n)) .none :=
  ss_pure hin fun s' hag w0 M0 ρ a w _ hr => by
    obtain ⟨e, ei, h1, h2, h3⟩ := ht
    obtain ⟨h6, b, kk, h7, h8⟩ := hr.ev ((hag.ev (by simp [Op.operands])).trans hy)
    have h9 := Rep.p_inv (hr.ev ((hag.ev (by simp [Op.operands])).trans hz))
    refine ⟨.pointer (some ⟨b, o + i.toNat * n, none⟩), ?_, h6, b, kk, h7, rfl⟩
    have hi' : 0 ≤ i ∧ i < (len : Int) := ⟨h0, hi⟩
    simp [execOp, h8, h9, Instr.indexAt, asIntOf, run_underlying h1, hi', Go.sizeOf, typeInfo, h2, h3, addr_add, Instr.sureAddr]
end
theorem arrT_of {P : Program} {t : TypeId} {len n : Nat} (h : (match P.underlying t with | some (.array l e) => (match P.info? e with | some i => l == len && i.size == n | none => false) | _ => false) = true) : ArrT P t len n := by
  cases hu : P.underlying t with
  | none => rw [hu] at h; cases h
  | some d =>
    rw [hu] at h
    cases d <;> first | cases h | skip
    rename_i l e
    simp only at h
    cases hi : P.info? e with
    | none => rw [hi] at h; cases h
    | some i =>
      rw [hi] at h
      simp only [Bool.and_eq_true, beq_iff_eq] at h
      obtain ⟨rfl, rfl⟩ := h
      exact ⟨e, i, hu, hi, rfl⟩
theorem arr_two : ArrT Try.prog 38 2 1 := arrT_of (by kernel_rfl)
/-- a multiple -/
def sclR (c : Rat) (s : Int) (l : List Rat) : Option (Int × List Rat) := if ValidP s l.length then nrm s (tk (fun i => c * l.getD i 0) l.length) else none
set_option maxHeartbeats 2000000 in
theorem rscale_p {a : AV} {c : Rat} {k : Nat} {s : Int} {es : List AV} {l : List Rat} {K : Nat} (ha : IsV a k c) (h : ValidP s es.length = true → IsL es K l) (hle : es.length = l.length) (hr : InR s es.length) (hk : 1 ≤ k) (hK : 1 ≤ K) (hkK : k + K ≤ 100000000) : PC Try.prog 21 [a, serA s es] (serE (sclR c s l)) := by
  have cch := check_p (es := es) hr.1 hr.2 hr.3
  obtain ⟨g, xs, g', xs', rfl⟩ := isV_cells ha
  rw [serE_eq]
  unfold sclR
  rw [← hle]
  cases hv : ValidP s es.length with
  | false =>
    rw [hv] at cch
    refine pc_body2 true Try.func21 rfl rfl rfl (Nat.le_of_ble_eq_true rfl) (CellT.agg agg_ser) CellT.tmp ?_
    refine goA ?_
    refine evG ggA (ss_call (InB_of rfl) rfl rfl cch) ?_
    refine goA ?_
    exact rfl
  | true =>
  rw [hv] at cch
  have hL := h hv
  obtain ⟨a0, a1, a2⟩ := valid_iff.1 hv
  obtain ⟨N, hN⟩ : ∃ N, N = es.length := ⟨_, rfl⟩
  have hF : ∀ (i : Nat) q, l[i]? = some q → (fun i => c * l.getD i 0) i = c * q := fun i q hq => by
    show c * l.getD i 0 = _
    rw [List.getD_eq_getElem?_getD, hq]; rfl
  have hhF : ∀ i, Ht ((fun i => c * l.getD i 0) i) (k + K) := fun i => ht_mul (isV_ht ha hk) (ht_getD hK (isL_ht hL hK) i) hk
  rw [← hN]
  generalize (fun i => c * l.getD i 0) = F at *
  refine pc_body2 true Try.func21 rfl rfl rfl (Nat.le_of_ble_eq_true rfl) (CellT.agg agg_ser) CellT.tmp ?_
  refine r1A ?_
  refine T.seqI (fun s1 => s1 = mkS [(2, .ptr 2 0), (3, .ptr 3 0), (4, .ptr 4 0)] [(2, .var [.v (.p (.bool g)), .v (.sl xs), .v (.p (.bool g')), .v (.sl xs')]), (3, .var [.v (.p (.int .i64 s)), .v (.sl es)]), (4, var0)] 38 true) ?_ ?_
  · refine goA ?_
    refine evG ggA (ss_call (InB_of rfl) rfl rfl cch) ?_
    refine goA ?_
    exact midQ_intro (by exact entA) rfl
  rintro _ rfl
  refine r1A ?_
  refine T.seqI (fun s1 => s1 = mkS [(3, .ptr 3 0), (4, .ptr 4 0), (7, .own 100 N)] [(3, .var [.v (.p (.int .i64 s)), .v (.sl es)]), (4, var0), (100, .lst 4 37 ((tk F N).map encQ))] 38 true) ?_ ?_
  · refine r1A ?_
    refine T.block ?_
    refine T.loop (fun n s1 => ∃ j : Nat, n = N - j ∧ j ≤ N ∧ s1 = mkS [(2, .ptr 2 0), (3, .ptr 3 0), (4, .ptr 4 0), (7, .own 100 j), (8, .v (.p (.int .i64 (j : Nat))))] [(2, .var [.v (.p (.bool g)), .v (.sl xs), .v (.p (.bool g')), .v (.sl xs')]), (3, .var [.v (.p (.int .i64 s)), .v (.sl es)]), (4, var0), (100, .lst 4 37 ((tk F j).map encQ))] 38 true) N
      (s' := mkS [(2, .ptr 2 0), (3, .ptr 3 0), (4, .ptr 4 0), (7, .own 100 0), (8, .v (.p (.int .i64 (0 : Nat))))] [(2, .var [.v (.p (.bool g)), .v (.sl xs), .v (.p (.bool g')), .v (.sl xs')]), (3, .var [.v (.p (.int .i64 s)), .v (.sl es)]), (4, var0), (100, .lst 4 37 ((tk F 0).map encQ))] 38 true) (by exact entA) ⟨0, rfl, Nat.zero_le _, rfl⟩ ?_
    rintro n _ ⟨j, rfl, hj, rfl⟩
    by_cases hlt : j < N
    · have hb : decide ((j : Int) < (es.length : Int)) = true := by simp; omega
      obtain ⟨y, ys, y', ys', q, e1, e2, e3⟩ := hL.at (i := j) (by omega)
      have e1' : es[((j : Nat) : Int).toNat]? = some (.agg [.p (.bool y), .sl ys, .p (.bool y'), .sl ys']) := by rw [Int.toNat_natCast]; exact e1
      have cm : PC Try.prog 54 _ _ := (refmul2_p ha e3 (by omega)).up
      rw [← hF j q e2] at cm
      clear hF hhF hL h ha
      refine goA ?_
      refine evG ggA (ss_index_sl (InB_of rfl) (elem_tab rfl) rfl rfl (by omega) e1' rfl) ?_
      refine goA ?_
      refine evG ggA (ss_call (InB_of rfl) rfl rfl cm) ?_
      (refine evG ggA (ss_bslice (InB_of rfl) (make_tab rfl) rfl rfl rfl rfl (one_ok rfl rfl) (Nat.le_of_ble_eq_true rfl)) ?_; refine evG ggA (ss_snoc (InB_of rfl) (make_tab rfl) rfl rfl (by first | rfl | assumption | (simp; done) | (simp; omega)) rfl (by omega) (Nat.le_of_ble_eq_true rfl) rfl) ?_)
      refine goA ?_
      exact loopQ_intro (k := N - (j + 1)) (s' := mkS [(2, .ptr 2 0), (3, .ptr 3 0), (4, .ptr 4 0), (7, .own 100 (j + 1)), (8, .v (.p (.int .i64 ((j : Int) + 1))))] [(2, .var [.v (.p (.bool g)), .v (.sl xs), .v (.p (.bool g')), .v (.sl xs')]), (3, .var [.v (.p (.int .i64 s)), .v (.sl es)]), (4, var0), (100, .lst 4 37 ((tk F j ++ [F j]).map encQ))] 38 true) (by omega) (by exact entA) ⟨j + 1, rfl, hlt, by rw [tk_succ]; rfl⟩
    · obtain rfl : j = N := by omega
      have hb : decide ((j : Int) < (es.length : Int)) = false := by simp; omega
      refine goA ?_
      exact midQ_intro (s' := mkS [(3, .ptr 3 0), (4, .ptr 4 0), (7, .own 100 j)] [(3, .var [.v (.p (.int .i64 s)), .v (.sl es)]), (4, var0), (100, .lst 4 37 ((tk F j).map encQ))] 38 true) (by exact entA) rfl
  rintro _ rfl
  have hbuild := result_p (s := s) (isL_enc (l := tk F N) (k := k + K) (fun q hq => by obtain ⟨i, -, rfl⟩ := tk_mem hq; exact hhF i)) (by omega) (by omega) (by omega) (by rw [tk_len]; omega)
  rw [serE_eq] at hbuild
  refine T.weak (s' := mkS [(3, .ptr 3 0), (4, .ptr 4 0), (7, .v (.sl ((tk F N).map encQ)))] [(3, .var [.v (.p (.int .i64 s)), .v (.sl es)]), (4, var0)] 38 true) (by exact entA) ?_
  refine goA ?_
  refine evG ggA (ss_call (InB_of rfl) rfl rfl hbuild) ?_
  refine goA ?_
  exact rfl
/-- a shift -/
def shiR (s : Int) (l : List Rat) (n : Int) : Option (Int × List Rat) := if ValidP s l.length && (decide (-1100 ≤ n) && decide (n ≤ 1100)) then nrm (s + n) l else none
theorem nrm_end {s : Int} {l : List Rat} (h : 1000 ≤ s) : nrm s l = some (1000, []) := by
  have h1 : nfrom s = 1000 := by unfold nfrom; split <;> omega
  have h2 : ncut s l = [] := by
    unfold ncut
    split
    · rfl
    · rw [show (1000 - s).toNat = 0 by omega, List.take_zero]
  unfold nrm
  rw [h1, h2]
  rfl
theorem nrm_drop (f : Int) (l : List Rat) : nrm (f + lead l) (l.drop (lead l)) = nrm f l := by
  have hk := lead_le l
  by_cases h1 : 1000 ≤ f
  · rw [nrm_end h1, nrm_end (by omega)]
  obtain ⟨c, hc⟩ : ∃ c : Nat, (c : Int) = 1000 - f := ⟨(1000 - f).toNat, by omega⟩
  have e1 : nfrom f = f := by unfold nfrom; rw [if_neg (by omega)]
  have e2 : ncut f l = l.take c := by unfold ncut; rw [if_neg (by omega), show (1000 - f).toNat = c by omega]
  by_cases h2 : 1000 ≤ f + lead l
  · have hlen : (l.take c).length = c := by rw [List.length_take]; omega
    have e3 : lead (l.take c) = c := by
      refine lead_eq (fun i hi => ?_) (fun q hq => ?_) (by omega)
      · rw [List.getElem?_take_of_lt hi]; exact lead_zero l i (by omega)
      · rw [List.getElem?_eq_none (by omega)] at hq; cases hq
    rw [nrm_end h2]
    unfold nrm
    rw [e1, e2, e3, if_neg (by omega), show f + (c : Int) = 1000 by omega, List.drop_of_length_le (by omega)]
  · have e3 : lead (l.take c) = lead l := by
      refine lead_eq (fun i hi => ?_) (fun q hq => ?_) (by rw [List.length_take]; omega)
      · rw [List.getElem?_take_of_lt (by omega)]; exact lead_zero l i hi
      · rw [List.getElem?_take_of_lt (by omega)] at hq; exact lead_ne l q hq
    have e4 : nfrom (f + lead l) = f + lead l := by unfold nfrom; rw [if_neg (by omega)]
    have e5 : ncut (f + lead l) (l.drop (lead l)) = (l.take c).drop (lead l) := by
      unfold ncut
      rw [if_neg (by omega), show (1000 - (f + (lead l : Int))).toNat = c - lead l by omega, List.drop_take]
    have e6 : lead ((l.take c).drop (lead l)) = 0 := by rw [← e3]; exact lead_drop (l.take c)
    unfold nrm
    rw [e1, e2, e3, e4, e5, e6]
    simp
theorem rshift_p {s n : Int} {es : List AV} {l : List Rat} {K : Nat} (h : ValidP s es.length = true → IsL es K l) (hle : es.length = l.length) (hr : InR s es.length) (hK : 1 ≤ K ∧ K ≤ 100000000) (n0 : -9223372036854775808 ≤ n) (n1 : n ≤ 9223372036854775807) : PC Try.prog 23 [serA s es, .p (.int .i64 n)] (serE (shiR s l n)) := by
  have cch := check_p (es := es) hr.1 hr.2 hr.3
  rw [serE_eq]
  unfold shiR
  rw [← hle]
  cases hv : ValidP s es.length with
  | false =>
    rw [hv] at cch
    refine pc_body2 true Try.func23 rfl rfl rfl (Nat.le_of_ble_eq_true rfl) (CellT.agg agg_ser) CellT.tmp ?_
    refine goA ?_
    refine evG ggA (ss_call (InB_of rfl) rfl rfl cch) ?_
    refine goA ?_
    exact rfl
  | true =>
  rw [hv] at cch
  have hL := h hv
  obtain ⟨a0, a1, a2⟩ := valid_iff.1 hv
  by_cases h1 : -1100 ≤ n
  · have b1 : decide (n < -1100) = false := by simp; omega
    by_cases h2 : n ≤ 1100
    · have b2 : decide (n > 1100) = false := by simp; omega
      have hbuild := result_p (s := s + n) hL (by omega) (by omega) (by omega) (by omega)
      rw [serE_eq] at hbuild
      have e : (if (true && (decide (-1100 ≤ n) && decide (n ≤ 1100))) = true then nrm (s + n) l else none) = nrm (s + n) l := by simp [h1, h2]
      rw [e]
      refine pc_body2 true Try.func23 rfl rfl rfl (Nat.le_of_ble_eq_true rfl) (CellT.agg agg_ser) CellT.tmp ?_
      refine goA ?_
      refine evG ggA (ss_call (InB_of rfl) rfl rfl cch) ?_
      refine goA ?_
      refine evG ggA (ss_call (InB_of rfl) rfl rfl hbuild) ?_
      refine goA ?_
      exact rfl
    · have b2 : decide (n > 1100) = true := by simp; omega
      have e : (if (true && (decide (-1100 ≤ n) && decide (n ≤ 1100))) = true then nrm (s + n) l else none) = none := by simp [h2]
      rw [e]
      refine pc_body2 true Try.func23 rfl rfl rfl (Nat.le_of_ble_eq_true rfl) (CellT.agg agg_ser) CellT.tmp ?_
      refine goA ?_
      refine evG ggA (ss_call (InB_of rfl) rfl rfl cch) ?_
      refine goA ?_
      exact rfl
  · have b1 : decide (n < -1100) = true := by simp; omega
    have e : (if (true && (decide (-1100 ≤ n) && decide (n ≤ 1100))) = true then nrm (s + n) l else none) = none := by simp [h1]
    rw [e]
    refine pc_body2 true Try.func23 rfl rfl rfl (Nat.le_of_ble_eq_true rfl) (CellT.agg agg_ser) CellT.tmp ?_
    refine goA ?_
    refine evG ggA (ss_call (InB_of rfl) rfl rfl cch) ?_
    refine goA ?_
    exact rfl
theorem shift_p {s n : Int} {es : List AV} {l : List Rat} {K : Nat} (h : ValidP s es.length = true → IsL es K l) (hle : es.length = l.length) (hr : InR s es.length) (hK : 1 ≤ K ∧ K ≤ 100000000) (n0 : -9223372036854775808 ≤ n) (n1 : n ≤ 9223372036854775807) : PC Try.prog 22 [serA s es, .p (.int .i64 n)] (serE (shiR s l n)) := by
  have hva := valid_p hr.1 hr.2 hr.3
  rw [serE_eq]
  unfold shiR
  rw [← hle]
  cases hv : ValidP s es.length with
  | false =>
    rw [hv] at hva
    refine pc_body2 true Try.func22 rfl rfl rfl (Nat.le_of_ble_eq_true rfl) (CellT.agg agg_ser) CellT.tmp ?_
    refine goA ?_
    refine evG ggA (ss_call (InB_of rfl) rfl rfl hva) ?_
    refine goA ?_
    exact rfl
  | true =>
  rw [hv] at hva
  have hL := h hv
  obtain ⟨a0, a1, a2⟩ := valid_iff.1 hv
  have hta := tidy_p hL (by omega) a0 a1 a2
  have hla := lead_le l
  by_cases h1 : -1100 ≤ n
  · have b1 : decide (n < -1100) = false := by simp; omega
    by_cases h2 : n ≤ 1100
    · have b2 : decide (n > 1100) = false := by simp; omega
      have hbuild := build_p (s := s + (lead l : Int) + n) (isL_enc (l := l.drop (lead l)) (k := K) (fun q hq => isL_ht hL hK.1 q (List.mem_of_mem_drop hq))) (by omega) (by omega) (by omega) (by rw [List.length_drop]; omega)
      rw [show s + (lead l : Int) + n = s + n + lead l by omega, nrm_drop, show s + n + (lead l : Int) = s + (lead l : Int) + n by omega, serE_eq] at hbuild
      have e : (if (true && (decide (-1100 ≤ n) && decide (n ≤ 1100))) = true then nrm (s + n) l else none) = nrm (s + n) l := by simp [h1, h2]
      rw [e]
      refine pc_body2 true Try.func22 rfl rfl rfl (Nat.le_of_ble_eq_true rfl) (CellT.agg agg_ser) CellT.tmp ?_
      refine goA ?_
      refine evG ggA (ss_call (InB_of rfl) rfl rfl hva) ?_
      refine goA ?_
      refine evG ggA (ss_call (InB_of rfl) rfl rfl hta) ?_
      refine goA ?_
      refine evG ggA (ss_call (InB_of rfl) rfl rfl hbuild) ?_
      refine goA ?_
      exact rfl
    · have b2 : decide (n > 1100) = true := by simp; omega
      have e : (if (true && (decide (-1100 ≤ n) && decide (n ≤ 1100))) = true then nrm (s + n) l else none) = none := by simp [h2]
      rw [e]
      refine pc_body2 true Try.func22 rfl rfl rfl (Nat.le_of_ble_eq_true rfl) (CellT.agg agg_ser) CellT.tmp ?_
      refine goA ?_
      refine evG ggA (ss_call (InB_of rfl) rfl rfl hva) ?_
      refine goA ?_
      exact rfl
  · have b1 : decide (n < -1100) = true := by simp; omega
    have e : (if (true && (decide (-1100 ≤ n) && decide (n ≤ 1100))) = true then nrm (s + n) l else none) = none := by simp [h1]
    rw [e]
    refine pc_body2 true Try.func22 rfl rfl rfl (Nat.le_of_ble_eq_true rfl) (CellT.agg agg_ser) CellT.tmp ?_
    refine goA ?_
    refine evG ggA (ss_call (InB_of rfl) rfl rfl hva) ?_
    refine goA ?_
    exact rfl
end Ab
