/- The statement SeriesOperators: its walk. -/
import Derived.Test.YtajhaoapcapgeaaGreatDoorTwY
import Derived.Test.YtajhaoapcapgeaaGreatDoorGood
set_option linter.all false
namespace Ab
open Go Go.RowKit Go.Proofs Hp
set_option maxRecDepth 100000

section
variable {dm : Bool} {P : Program} {ops : Array Oper} {s : AS} {dst : Option Tmp} {ty : TypeId} {pos : String} {after : Array Edge} {g : Option (Nat × Bool)}
def ArrT (P : Program) (t : TypeId) (len n : Nat) : Prop := ∃ e i, P.underlying t = some (.array len e) ∧ P.info? e = some i ∧ i.size = n
/-- an element of an array that is the call's own variable -/
theorem ss_index_arr {t : TypeId} {len n : Nat} {y z : Operand} {k : IntKind} {i : Int} {id o : Nat} (hin : InB s dst) (ht : ArrT P t len n) (hy : s.ev y = some (.ptr id o)) (hz : s.ev z = some (.v (.p (.int k i)))) (h0 : 0 ≤ i) (hi : i < len) : SStep dm P ops ⟨dst, .indexAddr t y z, ty, pos, after, g⟩ s (.ptr id (o + i.toNat * n)) .none :=
  ss_pure hin fun s' hag w0 M0 ρ a w _ hr => by
    obtain ⟨e, ei, h1, h2, h3⟩ := ht
    obtain ⟨h6, b, kk, h7, h8⟩ := hr.ev ((hag.ev (by simp [Op.operands])).trans hy)
    have h9 := Rep.p_inv (hr.ev ((hag.ev (by simp [Op.operands])).trans hz))
    refine ⟨.pointer (some ⟨b, o + i.toNat * n, none⟩), ?_, h6, b, kk, h7, rfl⟩
    have hi' : 0 ≤ i ∧ i < (len : Int) := ⟨h0, hi⟩
    simp [execOp, h8, h9, Instr.indexAt, asIntOf, run_underlying h1, hi', Go.sizeOf, typeInfo, h2, h3, addr_add, Instr.sureAddr]
end
theorem arrT_of {P : Program} {t : TypeId} {len n : Nat} (h : (match P.underlying t with | some (.array l e) => (match P.info? e with | some i => l == len && i.size == n | none => false) | _ => false) = true) : ArrT P t len n := by
  cases hu : P.underlying t with
  | none => rw [hu] at h; cases h
  | some d =>
    rw [hu] at h
    cases d <;> first | cases h | skip
    rename_i l e
    simp only at h
    cases hi : P.info? e with
    | none => rw [hi] at h; cases h
    | some i =>
      rw [hi] at h
      simp only [Bool.and_eq_true, beq_iff_eq] at h
      obtain ⟨rfl, rfl⟩ := h
      exact ⟨e, i, hu, hi, rfl⟩
theorem arr_two : ArrT Tryz.prog 25 2 1 := arrT_of (by kernel_rfl)
theorem nrmM_ht {f : Int} {L : List Rat} {K : Nat} (hL : ∀ q, q ∈ L → Ht q K) (hlen : L.length ≤ 1000000) : (∀ q, q ∈ sL (nrm f L) → Ht q K) ∧ (sL (nrm f L)).length ≤ 1000000 := by
  unfold nrm
  split
  · exact none_ht
  · have hc : ∀ q, q ∈ ncut f L → q ∈ L := fun q hq => by
      unfold ncut at hq
      split at hq
      · simp at hq
      · exact List.mem_of_mem_take hq
    have hn : (ncut f L).length ≤ L.length := by
      unfold ncut
      split
      · exact Nat.zero_le _
      · rw [List.length_take]; omega
    refine ⟨fun q hq => hL q (hc q (List.mem_of_mem_drop hq)), ?_⟩
    show ((ncut f L).drop (lead (ncut f L))).length ≤ _
    rw [List.length_drop]; omega
/-- what is not great is small, or not valid -/
theorem goodM {n : Nat} {a : Ser} (ha : SerOK a) (h : (ValidP a.from' (a.coef.map rawA).length && longB n (a.coef.map rawA)) = false) : ValidP a.from' (a.coef.map rawA).length = true → IsL (a.coef.map rawA) 4 (a.coef.map ratO) ∧ (a.coef.map ratO).length ≤ n := fun hv => by
  rw [hv, Bool.true_and] at h
  obtain ⟨h1, h2⟩ := isL_long ha.dig h
  exact ⟨h1, by rw [List.length_map]; exact h2⟩
def arrA (x y : Int) : AV := .agg [.p (.int .i64 x), .p (.int .i64 y)]
/-- a result is the same as itself -/
theorem sameG_p {f e : Int} {L : List Rat} {K : Nat} (h : ∀ q, q ∈ L → Ht q K) (hK : K ≤ 100000000) (hl : L.length ≤ 1000000) : PC Tryz.prog 11 [serA f (L.map encQ), .p (.int .i64 e), serA f (L.map encQ), .p (.int .i64 e)] (.p (.bool true)) := by
  have c := sameQ_p (s := f) (t := f) (m := L) h (by omega) (by omega)
  rw [decide_eq_true ⟨rfl, rfl⟩] at c
  have hb : (e == e) = true := by simp
  have goal : PC Tryz.prog 11 [serA f (L.map encQ), .p (.int .i64 e), serA f (L.map encQ), .p (.int .i64 e)] (.p (.bool (e == e))) := by
    generalize L.map encQ = l at *
    refine pc_body1 true Tryz.func11 rfl rfl rfl (Nat.le_of_ble_eq_true rfl) CellT.tmp ?_
    refine goA ?_
    refine evG ggA (ss_call (InB_of rfl) rfl rfl c) ?_
    refine goA ?_
    exact rfl
  rw [hb] at goal
  exact goal
/-- a result with its error -/
structure ResG (x : AV) (f e : Int) (L : List Rat) : Prop where
  eq : x = .tup [serA f (L.map encQ), .p (.int .i64 e)]
  ht : ∀ q, q ∈ L → Ht q 5
  len : L.length ≤ 1000000
theorem res_opt {R : Option (Int × List Rat)} (h : (∀ q, q ∈ sL R → Ht q 5) ∧ (sL R).length ≤ 1000000) : ResG (serE R) (sF R) (sE R) (sL R) := ⟨serE_eq R, h.1, h.2⟩
theorem th_g {s : Int} {l : List Rat} (h : ValidP s l.length = true → (∀ q, q ∈ l → Ht q 4) ∧ l.length ≤ 60) : ResG (serE (thR s l)) (sF (thR s l)) (sE (thR s l)) (sL (thR s l)) := by
  refine res_opt ?_
  unfold thR
  cases hv : ValidP s l.length with
  | false => exact none_ht
  | true =>
    obtain ⟨h1, h2⟩ := h hv
    obtain ⟨a0, a1, a2⟩ := valid_iff.1 hv
    simp only [if_true]
    refine nrmM_ht (fun q hq => ?_) (by unfold thL; rw [tk_len]; omega)
    unfold thL at hq
    obtain ⟨i, hi, rfl⟩ := tk_mem hq
    exact (ht_mul (ht_int (c := s + i) (by omega)) (ht_getD (by decide) h1 i) (Nat.le_refl _)).mono (by omega)
theorem con_g {s d : Int} {l : List Rat} (h : ValidP s l.length = true → (∀ q, q ∈ l → Ht q 4) ∧ l.length ≤ 60) : ResG (serE (conR s l d)) (sF (conR s l d)) (sE (conR s l d)) (sL (conR s l d)) := by
  refine res_opt ?_
  unfold conR
  cases hv : ValidP s l.length && (decide (1 ≤ d) && decide (d ≤ 1000)) with
  | false => exact none_ht
  | true =>
    simp only [Bool.and_eq_true, decide_eq_true_eq] at hv
    obtain ⟨hv, m0, m1⟩ := hv
    obtain ⟨h1, h2⟩ := h hv
    obtain ⟨a0, a1, a2⟩ := valid_iff.1 hv
    simp only [if_true]
    have hu1 := upv_bd (n := s) m0 (by omega)
    have hu2 := upv_bd (n := s + (l.length : Int)) m0 (by omega)
    refine nrmM_ht (fun q hq => ?_) (by rw [tk_len]; unfold conN; omega)
    obtain ⟨i, hi, rfl⟩ := tk_mem hq
    unfold conF cf
    split
    · exact ht0 (by decide)
    · exact (ht_getD (by decide) h1 _).mono (by decide)
theorem exp_g {s d : Int} {l : List Rat} (h : ValidP s l.length = true → (∀ q, q ∈ l → Ht q 4) ∧ l.length ≤ 60) : ResG (serE (expR s l d)) (sF (expR s l d)) (sE (expR s l d)) (sL (expR s l d)) := by
  refine res_opt ?_
  unfold expR
  cases hv : ValidP s l.length && (decide (1 ≤ d) && decide (d ≤ 1000)) with
  | false => exact none_ht
  | true =>
    simp only [Bool.and_eq_true, decide_eq_true_eq] at hv
    obtain ⟨hv, m0, m1⟩ := hv
    obtain ⟨h1, h2⟩ := h hv
    obtain ⟨a0, a1, a2⟩ := valid_iff.1 hv
    simp only [if_true]
    have hN : expN s l d ≤ 110000 := by
      unfold expN
      have : d * (-100) ≤ d * (s + lead l) := Int.mul_le_mul_of_nonneg_left (by omega) (by omega)
      omega
    refine nrmM_ht (fun q hq => ?_) (by rw [tk_len]; omega)
    obtain ⟨i, hi, rfl⟩ := tk_mem hq
    unfold expF
    split
    · exact (ht_getD (by decide) (fun q hq => h1 q (List.mem_of_mem_drop hq)) _).mono (by decide)
    · exact ht0 (by decide)
theorem sie_g {s m r : Int} {l : List Rat} (h : ValidP s l.length = true → (∀ q, q ∈ l → Ht q 4) ∧ l.length ≤ 60) : ResG (serE (sieR s l m r)) (sF (sieR s l m r)) (sE (sieR s l m r)) (sL (sieR s l m r)) := by
  refine res_opt ?_
  unfold sieR
  cases hv : ValidP s l.length && (decide (1 ≤ m) && decide (m ≤ 1000)) with
  | false => exact none_ht
  | true =>
    simp only [Bool.and_eq_true, decide_eq_true_eq] at hv
    obtain ⟨h1, h2⟩ := h hv.1
    simp only [if_true]
    refine nrmM_ht (fun q hq => ?_) (by rw [tk_len]; omega)
    obtain ⟨i, hi, rfl⟩ := tk_mem hq
    unfold sieF
    split
    · exact (ht_getD (by decide) h1 _).mono (by decide)
    · exact ht0 (by decide)
theorem tw_g {s d : Int} {l : List Rat} (h : ValidP s l.length = true → (∀ q, q ∈ l → Ht q 4) ∧ l.length ≤ 60) : ∃ (f e : Int) (L : List Rat), ResG (twE s l d) f e L := by
  unfold twE
  cases hv : ValidP s l.length with
  | false => exact ⟨_, _, _, res_opt none_ht⟩
  | true =>
    obtain ⟨h1, h2⟩ := h hv
    obtain ⟨a0, a1, a2⟩ := valid_iff.1 hv
    rw [if_pos rfl]
    split
    · refine ⟨_, _, _, res_opt (nrmM_ht (fun q hq => ?_) (by unfold twL; rw [tk_len]; omega))⟩
      unfold twL at hq
      obtain ⟨i, hi, rfl⟩ := tk_mem hq
      have hb := kron_bd (d := d) (n := s + i) (by omega)
      unfold Bn at hb
      exact (ht_mul (ht_int (c := Kr.kron d (s + i)) (by omega)) (ht_getD (by decide) h1 i) (Nat.le_refl _)).mono (by omega)
    · exact ⟨0, 15, [], rfl, fun q hq => by simp at hq, Nat.zero_le _⟩
set_option maxHeartbeats 8000000 in
theorem operators_p (a : Ser) (n m : Int) (ha : SerOK a) (n0 : -9223372036854775808 ≤ n) (n1 : n ≤ 9223372036854775807) (m0 : -9223372036854775808 ≤ m) (m1 : m ≤ 9223372036854775807) : PC Tryz.prog 3 [serO a, arrA n m] (.p (.bool true)) := by
  have aw := awake_p
  have g1 := great_p 60 (pr_ok ha).1 (by decide) (pr_ok ha).2
  unfold pr at g1
  have k1 := fun h => goodM (n := 60) ha h
  have r1 := inR_ser ha
  have le1 : (a.coef.map rawA).length = (a.coef.map ratO).length := by simp
  unfold serO arrA
  simp only at g1
  generalize a.coef.map ratO = l at *
  generalize a.coef.map rawA = es at *
  generalize a.from' = s at *
  cases hg1 : ValidP s es.length && longB 60 es with
  | true =>
    rw [hg1] at g1
    clear k1
    refine pc_body1 true Tryz.func3 rfl rfl rfl (Nat.le_of_ble_eq_true rfl) CellT.tmp ?_
    refine goA ?_
    refine evG ggA (ss_call (InB_of rfl) rfl rfl g1) ?_
    refine goA ?_
    refine evG ggA (ss_call (InB_of rfl) rfl rfl aw) ?_
    refine goA ?_
    exact rfl
  | false =>
  rw [hg1] at g1
  have hk := k1 hg1
  have hh : ValidP s l.length = true → (∀ q, q ∈ l → Ht q 4) ∧ l.length ≤ 60 := fun v => by
    rw [← le1] at v
    exact ⟨isL_ht (hk v).1 (by decide), (hk v).2⟩
  have p1 := theta_p (fun v => (hk v).1) le1 r1 (by decide)
  have p2 := rtheta_p (fun v => (hk v).1) le1 r1 (by decide) (by decide)
  have p3 := expand_p (d := n) (fun v => (hk v).1) le1 r1 (by decide) n0 n1
  have p4 := rexpand_p (d := n) (fun v => (hk v).1) le1 r1 (by decide) (by decide)
  have p5 := contract_p (d := n) (fun v => (hk v).1) le1 r1 (by decide) n0 n1
  have p6 := rcontract_p (d := n) (fun v => (hk v).1) le1 r1 (by decide) (by decide)
  have p7 := sieve_p (m := n) (r := m) (fun v => (hk v).1) le1 r1 (by decide) n0 n1 m0 m1
  have p8 := rsieve_p (m := n) (r := m) (fun v => (hk v).1) le1 r1 (by decide) (by decide)
  have p9 := twist_p (d := m) (fun v => (hk v).1) le1 r1 (by decide) m0 m1
  have p10 := rtwist_p (d := m) (fun v => (hk v).1) le1 r1 (by decide) (by decide)
  have e1 := th_g hh
  have e2 := exp_g (d := n) hh
  have e3 := con_g (d := n) hh
  have e4 := sie_g (m := n) (r := m) hh
  obtain ⟨f5, c5, L5, e5⟩ := tw_g (d := m) hh
  have q1 := sameG_p (f := sF (thR s l)) (e := sE (thR s l)) e1.ht (by decide) e1.len
  have q2 := sameG_p (f := sF (expR s l n)) (e := sE (expR s l n)) e2.ht (by decide) e2.len
  have q3 := sameG_p (f := sF (conR s l n)) (e := sE (conR s l n)) e3.ht (by decide) e3.len
  have q4 := sameG_p (f := sF (sieR s l n m)) (e := sE (sieR s l n m)) e4.ht (by decide) e4.len
  have q5 := sameG_p (f := f5) (e := c5) e5.ht (by decide) e5.len
  rw [e1.eq] at p1 p2
  rw [e2.eq] at p3 p4
  rw [e3.eq] at p5 p6
  rw [e4.eq] at p7 p8
  rw [e5.eq] at p9 p10
  clear e1 e2 e3 e4 e5 hh hk k1
  generalize sF (thR s l) = f1 at *
  generalize sE (thR s l) = c1 at *
  generalize (sL (thR s l)).map encQ = L1 at *
  generalize sF (expR s l n) = f2 at *
  generalize sE (expR s l n) = c2 at *
  generalize (sL (expR s l n)).map encQ = L2 at *
  generalize sF (conR s l n) = f3 at *
  generalize sE (conR s l n) = c3 at *
  generalize (sL (conR s l n)).map encQ = L3 at *
  generalize sF (sieR s l n m) = f4 at *
  generalize sE (sieR s l n m) = c4 at *
  generalize (sL (sieR s l n m)).map encQ = L4 at *
  generalize L5.map encQ = L5 at *
  refine pc_body1 true Tryz.func3 rfl rfl rfl (Nat.le_of_ble_eq_true rfl) CellT.tmp ?_
  refine goA ?_
  refine evG ggA (ss_call (InB_of rfl) rfl rfl g1) ?_
  refine goA ?_
  refine evG ggA (ss_call (InB_of rfl) rfl rfl p1) ?_
  refine goA ?_
  refine evG ggA (ss_call (InB_of rfl) rfl rfl p2) ?_
  refine goA ?_
  refine evG ggA (ss_call (InB_of rfl) rfl rfl q1) ?_
  refine goA ?_
  refine evG ggA (ss_index_arr (InB_of rfl) arr_two rfl rfl (by decide) (by decide)) ?_
  refine goA ?_
  refine evG ggA (ss_call (InB_of rfl) rfl rfl p3) ?_
  refine goA ?_
  refine evG ggA (ss_index_arr (InB_of rfl) arr_two rfl rfl (by decide) (by decide)) ?_
  refine goA ?_
  refine evG ggA (ss_call (InB_of rfl) rfl rfl p4) ?_
  refine goA ?_
  refine evG ggA (ss_call (InB_of rfl) rfl rfl q2) ?_
  refine goA ?_
  refine evG ggA (ss_index_arr (InB_of rfl) arr_two rfl rfl (by decide) (by decide)) ?_
  refine goA ?_
  refine evG ggA (ss_call (InB_of rfl) rfl rfl p5) ?_
  refine goA ?_
  refine evG ggA (ss_index_arr (InB_of rfl) arr_two rfl rfl (by decide) (by decide)) ?_
  refine goA ?_
  refine evG ggA (ss_call (InB_of rfl) rfl rfl p6) ?_
  refine goA ?_
  refine evG ggA (ss_call (InB_of rfl) rfl rfl q3) ?_
  refine goA ?_
  refine evG ggA (ss_index_arr (InB_of rfl) arr_two rfl rfl (by decide) (by decide)) ?_
  refine goA ?_
  refine evG ggA (ss_index_arr (InB_of rfl) arr_two rfl rfl (by decide) (by decide)) ?_
  refine goA ?_
  refine evG ggA (ss_call (InB_of rfl) rfl rfl p7) ?_
  refine goA ?_
  refine evG ggA (ss_index_arr (InB_of rfl) arr_two rfl rfl (by decide) (by decide)) ?_
  refine goA ?_
  refine evG ggA (ss_index_arr (InB_of rfl) arr_two rfl rfl (by decide) (by decide)) ?_
  refine goA ?_
  refine evG ggA (ss_call (InB_of rfl) rfl rfl p8) ?_
  refine goA ?_
  refine evG ggA (ss_call (InB_of rfl) rfl rfl q4) ?_
  refine goA ?_
  refine evG ggA (ss_index_arr (InB_of rfl) arr_two rfl rfl (by decide) (by decide)) ?_
  refine goA ?_
  refine evG ggA (ss_call (InB_of rfl) rfl rfl p9) ?_
  refine goA ?_
  refine evG ggA (ss_index_arr (InB_of rfl) arr_two rfl rfl (by decide) (by decide)) ?_
  refine goA ?_
  refine evG ggA (ss_call (InB_of rfl) rfl rfl p10) ?_
  refine goA ?_
  refine evG ggA (ss_call (InB_of rfl) rfl rfl q5) ?_
  refine goA ?_
  refine evG ggA (ss_call (InB_of rfl) rfl rfl aw) ?_
  refine goA ?_
  exact rfl
end Ab
