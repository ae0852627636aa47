/- Quotients of series: the program's and the document's. -/
import Derived.Test.YtmcfohngblbpbaaGreatZrodB
import Derived.Test.YtmcfohngblbpbaaGreatZumC
namespace Ab
open Go Go.RowKit Go.Proofs Hp
set_option maxRecDepth 100000

def quoT (s : Int) (l : List Rat) (t : Int) (m : List Rat) : Res :=
  if ValidP s l.length then (if (invT t m).2.2 = 0 then nrmT (mulR s l (invT t m).1 (invT t m).2.1) else (0, [], (invT t m).2.2)) else (0, [], 2)
theorem inv_ok {t : Int} {m : List Rat} (hm : ValidP t m.length = true → (∀ q, q ∈ m → Ht q 4) ∧ m.length ≤ 24) (h0 : (invT t m).2.2 = 0) : ValidP (invT t m).1 (invT t m).2.1.length = true ∧ (∀ q, q ∈ (invT t m).2.1 → Ht q 1308622848) ∧ (invT t m).2.1.length ≤ 24 := by
  unfold invT at h0 ⊢
  cases hv : ValidP t m.length with
  | false => rw [hv] at h0; cases h0
  | true =>
  rw [hv] at h0
  simp only [if_true] at h0 ⊢
  obtain ⟨a0, a1, a2⟩ := valid_iff.1 hv
  obtain ⟨hh, h24⟩ := hm hv
  by_cases hA : m.drop (lead m) = []
  · rw [if_pos hA] at h0; cases h0
  rw [if_neg hA] at h0 ⊢
  have hA0 : 0 < (m.drop (lead m)).length := List.length_pos_iff.2 hA
  have hla := lead_le m
  have hld : (m.drop (lead m)).length + lead m = m.length := by rw [List.length_drop]; omega
  have hhl : ∀ q, q ∈ m.drop (lead m) → Ht q 4 := fun q hq => hh q (List.mem_of_mem_drop hq)
  have hl2 := ivs_len (m.drop (lead m)) (m.drop (lead m)).length
  have hivh := ht_iv (by decide) hhl (m.drop (lead m)).length (by omega)
  have hX : ∀ q, q ∈ ivs (m.drop (lead m)) (m.drop (lead m)).length → Ht q 1308622848 := fun q hq => by
    obtain ⟨i, hi⟩ := List.getElem?_of_mem hq
    have hil : i < (m.drop (lead m)).length := by rw [← hl2]; exact (List.getElem?_eq_some_iff.1 hi).1
    have := hivh i hil
    rw [List.getD_eq_getElem?_getD, hi] at this
    refine this.mono ?_
    have h1 := HB_mono 4 (show i ≤ 23 by omega)
    have h2 : HB 4 23 = 1308622848 := rfl
    omega
  have hX0 : ∀ q, (ivs (m.drop (lead m)) (m.drop (lead m)).length)[0]? = some q → q ≠ 0 := fun q hq => by
    have h1 := ivs_get (m.drop (lead m)) (m.drop (lead m)).length 0 hA0
    rw [List.getD_eq_getElem?_getD, hq, if_pos rfl] at h1
    have h1 : q = 1 / (m.drop (lead m)).getD 0 0 := h1
    have h2 : (m.drop (lead m))[0]? = some (m.drop (lead m))[0] := List.getElem?_eq_getElem hA0
    have h3 : (m.drop (lead m)).getD 0 0 ≠ 0 := by
      rw [List.getD_eq_getElem?_getD, h2]
      exact lead_ne m _ (by rw [List.getElem?_drop] at h2; exact h2)
    intro h4
    rw [h4, Rat.div_def, Rat.one_mul] at h1
    exact h3 (by rw [← Rat.inv_inv ((m.drop (lead m)).getD 0 0), ← h1]; exact Rat.inv_zero)
  generalize ivs (m.drop (lead m)) (m.drop (lead m)).length = X at *
  by_cases hlo : -100 ≤ -(t + (lead m : Int))
  · obtain ⟨u, c, e1, e2, e3, e4, -, -, e7, -⟩ := nrm_out (s := -(t + (lead m : Int))) (l := X) (K := 1308622848) hlo (by omega) hX
    rw [e1]
    have hle : c.length ≤ X.length := by
      have hx : nrm (-(t + (lead m : Int))) X = some (u, c) := e1
      rw [nrm_valid hlo (by omega) (by omega)] at hx
      injection hx with hx
      injection hx with h1 h2
      rw [← h2, List.length_drop]; omega
    have hc24 : c.length ≤ 24 := by omega
    exact ⟨Out.v e2 e3 e4, e7, hc24⟩
  · exfalso
    have hl0 : lead X = 0 := lead_eq (fun i hi => absurd hi (Nat.not_lt_zero _)) hX0 (Nat.zero_le _)
    have hn : nrm (-(t + (lead m : Int))) X = none := by
      have h1 : nfrom (-(t + (lead m : Int))) = -(t + lead m) := by unfold nfrom; rw [if_neg (by omega)]
      have h2 : ncut (-(t + (lead m : Int))) X = X := by unfold ncut; rw [if_neg (by omega), List.take_of_length_le (by omega)]
      unfold nrm
      rw [h1, h2, hl0, if_pos (by omega)]
    rw [hn] at h0
    cases h0
/-- a result with its error -/
theorem serT_eq (r : Res) : serT r = .tup [serA r.1 (r.2.1.map encQ), .p (.int .i64 r.2.2)] := rfl
set_option maxHeartbeats 2000000 in
theorem quo_p {s t : Int} {es fs : List AV} {l m : List Rat} (ha : ValidP s es.length = true → IsL es 4 l ∧ l.length ≤ 24) (hb : ValidP t fs.length = true → IsL fs 4 m ∧ m.length ≤ 24) (hle : es.length = l.length) (hlf : fs.length = m.length) (i1 : InR s es.length) (i2 : InR t fs.length) : PC Tryz.prog 15 [serA s es, serA t fs] (serT (quoT s l t m)) := by
  have hva := valid_p i1.1 i1.2 i1.3
  have ci := inv_p hb hlf i2 (by decide)
  unfold quoT
  rw [← hle]
  cases h1 : ValidP s es.length with
  | false =>
    rw [h1] at hva
    refine pc_body2 true Tryz.func15 rfl rfl rfl (Nat.le_of_ble_eq_true rfl) (CellT.agg agg_ser) CellT.tmp ?_
    refine goA ?_
    refine evG ggA (ss_call (InB_of rfl) rfl rfl hva) ?_
    refine goA ?_
    exact rfl
  | true =>
  rw [h1] at hva
  simp only [if_true]
  obtain ⟨hL, h24⟩ := ha h1
  by_cases h0 : (invT t m).2.2 = 0
  · rw [if_pos h0]
    obtain ⟨vc, hc, hc24⟩ := inv_ok (fun v => by rw [← hlf] at v; exact ⟨isL_ht (hb v).1 (by decide), (hb v).2⟩) h0
    have cm := mul_g (M := 24) (t := (invT t m).1) (both_mk (hL.mono (show 4 ≤ 1308622848 by decide)) (isL_enc hc) i1 (inR_enc vc)) (by decide) (by decide) (by decide) (fun _ => by omega)
    rw [serE_T] at cm
    have hbn : ((invT t m).2.2 != 0) = false := by simp [h0]
    generalize (invT t m) = r at *
    obtain ⟨u, c, e⟩ := r
    clear ha hb hL hc vc
    refine pc_body2 true Tryz.func15 rfl rfl rfl (Nat.le_of_ble_eq_true rfl) (CellT.agg agg_ser) CellT.tmp ?_
    refine goA ?_
    refine evG ggA (ss_call (InB_of rfl) rfl rfl hva) ?_
    refine goA ?_
    refine evG ggA (ss_call (InB_of rfl) rfl rfl ci) ?_
    refine goA ?_
    refine evG ggA (ss_call (InB_of rfl) rfl rfl cm) ?_
    refine goA ?_
    exact rfl
  · rw [if_neg h0]
    have hbn : ((invT t m).2.2 != 0) = true := by simp [h0]
    generalize (invT t m) = r at *
    obtain ⟨u, c, e⟩ := r
    clear ha hb hL
    refine pc_body2 true Tryz.func15 rfl rfl rfl (Nat.le_of_ble_eq_true rfl) (CellT.agg agg_ser) CellT.tmp ?_
    refine goA ?_
    refine evG ggA (ss_call (InB_of rfl) rfl rfl hva) ?_
    refine goA ?_
    refine evG ggA (ss_call (InB_of rfl) rfl rfl ci) ?_
    refine goA ?_
    exact rfl
set_option maxHeartbeats 2000000 in
theorem rquo33_p {s t : Int} {es fs : List AV} {l m : List Rat} (ha : ValidP s es.length = true → IsL es 4 l ∧ l.length ≤ 24) (hb : ValidP t fs.length = true → IsL fs 4 m ∧ m.length ≤ 24) (hle : es.length = l.length) (hlf : fs.length = m.length) (i1 : InR s es.length) (i2 : InR t fs.length) : PC Tryz.prog 16 [serA s es, serA t fs] (serT (quoT s l t m)) := by
  have ctw := two_p i1 i2
  have ci := rinv_p hb hlf i2 (by decide)
  unfold quoT
  rw [← hle]
  cases hv : ValidP s es.length && ValidP t fs.length with
  | false =>
    rw [hv] at ctw
    have e : (if ValidP s es.length = true then (if (invT t m).2.2 = 0 then nrmT (mulR s l (invT t m).1 (invT t m).2.1) else (0, [], (invT t m).2.2)) else (0, [], 2)) = ((0, [], 2) : Res) := by
      cases h1 : ValidP s es.length with
      | false => rfl
      | true =>
        have h2 : ValidP t m.length = false := by rw [h1, hlf] at hv; exact hv
        have h3 : invT t m = (0, [], 2) := by unfold invT; rw [h2]; rfl
        rw [h3]
        rfl
    rw [e]
    refine pc_body2 true Tryz.func16 rfl rfl rfl (Nat.le_of_ble_eq_true rfl) (CellT.agg agg_ser) CellT.tmp ?_
    refine goA ?_
    refine evG ggA (ss_call (InB_of rfl) rfl rfl ctw) ?_
    refine goA ?_
    exact rfl
  | true =>
  rw [hv] at ctw
  simp only [Bool.and_eq_true] at hv
  obtain ⟨hL, h24⟩ := ha hv.1
  rw [if_pos hv.1]
  by_cases h0 : (invT t m).2.2 = 0
  · rw [if_pos h0]
    obtain ⟨vc, hc, hc24⟩ := inv_ok (fun v => by rw [← hlf] at v; exact ⟨isL_ht (hb v).1 (by decide), (hb v).2⟩) h0
    have cm := rmul33_p (M := 24) (t := (invT t m).1) (both_mk (hL.mono (show 4 ≤ 1308622848 by decide)) (isL_enc hc) i1 (inR_enc vc)) (by decide) (by decide) (by decide) (fun _ => by omega)
    rw [serE_T] at cm
    have hbn : ((invT t m).2.2 != 0) = false := by simp [h0]
    generalize (invT t m) = r at *
    obtain ⟨u, c, e⟩ := r
    clear ha hb hL hc vc
    refine pc_body2 true Tryz.func16 rfl rfl rfl (Nat.le_of_ble_eq_true rfl) (CellT.agg agg_ser) CellT.tmp ?_
    refine goA ?_
    refine evG ggA (ss_call (InB_of rfl) rfl rfl ctw) ?_
    refine goA ?_
    refine evG ggA (ss_call (InB_of rfl) rfl rfl ci) ?_
    refine goA ?_
    refine evG ggA (ss_call (InB_of rfl) rfl rfl cm) ?_
    refine goA ?_
    exact rfl
  · rw [if_neg h0]
    have hbn : ((invT t m).2.2 != 0) = true := by simp [h0]
    generalize (invT t m) = r at *
    obtain ⟨u, c, e⟩ := r
    clear ha hb hL
    refine pc_body2 true Tryz.func16 rfl rfl rfl (Nat.le_of_ble_eq_true rfl) (CellT.agg agg_ser) CellT.tmp ?_
    refine goA ?_
    refine evG ggA (ss_call (InB_of rfl) rfl rfl ctw) ?_
    refine goA ?_
    refine evG ggA (ss_call (InB_of rfl) rfl rfl ci) ?_
    refine goA ?_
    exact rfl
/-- results with an error, compared with themselves -/
theorem sameT_p {r : Res} {K : Nat} (h : ∀ q, q ∈ r.2.1 → Ht q K) (hK : K ≤ 1099511627776) (hl : r.2.1.length ≤ 1000000) : PC Tryz.prog 17 [serA r.1 (r.2.1.map encQ), .p (.int .i64 r.2.2), serA r.1 (r.2.1.map encQ), .p (.int .i64 r.2.2)] (.p (.bool true)) := by
  have c := sameQ_p (s := r.1) (t := r.1) (m := r.2.1) h (by omega) (by omega)
  rw [decide_eq_true ⟨rfl, rfl⟩] at c
  obtain ⟨f, l, e⟩ := r
  have hb : (e == e) = true := by simp
  have goal : PC Tryz.prog 17 [serA f (l.map encQ), .p (.int .i64 e), serA f (l.map encQ), .p (.int .i64 e)] (.p (.bool (e == e))) := by
    refine pc_body1 true Tryz.func17 rfl rfl rfl (Nat.le_of_ble_eq_true rfl) CellT.tmp ?_
    refine goA ?_
    refine evG ggA (ss_call (InB_of rfl) rfl rfl c) ?_
    refine goA ?_
    exact rfl
  rw [hb] at goal
  exact goal
theorem nrm_ht {f : Int} {L : List Rat} {K : Nat} (hL : ∀ q, q ∈ L → Ht q K) (hlen : L.length ≤ 1000000) : (∀ q, q ∈ sL (nrm f L) → Ht q K) ∧ (sL (nrm f L)).length ≤ 1000000 := by
  unfold nrm
  split
  · exact none_ht
  · have hc : ∀ q, q ∈ ncut f L → q ∈ L := fun q hq => by
      unfold ncut at hq
      split at hq
      · simp at hq
      · exact List.mem_of_mem_take hq
    have hn : (ncut f L).length ≤ L.length := by
      unfold ncut
      split
      · exact Nat.zero_le _
      · rw [List.length_take]; omega
    refine ⟨fun q hq => hL q (hc q (List.mem_of_mem_drop hq)), ?_⟩
    show ((ncut f L).drop (lead (ncut f L))).length ≤ _
    rw [List.length_drop]; omega
theorem mulR_ht {s t : Int} {l m : List Rat} {K N : Nat} (hK : 1 ≤ K) (h : ValidP s l.length = true → ValidP t m.length = true → (∀ q, q ∈ l → Ht q K) ∧ (∀ q, q ∈ m → Ht q K) ∧ l.length ≤ N) : (∀ q, q ∈ sL (mulR s l t m) → Ht q ((2 * K + 1) * N + 1)) ∧ (sL (mulR s l t m)).length ≤ 1000000 := by
  unfold mulR
  cases h1 : ValidP s l.length && ValidP t m.length with
  | false => exact none_ht
  | true =>
    simp only [Bool.and_eq_true] at h1
    obtain ⟨h2, h3, h4⟩ := h h1.1 h1.2
    obtain ⟨a0, a1, a2⟩ := valid_iff.1 h1.1
    simp only [if_true]
    unfold mulN
    refine nrm_ht (fun q hq => ?_) (by rw [tk_len]; unfold mlen; rw [List.length_drop]; omega)
    obtain ⟨i, hi, rfl⟩ := tk_mem hq
    have hiN : i + 1 ≤ N := by
      unfold mlen at hi
      rw [List.length_drop] at hi
      omega
    exact (ht_cs hK (fun q hq => h2 q (List.mem_of_mem_drop hq)) (fun q hq => h3 q (List.mem_of_mem_drop hq)) i (i + 1)).mono (Nat.succ_le_succ (Nat.mul_le_mul_left _ hiN))
theorem invT_ht {s : Int} {l : List Rat} (h : ValidP s l.length = true → (∀ q, q ∈ l → Ht q 4) ∧ l.length ≤ 24) : (∀ q, q ∈ (invT s l).2.1 → Ht q 44493176832) ∧ (invT s l).2.1.length ≤ 1000000 := by
  unfold invT
  split
  · rename_i hv
    obtain ⟨hh, h24⟩ := h hv
    split
    · exact ⟨fun q hq => by simp at hq, Nat.zero_le _⟩
    · have hlen : (l.drop (lead l)).length ≤ 24 := by rw [List.length_drop]; omega
      refine nrm_ht (fun q hq => ?_) (by rw [ivs_len]; omega)
      obtain ⟨i, hi⟩ := List.getElem?_of_mem hq
      have hil : i < (l.drop (lead l)).length := by have := (List.getElem?_eq_some_iff.1 hi).1; rw [ivs_len] at this; exact this
      have := ht_iv (l := l.drop (lead l)) (by decide) (fun q hq => hh q (List.mem_of_mem_drop hq)) (l.drop (lead l)).length hlen i hil
      rw [List.getD_eq_getElem?_getD, hi] at this
      exact this.mono (HB_le (by decide) (by omega))
  · exact ⟨fun q hq => by simp at hq, Nat.zero_le _⟩
theorem quoT_ht {s t : Int} {l m : List Rat} (h : ValidP s l.length = true → (∀ q, q ∈ l → Ht q 4) ∧ l.length ≤ 24) (hm : ValidP t m.length = true → (∀ q, q ∈ m → Ht q 4) ∧ m.length ≤ 24) : (∀ q, q ∈ (quoT s l t m).2.1 → Ht q 62813896729) ∧ (quoT s l t m).2.1.length ≤ 1000000 := by
  unfold quoT
  split
  · rename_i hv
    split
    · rename_i h0
      obtain ⟨-, h2, -⟩ := inv_ok hm h0
      exact mulR_ht (K := 1308622848) (N := 24) (by decide) fun v _ => ⟨fun q hq => ((h v).1 q hq).mono (by decide), h2, (h v).2⟩
    · exact ⟨fun q hq => by simp at hq, Nat.zero_le _⟩
  · exact ⟨fun q hq => by simp at hq, Nat.zero_le _⟩
end Ab
