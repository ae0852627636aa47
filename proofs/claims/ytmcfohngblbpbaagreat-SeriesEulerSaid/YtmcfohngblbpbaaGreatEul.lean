/- Logarithmic of the document; Quo with a greater first argument; the statement SeriesEuler: its walk. -/
import Derived.Test.YtmcfohngblbpbaaGreatEulM
import Derived.Test.YtmcfohngblbpbaaGreatCut
namespace Ab
open Go Go.RowKit Go.Proofs Hp
set_option maxRecDepth 100000

theorem log_snoc (h : Int) {L : List Rat} {j : Nat} (hj : j < L.length) : logL h (L.take (j + 1)) = logL h (L.take j) ++ [-(L.getD j 0)] := by
  unfold logL
  rw [← take_snoc hj, List.map_append]
  rfl
set_option maxHeartbeats 4000000 in
theorem log_p {h : Int} {es : List AV} {c : List Rat} {K P : Nat} (hL : IsL es K c) (hl : c.length ≤ 14) (hK : 1 ≤ K ∧ K ≤ 10000000000) (h0 : -1000 ≤ h) (h1 : h ≤ 1000) (hP : 1 ≤ P ∧ P ≤ 10000000000) (hS : ∀ q, q ∈ sgs c c.length → Ht q P) : PC Tryz.prog 40 [.p (.int .i64 h), .sl es] (serE (nrm 0 (logL h (sgs c c.length)))) := by
  have csu := sums33_p hL hl hK
  have hsl := sgs_len c c.length
  rw [serE_eq]
  generalize hN : c.length = N at *
  generalize hLL : sgs c N = L at *
  have ch := q_p h (by omega) (by omega)
  have cz := q_p 0 (by decide) (by decide)
  rw [show ((0 : Int) : Rat) = 0 from rfl] at cz
  have hll : ∀ j, j ≤ N → (logL h (L.take j)).length = j + 1 := fun j hj => by unfold logL; rw [List.length_cons, List.length_map, List.length_take]; omega
  have hl0 : logL h (L.take 0) = [(h : Rat)] := by unfold logL; rw [List.take_zero]; rfl
  have hlN : logL h (L.take N) = logL h L := by rw [List.take_of_length_le (by omega)]
  have hz1 : Ht (0 : Rat) 1 := ht0 (Nat.le_refl 1)
  have hsn : ∀ j, j < N → logL h (L.take (j + 1)) = logL h (L.take j) ++ [-(L.getD j 0)] := fun j hj => log_snoc h (by omega)
  have hLh : ∀ q, q ∈ logL h L → Ht q P := fun q hq => by
    rcases List.mem_cons.1 hq with rfl | hq
    · exact (ht_int (by omega)).mono hP.1
    · obtain ⟨x, hx, rfl⟩ := List.mem_map.1 hq
      exact ht_neg (hS x hx)
  generalize hX : (fun j => logL h (L.take j)) = X at *
  have hXj : ∀ j, logL h (L.take j) = X j := fun j => by rw [← hX]
  simp only [hXj] at hll hl0 hlN hsn
  rw [← hlN] at hLh ⊢
  refine pc_body2 true Tryz.func40 rfl rfl rfl (Nat.le_of_ble_eq_true rfl) (CellT.agg agg_ser) CellT.tmp ?_
  refine r1A ?_
  refine T.seq ?_
  refine regA ?_
  refine runA ?_
  refine evG ggA (ss_call (InB_of rfl) rfl rfl ch) ?_
  refine runA ?_
  refine evG ggA (ss_bslice_own 31 (InB_of rfl) rfl (make_tab rfl) rfl rfl rfl rfl (one_ok rfl rfl) (Nat.le_of_ble_eq_true rfl) (by decide) (fun _ a ha => by rw [List.mem_singleton] at ha; subst ha; exact encQ_nu _)) ?_
  refine runA ?_
  refine ev_nil ?_
  refine seqQ_n ?_
  refine T.seqI (fun s1 => s1 = mkS [(4, .ptr 4 0), (6, .own 31 1), (7, .v (.sl (L.map encQ)))] [(4, var0), (31, .lst 4 47 ((X 0).map encQ))] 33 true) ?_ ?_
  · refine goA ?_
    refine evG ggA (ss_call (InB_of rfl) rfl rfl csu) ?_
    refine goA ?_
    exact midQ_intro (s' := mkS [(4, .ptr 4 0), (6, .own 31 1), (7, .v (.sl (L.map encQ)))] [(4, var0), (31, .lst 4 47 (([(h : Rat)] : List Rat).map encQ))] 33 true) (by exact entA) (by rw [hl0])
  rintro _ rfl
  refine T.seqI (fun s1 => s1 = mkS [(4, .ptr 4 0), (6, .own 31 (N + 1))] [(4, var0), (31, .lst 4 47 ((X N).map encQ))] 33 true) ?_ ?_
  · refine r1A ?_
    refine T.block ?_
    refine T.loop (fun n s1 => ∃ j : Nat, n = N - j ∧ j ≤ N ∧ s1 = mkS [(4, .ptr 4 0), (6, .own 31 (j + 1)), (7, .v (.sl (L.map encQ))), (8, .v (.p (.int .i64 (j : Int))))] [(4, var0), (31, .lst 4 47 ((X j).map encQ))] 33 true) N
      (s' := mkS [(4, .ptr 4 0), (6, .own 31 1), (7, .v (.sl (L.map encQ))), (8, .v (.p (.int .i64 (0 : Nat))))] [(4, var0), (31, .lst 4 47 ((X 0).map encQ))] 33 true) (by exact entA) ⟨0, rfl, Nat.zero_le _, rfl⟩ ?_
    rintro n _ ⟨j, rfl, hj, rfl⟩
    by_cases hlt : j < N
    · have hb : decide ((j : Int) < ((L.map encQ).length : Int)) = true := by simp; omega
      obtain ⟨q1, hq1⟩ : ∃ q, L[j]? = some q := ⟨_, List.getElem?_eq_getElem (by omega)⟩
      have g1 : L.getD j 0 = q1 := by rw [List.getD_eq_getElem?_getD, hq1]; rfl
      have n1 : (L.map encQ)[((j : Nat) : Int).toNat]? = some (encQ q1) := by rw [Int.toNat_natCast]; exact enc_at hq1
      have t1 := hS q1 (List.mem_of_getElem? hq1)
      have c5 : PC Tryz.prog 75 _ _ := (refsub2_p (isV_encQ hz1) (isV_encQ t1) (Nat.le_refl 1) (by omega) (by omega)).up
      rw [Rat.sub_eq_add_neg, Rat.zero_add] at c5
      have hsj := hsn j hlt
      rw [g1] at hsj
      have hx0 := hll j hj
      clear hX hXj hll hl0 hlN hsn hLh hS
      refine goA ?_
      refine evG ggA (ss_call (InB_of rfl) rfl rfl cz) ?_
      refine goA ?_
      refine evG ggA (ss_index_sl (InB_of rfl) (elem_tab rfl) rfl rfl (by omega) n1 rfl) ?_
      refine goA ?_
      refine evG ggA (ss_call (InB_of rfl) rfl rfl c5) ?_
      (refine evG ggA (ss_bslice (InB_of rfl) (make_tab rfl) rfl rfl rfl rfl (one_ok rfl rfl) (Nat.le_of_ble_eq_true rfl)) ?_; refine evG ggA (ss_snoc (InB_of rfl) (make_tab rfl) rfl rfl (by first | rfl | assumption | (simp; done) | (simp; omega)) rfl (by omega) (Nat.le_of_ble_eq_true rfl) rfl) ?_)
      refine goA ?_
      exact loopQ_intro (k := N - (j + 1)) (s' := mkS [(4, .ptr 4 0), (6, .own 31 (j + 1 + 1)), (7, .v (.sl (L.map encQ))), (8, .v (.p (.int .i64 ((j : Int) + 1))))] [(4, var0), (31, .lst 4 47 ((X j ++ [-q1]).map encQ))] 33 true) (by omega) (by exact entA) ⟨j + 1, rfl, hlt, by rw [hsj]; rfl⟩
    · obtain rfl : j = N := by omega
      have hb : decide ((j : Int) < ((L.map encQ).length : Int)) = false := by simp; omega
      refine goA ?_
      exact midQ_intro (by exact entA) rfl
  rintro _ rfl
  have hl2 := hll N (Nat.le_refl N)
  generalize X N = Y at *
  have hbuild := result_p (s := 0) (isL_enc hLh) (by omega) (by omega) (by omega) (by omega)
  rw [serE_eq] at hbuild
  have hx0 : (Y.map encQ).length = N + 1 := by rw [List.length_map, hl2]
  refine T.weak (s' := mkS [(4, .ptr 4 0), (6, .v (.sl (Y.map encQ)))] [(4, var0)] 33 true) (by exact entA) ?_
  refine goA ?_
  refine evG ggA (ss_call (InB_of rfl) rfl rfl hbuild) ?_
  refine goA ?_
  exact rfl
set_option maxHeartbeats 2000000 in
theorem quo_g {s t : Int} {es fs : List AV} {l m : List Rat} (ha : ValidP s es.length = true → IsL es 1308622848 l ∧ l.length ≤ 24) (hb : ValidP t fs.length = true → IsL fs 4 m ∧ m.length ≤ 24) (hle : es.length = l.length) (hlf : fs.length = m.length) (i1 : InR s es.length) (i2 : InR t fs.length) : PC Tryz.prog 15 [serA s es, serA t fs] (serT (quoT s l t m)) := by
  have hva := valid_p i1.1 i1.2 i1.3
  have ci := inv_p hb hlf i2 (by decide)
  unfold quoT
  rw [← hle]
  cases h1 : ValidP s es.length with
  | false =>
    rw [h1] at hva
    refine pc_body2 true Tryz.func15 rfl rfl rfl (Nat.le_of_ble_eq_true rfl) (CellT.agg agg_ser) CellT.tmp ?_
    refine goA ?_
    refine evG ggA (ss_call (InB_of rfl) rfl rfl hva) ?_
    refine goA ?_
    exact rfl
  | true =>
  rw [h1] at hva
  simp only [if_true]
  obtain ⟨hL, h24⟩ := ha h1
  by_cases h0 : (invT t m).2.2 = 0
  · rw [if_pos h0]
    obtain ⟨vc, hc, hc24⟩ := inv_ok (fun v => by rw [← hlf] at v; exact ⟨isL_ht (hb v).1 (by decide), (hb v).2⟩) h0
    have cm := mul_g (M := 24) (t := (invT t m).1) (both_mk hL (isL_enc hc) i1 (inR_enc vc)) (by decide) (by decide) (by decide) (fun _ => by omega)
    rw [serE_T] at cm
    have hbn : ((invT t m).2.2 != 0) = false := by simp [h0]
    generalize (invT t m) = r at *
    obtain ⟨u, c, e⟩ := r
    clear ha hb hL hc vc
    refine pc_body2 true Tryz.func15 rfl rfl rfl (Nat.le_of_ble_eq_true rfl) (CellT.agg agg_ser) CellT.tmp ?_
    refine goA ?_
    refine evG ggA (ss_call (InB_of rfl) rfl rfl hva) ?_
    refine goA ?_
    refine evG ggA (ss_call (InB_of rfl) rfl rfl ci) ?_
    refine goA ?_
    refine evG ggA (ss_call (InB_of rfl) rfl rfl cm) ?_
    refine goA ?_
    exact rfl
  · rw [if_neg h0]
    have hbn : ((invT t m).2.2 != 0) = true := by simp [h0]
    generalize (invT t m) = r at *
    obtain ⟨u, c, e⟩ := r
    clear ha hb hL
    refine pc_body2 true Tryz.func15 rfl rfl rfl (Nat.le_of_ble_eq_true rfl) (CellT.agg agg_ser) CellT.tmp ?_
    refine goA ?_
    refine evG ggA (ss_call (InB_of rfl) rfl rfl hva) ?_
    refine goA ?_
    refine evG ggA (ss_call (InB_of rfl) rfl rfl ci) ?_
    refine goA ?_
    exact rfl
set_option maxHeartbeats 4000000 in
theorem eul_p (a : Ser) (ha : SerOK a) : PC Tryz.prog 8 [serO a] (.p (.bool true)) := by
  have ci := inner_p [pr a] (fun x hx => by
    simp at hx
    subst hx
    exact pr_ok ha) (Nat.le_of_ble_eq_true rfl)
  have aw := awake_p
  cases hi : [pr a].all inn with
  | false =>
    rw [hi] at ci
    unfold serO
    unfold pr at ci
    generalize a.coef.map rawA = es at *
    generalize a.from' = s at *
    refine pc_body1 true Tryz.func8 rfl rfl rfl (Nat.le_of_ble_eq_true rfl) CellT.tmp ?_
    refine goA ?_
    refine evG ggA (ss_bslice (InB_of rfl) (make_tab rfl) rfl rfl rfl rfl (ones_ok rfl) (Nat.le_of_ble_eq_true rfl)) ?_
    refine evG ggA (ss_call (InB_of rfl) rfl rfl ci) ?_
    refine goA ?_
    refine evG ggA (ss_call (InB_of rfl) rfl rfl aw) ?_
    refine goA ?_
    exact rfl
  | true =>
  rw [hi] at ci
  have hi2 : inn (pr a) = true := by simpa using hi
  have ga := good ha hi2
  obtain ⟨la, na, gv, glo, ghi, gn, ght, ra⟩ := ga
  clear hi hi2 ha
  unfold serO
  unfold pr at ci
  generalize a.coef.map ratO = l at *
  generalize a.coef.map rawA = es at *
  generalize a.from' = s at *
  have hAh : ValidP s es.length = true → ∀ m, m + 1 ≤ (l.drop (lead l)).length → (∀ q, q ∈ exb (l.drop (lead l)) m → Ht q 1677721600) ∧ (∀ q, q ∈ exq (l.drop (lead l)) m → Ht q 1677721600) := fun hv m hm => by
    have hld : (l.drop (lead l)).length ≤ l.length := by rw [List.length_drop]; omega
    exact exb_mem (fun q hq => ght q (List.mem_of_mem_drop hq)) (by omega)
  have ce := expo_p (fun _ => ⟨la, by omega⟩) na ra (by decide) (by decide) hAh
  by_cases hA : l.drop (lead l) = []
  · have e : expoT s l = (0, [], 18) := by unfold expoT; rw [gv, if_pos rfl, if_pos hA]
    rw [e] at ce
    unfold expoA at ce
    clear hAh la ra
    refine pc_body1 true Tryz.func8 rfl rfl rfl (Nat.le_of_ble_eq_true rfl) CellT.tmp ?_
    refine goA ?_
    refine evG ggA (ss_bslice (InB_of rfl) (make_tab rfl) rfl rfl rfl rfl (ones_ok rfl) (Nat.le_of_ble_eq_true rfl)) ?_
    refine evG ggA (ss_call (InB_of rfl) rfl rfl ci) ?_
    refine goA ?_
    refine evG ggA (ss_call (InB_of rfl) rfl rfl ce) ?_
    refine goA ?_
    refine evG ggA (ss_call (InB_of rfl) rfl rfl aw) ?_
    refine goA ?_
    exact rfl
  by_cases h1 : (l.drop (lead l)).getD 0 0 = 1
  case neg =>
    have e : expoT s l = (0, [], 3) := by unfold expoT; rw [gv, if_pos rfl, if_neg hA, if_neg h1]
    rw [e] at ce
    unfold expoA at ce
    clear hAh la ra
    refine pc_body1 true Tryz.func8 rfl rfl rfl (Nat.le_of_ble_eq_true rfl) CellT.tmp ?_
    refine goA ?_
    refine evG ggA (ss_bslice (InB_of rfl) (make_tab rfl) rfl rfl rfl rfl (ones_ok rfl) (Nat.le_of_ble_eq_true rfl)) ?_
    refine evG ggA (ss_call (InB_of rfl) rfl rfl ci) ?_
    refine goA ?_
    refine evG ggA (ss_call (InB_of rfl) rfl rfl ce) ?_
    refine goA ?_
    refine evG ggA (ss_call (InB_of rfl) rfl rfl aw) ?_
    refine goA ?_
    exact rfl
  have e : expoT s l = (s + lead l, exq (l.drop (lead l)) ((l.drop (lead l)).length - 1), 0) := by unfold expoT; rw [gv, if_pos rfl, if_neg hA, if_pos h1]
  rw [e] at ce
  unfold expoA at ce
  have hno := norR_eq gv
  unfold tdy at hno
  have hav := hAh (by rw [na]; exact gv)
  obtain ⟨h, A, M, hh, hAA, hM, hM11, hlo, hhi, hA4, hpr, hvA, u, m, v, c, k1, k2, k3, k4, k5, k6, k7, k8⟩ := euler gv glo ghi gn ght hA h1
  rw [← hh, ← hAA] at ce hno
  rw [← hAA] at h1 hav
  rw [show A.length - 1 = M by omega] at ce
  have hqM := (hav M (by omega)).2
  have hbM := (hav M (by omega)).1
  have hsu := sums_eq A M
  have hql := exq_len A M
  have hprc : ∀ m, m ≤ M → prc (exb A M) m = A.take (m + 1) := fun m hm => prc_eq h1 (by omega) m hm
  have p1 := prod_p (h := h) (K := 1677721600) (P := 1677721600) (Q := 4) (fun _ => ⟨isL_enc hqM, by omega⟩) (by simp) (by omega) (by omega) (by simp; omega) (by decide) (by decide) (by decide)
    (fun _ => by rw [hql, hsu]; exact hbM) (fun _ m hm => by rw [hql] at hm ⊢; rw [hsu, hprc m hm]; exact fun q hq => hA4 q (List.mem_of_mem_take hq))
  have p2 := normal_p (fun _ => la) na ra (by decide)
  have p3 := agree_p (s := h) (t := h) (both_mk (isL_enc hA4) (isL_enc hA4) (inR_enc hvA) (inR_enc hvA)) (by decide)
  have p4 := sameQ_p (s := h) (t := h) (l := A) (m := A) hA4 (by decide) (by omega)
  have p5 := theta_p (fun _ => la) na ra (by decide)
  have p6 := quo_g (s := u) (t := s) (fun _ => ⟨(isL_enc k3).mono (by decide), k4⟩) (fun _ => ⟨la, by omega⟩) (by simp) na (inR_enc k2) ra
  have p7 := log_p (h := h) (P := 1677721600) (isL_enc hqM) (by omega) (by decide) (by omega) (by omega) (by decide) (by rw [hql, hsu]; exact hbM)
  have p8 := agree_p (s := v) (t := v) (both_mk (isL_enc k8) (isL_enc k8) (inR_enc k7) (inR_enc k7)) (by decide)
  rw [hpr] at p1
  rw [hno] at p2
  rw [agr_true hvA hvA (fun n _ _ => rfl)] at p3
  rw [decide_eq_true ⟨rfl, rfl⟩] at p4
  rw [k1] at p5
  rw [k5] at p6
  rw [hql, hsu, k6] at p7
  rw [agr_true k7 k7 (fun n _ _ => rfl)] at p8
  clear k1 k2 k3 k4 k5 k6 k7 k8 hAh la ra na gv glo ghi gn ght hA h1 e hno hav hh hAA hM hM11 hlo hhi hA4 hpr hvA hqM hbM hsu hql hprc
  generalize exq A M = X at *
  refine pc_body1 true Tryz.func8 rfl rfl rfl (Nat.le_of_ble_eq_true rfl) CellT.tmp ?_
  refine goA ?_
  refine evG ggA (ss_bslice (InB_of rfl) (make_tab rfl) rfl rfl rfl rfl (ones_ok rfl) (Nat.le_of_ble_eq_true rfl)) ?_
  refine evG ggA (ss_call (InB_of rfl) rfl rfl ci) ?_
  refine goA ?_
  refine evG ggA (ss_call (InB_of rfl) rfl rfl ce) ?_
  refine goA ?_
  refine evG ggA (ss_call (InB_of rfl) rfl rfl p1) ?_
  refine goA ?_
  refine evG ggA (ss_call (InB_of rfl) rfl rfl p2) ?_
  refine goA ?_
  refine evG ggA (ss_call (InB_of rfl) rfl rfl p3) ?_
  refine goA ?_
  refine evG ggA (ss_call (InB_of rfl) rfl rfl p4) ?_
  refine goA ?_
  refine evG ggA (ss_call (InB_of rfl) rfl rfl p5) ?_
  refine goA ?_
  refine evG ggA (ss_call (InB_of rfl) rfl rfl p6) ?_
  refine goA ?_
  refine evG ggA (ss_call (InB_of rfl) rfl rfl p7) ?_
  refine goA ?_
  refine evG ggA (ss_call (InB_of rfl) rfl rfl p8) ?_
  refine goA ?_
  refine evG ggA (ss_call (InB_of rfl) rfl rfl aw) ?_
  refine goA ?_
  exact rfl
end Ab
