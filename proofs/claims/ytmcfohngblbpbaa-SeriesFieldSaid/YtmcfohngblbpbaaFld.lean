/- The statement SeriesField: its walk. -/
import Derived.Test.YtmcfohngblbpbaaFldN
import Derived.Test.YtmcfohngblbpbaaRefP
import Derived.Test.YtmcfohngblbpbaaRingN
import Derived.Test.YtmcfohngblbpbaaInv
import Derived.Test.YtmcfohngblbpbaaSplN
namespace Ab
open Go Go.RowKit Go.Proofs Hp
set_option maxRecDepth 100000

/-- what the calls of the statement return -/
structure FldR (s : Int) (l : List Rat) (m n : Int) (k : Nat) (u : Int) (iv : List Rat) (a b c : Int) (x y w : List Rat) : Prop where
  len : s + (l.length : Int) - (s + (lead l : Int)) = ((k + 1 : Nat) : Int)
  k12 : k ≤ 11
  inv : invT s l = (u, iv, 0)
  prod : mulR s l u iv = some (0, tk one' (k + 1))
  pm : powT s l m = (a, x, 0)
  pn : powT s l n = (b, y, 0)
  pw : powT s l (m + n) = (c, w, 0)
  mul : mulR a x b y = some (c, w)
  agr : agr c w c w = true
  hiv : ∀ q, q ∈ iv → Ht q 3000000
  hx : ∀ q, q ∈ x → Ht q 3000000
  hy : ∀ q, q ∈ y → Ht q 3000000
  hw : ∀ q, q ∈ w → Ht q 3000000
  vi : ValidP u iv.length = true
  vx : ValidP a x.length = true
  vy : ValidP b y.length = true
  vw : ValidP c w.length = true
  lw : w.length ≤ 12
theorem fld_facts {s : Int} {l : List Rat} (g : In12 s l) (hne : lead l ≠ l.length) (h16 : s + lead l ≤ 16) {m n : Int} (hm : m.natAbs ≤ 3) (hn : n.natAbs ≤ 3) : ∃ k u iv a b c x y w, FldR s l m n k u iv a b c x y w := by
  have hle := lead_le l
  have hlo := g.lo
  have hn12 := g.n
  have hA : l.drop (lead l) ≠ [] := by
    intro h
    have := congrArg List.length h
    simp at this
    omega
  have h0 : (l.drop (lead l)).getD 0 0 ≠ 0 := by
    have h1 := lead_drop l
    intro h2
    cases hd : l.drop (lead l) with
    | nil => exact hA hd
    | cons q r =>
      rw [hd] at h1 h2
      simp at h2
      subst h2
      simp [lead] at h1
  have hsa : (s + (lead l : Int)).natAbs ≤ 16 := by omega
  have hld : (l.drop (lead l)).length = l.length - lead l := List.length_drop
  obtain ⟨k, hk⟩ : ∃ k, l.length - lead l = k + 1 := ⟨l.length - lead l - 1, by omega⟩
  have hA12 : (l.drop (lead l)).length ≤ 12 := by omega
  have hAt : ∀ q, q ∈ l.drop (lead l) → Ht q 4 := fun q hq => g.ht q (List.mem_of_mem_drop hq)
  have hpl : ∀ i : Int, (powL (l.drop (lead l)) i ((l.drop (lead l)).length - 1)).length = k + 1 := fun i => by unfold powL; rw [mil_len]; omega
  have hpt : ∀ i : Int, i.natAbs ≤ 6 → ∀ q, q ∈ powL (l.drop (lead l)) i ((l.drop (lead l)).length - 1) → Ht q 3000000 := fun i hi => powL_ht2 hAt (by omega) (by omega)
  have hpv : ∀ i : Int, i.natAbs ≤ 6 → ValidP (i * (s + lead l)) (powL (l.drop (lead l)) i ((l.drop (lead l)).length - 1)).length = true := fun i hi => by
    have := small_mul hi hsa
    exact valid_iff.2 ⟨by omega, by omega, by rw [hpl]; omega⟩
  refine ⟨k, -(s + lead l), ivs (l.drop (lead l)) (l.drop (lead l)).length, m * (s + lead l), n * (s + lead l), (m + n) * (s + lead l), _, _, _,
    ⟨by omega, by omega, inv_res g.v g.n hA h0 hsa, ?_, pow_res g.v g.n hA h0 hsa (by omega), pow_res g.v g.n hA h0 hsa (by omega), pow_res g.v g.n hA h0 hsa (by omega), pow_prod h0 (by omega) hA12 hsa hm hn, ?_, ?_, hpt m (by omega), hpt n (by omega), hpt (m + n) (by omega), ?_, hpv m (by omega), hpv n (by omega), hpv (m + n) (by omega), ?_⟩⟩
  · rw [inv_prod g.v g.n hA h0 hsa, show (l.drop (lead l)).length = k + 1 by omega]
  · exact agr_true (hpv (m + n) (by omega)) (hpv (m + n) (by omega)) fun _ _ _ => rfl
  · intro q hq
    refine (mem_ht (ivs_len _ _) (fun i hi => (ht_iv (by decide) hAt _ (by omega) i hi).mono (HB_mono 4 (show i ≤ 12 by omega))) q hq).mono (by decide)
  · exact valid_iff.2 ⟨by omega, by omega, by rw [ivs_len]; omega⟩
  · rw [hpl]; omega
theorem one_list (k : Nat) : (tk one' (k + 1)).map encQ = encQ ((1 : Int) : Rat) :: List.replicate k (encQ 0) := by
  unfold tk
  rw [List.map_map, List.range_succ_eq_map, List.map_cons, List.map_map]
  congr 1
  exact List.eq_replicate_iff.2 ⟨by simp, fun b hb => by obtain ⟨i, -, rfl⟩ := List.mem_map.1 hb; rfl⟩
set_option maxHeartbeats 8000000 in
theorem field_p (a : Ser) (m n : Int) (ha : SerOK a) (m0 : -9223372036854775808 ≤ m) (m1 : m ≤ 9223372036854775807) (n0 : -9223372036854775808 ≤ n) (n1 : n ≤ 9223372036854775807) : PC Try.prog 7 [serO a, .p (.int .i64 m), .p (.int .i64 n)] (.p (.bool true)) := by
  have ci := inner_p [pr a] (fun x hx => by
    simp at hx
    rw [hx]
    exact pr_ok ha) (Nat.le_of_ble_eq_true rfl)
  have aw := awake_p
  cases hi : [pr a].all inn with
  | false =>
    rw [hi] at ci
    unfold serO
    unfold pr at ci
    generalize a.coef.map rawA = es at *
    generalize a.from' = s at *
    refine pc_body1 true Try.func7 rfl rfl rfl (Nat.le_of_ble_eq_true rfl) CellT.tmp ?_
    refine goA ?_
    refine evG ggA (ss_bslice (InB_of rfl) (make_tab rfl) rfl rfl rfl rfl (ones_ok rfl) (Nat.le_of_ble_eq_true rfl)) ?_
    refine evG ggA (ss_call (InB_of rfl) rfl rfl ci) ?_
    refine goA ?_
    refine evG ggA (ss_call (InB_of rfl) rfl rfl aw) ?_
    refine goA ?_
    exact rfl
  | true =>
  rw [hi] at ci
  have hi2 : inn (pr a) = true := by simpa using hi
  have ga := good ha hi2
  have gi : In12 a.from' (a.coef.map ratO) := ⟨ga.v, ga.lo, ga.hi, ga.n, ga.ht⟩
  have la := ga.isL
  have ra := ga.r
  clear hi hi2 ha
  unfold serO
  unfold pr at ci
  have ghl := ga.len
  clear ga
  generalize a.coef.map ratO = l at *
  generalize a.coef.map rawA = es at *
  generalize a.from' = s at *
  have glo := gi.lo
  have gn := gi.n
  have ghi := gi.hi
  have hll := lead_le l
  have co := rord_p (s := s) la (by decide) (by omega) (by omega) (by omega)
  have cp := rprec_p (s := s) (es := es) (by omega) (by omega) (by omega)
  by_cases k0 : lead l = l.length
  case pos =>
    have bo : ((s + (lead l : Int)) == (s + (es.length : Int))) = true := by simp; omega
    clear gi la ra
    refine pc_body1 true Try.func7 rfl rfl rfl (Nat.le_of_ble_eq_true rfl) CellT.tmp ?_
    refine goA ?_
    refine evG ggA (ss_bslice (InB_of rfl) (make_tab rfl) rfl rfl rfl rfl (ones_ok rfl) (Nat.le_of_ble_eq_true rfl)) ?_
    refine evG ggA (ss_call (InB_of rfl) rfl rfl ci) ?_
    refine goA ?_
    refine evG ggA (ss_call (InB_of rfl) rfl rfl co) ?_
    refine goA ?_
    refine evG ggA (ss_call (InB_of rfl) rfl rfl cp) ?_
    refine goA ?_
    refine evG ggA (ss_call (InB_of rfl) rfl rfl aw) ?_
    refine goA ?_
    exact rfl
  by_cases k1 : s + (lead l : Int) ≤ 16
  case neg =>
    have bo : ((s + (lead l : Int)) == (s + (es.length : Int))) = false := by simp; omega
    have b1 : decide (s + (lead l : Int) > 16) = true := by simp; omega
    clear gi la ra
    refine pc_body1 true Try.func7 rfl rfl rfl (Nat.le_of_ble_eq_true rfl) CellT.tmp ?_
    refine goA ?_
    refine evG ggA (ss_bslice (InB_of rfl) (make_tab rfl) rfl rfl rfl rfl (ones_ok rfl) (Nat.le_of_ble_eq_true rfl)) ?_
    refine evG ggA (ss_call (InB_of rfl) rfl rfl ci) ?_
    refine goA ?_
    refine evG ggA (ss_call (InB_of rfl) rfl rfl co) ?_
    refine goA ?_
    refine evG ggA (ss_call (InB_of rfl) rfl rfl cp) ?_
    refine goA ?_
    refine evG ggA (ss_call (InB_of rfl) rfl rfl co) ?_
    refine goA ?_
    refine evG ggA (ss_call (InB_of rfl) rfl rfl aw) ?_
    refine goA ?_
    exact rfl
  by_cases k2 : -3 ≤ m
  case neg =>
    have bo : ((s + (lead l : Int)) == (s + (es.length : Int))) = false := by simp; omega
    have b1 : decide (s + (lead l : Int) > 16) = false := by simp; omega
    have b2 : decide (m < -3) = true := by simp; omega
    clear gi la ra
    refine pc_body1 true Try.func7 rfl rfl rfl (Nat.le_of_ble_eq_true rfl) CellT.tmp ?_
    refine goA ?_
    refine evG ggA (ss_bslice (InB_of rfl) (make_tab rfl) rfl rfl rfl rfl (ones_ok rfl) (Nat.le_of_ble_eq_true rfl)) ?_
    refine evG ggA (ss_call (InB_of rfl) rfl rfl ci) ?_
    refine goA ?_
    refine evG ggA (ss_call (InB_of rfl) rfl rfl co) ?_
    refine goA ?_
    refine evG ggA (ss_call (InB_of rfl) rfl rfl cp) ?_
    refine goA ?_
    refine evG ggA (ss_call (InB_of rfl) rfl rfl co) ?_
    refine goA ?_
    refine evG ggA (ss_call (InB_of rfl) rfl rfl aw) ?_
    refine goA ?_
    exact rfl
  by_cases k3 : m ≤ 3
  case neg =>
    have bo : ((s + (lead l : Int)) == (s + (es.length : Int))) = false := by simp; omega
    have b1 : decide (s + (lead l : Int) > 16) = false := by simp; omega
    have b2 : decide (m < -3) = false := by simp; omega
    have b3 : decide (m > 3) = true := by simp; omega
    clear gi la ra
    refine pc_body1 true Try.func7 rfl rfl rfl (Nat.le_of_ble_eq_true rfl) CellT.tmp ?_
    refine goA ?_
    refine evG ggA (ss_bslice (InB_of rfl) (make_tab rfl) rfl rfl rfl rfl (ones_ok rfl) (Nat.le_of_ble_eq_true rfl)) ?_
    refine evG ggA (ss_call (InB_of rfl) rfl rfl ci) ?_
    refine goA ?_
    refine evG ggA (ss_call (InB_of rfl) rfl rfl co) ?_
    refine goA ?_
    refine evG ggA (ss_call (InB_of rfl) rfl rfl cp) ?_
    refine goA ?_
    refine evG ggA (ss_call (InB_of rfl) rfl rfl co) ?_
    refine goA ?_
    refine evG ggA (ss_call (InB_of rfl) rfl rfl aw) ?_
    refine goA ?_
    exact rfl
  by_cases k4 : -3 ≤ n
  case neg =>
    have bo : ((s + (lead l : Int)) == (s + (es.length : Int))) = false := by simp; omega
    have b1 : decide (s + (lead l : Int) > 16) = false := by simp; omega
    have b2 : decide (m < -3) = false := by simp; omega
    have b3 : decide (m > 3) = false := by simp; omega
    have b4 : decide (n < -3) = true := by simp; omega
    clear gi la ra
    refine pc_body1 true Try.func7 rfl rfl rfl (Nat.le_of_ble_eq_true rfl) CellT.tmp ?_
    refine goA ?_
    refine evG ggA (ss_bslice (InB_of rfl) (make_tab rfl) rfl rfl rfl rfl (ones_ok rfl) (Nat.le_of_ble_eq_true rfl)) ?_
    refine evG ggA (ss_call (InB_of rfl) rfl rfl ci) ?_
    refine goA ?_
    refine evG ggA (ss_call (InB_of rfl) rfl rfl co) ?_
    refine goA ?_
    refine evG ggA (ss_call (InB_of rfl) rfl rfl cp) ?_
    refine goA ?_
    refine evG ggA (ss_call (InB_of rfl) rfl rfl co) ?_
    refine goA ?_
    refine evG ggA (ss_call (InB_of rfl) rfl rfl aw) ?_
    refine goA ?_
    exact rfl
  by_cases k5 : n ≤ 3
  case neg =>
    have bo : ((s + (lead l : Int)) == (s + (es.length : Int))) = false := by simp; omega
    have b1 : decide (s + (lead l : Int) > 16) = false := by simp; omega
    have b2 : decide (m < -3) = false := by simp; omega
    have b3 : decide (m > 3) = false := by simp; omega
    have b4 : decide (n < -3) = false := by simp; omega
    have b5 : decide (n > 3) = true := by simp; omega
    clear gi la ra
    refine pc_body1 true Try.func7 rfl rfl rfl (Nat.le_of_ble_eq_true rfl) CellT.tmp ?_
    refine goA ?_
    refine evG ggA (ss_bslice (InB_of rfl) (make_tab rfl) rfl rfl rfl rfl (ones_ok rfl) (Nat.le_of_ble_eq_true rfl)) ?_
    refine evG ggA (ss_call (InB_of rfl) rfl rfl ci) ?_
    refine goA ?_
    refine evG ggA (ss_call (InB_of rfl) rfl rfl co) ?_
    refine goA ?_
    refine evG ggA (ss_call (InB_of rfl) rfl rfl cp) ?_
    refine goA ?_
    refine evG ggA (ss_call (InB_of rfl) rfl rfl co) ?_
    refine goA ?_
    refine evG ggA (ss_call (InB_of rfl) rfl rfl aw) ?_
    refine goA ?_
    exact rfl
  have bo : ((s + (lead l : Int)) == (s + (es.length : Int))) = false := by simp; omega
  have b1 : decide (s + (lead l : Int) > 16) = false := by simp; omega
  have b2 : decide (m < -3) = false := by simp; omega
  have b3 : decide (m > 3) = false := by simp; omega
  have b4 : decide (n < -3) = false := by simp; omega
  have b5 : decide (n > 3) = false := by simp; omega
  obtain ⟨k, u, iv, p, q, r, x, y, w, F⟩ := fld_facts gi k0 k1 (m := m) (n := n) (by omega) (by omega)
  have hv := gi.v
  have c1 := inv_p (K := 4) (fun _ => ⟨la, by omega⟩) ghl ra (by decide)
  rw [F.inv] at c1
  have c2 := mul_p (s := s) (t := u) (both_mk (IsL.mono (show 4 ≤ 3000000 by decide) la) (isL_enc F.hiv) ra (inR_enc F.vi)) (by decide)
  rw [F.prod] at c2
  have cze := zeros_p (k + 1) (by have := F.k12; omega)
  have hze : (tk (fun _ => 0) (k + 1)).map encQ = List.replicate (k + 1) (encQ 0) := by
    unfold tk
    rw [List.map_map]
    exact (List.eq_replicate_iff.2 ⟨by simp, fun b hb => by obtain ⟨i, -, rfl⟩ := List.mem_map.1 hb; rfl⟩)
  rw [hze, ← F.len, ← ghl] at cze
  have cq := q_p 1 (by decide) (by decide)
  have s1 := sameQ_p (s := 0) (t := 0) (l := tk one' (k + 1)) (m := tk one' (k + 1)) (k := 1) (fun q hq => by
    obtain ⟨i, -, rfl⟩ := tk_mem hq
    unfold one'
    split
    · exact ht_int (c := 1) (by decide)
    · exact ht0 (by decide)) (by decide) (by have := F.k12; simp; omega)
  rw [decide_eq_true ⟨rfl, rfl⟩] at s1
  have e1 : serA 0 ((tk one' (k + 1)).map encQ) = .agg [.p (.int .i64 0), .sl (encQ ((1 : Int) : Rat) :: List.replicate k (encQ 0))] := by rw [one_list]; rfl
  have c3 := spow_p (s := s) (n := m) (K := 4) (Q := 3000000) (fun _ => ⟨la, by omega⟩) ghl ra (by decide) (by decide) m0 m1 (fun _ _ _ M hM => powL_ht2 (fun q hq => gi.ht q (List.mem_of_mem_drop hq)) (by omega) (by have := List.length_drop (l := l) (i := lead l); omega))
  rw [F.pm] at c3
  have c4 := spow_p (s := s) (n := n) (K := 4) (Q := 3000000) (fun _ => ⟨la, by omega⟩) ghl ra (by decide) (by decide) n0 n1 (fun _ _ _ M hM => powL_ht2 (fun q hq => gi.ht q (List.mem_of_mem_drop hq)) (by omega) (by have := List.length_drop (l := l) (i := lead l); omega))
  rw [F.pn] at c4
  have c5 := mul_p (s := p) (t := q) (both_mk (isL_enc F.hx) (isL_enc F.hy) (inR_enc F.vx) (inR_enc F.vy)) (by decide)
  rw [F.mul] at c5
  have c6 := spow_p (s := s) (n := m + n) (K := 4) (Q := 3000000) (fun _ => ⟨la, by omega⟩) ghl ra (by decide) (by decide) (by omega) (by omega) (fun _ _ _ M hM => powL_ht2 (fun q hq => gi.ht q (List.mem_of_mem_drop hq)) (by omega) (by have := List.length_drop (l := l) (i := lead l); omega))
  rw [F.pw] at c6
  have s2 := agree_p (s := r) (t := r) (both_mk (isL_enc F.hw) (isL_enc F.hw) (inR_enc F.vw) (inR_enc F.vw)) (by decide)
  rw [F.agr] at s2
  have s3 := sameQ_p (s := r) (t := r) (l := w) (m := w) F.hw (by decide) (by have := F.lw; omega)
  rw [decide_eq_true ⟨rfl, rfl⟩] at s3
  have hk := F.k12
  clear F gi la ra hze hv
  have s1' : PC Try.prog 13 [.agg [.p (.int .i64 0), .sl ((tk one' (k + 1)).map encQ)], .agg [.p (.int .i64 0), .sl (encQ ((1 : Int) : Rat) :: List.replicate k (encQ 0))]] (.p (.bool true)) := by
    rw [← e1]; exact s1
  clear s1 e1
  refine pc_body1 true Try.func7 rfl rfl rfl (Nat.le_of_ble_eq_true rfl) CellT.tmp ?_
  refine goA ?_
  refine evG ggA (ss_bslice (InB_of rfl) (make_tab rfl) rfl rfl rfl rfl (ones_ok rfl) (Nat.le_of_ble_eq_true rfl)) ?_
  refine evG ggA (ss_call (InB_of rfl) rfl rfl ci) ?_
  refine goA ?_
  refine evG ggA (ss_call (InB_of rfl) rfl rfl co) ?_
  refine goA ?_
  refine evG ggA (ss_call (InB_of rfl) rfl rfl cp) ?_
  refine goA ?_
  refine evG ggA (ss_call (InB_of rfl) rfl rfl co) ?_
  refine goA ?_
  refine evG ggA (ss_call (InB_of rfl) rfl rfl c1) ?_
  refine goA ?_
  refine evG ggA (ss_call (InB_of rfl) rfl rfl c2) ?_
  refine goA ?_
  refine evG ggA (ss_call (InB_of rfl) rfl rfl cp) ?_
  refine goA ?_
  refine evG ggA (ss_call (InB_of rfl) rfl rfl co) ?_
  refine goA ?_
  refine evG ggA (ss_callO 200 (InB_of rfl) rfl rfl rfl cze rfl) ?_
  refine runA ?_
  refine evG ggA (ss_build_st (pre := [.int .i64 0]) (z := .slice none 0 0) (post := []) (InB_of rfl) (build_tab rfl) rfl rfl rfl rfl) ?_
  refine goA ?_
  refine evG ggA (ss_call (InB_of rfl) rfl rfl cq) ?_
  refine goA ?_
  refine evG ggA (ss_index_own (InB_of rfl) (elem_tab rfl) rfl rfl rfl rfl (by simp) (by simp)) ?_
  refine evG ggA (ss_store_own rfl (size_tab rfl) rfl rfl rfl (by simp) rfl rfl (fun l e => by cases e) rfl) ?_
  refine runA ?_
  refine ev_nil ?_
  refine seqQ_n ?_
  refine T.weak (s' := mkS [(1, .v (.p (.int .i64 m))), (2, .v (.p (.int .i64 n))), (3, .ptr 3 0), (8, .v (.p (.int .i64 0))), (9, .ptr 9 0), (10, .v (.p (.int .i64 0))), (11, .ptr 11 0)] [(3, .var [.v (.p (.int .i64 s)), .v (.sl es)]), (9, .var [.v (.p (.int .i64 0)), .v (.sl ((tk one' (k + 1)).map encQ))]), (11, .var [.v (.p (.int .i64 0)), .v (.sl (encQ ((1 : Int) : Rat) :: List.replicate k (encQ 0)))])] 132 true) (by exact entA) ?_
  refine goA ?_
  refine evG ggA (ss_call (InB_of rfl) rfl rfl s1') ?_
  refine goA ?_
  refine evG ggA (ss_call (InB_of rfl) rfl rfl c3) ?_
  refine goA ?_
  refine evG ggA (ss_call (InB_of rfl) rfl rfl c4) ?_
  refine goA ?_
  refine evG ggA (ss_call (InB_of rfl) rfl rfl c5) ?_
  refine goA ?_
  refine evG ggA (ss_call (InB_of rfl) rfl rfl c6) ?_
  refine goA ?_
  refine evG ggA (ss_call (InB_of rfl) rfl rfl s2) ?_
  refine goA ?_
  refine evG ggA (ss_call (InB_of rfl) rfl rfl s3) ?_
  refine goA ?_
  refine evG ggA (ss_call (InB_of rfl) rfl rfl aw) ?_
  refine goA ?_
  exact rfl
end Ab
