/- The statement HeckeseriesContracts: its law and its walk. -/
import Derived.Test.YtajhaoapcapgeaaDoorHjD
set_option linter.all false
namespace Ab
open Go Go.RowKit Go.Proofs Hp
set_option maxRecDepth 100000

def ctp (i : Int) : Int := [2, 3, 5, 7, 11].getD (i % 5).toNat 0
theorem ctp_mem (i : Int) : ctp i ∈ [2, 3, 5, 7, (11 : Int)] := by
  unfold ctp
  have h1 := Int.emod_nonneg i (show (5 : Int) ≠ 0 by decide)
  have h2 := Int.emod_lt_of_pos i (show (0 : Int) < 5 by decide)
  generalize i % 5 = x at *
  obtain ⟨n, rfl⟩ : ∃ n : Nat, x = n := ⟨x.toNat, by omega⟩
  rw [Int.toNat_natCast]
  obtain rfl | rfl | rfl | rfl | rfl : n = 0 ∨ n = 1 ∨ n = 2 ∨ n = 3 ∨ n = 4 := by omega
  all_goals decide
/-- the divisors of the five primes -/
theorem ct_div {p t : Int} (hp : p ∈ [2, 3, 5, 7, (11 : Int)]) (ht : 1 ≤ t) (hd : t ∣ p) : t = 1 ∨ t = p := by
  have hle : t ≤ p := Int.le_of_dvd (by simp at hp; omega) hd
  have h0 : p.tmod t = 0 := Int.tmod_eq_zero_of_dvd hd
  obtain ⟨n, rfl⟩ : ∃ n : Nat, t = n := ⟨t.toNat, by omega⟩
  simp at hp
  rcases hp with rfl | rfl | rfl | rfl | rfl
  all_goals
    have hn : n < 12 := by omega
    revert h0 ht hle
    clear hd
    revert hn
    revert n
    decide
theorem ct_pos {p : Int} (hp : p ∈ [2, 3, 5, 7, (11 : Int)]) : 2 ≤ p ∧ p ≤ 11 := by simp at hp; omega
theorem fac_zero {N k d p : Int} (hp : 2 ≤ p) (h : p ∣ N) : facQ N k d p = 0 := by
  have e : gI p N = p := by
    unfold gI
    rw [Nat.gcd_eq_left (Int.natAbs_dvd_natAbs.2 h)]
    omega
  unfold facQ chiV
  rw [e, if_neg (by omega)]
  simp
theorem ct_T {N k d A p m t : Int} {L : List Rat} (hp : p ∈ [2, 3, 5, 7, (11 : Int)]) (h : p ∣ N) (h1 : 1 ≤ t) : hkT N k d A L p m t = if t = 1 then cf A L (m * p) else 0 := by
  have hb := ct_pos hp
  unfold hkT
  by_cases c : t = 1
  · subst c
    rw [if_pos rfl, facQ_one, Int.tdiv_one, Int.tdiv_one, Int.tmod_one]
    split
    · rw [Rat.one_mul]
    · rename_i c2
      rw [cf_lt]
      omega
  · rw [if_neg c]
    split
    · rename_i c2
      have hd := Int.dvd_trans (Int.dvd_of_tmod_eq_zero c2.1) (gI_dvd (m := m) (n := p)).2
      rcases ct_div hp h1 hd with e | e
      · exact absurd e c
      · rw [e, fac_zero hb.1 h, Rat.zero_mul]
    · rfl
theorem ct_S {N k d A p m : Int} {L : List Rat} (hp : p ∈ [2, 3, 5, 7, (11 : Int)]) (h : p ∣ N) : ∀ j : Nat, hkS N k d A L p m (j + 1) = cf A L (m * p)
  | 0 => by
    show (0 : Rat) + hkT N k d A L p m (((0 : Nat) : Int) + 1) = _
    rw [ct_T hp h (by omega), if_pos (by omega), Rat.zero_add]
  | j + 1 => by
    show hkS N k d A L p m (j + 1) + hkT N k d A L p m (((j + 1 : Nat) : Int) + 1) = _
    rw [ct_S hp h j, ct_T hp h (by omega), if_neg (by omega), Rat.add_zero]
/-- what the Hecke operator makes is the contraction -/
theorem ct_law {N k d s p : Int} {l : List Rat} {K : Nat} (hs : SpecOK N k d) (hv : ValidP s l.length = true) (hs2 : -2 ≤ s) (hpr : 1 ≤ s + l.length) (hK : 1 ≤ K) (hL : ∀ q, q ∈ l → Ht q K) (hp : p ∈ [2, 3, 5, 7, (11 : Int)]) (h : p ∣ N) : hkR N k d (s + lead l) (l.drop (lead l)) p = conR s l p := by
  obtain ⟨a0, a1, a2⟩ := valid_iff.1 hv
  have hb := ct_pos hp
  have ll := lead_le l
  have hlen : s + (lead l : Int) + ((l.drop (lead l)).length : Int) = s + l.length := by rw [List.length_drop]; omega
  have hAn : -100 ≤ (s + (lead l : Int)) * p := by
    have : (-2) * p ≤ (s + (lead l : Int)) * p := Int.mul_le_mul_of_nonneg_right (by omega) (by omega)
    omega
  have o1 := hk_out (N := N) (k := k) (d := d) (A := s + lead l) (n := p) (L := l.drop (lead l)) (K := K) ⟨hs.k0, hs.k1⟩ (by omega) (by omega) (by omega) ⟨by omega, by omega⟩ hAn hK (fun q hq => hL q (List.mem_of_mem_drop hq))
  have o2 := con_out (s := s) (d := p) (l := l) (K := K) hv (by omega) (by omega) hK hL
  rw [hlen, hkTo_upv (by omega) (by omega)] at o1
  refine Out.eq (o1.congr rfl (fun m _ => ?_) (Int.le_refl _) (Nat.le_refl _)) o2
  obtain ⟨g, hg⟩ : ∃ g : Nat, (gI m p).toNat = g + 1 := ⟨(gI m p).toNat - 1, by have := gI_bd (m := m) (n := p) (by omega); omega⟩
  unfold hkC
  rw [hg, ct_S hp h, cf_drop _ _ _ (Nat.le_refl _)]
theorem plain_get {N k d s : Int} {es : List AV} (h : plainB N k d s es = true) : ValidP s es.length = true ∧ SpecOK N k d ∧ k ≤ 16 ∧ 1 ≤ s + es.length ∧ s + es.length ≤ 60 ∧ -2 ≤ s ∧ longB 60 es = false := by
  unfold plainB at h
  simp only [Bool.and_eq_true, decide_eq_true_eq, beq_iff_eq, Bool.not_eq_true'] at h
  obtain ⟨h1, h2, h3, h4, h5, h6, h7⟩ := h
  exact ⟨h1, rcC_ok h2, h3, by omega, by omega, by omega, h7⟩
/-- what the gate lets in -/
theorem plain_isL {N k d : Int} {a : Ser} (ha : SerOK a) (h : plainB N k d a.from' (a.coef.map rawA) = true) : IsL (a.coef.map rawA) 4 (a.coef.map ratO) := by
  obtain ⟨h1, -, -, -, -, -, h7⟩ := plain_get h
  exact (isL_long ha.dig h7).1
set_option maxHeartbeats 8000000 in
theorem contracts_p (a : Ser) (N k d i : Int) (ha : SerOK a) : PC Tryd.prog 3 [serO a, specA N k d, iV i] (bV true) := by
  have aw := hawake_p
  have g1 := plain_p (N := N) (k := k) (d := d) (s := a.from') (es := a.coef.map rawA) (fun e he => by obtain ⟨r, -, rfl⟩ := List.mem_map.1 he; exact c4_raw r) (inR_ser ha)
  have bm := bmod_p (x := i) (m := 5) (by decide) (by decide)
  have hi1 := Int.emod_nonneg i (show (5 : Int) ≠ 0 by decide)
  have hi2 := Int.emod_lt_of_pos i (show (0 : Int) < 5 by decide)
  have hmem := ctp_mem i
  have hget : ([iV 2, iV 3, iV 5, iV 7, iV 11] : List AV)[(i % 5).toNat]? = some (iV (ctp i)) := by
    unfold ctp
    generalize i % 5 = x at *
    obtain ⟨n, rfl⟩ : ∃ n : Nat, x = n := ⟨x.toNat, by omega⟩
    rw [Int.toNat_natCast]
    obtain rfl | rfl | rfl | rfl | rfl : n = 0 ∨ n = 1 ∨ n = 2 ∨ n = 3 ∨ n = 4 := by omega
    all_goals rfl
  have k1 := fun h => plain_isL (N := N) (k := k) (d := d) ha h
  have r1 := inR_ser ha
  have le1 : (a.coef.map rawA).length = (a.coef.map ratO).length := by simp
  generalize hP : ctp i = p at *
  clear hP
  have hpb := ct_pos hmem
  unfold serO
  generalize i % 5 = x at *
  generalize a.coef.map ratO = l at *
  generalize a.coef.map rawA = es at *
  generalize a.from' = s at *
  cases hg : plainB N k d s es with
  | false =>
    rw [hg] at g1
    clear k1
    unfold specA at *
    refine pc_body1 true Tryd.func3 rfl rfl rfl (Nat.le_of_ble_eq_true rfl) CellT.tmp ?_
    refine goA ?_
    refine evG ggA (ss_bslice (InB_of rfl) (make_tab rfl) rfl rfl rfl rfl (ones_ok rfl) (Nat.le_of_ble_eq_true rfl)) ?_
    refine goA ?_
    refine evG ggA (ss_call (InB_of rfl) rfl rfl bm) ?_
    refine goA ?_
    refine evG ggA (ss_index_sl (InB_of rfl) (elem_tab rfl) rfl rfl (by omega) hget rfl) ?_
    refine goA ?_
    refine evG ggA (ss_call (InB_of rfl) rfl rfl g1) ?_
    refine goA ?_
    refine evG ggA (ss_call (InB_of rfl) rfl rfl aw) ?_
    refine goA ?_
    exact rfl
  | true =>
  rw [hg] at g1
  by_cases hd : N.tmod p = 0
  · have kd : (N.tmod p != 0) = false := by simpa using hd
    have hL := k1 hg
    obtain ⟨hv, hs, hk16, hp1, hp60, hs2, -⟩ := plain_get hg
    have hv' : ValidP s l.length = true := by rw [← le1]; exact hv
    have hht := isL_ht hL (by decide)
    have e1 := ct_law (d := d) (k := k) hs hv' hs2 (by rw [← le1]; exact hp1) (by decide) hht hmem (Int.dvd_of_tmod_eq_zero hd)
    have m1 := hecke_p (n := p) hs hL le1 (by decide) hv hp1 (by omega) (by omega)
    rw [e1] at m1
    have m2 := contract_p (d := p) (fun _ => hL) le1 r1 (by decide) (by omega) (by omega)
    obtain ⟨u, c, e, o1, o2, o3, -, -, o7, -⟩ := con_out (s := s) (d := p) (l := l) (K := 4) hv' (by omega) (by omega) (by decide) hht
    rw [e] at m1 m2
    have q1 := sameQ_p (s := u) (t := u) (m := c) o7 (by decide) (by omega)
    rw [decide_eq_true ⟨rfl, rfl⟩] at q1
    have m1 : PC Tryd.prog 7 [serA s es, specA N k d, iV p] (.tup [serA u (c.map encQ), iV 0]) := m1
    have m2 : PC Tryd.prog 8 [serA s es, iV p] (.tup [serA u (c.map encQ), iV 0]) := m2
    clear e1 e o1 o2 o3 o7 hL k1 hht hs
    generalize c.map encQ = es2 at *
    unfold specA at *
    refine pc_body1 true Tryd.func3 rfl rfl rfl (Nat.le_of_ble_eq_true rfl) CellT.tmp ?_
    refine goA ?_
    refine evG ggA (ss_bslice (InB_of rfl) (make_tab rfl) rfl rfl rfl rfl (ones_ok rfl) (Nat.le_of_ble_eq_true rfl)) ?_
    refine goA ?_
    refine evG ggA (ss_call (InB_of rfl) rfl rfl bm) ?_
    refine goA ?_
    refine evG ggA (ss_index_sl (InB_of rfl) (elem_tab rfl) rfl rfl (by omega) hget rfl) ?_
    refine goA ?_
    refine evG ggA (ss_call (InB_of rfl) rfl rfl g1) ?_
    refine goA ?_
    refine evG ggA (ss_div (op := .rem) (InB_of rfl) rfl rfl (by omega) rfl) ?_
    refine goA ?_
    refine evG ggA (ss_call (InB_of rfl) rfl rfl m1) ?_
    refine goA ?_
    refine evG ggA (ss_call (InB_of rfl) rfl rfl m2) ?_
    refine goA ?_
    refine evG ggA (ss_call (InB_of rfl) rfl rfl q1) ?_
    refine goA ?_
    refine evG ggA (ss_call (InB_of rfl) rfl rfl aw) ?_
    refine goA ?_
    exact rfl
  · have kd : (N.tmod p != 0) = true := by simpa using hd
    clear k1
    unfold specA at *
    refine pc_body1 true Tryd.func3 rfl rfl rfl (Nat.le_of_ble_eq_true rfl) CellT.tmp ?_
    refine goA ?_
    refine evG ggA (ss_bslice (InB_of rfl) (make_tab rfl) rfl rfl rfl rfl (ones_ok rfl) (Nat.le_of_ble_eq_true rfl)) ?_
    refine goA ?_
    refine evG ggA (ss_call (InB_of rfl) rfl rfl bm) ?_
    refine goA ?_
    refine evG ggA (ss_index_sl (InB_of rfl) (elem_tab rfl) rfl rfl (by omega) hget rfl) ?_
    refine goA ?_
    refine evG ggA (ss_call (InB_of rfl) rfl rfl g1) ?_
    refine goA ?_
    refine evG ggA (ss_div (op := .rem) (InB_of rfl) rfl rfl (by omega) rfl) ?_
    refine goA ?_
    refine evG ggA (ss_call (InB_of rfl) rfl rfl aw) ?_
    refine goA ?_
    exact rfl
end Ab
