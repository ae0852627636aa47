/- Package ref01: divided, in abstract values: its walk. -/
import Derived.Test.YtmcfohngblbpbaaGreatRefH
namespace Ab
open Go Go.RowKit Go.Proofs Hp
set_option maxRecDepth 100000

theorem isI_dgs (x : Nat) {k : Nat} (h : (dgs x).length ≤ k) : IsI (.agg [.p (.bool false), .sl ((dgs x).map u32)]) k x := ⟨_, rfl, false, dgs x, rfl, dgs_dig, h, by rw [dgs_vl]; rfl⟩
theorem bits_d (x : Nat) (h : (dgs x).length ≤ 274877906944) : PW Tryz.prog 142 [.agg [.p (.bool false), .sl ((dgs x).map u32)]] (.p (.int .i64 (bit' x))) := by
  have := bits_p (isI_dgs x h) (by decide)
  rw [Int.natAbs_natCast] at this
  exact this
theorem nd_of {ds : List Int} {n : Nat} (h : vl ds = n) : nd ds = dgs n := by unfold nd; rw [h, Int.toNat_natCast]
theorem word_lt {x : Nat} (h : (dgs x).length ≤ 2) : x < 18446744073709551616 := by
  have h1 := vl_lt (dgs_dig (n := x))
  rw [dgs_vl] at h1
  have h2 := pw_le _ _ h
  have h3 : pw 2 = 18446744073709551616 := by decide
  omega
theorem word_d (x : Nat) (h : (dgs x).length ≤ 2) : PW Tryz.prog 127 [.sl ((dgs x).map u32)] (.p (.int .u64 x)) := by
  have := word_p (dgs_dig (n := x)) h
  rw [dgs_vl] at this
  exact this
theorem tdiv_nat (x y : Nat) : (x : Int).tdiv (y : Int) = ((x / y : Nat) : Int) := rfl
theorem tmod_nat (x y : Nat) : (x : Int).tmod (y : Int) = ((x % y : Nat) : Int) := rfl
set_option maxHeartbeats 4000000 in
theorem divided_p (x y : Nat) (hy : y ≠ 0) (hlx : (dgs x).length ≤ 274877906944) (hly : (dgs y).length ≤ 274877906944) : PW Tryz.prog 135 [.sl ((dgs x).map u32), .sl ((dgs y).map u32)] (.tup [.sl ((divQ x y).map u32), .sl ((dgs (x % y)).map u32)]) := by
  have elx : ((dgs x).map u32).length = (dgs x).length := by simp
  have ely : ((dgs y).map u32).length = (dgs y).length := by simp
  by_cases hs : (dgs x).length ≤ 2 ∧ (dgs y).length ≤ 2
  · have hb1 : decide ((((dgs x).map u32).length : Int) ≤ 2) = true := by simp; omega
    have hb2 : decide ((((dgs y).map u32).length : Int) ≤ 2) = true := by simp; omega
    have e : divQ x y = dgs (x / y) := by unfold divQ; rw [if_pos hs]
    rw [e]
    have wx := word_lt hs.1
    have wy := word_lt hs.2
    have c1 := word_d x hs.1
    have c2 := word_d y hs.2
    have hq : x / y ≤ x := Nat.div_le_self x y
    have hm : x % y ≤ x := Nat.mod_le x y
    have c3 := split_p (x / y) (by omega)
    have c4 := split_p (x % y) (by omega)
    have hdq : IntKind.u64.wrap ((x : Int).tdiv (y : Int)) = ((x / y : Nat) : Int) := by rw [tdiv_nat]; exact u64w (Int.natCast_nonneg _) (by omega)
    have hdr := tmod_nat x y
    refine pc_body2 false Tryz.func135 rfl rfl rfl (Nat.le_of_ble_eq_true rfl) CellT.tmp CellT.tmp ?_
    refine goA ?_
    refine evG ggA (ss_call (InB_of rfl) rfl rfl c1) ?_
    refine goA ?_
    refine evG ggA (ss_call (InB_of rfl) rfl rfl c2) ?_
    refine evG ggA (ss_div (InB_of rfl) rfl rfl (by omega) hdq) ?_
    refine evG ggA (ss_call (InB_of rfl) rfl rfl c3) ?_
    refine goA ?_
    refine evG ggA (ss_call (InB_of rfl) rfl rfl c1) ?_
    refine goA ?_
    refine evG ggA (ss_call (InB_of rfl) rfl rfl c2) ?_
    refine evG ggA (ss_div (InB_of rfl) rfl rfl (by omega) hdr) ?_
    refine evG ggA (ss_call (InB_of rfl) rfl rfl c4) ?_
    refine goA ?_
    exact rfl
  have hbx := bits_d x hlx
  have hby := bits_d y hly
  have blx := bit_len x
  have bly := bit_len y
  refine pc_body2 false Tryz.func135 rfl rfl rfl (Nat.le_of_ble_eq_true rfl) CellT.tmp CellT.tmp ?_
  refine r1A ?_
  refine T.seqI (fun s1 => s1 = mkS [(0, .v (.sl ((dgs x).map u32))), (1, .v (.sl ((dgs y).map u32)))] [] 78 false) ?_ ?_
  · by_cases h1 : (dgs x).length ≤ 2
    · have hb1 : decide ((((dgs x).map u32).length : Int) ≤ 2) = true := by simp; omega
      have hb2 : decide ((((dgs y).map u32).length : Int) ≤ 2) = false := by simp; omega
      refine goA ?_
      exact midQ_intro (by exact entA) rfl
    · have hb1 : decide ((((dgs x).map u32).length : Int) ≤ 2) = false := by simp; omega
      refine goA ?_
      exact midQ_intro (by exact entA) rfl
  rintro _ rfl
  refine r1A ?_
  refine T.seq ?_
  refine regA ?_
  refine runA ?_
  refine evG ggA (ss_call (InB_of rfl) rfl rfl hbx) ?_
  refine runA ?_
  refine evG ggA (ss_call (InB_of rfl) rfl rfl hby) ?_
  refine runA ?_
  refine ev_nil ?_
  refine seqQ_n ?_
  by_cases hlt : bit' x < bit' y
  · have hb3 : decide ((bit' x : Int) - (bit' y : Int) < 0) = true := by simp; omega
    have e : divQ x y = [] := by unfold divQ; rw [if_neg hs, if_pos hlt]
    have e2 : x % y = x := Nat.mod_eq_of_lt (bit_lt hlt)
    rw [e, e2]
    refine T.seq ?_
    refine T.seq ?_
    refine regA ?_
    refine runA ?_
    refine ev_nil ?_
    refine seqQ_n ?_
    refine T.condT rfl hb3 ?_
    refine T.seq ?_
    refine regA ?_
    refine runA ?_
    refine ev_nil ?_
    refine seqQ_n ?_
    refine T.weak (s' := mkS [(4, .v (.sl [])), (5, .v (.sl ((dgs x).map u32)))] [] 78 false) (by exact entA) ?_
    refine goA ?_
    exact rfl
  have hb3 : decide ((bit' x : Int) - (bit' y : Int) < 0) = false := by simp; omega
  have e : divQ x y = pad ((bit' x - bit' y) / 32 + 1) (x / y) := by unfold divQ; rw [if_neg hs, if_neg hlt]
  rw [e]
  have hst := bit_start hy (show bit' y ≤ bit' x by omega)
  obtain ⟨S, hS⟩ : ∃ S, S = bit' x - bit' y := ⟨_, rfl⟩
  have hSi : (bit' x : Int) - (bit' y : Int) = (S : Int) := by omega
  rw [← hS] at hst ⊢
  obtain ⟨L, hL⟩ : ∃ L, L = S / 32 + 1 := ⟨_, rfl⟩
  rw [← hL]
  have hSb : S ≤ 8796093022208 := by omega
  have hLb : L ≤ 274877906945 := by omega
  refine T.seqI (fun s1 => s1 = mkS [(1, .v (.sl ((dgs y).map u32))), (6, .v (.sl ((dgs x).map u32))), (7, .v (.p (.int .i64 S)))] [] 78 false) ?_ ?_
  · refine goA ?_
    rw [hSi]
    exact midQ_intro (by exact entA) rfl
  rintro _ rfl
  have hq : IntKind.i64.wrap ((S : Int).tdiv 32) = ((S / 32 : Nat) : Int) := by
    rw [show (S : Int).tdiv 32 = ((S / 32 : Nat) : Int) from rfl, w64 (by omega) (by omega)]
  refine T.seqI (fun s1 => s1 = mkS [(1, .v (.sl ((dgs y).map u32))), (6, .v (.sl ((dgs x).map u32))), (7, .v (.p (.int .i64 S))), (8, .own 30 L)] [(30, .lst 1 49 ((List.replicate L 0).map u32))] 78 false) ?_ ?_
  · refine goA ?_
    refine evG ggA (ss_div (InB_of rfl) rfl rfl (by decide) hq) ?_
    refine goA ?_
    refine evG ggA (ss_make 30 (bytes := 4) (e0 := u32 0) (InB_of rfl) (make_tab rfl) rfl rfl rfl (by omega) (by omega) (by omega) (by omega) rfl rfl rfl) ?_
    refine goA ?_
    have e3 : (((S / 32 : Nat) : Int) + 1).toNat = L := by omega
    rw [e3]
    exact midQ_intro (s' := mkS [(1, .v (.sl ((dgs y).map u32))), (6, .v (.sl ((dgs x).map u32))), (7, .v (.p (.int .i64 S))), (8, .own 30 L)] [(30, .lst 1 49 (List.replicate L (u32 0)))] 78 false) (by exact entA) (by rw [List.map_replicate])
  rintro _ rfl
  have hD0 : DivI x y L (S + 1) (List.replicate L 0) 0 x := by
    have z : ∀ i, (List.replicate L (0 : Int)).getD i 0 = 0 := fun i => by
      rw [List.getD_eq_getElem?_getD]
      cases h : (List.replicate L (0 : Int))[i]? with
      | none => rfl
      | some d => exact List.eq_of_mem_replicate (List.mem_of_getElem? h)
    exact ⟨by simp, digs_rep, by rw [vl_rep]; rfl, by omega, hst, fun i _ => z i, by rw [z]; exact Int.dvd_zero _⟩
  refine T.seqI (fun s1 => s1 = mkS [(6, .v (.sl ((dgs (x % y)).map u32))), (8, .own 30 L)] [(30, .lst 1 49 ((pad L (x / y)).map u32))] 78 false) ?_ ?_
  · refine r1A ?_
    refine T.block ?_
    refine T.loop (fun n s1 => ∃ (k v rv : Nat) (qs : List Int), n = k ∧ k ≤ S + 1 ∧ DivI x y L k qs v rv ∧ s1 = mkS [(1, .v (.sl ((dgs y).map u32))), (6, .v (.sl ((dgs rv).map u32))), (8, .own 30 L), (9, .v (.p (.int .i64 ((k : Int) - 1))))] [(30, .lst 1 49 (qs.map u32))] 78 false) (S + 1)
      (s' := mkS [(1, .v (.sl ((dgs y).map u32))), (6, .v (.sl ((dgs x).map u32))), (8, .own 30 L), (9, .v (.p (.int .i64 S)))] [(30, .lst 1 49 ((List.replicate L 0).map u32))] 78 false) (by exact entA) ⟨S + 1, 0, x, _, rfl, Nat.le_refl _, hD0, by rw [show ((S + 1 : Nat) : Int) - 1 = (S : Int) by omega]⟩ ?_
    clear hbx hby hD0 hst e
    rintro k' _ ⟨_, v, rv, qs, rfl, hk, hD, rfl⟩
    by_cases h0 : k' = 0
    · subst h0
      have hb : decide (((0 : Nat) : Int) - 1 ≥ 0) = false := by decide
      obtain ⟨f1, f2⟩ := hD.fin
      subst f1 f2
      refine goA ?_
      exact midQ_intro (s' := mkS [(6, .v (.sl ((dgs (x % y)).map u32))), (8, .own 30 L)] [(30, .lst 1 49 ((pad L (x / y)).map u32))] 78 false) (by exact entA) rfl
    · have hb : decide ((k' : Int) - 1 ≥ 0) = true := by simp; omega
      obtain ⟨k, rfl⟩ : ∃ k, k' = k + 1 := ⟨k' - 1, by omega⟩
      have hkc : ((k + 1 : Nat) : Int) - 1 = (k : Int) := by omega
      rw [hkc] at hb ⊢
      have hkL : k / 32 < L := by omega
      have csh := shifted_p (dgs_dig (n := y)) (by omega) k (by omega)
      rw [dgs_vl, Int.toNat_natCast] at csh
      have hrx : rv ≤ x := by have := hD.e; omega
      have hlr : (dgs rv).length ≤ (dgs x).length := dgs_mono hrx
      have cbe := below_p rv (y * 2 ^ k) (by omega)
      by_cases hlt2 : rv < y * 2 ^ k
      · rw [decide_eq_true hlt2] at cbe
        have hD' := hD.skip hlt2
        refine goA ?_
        refine evG ggA (ss_call (InB_of rfl) rfl rfl csh) ?_
        refine goA ?_
        refine evG ggA (ss_call (InB_of rfl) rfl rfl cbe) ?_
        refine goA ?_
        exact loopQ_intro (k := k) (s' := mkS [(1, .v (.sl ((dgs y).map u32))), (6, .v (.sl ((dgs rv).map u32))), (8, .own 30 L), (9, .v (.p (.int .i64 ((k : Int) - 1))))] [(30, .lst 1 49 (qs.map u32))] 78 false) (by omega) (by exact entA) ⟨k, v, rv, qs, rfl, by omega, hD', rfl⟩
      · rw [decide_eq_false hlt2] at cbe
        have hge : y * 2 ^ k ≤ rv := by omega
        have hD' := hD.step hkL hge
        obtain ⟨hz, hdv⟩ := hD.low
        have hroom := dig_room (Nat.mod_lt k (by decide)) (gd_dig hD.dig (k / 32)) hdv
        have hiq : k / 32 < qs.length := by rw [hD.len]; exact hkL
        have gq : qs.getD (k / 32) 0 = qs[k / 32] := by simp [hiq]
        have gqd := gd_b hD.dig (k / 32)
        rw [gq] at hD' hroom gqd
        have vr := dgs_vl rv
        have vt := dgs_vl (y * 2 ^ k)
        have hlt3 : (dgs (y * 2 ^ k)).length ≤ (dgs rv).length := dgs_mono hge
        have cmi := minus_p (dgs_dig (n := rv)) (dgs_dig (n := y * 2 ^ k)) (by omega)
        have vmi := minusL_vl (dgs_dig (n := rv)) (dgs_dig (n := y * 2 ^ k)) hlt3 (by rw [vr, vt]; omega)
        have cti := trim_p (minusL_dig (dgs_dig (n := rv)) (dgs_dig (n := y * 2 ^ k))) (by rw [minusL_len]; omega)
        rw [nd_of (n := rv - y * 2 ^ k) (by rw [vmi, vr, vt]; omega)] at cti
        have hel : (qs.map u32).length = L := by rw [List.length_map]; exact hD.len
        have hqk : IntKind.i64.wrap ((k : Int).tdiv 32) = ((k / 32 : Nat) : Int) := by
          rw [show (k : Int).tdiv 32 = ((k / 32 : Nat) : Int) from rfl, w64 (by omega) (by omega)]
        have hrk : (k : Int).tmod 32 = ((k % 32 : Nat) : Int) := rfl
        have hP := two_pos (k % 32)
        have hP1 : (2 : Int) ^ (k % 32) ≤ 2147483648 := two_le (n := 31) (by omega)
        have hget : (qs.map u32)[(((k / 32 : Nat) : Int)).toNat]? = some (.p (.int .u32 qs[k / 32])) := u32_get hiq
        have hshl : IntKind.u32.wrap (1 * 2 ^ (min (((k % 32 : Nat) : Int)).toNat IntKind.u32.bits)) = 2 ^ (k % 32) := by
          rw [Int.toNat_natCast, show min (k % 32) IntKind.u32.bits = k % 32 from Nat.min_eq_left (by show k % 32 ≤ 32; omega), Int.one_mul]
          exact u32w (by omega) (by omega)
        have hadd : IntKind.u32.wrap (qs[k / 32] + 2 ^ (k % 32)) = qs[k / 32] + 2 ^ (k % 32) := u32w hroom.1 hroom.2
        refine goA ?_
        refine evG ggA (ss_call (InB_of rfl) rfl rfl csh) ?_
        refine goA ?_
        refine evG ggA (ss_call (InB_of rfl) rfl rfl cbe) ?_
        refine goA ?_
        refine evG ggA (ss_call (InB_of rfl) rfl rfl cmi) ?_
        refine evG ggA (ss_call (InB_of rfl) rfl rfl cti) ?_
        refine goA ?_
        refine evG ggA (ss_div (InB_of rfl) rfl rfl (by decide) hqk) ?_
        refine goA ?_
        refine evG ggA (ss_div (InB_of rfl) rfl rfl (by decide) hqk) ?_
        refine evG ggA (ss_index_own (InB_of rfl) (elem_tab rfl) rfl rfl hel rfl (by omega) (by omega)) ?_
        refine evG ggA (ss_load_op1 (InB_of rfl) (one_tab rfl) rfl rfl hel hget rfl) ?_
        refine goA ?_
        refine evG ggA (ss_div (InB_of rfl) rfl rfl (by decide) hrk) ?_
        refine evG ggA (ss_conv (InB_of rfl) (int_tab rfl) und_uint rfl (u64w (by omega) (by omega))) ?_
        refine evG ggA (ss_shl (InB_of rfl) rfl rfl (by omega) hshl) ?_
        refine evG ggA (ss_arith (InB_of rfl) rfl rfl hadd) ?_
        refine evG ggA (ss_index_own (InB_of rfl) (elem_tab rfl) rfl rfl hel rfl (by omega) (by omega)) ?_
        refine evG ggA (ss_store_own rfl (size_tab rfl) rfl rfl hel (by omega) rfl rfl (fun l e => by cases e) rfl) ?_
        refine goA ?_
        refine loopQ_intro (k := k) (s' := mkS [(1, .v (.sl ((dgs y).map u32))), (6, .v (.sl ((dgs (rv - y * 2 ^ k)).map u32))), (8, .own 30 L), (9, .v (.p (.int .i64 ((k : Int) - 1))))] [(30, .lst 1 49 ((qs.map u32).set (((k / 32 : Nat) : Int)).toNat (.p (.int .u32 (qs[k / 32] + 2 ^ (k % 32))))))] 78 false) (by omega) (by exact entA) ⟨k, _, _, _, rfl, by omega, hD', by rw [Int.toNat_natCast, List.map_set]; rfl⟩
  rintro _ rfl
  have hel : ((pad L (x / y)).map u32).length = L := by rw [List.length_map, pad_len]
  refine T.weak (s' := mkS [(6, .v (.sl ((dgs (x % y)).map u32))), (8, .v (.sl ((pad L (x / y)).map u32)))] [] 78 false) (by exact entA) ?_
  refine goA ?_
  exact rfl
end Ab
