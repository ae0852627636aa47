/- Package ref01. -/
import Derived.Test.YtalcdpjpapojeaaGreatDoorRfB
set_option linter.all false
namespace Ab
open Go Go.RowKit Go.Proofs Hp
set_option maxRecDepth 100000
def pad (L n : Nat) : List Int := (List.range L).map fun i => ((n / 4294967296 ^ i % 4294967296 : Nat) : Int)
theorem pw_nat (q : Nat) : pw q = ((4294967296 ^ q : Nat) : Int) := by
 induction q with
 | zero => rfl
 | succ q ih => rw [pw_succ, ih, Nat.pow_succ, Int.natCast_mul]; rfl
theorem pad_dig {L n : Nat} : ∀ d, d ∈ pad L n → Zal d := fun d h => by
 obtain ⟨i, -, rfl⟩ := List.mem_map.1 h
 unfold Zal B
 omega
theorem pad_len (L n : Nat) : (pad L n).length = L := by simp [pad]
theorem pad_vl {L n : Nat} (h : (n : Int) < pw L) : vl (pad L n) = n := by
  unfold pad
  rw [vl_map]
  have key : ∀ L : Nat, val (fun i => ((n / 4294967296 ^ i % 4294967296 : Nat) : Int)) L = ((n % 4294967296 ^ L : Nat) : Int) := by
    intro L
    induction L with
    | zero => simp [val, Nat.mod_one]
    | succ L ih =>
      rw [val_succ, ih, pw_nat, Nat.pow_succ, Nat.mod_mul, ← Int.natCast_mul, ← Int.natCast_add, Nat.mul_comm (4294967296 ^ L)]
  rw [key, Nat.mod_eq_of_lt]
  rw [pw_nat] at h
  omega
theorem pad_of {qs : List Int} {n : Nat} (hd : ∀ d, d ∈ qs → Zal d) (hv : vl qs = n) : qs = pad qs.length n := by
 have hlt : (n : Int) < pw qs.length := by rw [← hv]; exact vl_lt hd
 have e := pad_vl hlt
 apply List.ext_getElem
 ·rw [pad_len]
 ·intro i h1 h2
  have hD2 := Zcr (pad_dig (L := qs.length) (n := n))
  rw [pad_len] at hD2
  have e2 : val (fun i => qs.getD i 0) qs.length = val (fun i => (pad qs.length n).getD i 0) qs.length := by
   rw [← vl_def, hv, ← e, vl_def, pad_len]
  have := val_inj (Zcr hd) hD2 e2 i h1
  simpa [h1, h2] using this
def divQ (x y : Nat) : List Int := if (dgs x).length ≤ 2 ∧ (dgs y).length ≤ 2 then dgs (x / y) else if bit' x < bit' y then [] else pad ((bit' x - bit' y) / 32 + 1) (x / y)
theorem bit_len (x : Nat) : bit' x ≤ 32 * (dgs x).length := by
 by_cases h : x = 0
 ·subst h; exact Nat.zero_le _
 ·obtain ⟨b, h1, h2, -⟩ := Zc8 h
  have h3 := vl_lt (dgs_dig (n := x))
  rw [Zcc, pw_nat, show (4294967296 : Nat) = 2 ^ 32 from rfl, ← Nat.pow_mul] at h3
  have h4 : 2 ^ b < 2 ^ (32 * (dgs x).length) := oM
  have := (Nat.pow_lt_pow_iff_right (by decide : 1 < 2)).1 h4
  omega
theorem bit_mono {x y : Nat} (h : x ≤ y) : bit' x ≤ bit' y := by
 by_cases h0 : x = 0
 ·subst h0; exact Nat.zero_le _
 ·obtain ⟨b, h1, h2, -⟩ := Zc8 h0
  obtain ⟨c, h3, -, h4⟩ := Zc8 (z := y) oM
  have := (Nat.pow_lt_pow_iff_right (by decide : 1 < 2)).1 (show 2 ^ b < 2 ^ (c + 1) by omega)
  omega
theorem bit_lt {x y : Nat} (h : bit' x < bit' y) : x < y := by
 by_cases h1 : x < y
 ·exact h1
 ·have := bit_mono (show y ≤ x by omega); omega
theorem bit_start {x y : Nat} (hy : y ≠ 0) (h : bit' y ≤ bit' x) : x < y * 2 ^ (bit' x - bit' y + 1) := by
 obtain ⟨c, h3, h4, -⟩ := Zc8 hy
 by_cases h0 : x = 0
 ·subst h0; exact Nat.mul_pos oM (Nat.two_pow_pos _)
 ·obtain ⟨b, h1, -, h2⟩ := Zc8 h0
  have h5 : 2 ^ c * 2 ^ (bit' x - bit' y + 1) ≤ y * 2 ^ (bit' x - bit' y + 1) := Nat.mul_le_mul_right _ h4
  rw [← Nat.pow_add, show c + (bit' x - bit' y + 1) = b + 1 by omega] at h5
  omega
theorem divQ_spec {x y : Nat} (hy : y ≠ 0) : (∀ d, d ∈ divQ x y → Zal d) ∧ vl (divQ x y) = ((x / y : Nat) : Int) ∧ (divQ x y).length ≤ (dgs x).length + 1 := by
 unfold divQ
 have hb := bit_len x
 split
 ·exact ⟨dgs_dig, Zcc _, Nat.le_succ_of_le (Ze5 (Nat.div_le_self x y))⟩
 ·split
  ·rename_i h
   exact ⟨fun d h => by simp at h, by rw [Nat.div_eq_of_lt (bit_lt h)]; rfl, by simp⟩
  ·rename_i h
   have h1 := bit_start hy (show bit' y ≤ bit' x by omega)
   refine ⟨pad_dig, pad_vl ?_, by rw [pad_len]; omega⟩
   rw [pw_two]
   have h2 : x / y < 2 ^ (bit' x - bit' y + 1) := by rw [Nat.div_lt_iff_lt_mul oM, Nat.mul_comm]; exact h1
   have h3 : 2 ^ (bit' x - bit' y + 1) ≤ 2 ^ (32 * ((bit' x - bit' y) / 32 + 1)) := Nat.pow_le_pow_right dC oM
   have h4 : ((x / y : Nat) : Int) < ((2 ^ (32 * ((bit' x - bit' y) / 32 + 1)) : Nat) : Int) := oM
   rw [Int.natCast_pow] at h4
   exact h4
theorem getD_set_eq {qs : List Int} {i : Nat} (h : i < qs.length) (e : Int) : (qs.set i e).getD i 0 = e := by simp [List.getD_eq_getElem?_getD, h]
theorem Zea {qs : List Int} {i j : Nat} (h : i ≠ j) (e : Int) : (qs.set i e).getD j 0 = qs.getD j 0 := by simp [List.getD_eq_getElem?_getD, List.getElem?_set_ne h]
theorem vl_set {qs : List Int} {i : Nat} (h : i < qs.length) (e : Int) : vl (qs.set i (qs.getD i 0 + e)) = vl qs + e * pw i := by
  rw [vl_def, vl_def, List.length_set]
  have key : ∀ n, val (fun j => (qs.set i (qs.getD i 0 + e)).getD j 0) n = val (fun j => qs.getD j 0) n + if i < n then e * pw i else 0 := by
    intro n
    induction n with
    | zero => simp [val]
    | succ n ih =>
      rw [val_succ, ih, val_succ (fun j => qs.getD j 0)]
      by_cases h1 : i = n
      · subst h1
        rw [getD_set_eq h, if_neg (Nat.lt_irrefl i), if_pos (Nat.lt_succ_self i), Int.add_mul]
        omega
      · rw [Zea h1]
        by_cases h2 : i < n
        · rw [if_pos h2, if_pos oM]; omega
        · rw [if_neg h2, if_neg oM]; omega
  rw [key, if_pos h]
theorem set_dig {qs : List Int} {i : Nat} {e : Int} (hd : ∀ d, d ∈ qs → Zal d) (he : Zal e) : ∀ d, d ∈ qs.set i e → Zal d := fun d h => by
 rcases List.mem_or_eq_of_mem_set h with h | rfl
 ·exact hd d h
 ·exact he
theorem dig_room {d : Int} {r : Nat} (hr : r < 32) (hd : Zal d) (h : (2 : Int) ^ (r + 1) ∣ d) : 0 ≤ d + 2 ^ r ∧ d + 2 ^ r < 4294967296 := by
 obtain ⟨c, rfl⟩ := h
 have h1 := Zf5 r
 have hB : (4294967296 : Int) = 2 ^ (r + 1) * 2 ^ (31 - r) := by rw [← Int.pow_add, show r + 1 + (31 - r) = 32 by omega]; rfl
 have hd2 : 2 ^ (r + 1) * c < 2 ^ (r + 1) * 2 ^ (31 - r) := by rw [← hB]; exact hd.2
 have hc := Int.lt_of_mul_lt_mul_left hd2 (Int.le_of_lt (Zf5 _))
 have h2 : (2 : Int) ^ (r + 1) * (c + 1) ≤ 2 ^ (r + 1) * 2 ^ (31 - r) := Int.mul_le_mul_of_nonneg_left oM (Int.le_of_lt (Zf5 _))
 rw [← hB, Int.mul_add, Int.mul_one] at h2
 have h3 : (2 : Int) ^ (r + 1) = 2 ^ r * 2 := by rw [Int.pow_succ]
 have := hd.1
 omega
structure DivI (x y L k : Nat) (qs : List Int) (v rv : Nat) : Prop where
 len : qs.length = L
 dig : ∀ d, d ∈ qs → Zal d
 vv : vl qs = (v : Int)
 e : x = y * v + rv
 lt : rv < y * 2 ^ k
 z : ∀ i, i < k / 32 → qs.getD i 0 = 0
 dv : (2 : Int) ^ (k % 32) ∣ qs.getD (k / 32) 0
theorem DivI.low {x y L k : Nat} {qs : List Int} {v rv : Nat} (h : DivI x y L (k + 1) qs v rv) : (∀ i, i < k / 32 → qs.getD i 0 = 0) ∧ (2 : Int) ^ (k % 32 + 1) ∣ qs.getD (k / 32) 0 := by
 refine ⟨fun i hi => h.z i oM, ?_⟩
 by_cases h1 : (k + 1) % 32 = 0
 ·rw [h.z (k / 32) oM]; exact Int.dvd_zero _
 ·have := h.dv
  rw [show (k + 1) / 32 = k / 32 by omega, show (k + 1) % 32 = k % 32 + 1 by omega] at this
  exact this
theorem DivI.skip {x y L k : Nat} {qs : List Int} {v rv : Nat} (h : DivI x y L (k + 1) qs v rv) (hlt : rv < y * 2 ^ k) : DivI x y L k qs v rv := by
 obtain ⟨h1, h2⟩ := h.low
 refine ⟨h.len, h.dig, h.vv, h.e, hlt, h1, ?_⟩
 rw [Int.pow_succ] at h2
 exact Int.dvd_trans (Int.dvd_mul_right _ 2) h2
theorem DivI.step {x y L k : Nat} {qs : List Int} {v rv : Nat} (h : DivI x y L (k + 1) qs v rv) (hk : k / 32 < L) (hge : y * 2 ^ k ≤ rv) : DivI x y L k (qs.set (k / 32) (qs.getD (k / 32) 0 + 2 ^ (k % 32))) (v + 2 ^ k) (rv - y * 2 ^ k) := by
 obtain ⟨h1, h2⟩ := h.low
 have hi : k / 32 < qs.length := by rw [h.len]; exact hk
 have hr := dig_room (Nat.mod_lt k dC) (gd_dig h.dig (k / 32)) h2
 have h2p : y * 2 ^ (k + 1) = y * 2 ^ k + y * 2 ^ k := by rw [Nat.pow_succ, ← Nat.mul_assoc]; omega
 have hlt := h.lt
 refine ⟨by rw [List.length_set]; exact h.len, set_dig h.dig ⟨hr.1, by unfold B; exact hr.2⟩, ?_, ?_, oM, fun i hi => ?_, ?_⟩
 ·rw [vl_set hi, h.vv, ← two_split, Int.natCast_add, Int.natCast_pow]; rfl
 ·rw [Nat.mul_add]; have := h.e; omega
 ·rw [Zea oM]; exact h1 i hi
 ·rw [getD_set_eq hi]
  rw [Int.pow_succ] at h2
  exact Int.dvd_add (Int.dvd_trans (Int.dvd_mul_right _ 2) h2) (Int.dvd_refl _)
theorem DivI.fin {x y L : Nat} {qs : List Int} {v rv : Nat} (h : DivI x y L 0 qs v rv) : qs = pad L (x / y) ∧ rv = x % y := by
 have hlt := h.lt
 rw [Nat.pow_zero, Nat.mul_one] at hlt
 have e := h.e
 have h1 : x / y = v := by rw [e, Nat.mul_add_div oM, Nat.div_eq_of_lt hlt, Nat.add_zero]
 have h2 : x % y = rv := by rw [e, Nat.mul_add_mod, Nat.mod_eq_of_lt hlt]
 rw [h1, h2, ← h.len]
 exact ⟨pad_of h.dig h.vv, rfl⟩
theorem isI_dgs (x : Nat) {k : Nat} (h : (dgs x).length ≤ k) : IsI (.agg [.p (.bool false), .sl ((dgs x).map u32)]) k x := ⟨_, rfl, false, dgs x, rfl, dgs_dig, h, by rw [Zcc]; rfl⟩
theorem bits_d (x : Nat) (h : (dgs x).length ≤ 274877906944) : PW Tryz.prog 182 [.agg [.p (.bool false), .sl ((dgs x).map u32)]] (.p (.int .i64 (bit' x))) := by
 have := bits_p (isI_dgs x h) dC
 rw [Int.natAbs_natCast] at this
 exact this
theorem nd_of {ds : List Int} {n : Nat} (h : vl ds = n) : nd ds = dgs n := by unfold nd; rw [h, Int.toNat_natCast]
theorem word_lt {x : Nat} (h : (dgs x).length ≤ 2) : x < 18446744073709551616 := by
 have h1 := vl_lt (dgs_dig (n := x))
 rw [Zcc] at h1
 have h2 := Zed _ _ h
 have h3 : pw 2 = 18446744073709551616 := dC
 omega
theorem word_d (x : Nat) (h : (dgs x).length ≤ 2) : PW Tryz.prog 133 [.sl ((dgs x).map u32)] (.p (.int .u64 x)) := by
 have := word_p (dgs_dig (n := x)) h
 rw [Zcc] at this
 exact this
theorem tdiv_nat (x y : Nat) : (x : Int).tdiv (y : Int) = ((x / y : Nat) : Int) := rfl
theorem tmod_nat (x y : Nat) : (x : Int).tmod (y : Int) = ((x % y : Nat) : Int) := rfl
set_option maxHeartbeats 4000000 in
theorem divided_p (x y : Nat) (hy : y ≠ 0) (hlx : (dgs x).length ≤ 274877906944) (hly : (dgs y).length ≤ 274877906944) : PW Tryz.prog 158 [.sl ((dgs x).map u32), .sl ((dgs y).map u32)] (.tup [.sl ((divQ x y).map u32), .sl ((dgs (x % y)).map u32)]) := by
 have elx : ((dgs x).map u32).length = (dgs x).length := by simp
 have ely : ((dgs y).map u32).length = (dgs y).length := by simp
 by_cases hs : (dgs x).length ≤ 2 ∧ (dgs y).length ≤ 2
 ·have hb1 : decide ((((dgs x).map u32).length : Int) ≤ 2) = true := by simp; omega
  have hb2 : decide ((((dgs y).map u32).length : Int) ≤ 2) = true := by simp; omega
  have e : divQ x y = dgs (x / y) := by unfold divQ; rw [if_pos hs]
  rw [e]
  have wx := word_lt hs.1
  have wy := word_lt hs.2
  have c1 := word_d x hs.1
  have c2 := word_d y hs.2
  have hq : x / y ≤ x := Nat.div_le_self x y
  have hm : x % y ≤ x := Nat.mod_le x y
  have c3 := split_p (x / y) oM
  have c4 := split_p (x % y) oM
  have hdq : IntKind.u64.wrap ((x : Int).tdiv (y : Int)) = ((x / y : Nat) : Int) := by rw [tdiv_nat]; exact u64w (Int.natCast_nonneg _) oM
  have hdr := tmod_nat x y
  refine pc_body2 false Tryz.func158 rfl rfl rfl (Nat.le_of_ble_eq_true rfl) Zac.tmp Zac.tmp ?_
  refine goA ?_
  refine clG c1 ?_
  refine clA c2 ?_
  refine evG ggA (Zbx (Zaa rfl) rfl rfl oM hdq) ?_
  refine clG c3 ?_
  refine clG c1 ?_
  refine clA c2 ?_
  refine evG ggA (Zbx (Zaa rfl) rfl rfl oM hdr) ?_
  refine clG c4 ?_
  exact rfl
 have hbx := bits_d x hlx
 have hby := bits_d y hly
 have blx := bit_len x
 have bly := bit_len y
 refine pc_body2 false Tryz.func158 rfl rfl rfl (Nat.le_of_ble_eq_true rfl) Zac.tmp Zac.tmp ?_
 refine r1A ?_
 refine T.seqE (mkS [(0, .v (.sl ((dgs x).map u32))), (1, .v (.sl ((dgs y).map u32)))] [] 78 false) ?_ ?_
 ·by_cases h1 : (dgs x).length ≤ 2
  ·have hb1 : decide ((((dgs x).map u32).length : Int) ≤ 2) = true := by simp; omega
   have hb2 : decide ((((dgs y).map u32).length : Int) ≤ 2) = false := by simp; omega
   refine goA ?_
   exact midE
  ·have hb1 : decide ((((dgs x).map u32).length : Int) ≤ 2) = false := by simp; omega
   refine goA ?_
   exact midE
 refine r1A ?_
 refine T.seq ?_
 refine regA ?_
 refine runA ?_
 refine clA hbx ?_
 refine runA ?_
 refine clA hby ?_
 refine runA ?_
 refine Zao ?_
 refine Za1 ?_
 by_cases hlt : bit' x < bit' y
 ·have hb3 : decide ((bit' x : Int) - (bit' y : Int) < 0) = true := by simp; omega
  have e : divQ x y = [] := by unfold divQ; rw [if_neg hs, if_pos hlt]
  have e2 : x % y = x := Nat.mod_eq_of_lt (bit_lt hlt)
  rw [e, e2]
  refine T.seq ?_
  refine T.seq ?_
  refine regA ?_
  refine runA ?_
  refine Zao ?_
  refine Za1 ?_
  refine T.condT rfl hb3 ?_
  refine T.seq ?_
  refine regA ?_
  refine runA ?_
  refine Zao ?_
  refine Za1 ?_
  refine T.weak (s' := mkS [(4, .v (.sl [])), (5, .v (.sl ((dgs x).map u32)))] [] 78 false) entA ?_
  refine goA ?_
  exact rfl
 have hb3 : decide ((bit' x : Int) - (bit' y : Int) < 0) = false := by simp; omega
 have e : divQ x y = pad ((bit' x - bit' y) / 32 + 1) (x / y) := by unfold divQ; rw [if_neg hs, if_neg hlt]
 rw [e]
 have hst := bit_start hy (show bit' y ≤ bit' x by omega)
 obtain ⟨S, hS⟩ : ∃ S, S = bit' x - bit' y := ⟨_, rfl⟩
 have hSi : (bit' x : Int) - (bit' y : Int) = (S : Int) := oM
 rw [← hS] at hst ⊢
 obtain ⟨L, hL⟩ : ∃ L, L = S / 32 + 1 := ⟨_, rfl⟩
 rw [← hL]
 have hSb : S ≤ 8796093022208 := oM
 have hLb : L ≤ 274877906945 := oM
 refine T.seqE (mkS [(1, .v (.sl ((dgs y).map u32))), (6, .v (.sl ((dgs x).map u32))), (7, .v (iV S))] [] 78 false) ?_ ?_
 ·refine goA ?_
  rw [hSi]
  exact midE
 have hq : IntKind.i64.wrap ((S : Int).tdiv 32) = ((S / 32 : Nat) : Int) := by
  rw [show (S : Int).tdiv 32 = ((S / 32 : Nat) : Int) from rfl, w64 oM oM]
 refine T.seqE (mkS [(1, .v (.sl ((dgs y).map u32))), (6, .v (.sl ((dgs x).map u32))), (7, .v (iV S)), (8, .own 30 L)] [(30, .lst 1 74 ((List.replicate L 0).map u32))] 78 false) ?_ ?_
 ·refine goA ?_
  refine evG ggA (Zbx (Zaa rfl) rfl rfl dC hq) ?_
  refine goA ?_
  refine evG ggA (Zdv 30 (bytes := 4) (e0 := u32 0) (Zaa rfl) (Zaf rfl) rfl rfl rfl oM oM oM oM rfl rfl rfl) ?_
  refine goA ?_
  have e3 : (((S / 32 : Nat) : Int) + 1).toNat = L := oM
  rw [e3]
  exact Zae (s' := mkS [(1, .v (.sl ((dgs y).map u32))), (6, .v (.sl ((dgs x).map u32))), (7, .v (iV S)), (8, .own 30 L)] [(30, .lst 1 74 (List.replicate L (u32 0)))] 78 false) entA (by rw [List.map_replicate])
 have hD0 : DivI x y L (S + 1) (List.replicate L 0) 0 x := by
  have z : ∀ i, (List.replicate L (0 : Int)).getD i 0 = 0 := fun i => by
   rw [List.getD_eq_getElem?_getD]
   cases h : (List.replicate L (0 : Int))[i]? with
   | none => rfl
   | some d => exact List.eq_of_mem_replicate (List.mem_of_getElem? h)
  exact ⟨by simp, digs_rep, by rw [vl_rep]; rfl, oM, hst, fun i _ => z i, by rw [z]; exact Int.dvd_zero _⟩
 refine T.seqE (mkS [(6, .v (.sl ((dgs (x % y)).map u32))), (8, .own 30 L)] [(30, .lst 1 74 ((pad L (x / y)).map u32))] 78 false) ?_ ?_
 ·refine r1A ?_
  refine T.block ?_
  refine T.loop (fun n s1 => ∃ (k v rv : Nat) (qs : List Int), n = k ∧ k ≤ S + 1 ∧ DivI x y L k qs v rv ∧ s1 = mkS [(1, .v (.sl ((dgs y).map u32))), (6, .v (.sl ((dgs rv).map u32))), (8, .own 30 L), (9, .v (iV ((k : Int) - 1)))] [(30, .lst 1 74 (qs.map u32))] 78 false) (S + 1)
   (s' := mkS [(1, .v (.sl ((dgs y).map u32))), (6, .v (.sl ((dgs x).map u32))), (8, .own 30 L), (9, .v (iV S))] [(30, .lst 1 74 ((List.replicate L 0).map u32))] 78 false) entA ⟨S + 1, 0, x, _, rfl, Nat.le_refl _, hD0, by rw [show ((S + 1 : Nat) : Int) - 1 = (S : Int) by omega]⟩ ?_
  clear hbx hby hD0 hst e
  rintro k' _ ⟨_, v, rv, qs, rfl, hk, hD, rfl⟩
  by_cases h0 : k' = 0
  ·subst h0
   have hb : decide (((0 : Nat) : Int) - 1 ≥ 0) = false := dC
   obtain ⟨f1, f2⟩ := hD.fin
   subst f1 f2
   refine goA ?_
   exact Zae (s' := mkS [(6, .v (.sl ((dgs (x % y)).map u32))), (8, .own 30 L)] [(30, .lst 1 74 ((pad L (x / y)).map u32))] 78 false) entA rfl
  ·have hb : decide ((k' : Int) - 1 ≥ 0) = true := by simp; omega
   obtain ⟨k, rfl⟩ : ∃ k, k' = k + 1 := ⟨k' - 1, oM⟩
   have hkc : ((k + 1 : Nat) : Int) - 1 = (k : Int) := oM
   rw [hkc] at hb ⊢
   have hkL : k / 32 < L := oM
   have csh := shifted_p (dgs_dig (n := y)) oM k oM
   rw [Zcc, Int.toNat_natCast] at csh
   have hrx : rv ≤ x := by have := hD.e; omega
   have hlr : (dgs rv).length ≤ (dgs x).length := Ze5 hrx
   have cbe := below_p rv (y * 2 ^ k) oM
   by_cases hlt2 : rv < y * 2 ^ k
   ·rw [decide_eq_true hlt2] at cbe
    have hD' := hD.skip hlt2
    refine goA ?_
    refine clG csh ?_
    refine clG cbe ?_
    exact Zab (k := k) (s' := mkS [(1, .v (.sl ((dgs y).map u32))), (6, .v (.sl ((dgs rv).map u32))), (8, .own 30 L), (9, .v (iV ((k : Int) - 1)))] [(30, .lst 1 74 (qs.map u32))] 78 false) oM entA ⟨k, v, rv, qs, rfl, oM, hD', rfl⟩
   ·rw [decide_eq_false hlt2] at cbe
    have hge : y * 2 ^ k ≤ rv := oM
    have hD' := hD.step hkL hge
    obtain ⟨hz, hdv⟩ := hD.low
    have hroom := dig_room (Nat.mod_lt k dC) (gd_dig hD.dig (k / 32)) hdv
    have hiq : k / 32 < qs.length := by rw [hD.len]; exact hkL
    have gq : qs.getD (k / 32) 0 = qs[k / 32] := by simp [hiq]
    have gqd := gd_b hD.dig (k / 32)
    rw [gq] at hD' hroom gqd
    have vr := Zcc rv
    have vt := Zcc (y * 2 ^ k)
    have hlt3 : (dgs (y * 2 ^ k)).length ≤ (dgs rv).length := Ze5 hge
    have cmi := minus_p (dgs_dig (n := rv)) (dgs_dig (n := y * 2 ^ k)) oM
    have vmi := minusL_vl (dgs_dig (n := rv)) (dgs_dig (n := y * 2 ^ k)) hlt3 (by rw [vr, vt]; omega)
    have cti := trim_p (minusL_dig (dgs_dig (n := rv)) (dgs_dig (n := y * 2 ^ k))) (by rw [minusL_len]; omega)
    rw [nd_of (n := rv - y * 2 ^ k) (by rw [vmi, vr, vt]; omega)] at cti
    have hel : (qs.map u32).length = L := by rw [List.length_map]; exact hD.len
    have hqk : IntKind.i64.wrap ((k : Int).tdiv 32) = ((k / 32 : Nat) : Int) := by
     rw [show (k : Int).tdiv 32 = ((k / 32 : Nat) : Int) from rfl, w64 oM oM]
    have hrk : (k : Int).tmod 32 = ((k % 32 : Nat) : Int) := rfl
    have hP := Zf5 (k % 32)
    have hP1 : (2 : Int) ^ (k % 32) ≤ 2147483648 := two_le (n := 31) oM
    have hget : (qs.map u32)[(((k / 32 : Nat) : Int)).toNat]? = some (.p (.int .u32 qs[k / 32])) := Zfe hiq
    have hshl : IntKind.u32.wrap (1 * 2 ^ (min (((k % 32 : Nat) : Int)).toNat IntKind.u32.bits)) = 2 ^ (k % 32) := by
     rw [Int.toNat_natCast, show min (k % 32) IntKind.u32.bits = k % 32 from Nat.min_eq_left (by show k % 32 ≤ 32; omega), Int.one_mul]
     exact u32w oM oM
    have hadd : IntKind.u32.wrap (qs[k / 32] + 2 ^ (k % 32)) = qs[k / 32] + 2 ^ (k % 32) := u32w hroom.1 hroom.2
    refine goA ?_
    refine clG csh ?_
    refine clG cbe ?_
    refine clA cmi ?_
    refine clG cti ?_
    refine evG ggA (Zbx (Zaa rfl) rfl rfl dC hqk) ?_
    refine goA ?_
    refine evG ggA (Zbx (Zaa rfl) rfl rfl dC hqk) ?_
    refine evG ggA (Zah (Zaa rfl) (Zag rfl) rfl rfl hel rfl oM oM) ?_
    refine evG ggA (ss_load_op1 (Zaa rfl) (Zbi rfl) rfl rfl hel hget rfl) ?_
    refine goA ?_
    refine evG ggA (Zbx (Zaa rfl) rfl rfl dC hrk) ?_
    refine evG ggA (Zbf (Zaa rfl) (Zau rfl) und_uint rfl (u64w oM oM)) ?_
    refine evG ggA (ss_shl (Zaa rfl) rfl rfl oM hshl) ?_
    refine evG ggA (Zb3 (Zaa rfl) rfl rfl hadd) ?_
    refine evG ggA (Zah (Zaa rfl) (Zag rfl) rfl rfl hel rfl oM oM) ?_
    refine evG ggA (Zbd rfl (Zbp rfl) rfl rfl hel oM rfl rfl (fun l e => by cases e) rfl) ?_
    refine goA ?_
    refine Zab (k := k) (s' := mkS [(1, .v (.sl ((dgs y).map u32))), (6, .v (.sl ((dgs (rv - y * 2 ^ k)).map u32))), (8, .own 30 L), (9, .v (iV ((k : Int) - 1)))] [(30, .lst 1 74 ((qs.map u32).set (((k / 32 : Nat) : Int)).toNat (.p (.int .u32 (qs[k / 32] + 2 ^ (k % 32))))))] 78 false) oM entA ⟨k, _, _, _, rfl, oM, hD', by rw [Int.toNat_natCast, List.map_set]; rfl⟩
 have hel : ((pad L (x / y)).map u32).length = L := by rw [List.length_map, pad_len]
 refine T.weak (s' := mkS [(6, .v (.sl ((dgs (x % y)).map u32))), (8, .v (.sl ((pad L (x / y)).map u32)))] [] 78 false) entA ?_
 refine goA ?_
 exact rfl
theorem isI_lt {a : AV} {k : Nat} {z : Int} (h : IsI a k z) : z.natAbs < pw k := by
 obtain ⟨cs, rfl, h⟩ := h
 exact isC_lt h
theorem isI_len {a : AV} {k : Nat} {z : Int} (h : IsI a k z) : (dgs z.natAbs).length ≤ k := Zfp (isI_lt h)
theorem isI_mono {a : AV} {k l : Nat} {z : Int} (h : IsI a k z) (hk : k ≤ l) : IsI a l z := by
 obtain ⟨cs, h1, h2⟩ := h
 exact ⟨cs, h1, isC_mono h2 hk⟩
theorem encI_nat (n : Nat) : encI (n : Int) = .agg [.p (.bool false), .sl ((dgs n).map u32)] := by
 unfold encI ci
 rw [Int.natAbs_natCast, show decide ((n : Int) < 0) = false by simp]
set_option maxHeartbeats 2000000 in
theorem refadd_p {a b : AV} {k : Nat} {p q : Int} (ha : IsI a k p) (hb : IsI b k q) (hk : k ≤ 8796093022208) : PW Tryz.prog 146 [a, b] (encI (p + q)) := by
 have c1 := Zex ha oM
 have c2 := Zex hb oM
 have lp := isI_len ha
 have lq := isI_len hb
 obtain ⟨cs, rfl, g, ds, rfl, -⟩ := ha
 obtain ⟨cs, rfl, g', ds', rfl, -⟩ := hb
 have dp := dgs_dig (n := p.natAbs)
 have dq := dgs_dig (n := q.natAbs)
 have vp := Zcc p.natAbs
 have vq := Zcc q.natAbs
 unfold encI ci at c1 c2
 by_cases h1 : (p < 0) = (q < 0)
 ·have hb1 : (decide (p < 0) == decide (q < 0)) = true := by simp [h1]
  have c3 := plus_p dp dq oM oM
  have c4 := Zck (g := decide (p < 0)) (plusL_dig dp dq) (Nat.le_refl _) (by rw [plusL_len]; omega)
  have e : zof (decide (p < 0)) (vl (plusL (dgs p.natAbs) (dgs q.natAbs))) = p + q := by
   rw [plusL_vl, vp, vq]
   by_cases h2 : p < 0
   ·have : q < 0 := by rw [← h1]; exact h2
    simp [zof, h2]; omega
   ·have : ¬ q < 0 := by rw [← h1]; exact h2
    simp [zof, h2]; omega
  rw [e] at c4
  unfold encI at c4 ⊢
  clear dp dq vp vq e lp lq
  refine pb1 Tryz.func146 (Zac.agg Zbj) ?_
  refine goA ?_
  refine clG c1 ?_
  refine clG c2 ?_
  refine clA c3 ?_
  refine clG c4 ?_
  exact rfl
 ·have hb1 : (decide (p < 0) == decide (q < 0)) = false := by
   rw [beq_eq_false_iff_ne]
   intro e
   rw [decide_eq_decide] at e
   exact h1 (propext e)
  have hor : (p < 0 ∧ ¬ q < 0) ∨ (¬ p < 0 ∧ q < 0) := by
   by_cases h2 : p < 0
   ·by_cases h3 : q < 0
    ·exact absurd (propext ⟨fun _ => h3, fun _ => h2⟩) h1
    ·exact .inl ⟨h2, h3⟩
   ·by_cases h3 : q < 0
    ·exact .inr ⟨h2, h3⟩
    ·exact absurd (propext ⟨fun h => absurd h h2, fun h => absurd h h3⟩) h1
  have cbe := below_p p.natAbs q.natAbs oM
  by_cases h2 : p.natAbs < q.natAbs
  ·rw [decide_eq_true h2] at cbe
   have c3 := minus_p dq dp oM
   have c4 := Zck (g := decide (q < 0)) (minusL_dig dq dp) (Nat.le_refl _) (by rw [minusL_len]; omega)
   have e : zof (decide (q < 0)) (vl (Zgr (dgs q.natAbs) (dgs p.natAbs))) = p + q := by
    rw [minusL_vl dq dp (Ze5 oM) (by rw [vp, vq]; omega), vp, vq]
    rcases hor with ⟨h3, h4⟩ | ⟨h3, h4⟩
    ·simp [zof, h4]; omega
    ·simp [zof, h4]; omega
   rw [e] at c4
   unfold encI at c4 ⊢
   clear dp dq vp vq e lp lq h1 hor
   refine pb1 Tryz.func146 (Zac.agg Zbj) ?_
   refine goA ?_
   refine clG c1 ?_
   refine clG c2 ?_
   refine clG cbe ?_
   refine clA c3 ?_
   refine clG c4 ?_
   exact rfl
  ·rw [decide_eq_false h2] at cbe
   have c3 := minus_p dp dq oM
   have c4 := Zck (g := decide (p < 0)) (minusL_dig dp dq) (Nat.le_refl _) (by rw [minusL_len]; omega)
   have e : zof (decide (p < 0)) (vl (Zgr (dgs p.natAbs) (dgs q.natAbs))) = p + q := by
    rw [minusL_vl dp dq (Ze5 oM) (by rw [vp, vq]; omega), vp, vq]
    rcases hor with ⟨h3, h4⟩ | ⟨h3, h4⟩
    ·simp [zof, h3]; omega
    ·simp [zof, h3]; omega
   rw [e] at c4
   unfold encI at c4 ⊢
   clear dp dq vp vq e lp lq h1 hor
   refine pb1 Tryz.func146 (Zac.agg Zbj) ?_
   refine goA ?_
   refine clG c1 ?_
   refine clG c2 ?_
   refine clG cbe ?_
   refine clA c3 ?_
   refine clG c4 ?_
   exact rfl
theorem refsub_p {a b : AV} {k : Nat} {p q : Int} (ha : IsI a k p) (hb : IsI b k q) (hk : k ≤ 8796093022208) : PW Tryz.prog 160 [a, b] (encI (p - q)) := by
 have c1 := refneg_p hb oM
 have hlt := isI_lt hb
 have c2 := refadd_p ha (Zar (z := -q) (k := k) (by rw [Int.natAbs_neg]; exact hlt)) hk
 rw [← Int.sub_eq_add_neg] at c2
 obtain ⟨cs, rfl, g, ds, rfl, -⟩ := ha
 obtain ⟨cs, rfl, g', ds', rfl, -⟩ := hb
 unfold encI at c1 c2 ⊢
 refine pb1 Tryz.func160 (Zac.agg Zbj) ?_
 refine goA ?_
 refine clG c1 ?_
 refine clG c2 ?_
 exact rfl
theorem euc_pos {a b : Int} (hb : 0 < b) : a / b = (if a < 0 ∧ a.natAbs % b.natAbs ≠ 0 then -((a.natAbs / b.natAbs : Nat) + 1 : Int) else zof (decide (a < 0)) ((a.natAbs / b.natAbs : Nat) : Int)) ∧ a % b = (if a < 0 ∧ a.natAbs % b.natAbs ≠ 0 then (b.natAbs : Int) - ((a.natAbs % b.natAbs : Nat) : Int) else ((a.natAbs % b.natAbs : Nat) : Int)) := by
 obtain ⟨m, rfl⟩ : ∃ m : Nat, b = m := ⟨b.toNat, oM⟩
 rw [Int.natAbs_natCast]
 have hd := Nat.div_add_mod a.natAbs m
 have hm : a.natAbs % m < m := Nat.mod_lt _ oM
 have hd' : (m : Int) * ((a.natAbs / m : Nat) : Int) + ((a.natAbs % m : Nat) : Int) = (a.natAbs : Int) := by
  rw [← Int.natCast_mul, ← Int.natCast_add, hd]
 generalize a.natAbs / m = Q at *
 generalize a.natAbs % m = R at *
 rw [Int.ediv_emod_unique hb]
 by_cases h1 : a < 0
 ·by_cases h2 : R = 0
  ·subst h2
   rw [if_neg (by simp), if_neg (by simp), decide_eq_true h1]
   show ((0 : Nat) : Int) + m * -(Q : Int) = a ∧ _
   rw [Int.mul_neg]
   omega
  ·rw [if_pos ⟨h1, h2⟩, if_pos ⟨h1, h2⟩]
   rw [Int.mul_neg, Int.mul_add, Int.mul_one]
   omega
 ·rw [if_neg (fun h => h1 h.1), if_neg (fun h => h1 h.1), decide_eq_false h1]
  show (R : Int) + m * (Q : Int) = a ∧ _
  omega
theorem euc1 {a b : Int} (hb : b ≠ 0) (h1 : a < 0) (h2 : a.natAbs % b.natAbs ≠ 0) : zof (!decide (b < 0)) (((a.natAbs / b.natAbs : Nat) : Int) + 1) = a / b ∧ (b.natAbs : Int) - ((a.natAbs % b.natAbs : Nat) : Int) = a % b := by
 by_cases h3 : b < 0
 ·have e := euc_pos (a := a) (b := -b) oM
  rw [Int.ediv_neg, Int.emod_neg, Int.natAbs_neg, if_pos ⟨h1, h2⟩, if_pos ⟨h1, h2⟩] at e
  rw [decide_eq_true h3]
  show ((a.natAbs / b.natAbs : Nat) : Int) + 1 = a / b ∧ _
  omega
 ·have e := euc_pos (a := a) (b := b) oM
  rw [if_pos ⟨h1, h2⟩, if_pos ⟨h1, h2⟩] at e
  rw [decide_eq_false h3]
  show -(((a.natAbs / b.natAbs : Nat) : Int) + 1) = a / b ∧ _
  omega
theorem euc2 {a b : Int} (hb : b ≠ 0) (h : ¬ (a < 0 ∧ a.natAbs % b.natAbs ≠ 0)) : zof (decide (a < 0) != decide (b < 0)) ((a.natAbs / b.natAbs : Nat) : Int) = a / b ∧ ((a.natAbs % b.natAbs : Nat) : Int) = a % b := by
 by_cases h3 : b < 0
 ·have e := euc_pos (a := a) (b := -b) oM
  rw [Int.ediv_neg, Int.emod_neg, Int.natAbs_neg, if_neg h, if_neg h] at e
  rw [decide_eq_true h3, show (decide (a < 0) != true) = !decide (a < 0) by cases decide (a < 0) <;> rfl, zof_not]
  omega
 ·have e := euc_pos (a := a) (b := b) oM
  rw [if_neg h, if_neg h] at e
  rw [decide_eq_false h3, show (decide (a < 0) != false) = decide (a < 0) by cases decide (a < 0) <;> rfl]
  exact ⟨e.1.symm, e.2.symm⟩
set_option maxHeartbeats 4000000 in
theorem euclid_p {a b : AV} {k : Nat} {p q : Int} (ha : IsI a k p) (hb : IsI b k q) (hq : q ≠ 0) (hk : k ≤ 274877906944) : PW Tryz.prog 136 [a, b] (.tup [encI (p / q), encI (p % q)]) := by
 have c1 := Zex ha oM
 have c2 := Zex hb oM
 have lp := isI_len ha
 have lq := isI_len hb
 have hbt := isI_lt hb
 obtain ⟨cs, rfl, g, ds, rfl, -⟩ := ha
 obtain ⟨cs, rfl, g', ds', rfl, -⟩ := hb
 have c3 := divided_p p.natAbs q.natAbs oM oM oM
 obtain ⟨s1, s2, s3⟩ := divQ_spec (x := p.natAbs) (y := q.natAbs) oM
 have hrm : p.natAbs % q.natAbs < q.natAbs := Nat.mod_lt _ oM
 have lr : (dgs (p.natAbs % q.natAbs)).length ≤ k := Nat.le_trans (Ze5 oM) lq
 have c4 := Zck (g := false) (dgs_dig (n := p.natAbs % q.natAbs)) lr oM
 rw [Zcc, show zof false ((p.natAbs % q.natAbs : Nat) : Int) = ((p.natAbs % q.natAbs : Nat) : Int) from rfl, encI_nat] at c4
 have hne := dgs_ne (n := p.natAbs % q.natAbs)
 have hlm : ((((dgs (p.natAbs % q.natAbs)).map u32).length : Nat) : Int) = ((dgs (p.natAbs % q.natAbs)).length : Int) := by simp
 rw [← hlm] at hne
 by_cases h : p < 0 ∧ p.natAbs % q.natAbs ≠ 0
 ·obtain ⟨e1, e2⟩ := euc1 hq h.1 h.2
  have hd1 : ∀ d, d ∈ [(1 : Int)] → Zal d := fun d h => by rw [List.mem_singleton] at h; subst h; exact ⟨dC, dC⟩
  have c5 := plus_p s1 hd1 oM (Nat.le_of_ble_eq_true rfl)
  have c6 := Zck (g := !decide (q < 0)) (plusL_dig s1 hd1) (Nat.le_refl _) (by rw [plusL_len]; simp; omega)
  rw [plusL_vl, s2, show vl [(1 : Int)] = 1 from rfl, e1] at c6
  have c7 := refabs_p (Zar (z := q) hbt) oM
  have c8 := refsub_p (Zar (z := (q.natAbs : Int)) (k := k) (by rw [Int.natAbs_natCast]; exact hbt)) (isI_dgs (p.natAbs % q.natAbs) lr) oM
  rw [e2] at c8
  have hb1 : decide (p < 0) = true := decide_eq_true h.1
  have hb2 : decide (((((dgs (p.natAbs % q.natAbs)).map u32).length : Nat) : Int) > 0) = true := by rw [hne]; simp; omega
  unfold encI at c1 c2 c6 c7 c8 ⊢
  unfold ci at c1 c2 c7
  rw [hb1] at c1
  clear s1 s2 s3 hrm lr hne hlm e1 e2 hd1 lp lq hbt
  refine pb2 Tryz.func136 (Zac.agg Zbj) (Zac.agg Zbj) ?_
  refine goA ?_
  refine clG c1 ?_
  refine clG c2 ?_
  refine clG c3 ?_
  refine clG c4 ?_
  refine evG ggA (Zaw (Zaa rfl) (Zaf rfl) rfl rfl rfl rfl (Zci rfl rfl) (Nat.le_of_ble_eq_true rfl)) ?_
  refine clA c5 ?_
  refine clG c6 ?_
  refine clG c7 ?_
  refine clG c8 ?_
  exact rfl
 ·obtain ⟨e1, e2⟩ := euc2 hq h
  have c6 := Zck (g := decide (p < 0) != decide (q < 0)) s1 (Nat.le_refl _) oM
  rw [s2, e1] at c6
  have e3 : encI (p % q) = .agg [.p (.bool false), .sl ((dgs (p.natAbs % q.natAbs)).map u32)] := by rw [← e2, encI_nat]
  rw [e3]
  unfold encI at c1 c2 c6 ⊢
  unfold ci at c1 c2
  by_cases h1 : p < 0
  ·have h2 : p.natAbs % q.natAbs = 0 := by
    by_cases h2 : p.natAbs % q.natAbs = 0
    ·exact h2
    ·exact absurd ⟨h1, h2⟩ h
   have hb1 : decide (p < 0) = true := decide_eq_true h1
   have hb2 : decide (((((dgs (p.natAbs % q.natAbs)).map u32).length : Nat) : Int) > 0) = false := by rw [hne, h2]; rfl
   rw [hb1] at c1 c6
   clear s1 s2 s3 hrm lr hne hlm e1 e2 lp lq hbt h2
   refine pb2 Tryz.func136 (Zac.agg Zbj) (Zac.agg Zbj) ?_
   refine goA ?_
   refine clG c1 ?_
   refine clG c2 ?_
   refine clG c3 ?_
   refine clG c4 ?_
   refine clG c6 ?_
   exact rfl
  ·have hb1 : decide (p < 0) = false := decide_eq_false h1
   rw [hb1] at c1 c6
   clear s1 s2 s3 hrm lr hne hlm e1 e2 lp lq hbt
   refine pb2 Tryz.func136 (Zac.agg Zbj) (Zac.agg Zbj) ?_
   refine goA ?_
   refine clG c1 ?_
   refine clG c2 ?_
   refine clG c3 ?_
   refine clG c4 ?_
   refine clG c6 ?_
   exact rfl
abbrev varI : Blk := .var [.v (.p (.bool false)), .v (.p nilV)]
abbrev varN (n : Nat) : Blk := .var [.v (.p (.bool false)), .v (.sl ((dgs n).map u32))]
theorem dgs_gt (n : Nat) : decide (((((dgs n).map u32).length : Nat) : Int) > 0) = decide (0 < n) := by rw [List.length_map]; exact dgs_ne
set_option maxHeartbeats 4000000 in
theorem refgcd_p {a b : AV} {k : Nat} {p q : Int} (ha : IsI a k p) (hb : IsI b k q) (hk : k ≤ 274877906944) : PW Tryz.prog 96 [a, b] (encI ((Int.gcd p q : Nat) : Int)) := by
 have c1 := refabs_p ha oM
 have c2 := refabs_p hb oM
 have lp := isI_len ha
 have lq := isI_len hb
 obtain ⟨cs, rfl, g, ds, rfl, -⟩ := ha
 obtain ⟨cs, rfl, g', ds', rfl, -⟩ := hb
 rw [encI_nat] at c1 c2 ⊢
 have hG : Int.gcd p q = Nat.gcd p.natAbs q.natAbs := rfl
 rw [hG]
 clear hG
 generalize p.natAbs = X at *
 generalize q.natAbs = Y at *
 obtain ⟨G, hG⟩ : ∃ G, G = Nat.gcd X Y := ⟨_, rfl⟩
 rw [← hG]
 by_cases hs : (dgs X).length ≤ 2 ∧ (dgs Y).length ≤ 2
 ·have hb1 : decide ((((dgs X).map u32).length : Int) ≤ 2) = true := by simp; omega
  have hb2 : decide ((((dgs Y).map u32).length : Int) ≤ 2) = true := by simp; omega
  have wx := word_lt hs.1
  have wy := word_lt hs.2
  have c3 := word_d X hs.1
  have c4 := word_d Y hs.2
  have hGb : G < 18446744073709551616 := by
   by_cases h0 : X = 0
   ·subst h0; rw [hG, Nat.gcd_zero_left]; exact wy
   ·have := Nat.le_of_dvd oM (Nat.gcd_dvd_left X Y); omega
  have c5 := split_p G hGb
  have c6 := Zck (g := false) (dgs_dig (n := G)) (Nat.le_refl _) (show (dgs G).length ≤ 17592186044416 from by
   have : (dgs G).length ≤ 2 := Zfp (by rw [show pw 2 = 18446744073709551616 from dC]; omega)
   omega)
  rw [Zcc, show zof false ((G : Nat) : Int) = (G : Int) from rfl, encI_nat] at c6
  refine Zaz false Tryz.func96 rfl rfl rfl (Nat.le_of_ble_eq_true rfl) (Zac.agg Zbj) ?_
  refine goA ?_
  refine clG c1 ?_
  refine clG c2 ?_
  refine clG c3 ?_
  refine clA c4 ?_
  refine runA ?_
  refine Zao ?_
  refine Za1 ?_
  refine T.seqE (mkS [(4, .ptr 4 0), (7, .v (.p (.int .u64 G)))] [(4, varI)] 53 false) ?_ ?_
  ·refine T.block ?_
   refine T.loop (fun z s1 => ∃ m n : Nat, z = n ∧ Nat.gcd m n = G ∧ m < 18446744073709551616 ∧ n < 18446744073709551616 ∧ s1 = mkS [(4, .ptr 4 0), (7, .v (.p (.int .u64 m))), (8, .v (.p (.int .u64 n)))] [(4, varI)] 53 false) Y
    (s' := mkS [(4, .ptr 4 0), (7, .v (.p (.int .u64 X))), (8, .v (.p (.int .u64 Y)))] [(4, varI)] 53 false) entA ⟨X, Y, rfl, hG.symm, wx, wy, rfl⟩ ?_
   clear c1 c2 c3 c4 c5 c6
   rintro n _ ⟨m, _, rfl, hg, hm, hn, rfl⟩
   by_cases h0 : n = 0
   ·subst h0
    have hb : decide (((0 : Nat) : Int) > 0) = false := dC
    rw [Nat.gcd_zero_right] at hg
    subst hg
    refine goA ?_
    exact Zae (s' := mkS [(4, .ptr 4 0), (7, .v (.p (.int .u64 m)))] [(4, varI)] 53 false) entA rfl
   ·have hb : decide ((n : Int) > 0) = true := by simp; omega
    have hdr := tmod_nat m n
    have hlt : m % n < n := Nat.mod_lt _ oM
    refine goA ?_
    refine evG ggA (Zbx (Zaa rfl) rfl rfl oM hdr) ?_
    refine goA ?_
    exact Zab (k := m % n) (s' := mkS [(4, .ptr 4 0), (7, .v (.p (.int .u64 n))), (8, .v (.p (.int .u64 ((m % n : Nat) : Int))))] [(4, varI)] 53 false) hlt entA ⟨n, m % n, rfl, by rw [Nat.gcd_comm n (m % n), ← Nat.gcd_rec, Nat.gcd_comm n m]; exact hg, hn, oM, rfl⟩
  refine goA ?_
  refine clA c5 ?_
  refine clG c6 ?_
  exact rfl
 refine Zaz false Tryz.func96 rfl rfl rfl (Nat.le_of_ble_eq_true rfl) (Zac.agg Zbj) ?_
 refine r1A ?_
 refine T.seq ?_
 refine regA ?_
 refine runA ?_
 refine clA c1 ?_
 refine runA ?_
 refine clA c2 ?_
 refine runA ?_
 refine Zao ?_
 refine Za1 ?_
 refine T.seqE (mkS [(4, .ptr 4 0), (5, .ptr 5 0), (6, .ptr 6 0)] [(4, varI), (5, varN X), (6, varN Y)] 53 false) ?_ ?_
 ·by_cases h1 : (dgs X).length ≤ 2
  ·have hb1 : decide ((((dgs X).map u32).length : Int) ≤ 2) = true := by simp; omega
   have hb2 : decide ((((dgs Y).map u32).length : Int) ≤ 2) = false := by simp; omega
   refine goA ?_
   exact midE
  ·have hb1 : decide ((((dgs X).map u32).length : Int) ≤ 2) = false := by simp; omega
   refine goA ?_
   exact midE
 clear c1 c2
 refine T.seqE (mkS [(4, .ptr 4 0), (5, .ptr 5 0)] [(4, varI), (5, varN G)] 53 false) ?_ ?_
 ·refine T.block ?_
  refine T.loop (fun z s1 => ∃ m n : Nat, z = n ∧ Nat.gcd m n = G ∧ (dgs m).length ≤ k ∧ (dgs n).length ≤ k ∧ s1 = mkS [(4, .ptr 4 0), (5, .ptr 5 0), (6, .ptr 6 0)] [(4, varI), (5, varN m), (6, varN n)] 53 false) Y
   (s' := mkS [(4, .ptr 4 0), (5, .ptr 5 0), (6, .ptr 6 0)] [(4, varI), (5, varN X), (6, varN Y)] 53 false) entA ⟨X, Y, rfl, hG.symm, lp, lq, rfl⟩ ?_
  rintro n _ ⟨m, _, rfl, hg, hm, hn, rfl⟩
  have hgt := dgs_gt n
  by_cases h0 : n = 0
  ·subst h0
   have hb : decide (((((dgs 0).map u32).length : Nat) : Int) > 0) = false := by rw [hgt]; rfl
   rw [Nat.gcd_zero_right] at hg
   subst hg
   refine goA ?_
   exact Zae (s' := mkS [(4, .ptr 4 0), (5, .ptr 5 0)] [(4, varI), (5, varN m)] 53 false) entA rfl
  ·have hb : decide (((((dgs n).map u32).length : Nat) : Int) > 0) = true := by rw [hgt]; simp; omega
   have hlt : m % n < n := Nat.mod_lt _ oM
   have ce := euclid_p (isI_dgs m hm) (isI_dgs n hn) oM hk
   rw [show (m : Int) % (n : Int) = ((m % n : Nat) : Int) from rfl, show (m : Int) / (n : Int) = ((m / n : Nat) : Int) from rfl, encI_nat, encI_nat] at ce
   refine goA ?_
   refine clG ce ?_
   exact Zab (k := m % n) (s' := mkS [(4, .ptr 4 0), (5, .ptr 5 0), (6, .ptr 6 0)] [(4, varI), (5, varN n), (6, varN (m % n))] 53 false) hlt entA ⟨n, m % n, rfl, by rw [Nat.gcd_comm n (m % n), ← Nat.gcd_rec, Nat.gcd_comm n m]; exact hg, hn, Nat.le_trans (Ze5 oM) hn, rfl⟩
 refine goA ?_
 exact rfl
theorem vl_put {os : List Int} {i : Nat} (h : i < os.length) (e : Int) : vl (os.set i e) = vl os + (e - os.getD i 0) * pw i := by
 have := vl_set h (e - os.getD i 0)
 rw [show os.getD i 0 + (e - os.getD i 0) = e by omega] at this
 exact this
structure MulI (xs ys : List Int) (n m i k : Nat) (os : List Int) (c : Int) : Prop where
 len : os.length = n + m
 dig : ∀ d, d ∈ os → Zal d
 c0 : 0 ≤ c
 c1 : c < 4294967296
 v : vl os + c * pw (i + k) = val (fun j => xs.getD j 0) i * vl ys + xs.getD i 0 * pw i * val (fun j => ys.getD j 0) k
 z : ∀ j, i + m ≤ j → os.getD j 0 = 0
theorem sq_b {a b : Int} (ha : 0 ≤ a ∧ a < 4294967296) (hb : 0 ≤ b ∧ b < 4294967296) : 0 ≤ a * b ∧ a * b ≤ 18446744065119617025 := by
 have h1 : 0 ≤ a * b := Int.mul_nonneg ha.1 hb.1
 have h2 : a * b ≤ 4294967295 * b := Int.mul_le_mul_of_nonneg_right oM hb.1
 omega
theorem MulI.s_b {xs ys : List Int} {n m i k : Nat} {os : List Int} {c : Int} (h : MulI xs ys n m i k os c) (hx : ∀ d, d ∈ xs → Zal d) (hy : ∀ d, d ∈ ys → Zal d) : 0 ≤ xs.getD i 0 * ys.getD k 0 ∧ xs.getD i 0 * ys.getD k 0 ≤ 18446744065119617025 ∧ 0 ≤ os.getD (i + k) 0 ∧ os.getD (i + k) 0 < 4294967296 := by
 have h1 := sq_b (gd_b hx i) (gd_b hy k)
 have h2 := gd_b h.dig (i + k)
 exact ⟨h1.1, h1.2, h2.1, h2.2⟩
theorem MulI.step {xs ys : List Int} {n m i k : Nat} {os : List Int} {c : Int} (h : MulI xs ys n m i k os c) (hx : ∀ d, d ∈ xs → Zal d) (hy : ∀ d, d ∈ ys → Zal d) (hi : i < n) (hk : k < m) {s : Int} (hs : s = xs.getD i 0 * ys.getD k 0 + os.getD (i + k) 0 + c) : MulI xs ys n m i (k + 1) (os.set (i + k) (s % 4294967296)) (s / 4294967296) := by
 obtain ⟨b1, b2, b3, b4⟩ := h.s_b hx hy
 have c0 := h.c0
 have c1 := h.c1
 have hlt : i + k < os.length := by rw [h.len]; omega
 refine ⟨by rw [List.length_set]; exact h.len, set_dig h.dig (Zce s), oM, oM, ?_, fun j hj => ?_⟩
 ·rw [vl_put hlt, ← Nat.add_assoc, pw_succ, val_succ]
  have hv := h.v
  have e1 : s % 4294967296 * pw (i + k) + s / 4294967296 * (pw (i + k) * 4294967296) = s * pw (i + k) := by
   have := Int.mul_ediv_add_emod s 4294967296
   rw [Int.mul_comm (pw (i + k)), ← Int.mul_assoc, ← Int.add_mul]
   congr 1
   omega
  have e2 : s * pw (i + k) = xs.getD i 0 * ys.getD k 0 * pw (i + k) + os.getD (i + k) 0 * pw (i + k) + c * pw (i + k) := by rw [hs, Int.add_mul, Int.add_mul]
  have e3 : xs.getD i 0 * ys.getD k 0 * pw (i + k) = xs.getD i 0 * pw i * (ys.getD k 0 * pw k) := by
   rw [pw_add]
   simp only [Int.mul_assoc, Int.mul_comm, Int.mul_left_comm]
  rw [Int.sub_mul, Int.mul_add]
  omega
 ·rw [Zea oM]; exact h.z j hj
theorem MulI.out {xs ys : List Int} {n m i : Nat} {os : List Int} {c : Int} (h : MulI xs ys n m i m os c) (hm : ys.length = m) (hi : i < n) : MulI xs ys n m (i + 1) 0 (os.set (i + m) c) 0 := by
 have hlt : i + m < os.length := by rw [h.len]; omega
 refine ⟨by rw [List.length_set]; exact h.len, set_dig h.dig ⟨h.c0, by unfold B; exact h.c1⟩, Int.le_refl _, dC, ?_, fun j hj => ?_⟩
 ·rw [vl_put hlt, h.z (i + m) (Nat.le_refl _), Int.sub_zero, h.v, val_succ]
  have : val (fun j => ys.getD j 0) m = vl ys := by rw [vl_def, hm]
  rw [this, show val (fun j => ys.getD j 0) 0 = 0 from rfl, Int.add_mul]
  simp
 ·rw [Zea oM]; exact h.z j oM
theorem zof_mul (g g' : Bool) (x y : Int) : zof (g != g') (x * y) = zof g x * zof g' y := by
 cases g <;> cases g' <;> simp [zof, Int.neg_mul, Int.mul_neg]
set_option maxHeartbeats 4000000 in
theorem Zdo {a b : AV} {k l : Nat} {p q : Int} (ha : IsI a k p) (hb : IsI b l q) (hk : k ≤ 1099511627776) (hl : l ≤ 1099511627776) : PW Tryz.prog 115 [a, b] (encI (p * q)) := by
 obtain ⟨cs, rfl, g, ds, rfl, hd, hdl, rfl⟩ := ha
 obtain ⟨cs, rfl, g', ds', rfl, hd', hdl', rfl⟩ := hb
 have c1 := trim_p hd oM
 have c2 := trim_p hd' oM
 have l1 := nd_len hd
 have l2 := nd_len hd'
 have v1 : vl (nd ds) = vl ds := by unfold nd; rw [Zcc]; have := Zcw hd; omega
 have v2 : vl (nd ds') = vl ds' := by unfold nd; rw [Zcc]; have := Zcw hd'; omega
 have hx : ∀ d, d ∈ nd ds → Zal d := fun d h => dgs_dig d h
 have hy : ∀ d, d ∈ nd ds' → Zal d := fun d h => dgs_dig d h
 rw [← v1, ← v2, ← zof_mul]
 generalize nd ds = xs at *
 generalize nd ds' = ys at *
 obtain ⟨n, hn⟩ : ∃ n, n = xs.length := ⟨_, rfl⟩
 obtain ⟨m, hm⟩ : ∃ m, m = ys.length := ⟨_, rfl⟩
 have elx : ((xs.map u32).length : Int) = n := by simp [hn]
 have ely : ((ys.map u32).length : Int) = m := by simp [hm]
 have hnb : n ≤ 1099511627776 := oM
 have hmb : m ≤ 1099511627776 := oM
 refine Zaz false Tryz.func115 rfl rfl rfl (Nat.le_of_ble_eq_true rfl) (Zac.agg Zbj) ?_
 refine goA ?_
 refine clG c1 ?_
 refine clG c2 ?_
 refine evG ggA (Zdv 30 (bytes := 4) (e0 := u32 0) (Zaa rfl) (Zaf rfl) rfl rfl rfl oM oM oM oM rfl rfl rfl) ?_
 refine runA ?_
 refine Zao ?_
 refine Za1 ?_
 have e0 : (((xs.map u32).length : Int) + ((ys.map u32).length : Int)).toNat = n + m := oM
 rw [e0]
 have hz : ∀ i, (List.replicate (n + m) (0 : Int)).getD i 0 = 0 := fun i => by
  rw [List.getD_eq_getElem?_getD]
  cases h : (List.replicate (n + m) (0 : Int))[i]? with
  | none => rfl
  | some d => exact List.eq_of_mem_replicate (List.mem_of_getElem? h)
 have hM0 : MulI xs ys n m 0 0 (List.replicate (n + m) 0) 0 := ⟨by simp, digs_rep, Int.le_refl _, dC, by rw [vl_rep]; simp [val], fun j _ => hz j⟩
 refine T.seqI (fun s1 => ∃ os : List Int, MulI xs ys n m n 0 os 0 ∧ s1 = mkS [(2, .ptr 2 0), (3, .ptr 3 0), (4, .ptr 4 0), (7, .own 30 (n + m))] [(2, .var [.v (.p (.bool g)), .v (.sl (ds.map u32))]), (3, .var [.v (.p (.bool g')), .v (.sl (ds'.map u32))]), (4, varI), (30, .lst 1 74 (os.map u32))] 81 false) ?_ ?_
 ·refine r1A ?_
  refine T.block ?_
  refine T.loop (fun z s1 => ∃ (i : Nat) (os : List Int), z = n - i ∧ i ≤ n ∧ MulI xs ys n m i 0 os 0 ∧ s1 = mkS [(2, .ptr 2 0), (3, .ptr 3 0), (4, .ptr 4 0), (5, .v (.sl (xs.map u32))), (6, .v (.sl (ys.map u32))), (7, .own 30 (n + m)), (8, .v (iV (i : Nat)))] [(2, .var [.v (.p (.bool g)), .v (.sl (ds.map u32))]), (3, .var [.v (.p (.bool g')), .v (.sl (ds'.map u32))]), (4, varI), (30, .lst 1 74 (os.map u32))] 81 false) n
   (s' := mkS [(2, .ptr 2 0), (3, .ptr 3 0), (4, .ptr 4 0), (5, .v (.sl (xs.map u32))), (6, .v (.sl (ys.map u32))), (7, .own 30 (n + m)), (8, .v (iV (0 : Nat)))] [(2, .var [.v (.p (.bool g)), .v (.sl (ds.map u32))]), (3, .var [.v (.p (.bool g')), .v (.sl (ds'.map u32))]), (4, varI), (30, .lst 1 74 (List.replicate (n + m) (u32 0)))] 81 false) entA ⟨0, List.replicate (n + m) 0, rfl, Nat.zero_le _, hM0, by rw [List.map_replicate]⟩ ?_
  clear c1 c2 hM0 hz e0
  rintro _ _ ⟨i, os, rfl, hi, hM, rfl⟩
  by_cases hlt : i < n
  ·have hA : decide ((i : Int) < ((xs.map u32).length : Int)) = true := by simp; omega
   have hgx := Zfe (ds := xs) (j := i) oM
   have gx : xs.getD i 0 = xs[i] := by simp [← hn, hlt]
   refine T.seqE (mkS [(2, .ptr 2 0), (3, .ptr 3 0), (4, .ptr 4 0), (5, .v (.sl (xs.map u32))), (6, .v (.sl (ys.map u32))), (7, .own 30 (n + m)), (8, .v (iV (i : Nat)))] [(2, .var [.v (.p (.bool g)), .v (.sl (ds.map u32))]), (3, .var [.v (.p (.bool g')), .v (.sl (ds'.map u32))]), (4, varI), (30, .lst 1 74 (os.map u32))] 81 false) ?_ ?_
   ·refine goA ?_
    exact midE
   refine T.seq ?_
   refine T.block ?_
   refine r1A ?_
   refine T.seqI (fun s1 => ∃ (os : List Int) (c : Int), MulI xs ys n m i m os c ∧ s1 = mkS [(2, .ptr 2 0), (3, .ptr 3 0), (4, .ptr 4 0), (5, .v (.sl (xs.map u32))), (6, .v (.sl (ys.map u32))), (7, .own 30 (n + m)), (8, .v (iV (i : Nat))), (9, .v (.p (.int .u64 c)))] [(2, .var [.v (.p (.bool g)), .v (.sl (ds.map u32))]), (3, .var [.v (.p (.bool g')), .v (.sl (ds'.map u32))]), (4, varI), (30, .lst 1 74 (os.map u32))] 81 false) ?_ ?_
   ·refine r1A ?_
    refine T.block ?_
    refine T.loop (fun z s1 => ∃ (k : Nat) (os : List Int) (c : Int), z = m - k ∧ k ≤ m ∧ MulI xs ys n m i k os c ∧ s1 = mkS [(2, .ptr 2 0), (3, .ptr 3 0), (4, .ptr 4 0), (5, .v (.sl (xs.map u32))), (6, .v (.sl (ys.map u32))), (7, .own 30 (n + m)), (8, .v (iV (i : Nat))), (9, .v (.p (.int .u64 c))), (10, .v (iV (k : Nat)))] [(2, .var [.v (.p (.bool g)), .v (.sl (ds.map u32))]), (3, .var [.v (.p (.bool g')), .v (.sl (ds'.map u32))]), (4, varI), (30, .lst 1 74 (os.map u32))] 81 false) m
     (s' := mkS [(2, .ptr 2 0), (3, .ptr 3 0), (4, .ptr 4 0), (5, .v (.sl (xs.map u32))), (6, .v (.sl (ys.map u32))), (7, .own 30 (n + m)), (8, .v (iV (i : Nat))), (9, .v (.p (.int .u64 0))), (10, .v (iV (0 : Nat)))] [(2, .var [.v (.p (.bool g)), .v (.sl (ds.map u32))]), (3, .var [.v (.p (.bool g')), .v (.sl (ds'.map u32))]), (4, varI), (30, .lst 1 74 (os.map u32))] 81 false) entA ⟨0, os, 0, rfl, Nat.zero_le _, hM, rfl⟩ ?_
    clear hM
    rintro _ _ ⟨k, os, c, rfl, hk, hM, rfl⟩
    by_cases hlt2 : k < m
    ·have hB : decide ((k : Int) < ((ys.map u32).length : Int)) = true := by simp; omega
     have hgy := Zfe (ds := ys) (j := k) oM
     have gy : ys.getD k 0 = ys[k] := by simp [← hm, hlt2]
     have hio : i + k < os.length := by rw [hM.len]; omega
     have hgo : (os.map u32)[(((i : Int) + (k : Int))).toNat]? = some (.p (.int .u32 os[i + k])) := Zff (by rw [show (((i : Int) + (k : Int))).toNat = i + k by omega]; exact List.getElem?_eq_getElem hio)
     have go' : os.getD (i + k) 0 = os[i + k] := by simp [hio]
     obtain ⟨b1, b2, b3, b4⟩ := hM.s_b hx hy
     have hc0 := hM.c0
     have hc1 := hM.c1
     obtain ⟨s, hs⟩ : ∃ s, s = xs.getD i 0 * ys.getD k 0 + os.getD (i + k) 0 + c := ⟨_, rfl⟩
     have hst := hM.step hx hy hlt hlt2 hs
     have hxb := gd_b hx i
     have hyb := gd_b hy k
     rw [gx, gy, go'] at hs
     rw [gx, gy] at b1 b2
     rw [go'] at b3 b4
     rw [gx] at hxb
     rw [gy] at hyb
     have hel : (os.map u32).length = n + m := by rw [List.length_map]; exact hM.len
     have m1 : IntKind.u64.wrap (xs[i] * ys[k]) = xs[i] * ys[k] := u64w b1 oM
     have m2 : IntKind.u64.wrap (xs[i] * ys[k] + os[i + k]) = xs[i] * ys[k] + os[i + k] := u64w oM oM
     have m3 : IntKind.u64.wrap (xs[i] * ys[k] + os[i + k] + c) = s := by rw [hs]; exact u64w oM oM
     have m4 : IntKind.u32.wrap s = s % 4294967296 := u32m s
     have m5 : s.fdiv (2 ^ (min (32 : Int).toNat IntKind.u64.bits)) = s / 4294967296 := shr32 oM
     clear hM
     refine goA ?_
     refine ixG hgx ?_
     refine evG ggA (Zbf (Zaa rfl) (Zau rfl) (Zau rfl) rfl (u64w hxb.1 oM)) ?_
     refine goA ?_
     refine ixG hgy ?_
     refine evG ggA (Zbf (Zaa rfl) (Zau rfl) (Zau rfl) rfl (u64w hyb.1 oM)) ?_
     refine evG ggA (Zb3 (Zaa rfl) rfl rfl m1) ?_
     refine goA ?_
     refine evG ggA (Zah (Zaa rfl) (Zag rfl) rfl rfl hel rfl oM oM) ?_
     refine evG ggA (ss_load_op1 (Zaa rfl) (Zbi rfl) rfl rfl hel hgo rfl) ?_
     refine evG ggA (Zbf (Zaa rfl) (Zau rfl) (Zau rfl) rfl (u64w b3 oM)) ?_
     refine evG ggA (Zb3 (Zaa rfl) rfl rfl m2) ?_
     refine goA ?_
     refine evG ggA (Zb3 (Zaa rfl) rfl rfl m3) ?_
     refine goA ?_
     refine evG ggA (Zbf (Zaa rfl) (Zau rfl) (Zau rfl) rfl m4) ?_
     refine evG ggA (Zah (Zaa rfl) (Zag rfl) rfl rfl hel rfl oM oM) ?_
     refine evG ggA (Zbd rfl (Zbp rfl) rfl rfl hel oM rfl rfl (fun l e => by cases e) rfl) ?_
     refine goA ?_
     refine evG ggA (Zfh (Zaa rfl) rfl rfl dC m5) ?_
     refine goA ?_
     refine Zab (k := m - (k + 1)) (s' := mkS [(2, .ptr 2 0), (3, .ptr 3 0), (4, .ptr 4 0), (5, .v (.sl (xs.map u32))), (6, .v (.sl (ys.map u32))), (7, .own 30 (n + m)), (8, .v (iV (i : Nat))), (9, .v (.p (.int .u64 (s / 4294967296)))), (10, .v (iV ((k : Int) + 1)))] [(2, .var [.v (.p (.bool g)), .v (.sl (ds.map u32))]), (3, .var [.v (.p (.bool g')), .v (.sl (ds'.map u32))]), (4, varI), (30, .lst 1 74 ((os.map u32).set (((i : Int) + (k : Int))).toNat (.p (.int .u32 (s % 4294967296)))))] 81 false) oM entA ⟨k + 1, _, _, rfl, hlt2, hst, by rw [show (((i : Int) + (k : Int))).toNat = i + k by omega, List.map_set]; rfl⟩
    ·obtain rfl : k = m := oM
     have hB : decide ((k : Int) < ((ys.map u32).length : Int)) = false := by simp; omega
     refine goA ?_
     exact Zae (s' := mkS [(2, .ptr 2 0), (3, .ptr 3 0), (4, .ptr 4 0), (5, .v (.sl (xs.map u32))), (6, .v (.sl (ys.map u32))), (7, .own 30 (n + k)), (8, .v (iV (i : Nat))), (9, .v (.p (.int .u64 c)))] [(2, .var [.v (.p (.bool g)), .v (.sl (ds.map u32))]), (3, .var [.v (.p (.bool g')), .v (.sl (ds'.map u32))]), (4, varI), (30, .lst 1 74 (os.map u32))] 81 false) entA ⟨os, c, hM, rfl⟩
   rintro _ ⟨os, c, hM, rfl⟩
   have hout := hM.out hm.symm hlt
   have hel : (os.map u32).length = n + m := by rw [List.length_map]; exact hM.len
   have m4 : IntKind.u32.wrap c = c := u32w hM.c0 hM.c1
   clear hM
   refine goA ?_
   refine evG ggA (Zbf (Zaa rfl) (Zau rfl) (Zau rfl) rfl m4) ?_
   refine evG ggA (Zah (Zaa rfl) (Zag rfl) rfl rfl hel rfl oM oM) ?_
   refine evG ggA (Zbd rfl (Zbp rfl) rfl rfl hel oM rfl rfl (fun l e => by cases e) rfl) ?_
   refine goA ?_
   refine Zab (k := n - (i + 1)) (s' := mkS [(2, .ptr 2 0), (3, .ptr 3 0), (4, .ptr 4 0), (5, .v (.sl (xs.map u32))), (6, .v (.sl (ys.map u32))), (7, .own 30 (n + m)), (8, .v (iV ((i : Int) + 1)))] [(2, .var [.v (.p (.bool g)), .v (.sl (ds.map u32))]), (3, .var [.v (.p (.bool g')), .v (.sl (ds'.map u32))]), (4, varI), (30, .lst 1 74 ((os.map u32).set (((i : Int) + ((ys.map u32).length : Int))).toNat (.p (.int .u32 c))))] 81 false) oM entA ⟨i + 1, _, rfl, hlt, hout, by rw [show (((i : Int) + ((ys.map u32).length : Int))).toNat = i + m by omega, List.map_set]; rfl⟩
  ·obtain rfl : i = n := oM
   have hA : decide ((i : Int) < ((xs.map u32).length : Int)) = false := by simp; omega
   refine goA ?_
   exact Zae (s' := mkS [(2, .ptr 2 0), (3, .ptr 3 0), (4, .ptr 4 0), (7, .own 30 (i + m))] [(2, .var [.v (.p (.bool g)), .v (.sl (ds.map u32))]), (3, .var [.v (.p (.bool g')), .v (.sl (ds'.map u32))]), (4, varI), (30, .lst 1 74 (os.map u32))] 81 false) entA ⟨os, hM, rfl⟩
 rintro _ ⟨os, hM, rfl⟩
 have hv := hM.v
 rw [show val (fun j => xs.getD j 0) n = vl xs by rw [vl_def, ← hn], show val (fun j => ys.getD j 0) 0 = 0 from rfl, Int.mul_zero, Int.zero_mul, Int.add_zero, Int.add_zero] at hv
 have c3 := Zck (g := g != g') hM.dig (Nat.le_refl _) (by rw [hM.len]; omega)
 rw [hv] at c3
 have hel : (os.map u32).length = n + m := by rw [List.length_map]; exact hM.len
 unfold encI at c3 ⊢
 refine T.weak (s' := mkS [(2, .ptr 2 0), (3, .ptr 3 0), (4, .ptr 4 0), (7, .v (.sl (os.map u32)))] [(2, .var [.v (.p (.bool g)), .v (.sl (ds.map u32))]), (3, .var [.v (.p (.bool g')), .v (.sl (ds'.map u32))]), (4, varI)] 81 false) entA ?_
 clear c1 c2 hM hM0
 refine goA ?_
 refine clG c3 ?_
 exact rfl
end Ab
