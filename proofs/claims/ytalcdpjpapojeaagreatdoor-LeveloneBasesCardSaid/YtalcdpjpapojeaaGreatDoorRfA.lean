/- Package ref01. -/
import Derived.Test.YtalcdpjpapojeaaGreatDoorSerC
import Derived.Test.YtalcdpjpapojeaaGreatDoorIB
import Derived.Test.YtalcdpjpapojeaaGreatDoorWo
set_option linter.all false
namespace Ab
open Go Go.RowKit Go.Proofs Hp
set_option maxRecDepth 100000
def nd (ds : List Int) : List Int := dgs (vl ds).toNat
theorem Zcw {ds : List Int} (hd : ∀ d, d ∈ ds → Zal d) : 0 ≤ vl ds := Zam (Zcr hd)
theorem trim_eq {ds : List Int} {n : Nat} (hd : ∀ d, d ∈ ds → Zal d) (hn : n ≤ ds.length) (h0 : ∀ i, n ≤ i → i < ds.length → ds.getD i 0 = 0) (h1 : n = 0 ∨ ds.getD (n - 1) 0 ≠ 0) : ds.take n = nd ds := by
 have hD := Zcr hd
 have hv : val (fun i => ds.getD i 0) n = ((vl ds).toNat : Int) := by
  have := Zfr (f := fun i => ds.getD i 0) hn h0
  have h2 := Zcw hd
  unfold vl at h2 ⊢
  omega
 unfold nd
 rw [dgs_of (fun i hi => hD i oM) h1 hv]
 apply List.ext_getElem
 ·simp; omega
 ·intro i h3 h4
  have h5 : i < ds.length := by simp at h3; omega
  simp [h5]
theorem nd_len {ds : List Int} (hd : ∀ d, d ∈ ds → Zal d) : (nd ds).length ≤ ds.length := by
 apply Zfp
 have h := Zcg (Zcr hd)
 have h2 := Zcw hd
 unfold vl at h2
 show (((vl ds).toNat : Nat) : Int) < _
 unfold vl
 omega
set_option maxHeartbeats 1000000 in
theorem trim_p {ds : List Int} (hd : ∀ d, d ∈ ds → Zal d) (hl : ds.length ≤ 17592186044416) : PW Tryz.prog 137 [.sl (ds.map u32)] (.sl ((nd ds).map u32)) := by
 refine Zaz false Tryz.func137 rfl rfl rfl (Nat.le_of_ble_eq_true rfl) Zac.tmp ?_
 refine r1A ?_
 refine T.seqE (mkS [(0, .v (.sl (ds.map u32))), (3, .v (iV ((ds.map u32).length : Int)))] [] 23 false) ?_ ?_
 ·refine goA ?_
  exact midE
 refine T.seqI (fun s1 => ∃ n : Nat, n ≤ ds.length ∧ ds.take n = nd ds ∧ s1 = mkS [(0, .v (.sl (ds.map u32))), (3, .v (iV n))] [] 23 false) ?_ ?_
 ·refine T.block ?_
  refine T.loop (fun k s1 => ∃ n : Nat, k = n ∧ n ≤ ds.length ∧ (∀ i, n ≤ i → i < ds.length → ds.getD i 0 = 0) ∧ s1 = mkS [(0, .v (.sl (ds.map u32))), (3, .v (iV n))] [] 23 false) ds.length
   (s' := mkS [(0, .v (.sl (ds.map u32))), (3, .v (iV ((ds.map u32).length : Int)))] [] 23 false) entA ⟨ds.length, rfl, Nat.le_refl _, fun i h1 h2 => absurd h2 oM, by simp⟩ ?_
  rintro n _ ⟨_, rfl, hn, hz, rfl⟩
  by_cases h0 : n = 0
  ·subst h0
   have hb : decide (((0 : Nat) : Int) > 0) = false := dC
   refine goA ?_
   exact Zae (s' := mkS [(0, .v (.sl (ds.map u32))), (3, .v (iV ((0 : Nat) : Int)))] [] 23 false) entA ⟨0, hn, trim_eq hd hn hz (.inl rfl), rfl⟩
  ·have hb : decide ((n : Int) > 0) = true := by simp; omega
   have hlt : n - 1 < ds.length := oM
   have hg : (ds.map u32)[((n : Int) - 1).toNat]? = some (.p (.int .u32 ds[n - 1])) := Zff (by rw [show ((n : Int) - 1).toNat = n - 1 by omega]; exact List.getElem?_eq_getElem hlt)
   have hD : ds.getD (n - 1) 0 = ds[n - 1] := by simp [hlt]
   by_cases h1 : ds[n - 1] = 0
   ·have hb1 : (ds[n - 1] == 0) = true := by simp [h1]
    refine goA ?_
    refine ixG hg ?_
    refine Zab (k := n - 1) (s' := mkS [(0, .v (.sl (ds.map u32))), (3, .v (iV ((n : Int) - 1)))] [] 23 false) oM entA ⟨n - 1, rfl, oM, fun i h2 h3 => ?_, by rw [show ((n - 1 : Nat) : Int) = (n : Int) - 1 by omega]⟩
    by_cases h4 : i = n - 1
    ·rw [h4, hD, h1]
    ·exact hz i oM h3
   ·have hb1 : (ds[n - 1] == 0) = false := by simp [h1]
    refine goA ?_
    refine ixG hg ?_
    exact Zae (s' := mkS [(0, .v (.sl (ds.map u32))), (3, .v (iV n))] [] 23 false) entA ⟨n, hn, trim_eq hd hn hz (.inr (by rw [hD]; exact h1)), rfl⟩
 rintro _ ⟨n, hn, ht, rfl⟩
 rw [← ht]
 have hx : ((ds.map u32).take ((n : Int)).toNat) = (ds.take n).map u32 := by rw [List.map_take]; simp
 refine T.seq ?_
 refine regA ?_
 refine evG ggA (Zb8 18 (Zaa rfl) rfl (Zaf rfl) rfl rfl rfl rfl (fun x hx => by cases hx) (Nat.le_of_ble_eq_true rfl) dC (fun h => by cases h)) ?_
 refine runA ?_
 refine evG ggA (Zek (Zaa rfl) (Zag rfl) rfl (fun x hx => by obtain ⟨d, -, rfl⟩ := List.mem_map.1 hx; rfl) rfl oM (by simp; omega)) ?_
 rw [hx]
 refine evG ggA (Zcj (Zaa rfl) (Zaf rfl) rfl rfl rfl rfl (fun a ha => by obtain ⟨d, -, rfl⟩ := List.mem_map.1 ha; rfl) dC (by simp [maxLen]; omega) (by simp; omega) rfl (fun h => by cases h)) ?_
 refine runA ?_
 refine Zao ?_
 refine Za1 ?_
 refine T.weak (s' := mkS [(2, .v (.sl ((ds.take n).map u32)))] [] 23 false) entA ?_
 refine goA ?_
 exact rfl
theorem dgs_ne {n : Nat} : decide (((dgs n).length : Int) > 0) = decide (0 < n) := by
 rw [decide_eq_decide]
 by_cases h : n = 0
 ·subst h; simp [dgs_zero]
 ·rw [dgs_step h]; simp; omega
theorem ci_raw (g : Bool) {ds : List Int} (hd : ∀ d, d ∈ ds → Zal d) : ci (zof g (vl ds)) = [.p (.bool (g && decide (0 < (vl ds).toNat))), .sl ((nd ds).map u32)] := by
 have h := Zcw hd
 unfold ci nd
 have e1 : (zof g (vl ds)).natAbs = (vl ds).toNat := by unfold zof; split <;> omega
 have e2 : decide (zof g (vl ds) < 0) = (g && decide (0 < (vl ds).toNat)) := by
  cases g with
  | true => first | (simp [zof]; done) | (simp [zof]; omega)
  | false => first | (simp [zof]; done) | (simp [zof]; omega)
 rw [e1, e2]
theorem Zex {a : AV} {k : Nat} {z : Int} (h : IsI a k z) (hk : k ≤ 17592186044416) : PW Tryz.prog 99 [a] (encI z) := by
  obtain ⟨cs, rfl, g, ds, rfl, hd, hl, rfl⟩ := h
  have c := trim_p hd oM
  have e : (((nd ds).map u32).length : Int) = ((dgs (vl ds).toNat).length : Int) := by rw [List.length_map]; rfl
  have hn := dgs_ne (n := (vl ds).toNat)
  unfold encI
  rw [ci_raw g hd, ← hn, ← e]
  cases g with
  | true =>
    refine pb1 Tryz.func99 (Zac.agg Zbj) ?_
    refine goA ?_
    refine clG c ?_
    exact rfl
  | false =>
    refine pb1 Tryz.func99 (Zac.agg Zbj) ?_
    refine goA ?_
    refine clG c ?_
    exact rfl
theorem Zck {g : Bool} {ds : List Int} {k : Nat} (hd : ∀ d, d ∈ ds → Zal d) (hl : ds.length ≤ k) (hk : k ≤ 17592186044416) : PW Tryz.prog 134 [.p (.bool g), .sl (ds.map u32)] (encI (zof g (vl ds))) := by
 have c := Zex (a := .agg [.p (.bool g), .sl (ds.map u32)]) ⟨_, rfl, g, ds, rfl, hd, hl, rfl⟩ hk
 unfold encI at c ⊢
 refine pb1 Tryz.func134 (Zac.agg Zbj) ?_
 refine goA ?_
 refine clG c ?_
 exact rfl
theorem zof_not (g : Bool) (x : Int) : zof (!g) x = -(zof g x) := by cases g <;> simp [zof]
theorem refneg_p {a : AV} {k : Nat} {z : Int} (h : IsI a k z) (hk : k ≤ 17592186044416) : PW Tryz.prog 97 [a] (encI (-z)) := by
 obtain ⟨cs, rfl, g, ds, rfl, hd, hl, rfl⟩ := h
 have c := Zck (g := !g) hd hl hk
 rw [zof_not] at c
 unfold encI at c ⊢
 refine pb1 Tryz.func97 (Zac.agg Zbj) ?_
 refine goA ?_
 refine clG c ?_
 exact rfl
theorem refabs_p {a : AV} {k : Nat} {z : Int} (h : IsI a k z) (hk : k ≤ 17592186044416) : PW Tryz.prog 132 [a] (encI (z.natAbs : Int)) := by
 obtain ⟨cs, rfl, g, ds, rfl, hd, hl, rfl⟩ := h
 have c := Zck (g := false) hd hl hk
 have e : ((zof g (vl ds)).natAbs : Int) = zof false (vl ds) := by
  have := Zcw hd
  cases g <;> simp [zof] <;> omega
 rw [e]
 unfold encI at c ⊢
 refine pb1 Tryz.func132 (Zac.agg Zbj) ?_
 refine goA ?_
 refine clG c ?_
 exact rfl
theorem dgs_len0 {n : Nat} : (((dgs n).length : Int) == 0) = decide (n = 0) := by
 by_cases h : n = 0
 ·subst h; simp [dgs_zero]
 ·rw [dgs_step h]; simp [h]; omega
theorem refsign_p {a : AV} {k : Nat} {z : Int} (h : IsI a k z) (hk : k ≤ 17592186044416) : PW Tryz.prog 59 [a] (.p (.int .i64 (sgn z))) := by
 have c := Zex h hk
 obtain ⟨cs, rfl, g, ds, rfl, -⟩ := h
 have e0 := dgs_len0 (n := z.natAbs)
 have e1 : (((dgs z.natAbs).map u32).length : Int) = ((dgs z.natAbs).length : Int) := by simp
 rw [← e1] at e0
 unfold encI ci at c
 by_cases h0 : z = 0
 ·have hb : (((((dgs z.natAbs).map u32).length : Nat) : Int) == 0) = true := by rw [e0]; simp [h0]
  have es : sgn z = 0 := by rw [h0]; rfl
  rw [es]
  refine pb1 Tryz.func59 Zac.tmp ?_
  refine goA ?_
  refine clG c ?_
  exact rfl
 ·have hb : (((((dgs z.natAbs).map u32).length : Nat) : Int) == 0) = false := by rw [e0]; simp; omega
  by_cases h1 : z < 0
  ·have hb1 : decide (z < 0) = true := by simp [h1]
   have es : sgn z = -1 := by unfold sgn; simp [h1]
   rw [es]
   refine pb1 Tryz.func59 Zac.tmp ?_
   refine goA ?_
   refine clG c ?_
   exact rfl
  ·have hb1 : decide (z < 0) = false := by simp; omega
   have es : sgn z = 1 := by unfold sgn; first | (simp [h0, h1]; done) | (split <;> first | omega | (split <;> omega))
   rw [es]
   refine pb1 Tryz.func59 Zac.tmp ?_
   refine goA ?_
   refine clG c ?_
   exact rfl
end Ab
namespace Ab
open Hp
theorem dig0 : Zal 0 := ⟨dC, dC⟩
theorem gd_dig {ds : List Int} (hd : ∀ d, d ∈ ds → Zal d) (i : Nat) : Zal (ds.getD i 0) := by
 rw [List.getD_eq_getElem?_getD]
 cases h : ds[i]? with
 | none => exact dig0
 | some d => exact hd d (List.mem_of_getElem? h)
theorem gd_b {ds : List Int} (hd : ∀ d, d ∈ ds → Zal d) (i : Nat) : 0 ≤ ds.getD i 0 ∧ ds.getD i 0 < 4294967296 := gd_dig hd i
theorem vl_def (ds : List Int) : vl ds = val (fun i => ds.getD i 0) ds.length := rfl
theorem vl_more (ds : List Int) {n : Nat} (h : ds.length ≤ n) : val (fun i => ds.getD i 0) n = vl ds := Zfr h fun i h1 _ => by simp [List.getD_eq_getElem?_getD, List.getElem?_eq_none h1]
theorem vl_map {n : Nat} {f : Nat → Int} : vl ((List.range n).map f) = val f n := by
 rw [vl_def]
 simp only [List.length_map, List.length_range]
 exact Zc9 fun i hi => by simp [hi]
theorem vl_lt {ds : List Int} (hd : ∀ d, d ∈ ds → Zal d) : vl ds < pw ds.length := Zcg (Zcr hd)
theorem pw_succ (n : Nat) : pw (n + 1) = pw n * 4294967296 := rfl
theorem val_succ (f : Nat → Int) (n : Nat) : val f (n + 1) = val f n + f n * pw n := rfl
def pC (ds es : List Int) : Nat → Int
 | 0 => 0
 | i + 1 => (pC ds es i + ds.getD i 0 + es.getD i 0) / 4294967296
def pO (ds es : List Int) (i : Nat) : Int := (pC ds es i + ds.getD i 0 + es.getD i 0) % 4294967296
def plusL (ds es : List Int) : List Int := (List.range (max ds.length es.length)).map (pO ds es) ++ [pC ds es (max ds.length es.length)]
theorem pC_b {ds es : List Int} (hd : ∀ d, d ∈ ds → Zal d) (he : ∀ d, d ∈ es → Zal d) : ∀ i, 0 ≤ pC ds es i ∧ pC ds es i ≤ 1
  | 0 => ⟨Int.le_refl 0, Int.zero_le_ofNat 1⟩
  | i + 1 => by
    have h := pC_b hd he i
    have h1 := gd_b hd i
    have h2 := gd_b he i
    show 0 ≤ (pC ds es i + ds.getD i 0 + es.getD i 0) / 4294967296 ∧ (pC ds es i + ds.getD i 0 + es.getD i 0) / 4294967296 ≤ 1
    omega
theorem p_val (ds es : List Int) : ∀ n, val (pO ds es) n + pC ds es n * pw n = val (fun i => ds.getD i 0) n + val (fun i => es.getD i 0) n
  | 0 => by simp [val, pC]
  | n + 1 => by
    have h := p_val ds es n
    have := plus_step (O := val (pO ds es) n) (A := val (fun i => ds.getD i 0) n) (C := val (fun i => es.getD i 0) n) (c := pC ds es n) (x := ds.getD n 0) (y := es.getD n 0) (P := pw n) (s := pC ds es n + ds.getD n 0 + es.getD n 0) h oM
    exact this
theorem vl_snoc (l : List Int) (d : Int) : vl (l ++ [d]) = vl l + d * pw l.length := by
 rw [vl_def, List.length_append, List.length_singleton, val_succ, vl_def]
 congr 1
 ·exact Zc9 fun i hi => by simp [List.getD_eq_getElem?_getD, List.getElem?_append_left hi]
 ·congr 1
  simp
theorem plusL_vl (ds es : List Int) : vl (plusL ds es) = vl ds + vl es := by
 unfold plusL
 rw [vl_snoc, vl_map, List.length_map, List.length_range, p_val, vl_more ds oM, vl_more es oM]
theorem plusL_dig {ds es : List Int} (hd : ∀ d, d ∈ ds → Zal d) (he : ∀ d, d ∈ es → Zal d) : ∀ d, d ∈ plusL ds es → Zal d := fun d h => by
 unfold plusL at h
 rcases List.mem_append.1 h with h | h
 ·obtain ⟨i, -, rfl⟩ := List.mem_map.1 h
  unfold pO Zal B
  omega
 ·rw [List.mem_singleton] at h
  subst h
  have := pC_b hd he (max ds.length es.length)
  unfold Zal B
  omega
theorem plusL_len (ds es : List Int) : (plusL ds es).length = max ds.length es.length + 1 := by simp [plusL]
def mB (ds es : List Int) : Nat → Int
 | 0 => 0
 | i + 1 => if ds.getD i 0 < mB ds es i + es.getD i 0 then 1 else 0
def mO (ds es : List Int) (i : Nat) : Int := if ds.getD i 0 < mB ds es i + es.getD i 0 then ds.getD i 0 + 4294967296 - (mB ds es i + es.getD i 0) else ds.getD i 0 - (mB ds es i + es.getD i 0)
def Zgr (ds es : List Int) : List Int := (List.range ds.length).map (mO ds es)
theorem mB_b (ds es : List Int) : ∀ i, 0 ≤ mB ds es i ∧ mB ds es i ≤ 1
  | 0 => ⟨Int.le_refl 0, Int.zero_le_ofNat 1⟩
  | i + 1 => by
    show 0 ≤ (if ds.getD i 0 < mB ds es i + es.getD i 0 then (1 : Int) else 0) ∧ (if ds.getD i 0 < mB ds es i + es.getD i 0 then (1 : Int) else 0) ≤ 1
    split <;> decide
theorem mO_b {ds es : List Int} (hd : ∀ d, d ∈ ds → Zal d) (he : ∀ d, d ∈ es → Zal d) (i : Nat) : 0 ≤ mO ds es i ∧ mO ds es i < 4294967296 := by
 have h := mB_b ds es i
 have h1 := gd_b hd i
 have h2 := gd_b he i
 unfold mO
 split <;> omega
theorem m_val (ds es : List Int) : ∀ n, val (mO ds es) n - mB ds es n * pw n = val (fun i => ds.getD i 0) n - val (fun i => es.getD i 0) n
  | 0 => by simp [val, mB]
  | n + 1 => by
    have h := m_val ds es n
    rw [val_succ, val_succ, val_succ, pw_succ]
    have hb : mB ds es (n + 1) = if ds.getD n 0 < mB ds es n + es.getD n 0 then 1 else 0 := rfl
    rw [hb]
    have key : mO ds es n * pw n - (if ds.getD n 0 < mB ds es n + es.getD n 0 then (1 : Int) else 0) * (pw n * 4294967296) = ds.getD n 0 * pw n - es.getD n 0 * pw n - mB ds es n * pw n := by
      unfold mO
      split
      · rw [Int.sub_mul, Int.add_mul, Int.add_mul, Int.one_mul, Int.mul_comm (pw n)]; omega
      · rw [Int.sub_mul, Int.add_mul, Int.zero_mul]; omega
    omega
theorem minusL_dig {ds es : List Int} (hd : ∀ d, d ∈ ds → Zal d) (he : ∀ d, d ∈ es → Zal d) : ∀ d, d ∈ Zgr ds es → Zal d := fun d h => by
 obtain ⟨i, -, rfl⟩ := List.mem_map.1 h
 exact mO_b hd he i
theorem minusL_len (ds es : List Int) : (Zgr ds es).length = ds.length := by simp [Zgr]
theorem minusL_vl {ds es : List Int} (hd : ∀ d, d ∈ ds → Zal d) (he : ∀ d, d ∈ es → Zal d) (hl : es.length ≤ ds.length) (hv : vl es ≤ vl ds) : vl (Zgr ds es) = vl ds - vl es := by
 have h := m_val ds es ds.length
 have hD : Digs (mO ds es) ds.length := fun i _ => mO_b hd he i
 have h1 := Zcg hD
 have h2 := Zam hD
 rw [vl_more ds (Nat.le_refl _), vl_more es hl] at h
 unfold Zgr
 rw [vl_map]
 have h3 := mB_b ds es ds.length
 rcases (by omega : mB ds es ds.length = 0 ∨ mB ds es ds.length = 1) with h4 | h4
 ·rw [h4] at h; omega
 ·rw [h4] at h; omega
def bitF : Nat → Nat → Nat
 | 0, _ => 0
 | k + 1, z => if z = 0 then 0 else bitF k (z / 2) + 1
def bit' (z : Nat) : Nat := bitF z z
theorem bitF_spec : ∀ k z, z ≤ k → (z = 0 → bitF k z = 0) ∧ (z ≠ 0 → ∃ b, bitF k z = b + 1 ∧ 2 ^ b ≤ z ∧ z < 2 ^ (b + 1))
  | 0, z, h => ⟨fun _ => rfl, fun h1 => absurd (Nat.le_zero.1 h) h1⟩
  | k + 1, z, h => by
    refine ⟨fun h1 => by simp [bitF, h1], fun h1 => ?_⟩
    have e : bitF (k + 1) z = bitF k (z / 2) + 1 := by simp [bitF, h1]
    obtain ⟨i1, i2⟩ := bitF_spec k (z / 2) oM
    by_cases h2 : z / 2 = 0
    · exact ⟨0, by rw [e, i1 h2], by simp; omega, by simp; omega⟩
    · obtain ⟨b, j1, j2, j3⟩ := i2 h2
      exact ⟨b + 1, by rw [e, j1], by rw [Nat.pow_succ]; omega, by rw [Nat.pow_succ] at j3 ⊢; omega⟩
theorem bit_zero : bit' 0 = 0 := rfl
theorem Zc8 {z : Nat} (h : z ≠ 0) : ∃ b, bit' z = b + 1 ∧ 2 ^ b ≤ z ∧ z < 2 ^ (b + 1) := (bitF_spec z z (Nat.le_refl _)).2 h
theorem bit_eq {z b : Nat} (h1 : 2 ^ b ≤ z) (h2 : z < 2 ^ (b + 1)) : bit' z = b + 1 := by
 have h0 : z ≠ 0 := by have := Nat.two_pow_pos b; omega
 obtain ⟨c, h3, h4, h5⟩ := Zc8 h0
 have a1 : ¬ b < c := fun h => by have := Nat.pow_le_pow_right (n := 2) dC (show b + 1 ≤ c by omega); omega
 have a2 : ¬ c < b := fun h => by have := Nat.pow_le_pow_right (n := 2) dC (show c + 1 ≤ b by omega); omega
 omega
theorem bit_step {z : Nat} (h : z ≠ 0) : bit' z = bit' (z / 2) + 1 := by
 obtain ⟨b, h1, h2, h3⟩ := Zc8 h
 by_cases h4 : z / 2 = 0
 ·have : z = 1 := oM
  subst this; rfl
 ·obtain ⟨c, k1, k2, k3⟩ := Zc8 h4
  rw [k1]
  exact bit_eq (by rw [Nat.pow_succ]; omega) (by rw [Nat.pow_succ]; omega)
end Ab
