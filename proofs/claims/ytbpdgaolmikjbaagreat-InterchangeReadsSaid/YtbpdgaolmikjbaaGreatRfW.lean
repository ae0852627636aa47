/- What the document's integers want of the base. Package ref01: normal forms of integers, in abstract values. Package ref01: Norm, signed, Neg, Abs, Sign, in abstract values. Package ref01: Sign, Of, in abstract values. Digits: sums, differences, order, binary digits; plain. Package ref01: word, below, plus, minus, in abstract values. Package ref01: plus, minus, in abstract values. Package ref01: split, shifted, Bits, in abstract values. Package ref01: divided, in abstract values. Package ref01: divided, in abstract values: its walk. Package ref01: Add, Sub, Euclid, in abstract values. Package ref01: Gcd, in abstract values. Package ref01: Mul, in abstract values. Package ref01: Same, Of, Divided; fields of structs; in abstract values. Package ref02: Over, Of, Normal, Mul, in abstract values. -/
import Derived.Test.YtbpdgaolmikjbaaGreatAwk
set_option linter.all false
namespace Ab
open Go Go.RowKit Go.Proofs Hp
theorem dgs_len2 {z k : Nat} (h : (z : Int) < pw k) : (dgs z).length ≤ k := Zf3 (z := (z : Int)) h
theorem u32_at {ds : List Int} {i : Nat} {d : Int} (h : ds[i]? = some d) : (ds.map u32)[i]? = some (.p (.int .u32 d)) := by rw [List.getElem?_map, h]; rfl
abbrev RQ := (Bool × List Int) × (Bool × List Int)
def rawI (r : Bool × List Int) : AV := .agg [.p (.bool r.1), .sl (r.2.map u32)]
def ri (z : Int) : Bool × List Int := (decide (z < 0), dgs z.natAbs)
theorem ri_inj {x y : Int} (h : ri x = ri y) : x = y := by
 simp only [ri, Prod.mk.injEq, decide_eq_decide] at h
 obtain ⟨h1, h2⟩ := h
 have h3 : (x.natAbs : Int) = y.natAbs := by rw [← Zc3, ← Zc3, h2]
 omega
end Ab
namespace Ab
open Go Go.RowKit Go.Proofs Hp
set_option maxRecDepth 100000
def nd (ds : List Int) : List Int := dgs (vl ds).toNat
theorem Zef {ds : List Int} (hd : ∀ d, d ∈ ds → Zau d) : 0 ≤ vl ds := Zav (Zc8 hd)
theorem trim_eq {ds : List Int} {n : Nat} (hd : ∀ d, d ∈ ds → Zau d) (hn : n ≤ ds.length) (h0 : ∀ i, n ≤ i → i < ds.length → ds.getD i 0 = 0) (h1 : n = 0 ∨ ds.getD (n - 1) 0 ≠ 0) : ds.take n = nd ds := by
 have hD := Zc8 hd
 have hv : val (fun i => ds.getD i 0) n = ((vl ds).toNat : Int) := by
  have := Zgb (f := fun i => ds.getD i 0) hn h0
  have h2 := Zef hd
  unfold vl at h2 ⊢
  omega
 unfold nd
 rw [dgs_of (fun i hi => hD i (by omega)) h1 hv]
 apply List.ext_getElem
 ·simp; omega
 ·intro i h3 h4
  have h5 : i < ds.length := by simp at h3; omega
  simp [h5]
theorem nd_len {ds : List Int} (hd : ∀ d, d ∈ ds → Zau d) : (nd ds).length ≤ ds.length := by
 apply dgs_len2
 have h := Zcy (Zc8 hd)
 have h2 := Zef hd
 unfold vl at h2
 show (((vl ds).toNat : Nat) : Int) < _
 unfold vl
 omega
set_option maxHeartbeats 1000000 in
theorem trim_p {ds : List Int} (hd : ∀ d, d ∈ ds → Zau d) (hl : ds.length ≤ 17592186044416) : PW Tryz.prog 147 [.sl (ds.map u32)] (.sl ((nd ds).map u32)) := by
 refine Zas false Tryz.func147 rfl rfl rfl (Nat.le_of_ble_eq_true rfl) Za4.tmp ?_
 refine r1A ?_
 refine T.seqI (fun s1 => s1 = mkS [(0, .v (.sl (ds.map u32))), (3, .v (.p (.int .i64 ((ds.map u32).length : Int))))] [] 23 false) ?_ ?_
 ·refine goA ?_
  exact Zao (by exact entA) rfl
 rintro _ rfl
 refine T.seqI (fun s1 => ∃ n : Nat, n ≤ ds.length ∧ ds.take n = nd ds ∧ s1 = mkS [(0, .v (.sl (ds.map u32))), (3, .v (.p (.int .i64 n)))] [] 23 false) ?_ ?_
 ·refine T.block ?_
  refine T.loop (fun k s1 => ∃ n : Nat, k = n ∧ n ≤ ds.length ∧ (∀ i, n ≤ i → i < ds.length → ds.getD i 0 = 0) ∧ s1 = mkS [(0, .v (.sl (ds.map u32))), (3, .v (.p (.int .i64 n)))] [] 23 false) ds.length
   (s' := mkS [(0, .v (.sl (ds.map u32))), (3, .v (.p (.int .i64 ((ds.map u32).length : Int))))] [] 23 false) (by exact entA) ⟨ds.length, rfl, Nat.le_refl _, fun i h1 h2 => absurd h2 (by omega), by simp⟩ ?_
  rintro n _ ⟨_, rfl, hn, hz, rfl⟩
  by_cases h0 : n = 0
  ·subst h0
   have hb : decide (((0 : Nat) : Int) > 0) = false := by decide
   refine goA ?_
   exact Zao (s' := mkS [(0, .v (.sl (ds.map u32))), (3, .v (.p (.int .i64 ((0 : Nat) : Int))))] [] 23 false) (by exact entA) ⟨0, hn, trim_eq hd hn hz (.inl rfl), rfl⟩
  ·have hb : decide ((n : Int) > 0) = true := by simp; omega
   have hlt : n - 1 < ds.length := by omega
   have hg : (ds.map u32)[((n : Int) - 1).toNat]? = some (.p (.int .u32 ds[n - 1])) := u32_at (by rw [show ((n : Int) - 1).toNat = n - 1 by omega]; exact List.getElem?_eq_getElem hlt)
   have hD : ds.getD (n - 1) 0 = ds[n - 1] := by simp [hlt]
   by_cases h1 : ds[n - 1] = 0
   ·have hb1 : (ds[n - 1] == 0) = true := by simp [h1]
    refine goA ?_
    refine evG ggA (Zab (Zaa rfl) (Zac rfl) rfl rfl (by omega) hg rfl) ?_
    refine goA ?_
    refine Zad (k := n - 1) (s' := mkS [(0, .v (.sl (ds.map u32))), (3, .v (.p (.int .i64 ((n : Int) - 1))))] [] 23 false) (by omega) (by exact entA) ⟨n - 1, rfl, by omega, fun i h2 h3 => ?_, by rw [show ((n - 1 : Nat) : Int) = (n : Int) - 1 by omega]⟩
    by_cases h4 : i = n - 1
    ·rw [h4, hD, h1]
    ·exact hz i (by omega) h3
   ·have hb1 : (ds[n - 1] == 0) = false := by simp [h1]
    refine goA ?_
    refine evG ggA (Zab (Zaa rfl) (Zac rfl) rfl rfl (by omega) hg rfl) ?_
    refine goA ?_
    exact Zao (s' := mkS [(0, .v (.sl (ds.map u32))), (3, .v (.p (.int .i64 n)))] [] 23 false) (by exact entA) ⟨n, hn, trim_eq hd hn hz (.inr (by rw [hD]; exact h1)), rfl⟩
 rintro _ ⟨n, hn, ht, rfl⟩
 rw [← ht]
 have hx : ((ds.map u32).take ((n : Int)).toNat) = (ds.take n).map u32 := by rw [List.map_take]; simp
 refine T.seq ?_
 refine regA ?_
 refine evG ggA (Zd8 18 (Zaa rfl) rfl (Zaf rfl) rfl rfl rfl rfl (fun x hx => by cases hx) (Nat.le_of_ble_eq_true rfl) (by decide) (fun h => by cases h)) ?_
 refine runA ?_
 refine evG ggA (Zde (Zaa rfl) (Zac rfl) rfl (fun x hx => by obtain ⟨d, -, rfl⟩ := List.mem_map.1 hx; rfl) rfl (by omega) (by simp; omega)) ?_
 rw [hx]
 refine evG ggA (Zb5 (Zaa rfl) (Zaf rfl) rfl rfl rfl rfl (fun a ha => by obtain ⟨d, -, rfl⟩ := List.mem_map.1 ha; rfl) (by decide) (by simp [maxLen]; omega) (by simp; omega) rfl (fun h => by cases h)) ?_
 refine runA ?_
 refine Zbs ?_
 refine Zbr ?_
 refine T.weak (s' := mkS [(2, .v (.sl ((ds.take n).map u32)))] [] 23 false) (by exact entA) ?_
 refine goA ?_
 exact rfl
end Ab
namespace Ab
open Go Go.RowKit Go.Proofs Hp
set_option maxRecDepth 100000
theorem dgs_ne {n : Nat} : decide (((dgs n).length : Int) > 0) = decide (0 < n) := by
 rw [decide_eq_decide]
 by_cases h : n = 0
 ·subst h; simp [dgs_zero]
 ·rw [dgs_step h]; simp; omega
theorem ci_raw (g : Bool) {ds : List Int} (hd : ∀ d, d ∈ ds → Zau d) : ci (zof g (vl ds)) = [.p (.bool (g && decide (0 < (vl ds).toNat))), .sl ((nd ds).map u32)] := by
 have h := Zef hd
 unfold ci nd
 have e1 : (zof g (vl ds)).natAbs = (vl ds).toNat := by unfold zof; split <;> omega
 have e2 : decide (zof g (vl ds) < 0) = (g && decide (0 < (vl ds).toNat)) := by
  cases g with
  | true => first | (simp [zof]; done) | (simp [zof]; omega)
  | false => first | (simp [zof]; done) | (simp [zof]; omega)
 rw [e1, e2]
theorem Ze9 {a : AV} {k : Nat} {z : Int} (h : IsI a k z) (hk : k ≤ 17592186044416) : PW Tryz.prog 134 [a] (encI z) := by
  obtain ⟨cs, rfl, g, ds, rfl, hd, hl, rfl⟩ := h
  have c := trim_p hd (by omega)
  have e : (((nd ds).map u32).length : Int) = ((dgs (vl ds).toNat).length : Int) := by rw [List.length_map]; rfl
  have hn := dgs_ne (n := (vl ds).toNat)
  unfold encI
  rw [ci_raw g hd, ← hn, ← e]
  cases g with
  | true =>
    refine Zas true Tryz.func134 rfl rfl rfl (Nat.le_of_ble_eq_true rfl) (Za4.agg Zce) ?_
    refine goA ?_
    refine evG ggA (Zae (Zaa rfl) rfl rfl c) ?_
    refine goA ?_
    exact rfl
  | false =>
    refine Zas true Tryz.func134 rfl rfl rfl (Nat.le_of_ble_eq_true rfl) (Za4.agg Zce) ?_
    refine goA ?_
    refine evG ggA (Zae (Zaa rfl) rfl rfl c) ?_
    refine goA ?_
    exact rfl
theorem Zda {g : Bool} {ds : List Int} {k : Nat} (hd : ∀ d, d ∈ ds → Zau d) (hl : ds.length ≤ k) (hk : k ≤ 17592186044416) : PW Tryz.prog 157 [.p (.bool g), .sl (ds.map u32)] (encI (zof g (vl ds))) := by
 have c := Ze9 (a := .agg [.p (.bool g), .sl (ds.map u32)]) ⟨_, rfl, g, ds, rfl, hd, hl, rfl⟩ hk
 unfold encI at c ⊢
 refine Zas true Tryz.func157 rfl rfl rfl (Nat.le_of_ble_eq_true rfl) (Za4.agg Zce) ?_
 refine goA ?_
 refine evG ggA (Zae (Zaa rfl) rfl rfl c) ?_
 refine goA ?_
 exact rfl
theorem zof_not (g : Bool) (x : Int) : zof (!g) x = -(zof g x) := by cases g <;> simp [zof]
theorem refneg_p {a : AV} {k : Nat} {z : Int} (h : IsI a k z) (hk : k ≤ 17592186044416) : PW Tryz.prog 141 [a] (encI (-z)) := by
 obtain ⟨cs, rfl, g, ds, rfl, hd, hl, rfl⟩ := h
 have c := Zda (g := !g) hd hl hk
 rw [zof_not] at c
 unfold encI at c ⊢
 refine Zas true Tryz.func141 rfl rfl rfl (Nat.le_of_ble_eq_true rfl) (Za4.agg Zce) ?_
 refine goA ?_
 refine evG ggA (Zae (Zaa rfl) rfl rfl c) ?_
 refine goA ?_
 exact rfl
theorem refabs_p {a : AV} {k : Nat} {z : Int} (h : IsI a k z) (hk : k ≤ 17592186044416) : PW Tryz.prog 155 [a] (encI (z.natAbs : Int)) := by
 obtain ⟨cs, rfl, g, ds, rfl, hd, hl, rfl⟩ := h
 have c := Zda (g := false) hd hl hk
 have e : ((zof g (vl ds)).natAbs : Int) = zof false (vl ds) := by
  have := Zef hd
  cases g <;> simp [zof] <;> omega
 rw [e]
 unfold encI at c ⊢
 refine Zas true Tryz.func155 rfl rfl rfl (Nat.le_of_ble_eq_true rfl) (Za4.agg Zce) ?_
 refine goA ?_
 refine evG ggA (Zae (Zaa rfl) rfl rfl c) ?_
 refine goA ?_
 exact rfl
end Ab
namespace Ab
open Go Go.RowKit Go.Proofs Hp
set_option maxRecDepth 100000
theorem dgs_len0 {n : Nat} : (((dgs n).length : Int) == 0) = decide (n = 0) := by
 by_cases h : n = 0
 ·subst h; simp [dgs_zero]
 ·rw [dgs_step h]; simp [h]; omega
theorem refsign_p {a : AV} {k : Nat} {z : Int} (h : IsI a k z) (hk : k ≤ 17592186044416) : PW Tryz.prog 138 [a] (.p (.int .i64 (sgn z))) := by
 have c := Ze9 h hk
 obtain ⟨cs, rfl, g, ds, rfl, -⟩ := h
 have e0 := dgs_len0 (n := z.natAbs)
 have e1 : (((dgs z.natAbs).map u32).length : Int) = ((dgs z.natAbs).length : Int) := by simp
 rw [← e1] at e0
 unfold encI ci at c
 by_cases h0 : z = 0
 ·have hb : (((((dgs z.natAbs).map u32).length : Nat) : Int) == 0) = true := by rw [e0]; simp [h0]
  have es : sgn z = 0 := by rw [h0]; rfl
  rw [es]
  refine Zas true Tryz.func138 rfl rfl rfl (Nat.le_of_ble_eq_true rfl) Za4.tmp ?_
  refine goA ?_
  refine evG ggA (Zae (Zaa rfl) rfl rfl c) ?_
  refine goA ?_
  exact rfl
 ·have hb : (((((dgs z.natAbs).map u32).length : Nat) : Int) == 0) = false := by rw [e0]; simp; omega
  by_cases h1 : z < 0
  ·have hb1 : decide (z < 0) = true := by simp [h1]
   have es : sgn z = -1 := by unfold sgn; simp [h1]
   rw [es]
   refine Zas true Tryz.func138 rfl rfl rfl (Nat.le_of_ble_eq_true rfl) Za4.tmp ?_
   refine goA ?_
   refine evG ggA (Zae (Zaa rfl) rfl rfl c) ?_
   refine goA ?_
   exact rfl
  ·have hb1 : decide (z < 0) = false := by simp; omega
   have es : sgn z = 1 := by unfold sgn; first | (simp [h0, h1]; done) | (split <;> first | omega | (split <;> omega))
   rw [es]
   refine Zas true Tryz.func138 rfl rfl rfl (Nat.le_of_ble_eq_true rfl) Za4.tmp ?_
   refine goA ?_
   refine evG ggA (Zae (Zaa rfl) rfl rfl c) ?_
   refine goA ?_
   exact rfl
end Ab
namespace Ab
open Hp
theorem dig0 : Zau 0 := ⟨by decide, by decide⟩
theorem gd_dig {ds : List Int} (hd : ∀ d, d ∈ ds → Zau d) (i : Nat) : Zau (ds.getD i 0) := by
 rw [List.getD_eq_getElem?_getD]
 cases h : ds[i]? with
 | none => exact dig0
 | some d => exact hd d (List.mem_of_getElem? h)
theorem gd_b {ds : List Int} (hd : ∀ d, d ∈ ds → Zau d) (i : Nat) : 0 ≤ ds.getD i 0 ∧ ds.getD i 0 < 4294967296 := gd_dig hd i
theorem vl_def (ds : List Int) : vl ds = val (fun i => ds.getD i 0) ds.length := rfl
theorem vl_more (ds : List Int) {n : Nat} (h : ds.length ≤ n) : val (fun i => ds.getD i 0) n = vl ds := Zgb h fun i h1 _ => by simp [List.getD_eq_getElem?_getD, List.getElem?_eq_none h1]
theorem vl_map {n : Nat} {f : Nat → Int} : vl ((List.range n).map f) = val f n := by
 rw [vl_def]
 simp only [List.length_map, List.length_range]
 exact Zd0 fun i hi => by simp [hi]
theorem vl_lt {ds : List Int} (hd : ∀ d, d ∈ ds → Zau d) : vl ds < pw ds.length := Zcy (Zc8 hd)
theorem pw_succ (n : Nat) : pw (n + 1) = pw n * 4294967296 := rfl
theorem val_succ (f : Nat → Int) (n : Nat) : val f (n + 1) = val f n + f n * pw n := rfl
def pC (ds es : List Int) : Nat → Int
 | 0 => 0
 | i + 1 => (pC ds es i + ds.getD i 0 + es.getD i 0) / 4294967296
def pO (ds es : List Int) (i : Nat) : Int := (pC ds es i + ds.getD i 0 + es.getD i 0) % 4294967296
def plusL (ds es : List Int) : List Int := (List.range (max ds.length es.length)).map (pO ds es) ++ [pC ds es (max ds.length es.length)]
theorem pC_b {ds es : List Int} (hd : ∀ d, d ∈ ds → Zau d) (he : ∀ d, d ∈ es → Zau d) : ∀ i, 0 ≤ pC ds es i ∧ pC ds es i ≤ 1
  | 0 => ⟨Int.le_refl 0, Int.zero_le_ofNat 1⟩
  | i + 1 => by
    have h := pC_b hd he i
    have h1 := gd_b hd i
    have h2 := gd_b he i
    show 0 ≤ (pC ds es i + ds.getD i 0 + es.getD i 0) / 4294967296 ∧ (pC ds es i + ds.getD i 0 + es.getD i 0) / 4294967296 ≤ 1
    omega
theorem p_val (ds es : List Int) : ∀ n, val (pO ds es) n + pC ds es n * pw n = val (fun i => ds.getD i 0) n + val (fun i => es.getD i 0) n
  | 0 => by simp [val, pC]
  | n + 1 => by
    have h := p_val ds es n
    have := plus_step (O := val (pO ds es) n) (A := val (fun i => ds.getD i 0) n) (C := val (fun i => es.getD i 0) n) (c := pC ds es n) (x := ds.getD n 0) (y := es.getD n 0) (P := pw n) (s := pC ds es n + ds.getD n 0 + es.getD n 0) h (by omega)
    exact this
theorem vl_snoc (l : List Int) (d : Int) : vl (l ++ [d]) = vl l + d * pw l.length := by
 rw [vl_def, List.length_append, List.length_singleton, val_succ, vl_def]
 congr 1
 ·exact Zd0 fun i hi => by simp [List.getD_eq_getElem?_getD, List.getElem?_append_left hi]
 ·congr 1
  simp
theorem plusL_vl (ds es : List Int) : vl (plusL ds es) = vl ds + vl es := by
 unfold plusL
 rw [vl_snoc, vl_map, List.length_map, List.length_range, p_val, vl_more ds (by omega), vl_more es (by omega)]
theorem plusL_dig {ds es : List Int} (hd : ∀ d, d ∈ ds → Zau d) (he : ∀ d, d ∈ es → Zau d) : ∀ d, d ∈ plusL ds es → Zau d := fun d h => by
 unfold plusL at h
 rcases List.mem_append.1 h with h | h
 ·obtain ⟨i, -, rfl⟩ := List.mem_map.1 h
  unfold pO Zau B
  omega
 ·rw [List.mem_singleton] at h
  subst h
  have := pC_b hd he (max ds.length es.length)
  unfold Zau B
  omega
theorem plusL_len (ds es : List Int) : (plusL ds es).length = max ds.length es.length + 1 := by simp [plusL]
def mB (ds es : List Int) : Nat → Int
 | 0 => 0
 | i + 1 => if ds.getD i 0 < mB ds es i + es.getD i 0 then 1 else 0
def mO (ds es : List Int) (i : Nat) : Int := if ds.getD i 0 < mB ds es i + es.getD i 0 then ds.getD i 0 + 4294967296 - (mB ds es i + es.getD i 0) else ds.getD i 0 - (mB ds es i + es.getD i 0)
def Zg2 (ds es : List Int) : List Int := (List.range ds.length).map (mO ds es)
theorem mB_b (ds es : List Int) : ∀ i, 0 ≤ mB ds es i ∧ mB ds es i ≤ 1
  | 0 => ⟨Int.le_refl 0, Int.zero_le_ofNat 1⟩
  | i + 1 => by
    show 0 ≤ (if ds.getD i 0 < mB ds es i + es.getD i 0 then (1 : Int) else 0) ∧ (if ds.getD i 0 < mB ds es i + es.getD i 0 then (1 : Int) else 0) ≤ 1
    split <;> decide
theorem mO_b {ds es : List Int} (hd : ∀ d, d ∈ ds → Zau d) (he : ∀ d, d ∈ es → Zau d) (i : Nat) : 0 ≤ mO ds es i ∧ mO ds es i < 4294967296 := by
 have h := mB_b ds es i
 have h1 := gd_b hd i
 have h2 := gd_b he i
 unfold mO
 split <;> omega
theorem m_val (ds es : List Int) : ∀ n, val (mO ds es) n - mB ds es n * pw n = val (fun i => ds.getD i 0) n - val (fun i => es.getD i 0) n
  | 0 => by simp [val, mB]
  | n + 1 => by
    have h := m_val ds es n
    rw [val_succ, val_succ, val_succ, pw_succ]
    have hb : mB ds es (n + 1) = if ds.getD n 0 < mB ds es n + es.getD n 0 then 1 else 0 := rfl
    rw [hb]
    have key : mO ds es n * pw n - (if ds.getD n 0 < mB ds es n + es.getD n 0 then (1 : Int) else 0) * (pw n * 4294967296) = ds.getD n 0 * pw n - es.getD n 0 * pw n - mB ds es n * pw n := by
      unfold mO
      split
      · rw [Int.sub_mul, Int.add_mul, Int.add_mul, Int.one_mul, Int.mul_comm (pw n)]; omega
      · rw [Int.sub_mul, Int.add_mul, Int.zero_mul]; omega
    omega
theorem minusL_dig {ds es : List Int} (hd : ∀ d, d ∈ ds → Zau d) (he : ∀ d, d ∈ es → Zau d) : ∀ d, d ∈ Zg2 ds es → Zau d := fun d h => by
 obtain ⟨i, -, rfl⟩ := List.mem_map.1 h
 exact mO_b hd he i
theorem minusL_len (ds es : List Int) : (Zg2 ds es).length = ds.length := by simp [Zg2]
theorem minusL_vl {ds es : List Int} (hd : ∀ d, d ∈ ds → Zau d) (he : ∀ d, d ∈ es → Zau d) (hl : es.length ≤ ds.length) (hv : vl es ≤ vl ds) : vl (Zg2 ds es) = vl ds - vl es := by
 have h := m_val ds es ds.length
 have hD : Digs (mO ds es) ds.length := fun i _ => mO_b hd he i
 have h1 := Zcy hD
 have h2 := Zav hD
 rw [vl_more ds (Nat.le_refl _), vl_more es hl] at h
 unfold Zg2
 rw [vl_map]
 have h3 := mB_b ds es ds.length
 rcases (by omega : mB ds es ds.length = 0 ∨ mB ds es ds.length = 1) with h4 | h4
 ·rw [h4] at h; omega
 ·rw [h4] at h; omega
def bitF : Nat → Nat → Nat
 | 0, _ => 0
 | k + 1, z => if z = 0 then 0 else bitF k (z / 2) + 1
def bit' (z : Nat) : Nat := bitF z z
theorem bitF_spec : ∀ k z, z ≤ k → (z = 0 → bitF k z = 0) ∧ (z ≠ 0 → ∃ b, bitF k z = b + 1 ∧ 2 ^ b ≤ z ∧ z < 2 ^ (b + 1))
  | 0, z, h => ⟨fun _ => rfl, fun h1 => absurd (Nat.le_zero.1 h) h1⟩
  | k + 1, z, h => by
    refine ⟨fun h1 => by simp [bitF, h1], fun h1 => ?_⟩
    have e : bitF (k + 1) z = bitF k (z / 2) + 1 := by simp [bitF, h1]
    obtain ⟨i1, i2⟩ := bitF_spec k (z / 2) (by omega)
    by_cases h2 : z / 2 = 0
    · exact ⟨0, by rw [e, i1 h2], by simp; omega, by simp; omega⟩
    · obtain ⟨b, j1, j2, j3⟩ := i2 h2
      exact ⟨b + 1, by rw [e, j1], by rw [Nat.pow_succ]; omega, by rw [Nat.pow_succ] at j3 ⊢; omega⟩
theorem bit_zero : bit' 0 = 0 := rfl
theorem Zdz {z : Nat} (h : z ≠ 0) : ∃ b, bit' z = b + 1 ∧ 2 ^ b ≤ z ∧ z < 2 ^ (b + 1) := (bitF_spec z z (Nat.le_refl _)).2 h
theorem bit_eq {z b : Nat} (h1 : 2 ^ b ≤ z) (h2 : z < 2 ^ (b + 1)) : bit' z = b + 1 := by
 have h0 : z ≠ 0 := by have := Nat.two_pow_pos b; omega
 obtain ⟨c, h3, h4, h5⟩ := Zdz h0
 have a1 : ¬ b < c := fun h => by have := Nat.pow_le_pow_right (n := 2) (by decide) (show b + 1 ≤ c by omega); omega
 have a2 : ¬ c < b := fun h => by have := Nat.pow_le_pow_right (n := 2) (by decide) (show c + 1 ≤ b by omega); omega
 omega
theorem bit_step {z : Nat} (h : z ≠ 0) : bit' z = bit' (z / 2) + 1 := by
 obtain ⟨b, h1, h2, h3⟩ := Zdz h
 by_cases h4 : z / 2 = 0
 ·have : z = 1 := by omega
  subst this; rfl
 ·obtain ⟨c, k1, k2, k3⟩ := Zdz h4
  rw [k1]
  exact bit_eq (by rw [Nat.pow_succ]; omega) (by rw [Nat.pow_succ]; omega)
end Ab
namespace Ab
open Go Go.RowKit Go.Proofs Hp
set_option maxRecDepth 100000
theorem vl_nil : vl [] = 0 := rfl
theorem drop_step {ds : List Int} {j : Nat} (h : j < ds.length) : ds.drop j = ds[j] :: ds.drop (j + 1) := List.drop_eq_getElem_cons h
theorem u32_get {ds : List Int} {j : Nat} (h : j < ds.length) : (ds.map u32)[((j : Nat) : Int).toNat]? = some (.p (.int .u32 ds[j])) := u32_at (by rw [Int.toNat_natCast]; exact List.getElem?_eq_getElem h)
set_option maxHeartbeats 1000000 in
theorem word_p {ds : List Int} (hd : ∀ d, d ∈ ds → Zau d) (hl : ds.length ≤ 2) : PW Tryz.prog 156 [.sl (ds.map u32)] (.p (.int .u64 (vl ds))) := by
 have hlm : (ds.map u32).length = ds.length := by simp
 refine Zas false Tryz.func156 rfl rfl rfl (Nat.le_of_ble_eq_true rfl) Za4.tmp ?_
 refine r1A ?_
 refine r1A ?_
 refine T.seqI (fun s1 => s1 = mkS [(3, .v (.p (.int .u64 (vl ds))))] [] 21 false) ?_ ?_
 ·refine r1A ?_
  refine T.block ?_
  refine T.loop (fun k s1 => ∃ j : Nat, k = j ∧ j ≤ ds.length ∧ s1 = mkS [(0, .v (.sl (ds.map u32))), (3, .v (.p (.int .u64 (vl (ds.drop j))))), (4, .v (.p (.int .i64 ((j : Int) - 1))))] [] 21 false) ds.length
   (s' := mkS [(0, .v (.sl (ds.map u32))), (3, .v (.p (.int .u64 0))), (4, .v (.p (.int .i64 (((ds.map u32).length : Int) - 1))))] [] 21 false) (by exact entA) ⟨ds.length, rfl, Nat.le_refl _, by simp [vl_nil]⟩ ?_
  rintro j _ ⟨_, rfl, hj, rfl⟩
  by_cases h0 : j = 0
  ·subst h0
   have hb : decide (((0 : Nat) : Int) - 1 ≥ 0) = false := by decide
   refine goA ?_
   exact Zao (s' := mkS [(3, .v (.p (.int .u64 (vl (ds.drop 0)))))] [] 21 false) (by exact entA) rfl
  ·have hb : decide ((j : Int) - 1 ≥ 0) = true := by simp; omega
   obtain ⟨i, rfl⟩ : ∃ i, j = i + 1 := ⟨j - 1, by omega⟩
   have hlt : i < ds.length := by omega
   have hg : (ds.map u32)[(((i + 1 : Nat) : Int) - 1).toNat]? = some (.p (.int .u32 ds[i])) := u32_at (by rw [show (((i + 1 : Nat) : Int) - 1).toNat = i by omega]; exact List.getElem?_eq_getElem hlt)
   have hdi : 0 ≤ ds[i] ∧ ds[i] < 4294967296 := hd _ (List.getElem_mem hlt)
   have hv0 : 0 ≤ vl (ds.drop (i + 1)) := Zef fun d h => hd d (List.mem_of_mem_drop h)
   have hv1 : vl (ds.drop (i + 1)) < 4294967296 := by
    have := vl_lt (ds := ds.drop (i + 1)) fun d h => hd d (List.mem_of_mem_drop h)
    have h2 := Zfc (ds.drop (i + 1)).length 1 (by simp; omega)
    have h3 : pw 1 = 4294967296 := by decide
    omega
   have hs : IntKind.u64.wrap (vl (ds.drop (i + 1)) * 2 ^ (min (32 : Int).toNat IntKind.u64.bits)) = vl (ds.drop (i + 1)) * 4294967296 := by
    rw [show ((2 : Int) ^ (min (32 : Int).toNat IntKind.u64.bits)) = 4294967296 from by decide]
    exact u64w (by omega) (by omega)
   have hs2 : IntKind.u64.wrap (vl (ds.drop (i + 1)) * 4294967296 + ds[i]) = vl (ds.drop i) := by
    rw [u64w (by omega) (by omega), drop_step hlt, vl_cons, B_def]; omega
   refine goA ?_
   refine evG ggA (Zdf (Zaa rfl) rfl rfl (by decide) hs) ?_
   refine goA ?_
   refine evG ggA (Zab (Zaa rfl) (Zac rfl) rfl rfl (by omega) hg rfl) ?_
   refine goA ?_
   refine evG ggA (Zag (Zaa rfl) (Zbh rfl) (Zbh rfl) rfl (u64w hdi.1 (by omega))) ?_
   refine evG ggA (Zbk (Zaa rfl) rfl rfl hs2) ?_
   refine goA ?_
   refine Zad (k := i) (s' := mkS [(0, .v (.sl (ds.map u32))), (3, .v (.p (.int .u64 (vl (ds.drop i))))), (4, .v (.p (.int .i64 (((i + 1 : Nat) : Int) - 1 - 1))))] [] 21 false) (by omega) (by exact entA) ⟨i, rfl, by omega, by rw [show ((i + 1 : Nat) : Int) - 1 - 1 = (i : Int) - 1 by omega]⟩
 rintro _ rfl
 refine goA ?_
 exact rfl
theorem dgs_lt_len {x y : Nat} (h : (dgs x).length < (dgs y).length) : x < y := by
 by_cases h1 : x < y
 ·exact h1
 ·exfalso
  have hx := Zc8 (dgs_dig (n := x))
  have hy := Zc8 (dgs_dig (n := y))
  have := Zdp hy hx (canon_of (dgs_last y)) (by
   show vl (dgs y) ≤ vl (dgs x)
   rw [Zc3, Zc3]; omega)
  omega
theorem Zfi {x y : Nat} (h : x ≤ y) : (dgs x).length ≤ (dgs y).length := by
 by_cases h1 : (dgs y).length < (dgs x).length
 ·have := dgs_lt_len h1; omega
 ·omega
set_option maxHeartbeats 1000000 in
theorem below_p (x y : Nat) (hl : (dgs x).length ≤ 17592186044416) : PW Tryz.prog 172 [.sl ((dgs x).map u32), .sl ((dgs y).map u32)] (.p (.bool (decide (x < y)))) := by
 have vx := Zc3 x
 have vy := Zc3 y
 have hlx : (dgs x).length < (dgs y).length → x < y := dgs_lt_len
 have hly : (dgs y).length < (dgs x).length → y < x := dgs_lt_len
 have hdx := Zc8 (dgs_dig (n := x))
 have hdy := Zc8 (dgs_dig (n := y))
 rw [vl_def] at vx vy
 generalize dgs x = ds at *
 generalize dgs y = es at *
 have hlm : (ds.map u32).length = ds.length := by simp
 by_cases h1 : ds.length = es.length
 ·have hb1 : (((ds.map u32).length : Int) != ((es.map u32).length : Int)) = false := by simp [h1]
  refine Zas false Tryz.func172 rfl rfl rfl (Nat.le_of_ble_eq_true rfl) Za4.tmp ?_
  refine r1A ?_
  refine T.seqI (fun s1 => s1 = mkS [(0, .v (.sl (ds.map u32))), (1, .v (.sl (es.map u32)))] [] 41 false) ?_ ?_
  ·refine goA ?_
   exact Zao (by exact entA) rfl
  rintro _ rfl
  refine T.seqI (fun s1 => decide (x < y) = false ∧ s1 = mkS [] [] 41 false) ?_ ?_
  ·refine r1A ?_
   refine T.block ?_
   refine T.loop (fun k s1 => ∃ j : Nat, k = j ∧ j ≤ ds.length ∧ (∀ i, j ≤ i → i < ds.length → ds.getD i 0 = es.getD i 0) ∧ s1 = mkS [(0, .v (.sl (ds.map u32))), (1, .v (.sl (es.map u32))), (5, .v (.p (.int .i64 ((j : Int) - 1))))] [] 41 false) ds.length
    (s' := mkS [(0, .v (.sl (ds.map u32))), (1, .v (.sl (es.map u32))), (5, .v (.p (.int .i64 (((ds.map u32).length : Int) - 1))))] [] 41 false) (by exact entA) ⟨ds.length, rfl, Nat.le_refl _, fun i h2 h3 => absurd h3 (by omega), by simp⟩ ?_
   rintro j _ ⟨_, rfl, hj, hz, rfl⟩
   by_cases h0 : j = 0
   ·subst h0
    have hb : decide (((0 : Nat) : Int) - 1 ≥ 0) = false := by decide
    have hxy : decide (x < y) = false := by
     have e := Zd0 (f := fun i => ds.getD i 0) (g := fun i => es.getD i 0) (n := ds.length) fun i hi => hz i (by omega) hi
     rw [← h1] at vy
     simp; omega
    refine goA ?_
    exact Zao (s' := mkS [] [] 41 false) (by exact entA) ⟨hxy, rfl⟩
   ·have hb : decide ((j : Int) - 1 ≥ 0) = true := by simp; omega
    obtain ⟨i, rfl⟩ : ∃ i, j = i + 1 := ⟨j - 1, by omega⟩
    have hlt : i < ds.length := by omega
    have hlt2 : i < es.length := by omega
    have hg : (ds.map u32)[(((i + 1 : Nat) : Int) - 1).toNat]? = some (.p (.int .u32 ds[i])) := u32_at (by rw [show (((i + 1 : Nat) : Int) - 1).toNat = i by omega]; exact List.getElem?_eq_getElem hlt)
    have hg2 : (es.map u32)[(((i + 1 : Nat) : Int) - 1).toNat]? = some (.p (.int .u32 es[i])) := u32_at (by rw [show (((i + 1 : Nat) : Int) - 1).toNat = i by omega]; exact List.getElem?_eq_getElem hlt2)
    have gx : ds.getD i 0 = ds[i] := by simp [hlt]
    have gy : es.getD i 0 = es[i] := by simp [hlt2]
    by_cases h2 : ds[i] = es[i]
    ·have hb2 : (ds[i] != es[i]) = false := by simp [h2]
     refine goA ?_
     refine evG ggA (Zab (Zaa rfl) (Zac rfl) rfl rfl (by omega) hg rfl) ?_
     refine goA ?_
     refine evG ggA (Zab (Zaa rfl) (Zac rfl) rfl rfl (by omega) hg2 rfl) ?_
     refine goA ?_
     refine Zad (k := i) (s' := mkS [(0, .v (.sl (ds.map u32))), (1, .v (.sl (es.map u32))), (5, .v (.p (.int .i64 (((i + 1 : Nat) : Int) - 1 - 1))))] [] 41 false) (by omega) (by exact entA) ⟨i, rfl, by omega, fun k h3 h4 => ?_, by rw [show ((i + 1 : Nat) : Int) - 1 - 1 = (i : Int) - 1 by omega]⟩
     by_cases h5 : k = i
     ·rw [h5, gx, gy, h2]
     ·exact hz k (by omega) h4
    ·have hb2 : (ds[i] != es[i]) = true := by simp [h2]
     have hxy : decide (x < y) = decide (ds[i] < es[i]) := by
      rw [decide_eq_decide]
      rw [← h1] at vy hdy
      constructor
      ·intro h
       by_cases h3 : ds[i] < es[i]
       ·exact h3
       ·exfalso
        have := Zft (n := ds.length) (j := i) hdy hdx hlt (fun k h4 h5 => (hz k (by omega) h5).symm) (by show es.getD i 0 < ds.getD i 0; rw [gx, gy]; omega)
        omega
      ·intro h
       have := Zft (n := ds.length) (j := i) hdx hdy hlt (fun k h4 h5 => hz k (by omega) h5) (by show ds.getD i 0 < es.getD i 0; rw [gx, gy]; exact h)
       omega
     rw [hxy]
     refine goA ?_
     refine evG ggA (Zab (Zaa rfl) (Zac rfl) rfl rfl (by omega) hg rfl) ?_
     refine goA ?_
     refine evG ggA (Zab (Zaa rfl) (Zac rfl) rfl rfl (by omega) hg2 rfl) ?_
     refine goA ?_
     refine evG ggA (Zab (Zaa rfl) (Zac rfl) rfl rfl (by omega) hg rfl) ?_
     refine goA ?_
     refine evG ggA (Zab (Zaa rfl) (Zac rfl) rfl rfl (by omega) hg2 rfl) ?_
     refine goA ?_
     exact rfl
  rintro _ ⟨hxy, rfl⟩
  rw [hxy]
  refine goA ?_
  exact rfl
 ·have hb1 : (((ds.map u32).length : Int) != ((es.map u32).length : Int)) = true := by simp; omega
  have e : decide (x < y) = decide (((ds.map u32).length : Int) < ((es.map u32).length : Int)) := by
   rw [decide_eq_decide]
   simp only [List.length_map]
   constructor
   ·intro h
    by_cases h2 : ds.length < es.length
    ·omega
    ·have := hly (by omega); omega
   ·intro h; exact hlx (by omega)
  rw [e]
  refine Zas false Tryz.func172 rfl rfl rfl (Nat.le_of_ble_eq_true rfl) Za4.tmp ?_
  refine goA ?_
  exact rfl
end Ab
namespace Ab
open Go Go.RowKit Go.Proofs Hp
set_option maxRecDepth 100000
theorem shr32 {x : Int} (h : 0 ≤ x) : x.fdiv (2 ^ (min (32 : Int).toNat IntKind.u64.bits)) = x / 4294967296 := by
 rw [show ((2 : Int) ^ (min (32 : Int).toNat IntKind.u64.bits)) = 4294967296 from by decide, Int.fdiv_eq_ediv_of_nonneg _ (by decide)]
theorem range_snoc (f : Nat → Int) (i : Nat) : (List.range (i + 1)).map f = (List.range i).map f ++ [f i] := by simp [List.range_succ]
theorem Zgv {d : Int} : ∀ a, a ∈ [AV.p (.int .u32 d)] → a.cells.length = 1 := fun a ha => by rw [List.mem_singleton] at ha; subst ha; rfl
set_option maxHeartbeats 2000000 in
theorem plus_p {ds es : List Int} (hd : ∀ d, d ∈ ds → Zau d) (he : ∀ d, d ∈ es → Zau d) (hl : ds.length ≤ 17592186044416) (hl2 : es.length ≤ 17592186044416) : PW Tryz.prog 164 [.sl (ds.map u32), .sl (es.map u32)] (.sl ((plusL ds es).map u32)) := by
 obtain ⟨N, hN⟩ : ∃ N, N = max ds.length es.length := ⟨_, rfl⟩
 have hNb : N ≤ 17592186044416 := by omega
 refine Zas false Tryz.func164 rfl rfl rfl (Nat.le_of_ble_eq_true rfl) Za4.tmp ?_
 refine r1A ?_
 refine r1A ?_
 refine r1A ?_
 refine T.seqI (fun s1 => s1 = mkS [(5, .own 100 N), (6, .v (.p (.int .u64 (pC ds es N))))] [(100, .lst 1 95 (((List.range N).map (pO ds es)).map u32))] 56 false) ?_ ?_
 ·refine r1A ?_
  refine T.block ?_
  refine T.loop (fun k s1 => ∃ i : Nat, k = N - i ∧ i ≤ N ∧ s1 = mkS [(0, .v (.sl (ds.map u32))), (1, .v (.sl (es.map u32))), (5, .own 100 i), (6, .v (.p (.int .u64 (pC ds es i)))), (7, .v (.p (.int .i64 (i : Nat))))] [(100, .lst 1 95 (((List.range i).map (pO ds es)).map u32))] 56 false) N
   (s' := mkS [(0, .v (.sl (ds.map u32))), (1, .v (.sl (es.map u32))), (5, .own 100 0), (6, .v (.p (.int .u64 0))), (7, .v (.p (.int .i64 (0 : Nat))))] [(100, .lst 1 95 [])] 56 false) (by exact entA) ⟨0, rfl, Nat.zero_le _, rfl⟩ ?_
  rintro n _ ⟨i, rfl, hi, rfl⟩
  have hc := pC_b hd he i
  have h1 := gd_b hd i
  have h2 := gd_b he i
  by_cases hlt : i < N
  ·refine T.seqI (fun s1 => s1 = mkS [(0, .v (.sl (ds.map u32))), (1, .v (.sl (es.map u32))), (5, .own 100 i), (6, .v (.p (.int .u64 (pC ds es i)))), (7, .v (.p (.int .i64 (i : Nat))))] [(100, .lst 1 95 (((List.range i).map (pO ds es)).map u32))] 56 false) ?_ ?_
   ·by_cases hA : i < ds.length
    ·have hA' : decide ((i : Int) < ((ds.map u32).length : Int)) = true := by simp; omega
     refine goA ?_
     exact Zao (by exact entA) rfl
    ·have hA' : decide ((i : Int) < ((ds.map u32).length : Int)) = false := by simp; omega
     have hB' : decide ((i : Int) < ((es.map u32).length : Int)) = true := by simp; omega
     refine goA ?_
     exact Zao (by exact entA) rfl
   rintro _ rfl
   refine T.seq ?_
   refine T.block ?_
   refine r1A ?_
   refine T.seqI (fun s1 => s1 = mkS [(0, .v (.sl (ds.map u32))), (1, .v (.sl (es.map u32))), (5, .own 100 i), (7, .v (.p (.int .i64 (i : Nat)))), (8, .v (.p (.int .u64 (pC ds es i + ds.getD i 0))))] [(100, .lst 1 95 (((List.range i).map (pO ds es)).map u32))] 56 false) ?_ ?_
   ·by_cases hA : i < ds.length
    ·have hA' : decide ((i : Int) < ((ds.map u32).length : Int)) = true := by simp; omega
     have hg := u32_get hA
     have gx : ds.getD i 0 = ds[i] := by simp [hA]
     rw [gx] at h1 ⊢
     refine goA ?_
     refine evG ggA (Zab (Zaa rfl) (Zac rfl) rfl rfl (by omega) hg rfl) ?_
     refine goA ?_
     refine evG ggA (Zag (Zaa rfl) (Zbh rfl) (Zbh rfl) rfl (u64w h1.1 (by omega))) ?_
     refine evG ggA (Zbk (Zaa rfl) rfl rfl (u64w (by omega) (by omega))) ?_
     refine goA ?_
     exact Zao (by exact entA) rfl
    ·have hA' : decide ((i : Int) < ((ds.map u32).length : Int)) = false := by simp; omega
     have gx : ds.getD i 0 = 0 := by simp [List.getD_eq_getElem?_getD, List.getElem?_eq_none (show ds.length ≤ i by omega)]
     rw [gx, Int.add_zero]
     refine goA ?_
     exact Zao (by exact entA) rfl
   rintro _ rfl
   refine T.seqI (fun s1 => s1 = mkS [(0, .v (.sl (ds.map u32))), (1, .v (.sl (es.map u32))), (5, .own 100 i), (7, .v (.p (.int .i64 (i : Nat)))), (8, .v (.p (.int .u64 (pC ds es i + ds.getD i 0 + es.getD i 0))))] [(100, .lst 1 95 (((List.range i).map (pO ds es)).map u32))] 56 false) ?_ ?_
   ·by_cases hA : i < es.length
    ·have hA' : decide ((i : Int) < ((es.map u32).length : Int)) = true := by simp; omega
     have hg := u32_get hA
     have gx : es.getD i 0 = es[i] := by simp [hA]
     rw [gx] at h2 ⊢
     refine goA ?_
     refine evG ggA (Zab (Zaa rfl) (Zac rfl) rfl rfl (by omega) hg rfl) ?_
     refine goA ?_
     refine evG ggA (Zag (Zaa rfl) (Zbh rfl) (Zbh rfl) rfl (u64w h2.1 (by omega))) ?_
     refine evG ggA (Zbk (Zaa rfl) rfl rfl (u64w (by omega) (by omega))) ?_
     refine goA ?_
     exact Zao (by exact entA) rfl
    ·have hA' : decide ((i : Int) < ((es.map u32).length : Int)) = false := by simp; omega
     have gx : es.getD i 0 = 0 := by simp [List.getD_eq_getElem?_getD, List.getElem?_eq_none (show es.length ≤ i by omega)]
     rw [gx, Int.add_zero]
     refine goA ?_
     exact Zao (by exact entA) rfl
   rintro _ rfl
   have hel : (((List.range i).map (pO ds es)).map u32).length = i := by simp
   have hco : IntKind.u32.wrap (pC ds es i + ds.getD i 0 + es.getD i 0) = pO ds es i := u32m _
   have hsh : (pC ds es i + ds.getD i 0 + es.getD i 0).fdiv (2 ^ (min (32 : Int).toNat IntKind.u64.bits)) = pC ds es (i + 1) := shr32 (by omega)
   have hsn : ((List.range i).map (pO ds es)).map u32 ++ [u32 (pO ds es i)] = ((List.range (i + 1)).map (pO ds es)).map u32 := by rw [range_snoc, List.map_append]; rfl
   refine T.seq ?_
   refine regA ?_
   refine runA ?_
   refine evG ggA (Zag (Zaa rfl) (Zbh rfl) (Zbh rfl) rfl hco) ?_
   refine evG ggA (Zar (Zaa rfl) (Zaf rfl) rfl rfl rfl rfl (Zbo rfl rfl) (Nat.le_of_ble_eq_true rfl)) ?_
   refine evG ggA (Zb5 (Zaa rfl) (Zaf rfl) rfl rfl hel rfl Zgv (by decide) (by simp [maxLen]; omega) (by simp; omega) rfl (fun h => by cases h)) ?_
   refine runA ?_
   refine Zbs ?_
   refine Zbr ?_
   refine regA ?_
   refine runA ?_
   refine evG ggA (Zbx (Zaa rfl) rfl rfl (by decide) hsh) ?_
   refine goA ?_
   refine Zad (k := N - (i + 1)) (s' := mkS [(0, .v (.sl (ds.map u32))), (1, .v (.sl (es.map u32))), (5, .own 100 (i + 1)), (6, .v (.p (.int .u64 (pC ds es (i + 1))))), (7, .v (.p (.int .i64 ((i : Int) + 1))))] [(100, .lst 1 95 (((List.range i).map (pO ds es)).map u32 ++ [u32 (pO ds es i)]))] 56 false) (by omega) (by exact entA) ⟨i + 1, rfl, hlt, by rw [hsn]; rfl⟩
  ·obtain rfl : i = N := by omega
   have hA' : decide ((i : Int) < ((ds.map u32).length : Int)) = false := by simp; omega
   have hB' : decide ((i : Int) < ((es.map u32).length : Int)) = false := by simp; omega
   refine goA ?_
   exact Zao (s' := mkS [(5, .own 100 i), (6, .v (.p (.int .u64 (pC ds es i))))] [(100, .lst 1 95 (((List.range i).map (pO ds es)).map u32))] 56 false) (by exact entA) rfl
 rintro _ rfl
 have hc := pC_b hd he N
 have hel : (((List.range N).map (pO ds es)).map u32).length = N := by simp
 have hfin : (plusL ds es).map u32 = ((List.range N).map (pO ds es)).map u32 ++ [u32 (pC ds es N)] := by unfold plusL; rw [← hN, List.map_append]; rfl
 rw [hfin]
 refine T.seq ?_
 refine regA ?_
 refine runA ?_
 refine evG ggA (Zag (Zaa rfl) (Zbh rfl) (Zbh rfl) rfl (u32w hc.1 (by omega))) ?_
 refine evG ggA (Zar (Zaa rfl) (Zaf rfl) rfl rfl rfl rfl (Zbo rfl rfl) (Nat.le_of_ble_eq_true rfl)) ?_
 refine evG ggA (Zb5 (Zaa rfl) (Zaf rfl) rfl rfl hel rfl Zgv (by decide) (by simp [maxLen]; omega) (by simp; omega) rfl (fun h => by cases h)) ?_
 refine runA ?_
 refine Zbs ?_
 refine Zbr ?_
 have hel2 : (((List.range N).map (pO ds es)).map u32 ++ [u32 (pC ds es N)]).length = N + 1 := by simp
 refine T.weak (s' := mkS [(4, .v (.sl (((List.range N).map (pO ds es)).map u32 ++ [u32 (pC ds es N)])))] [] 56 false) (by exact entA) ?_
 refine goA ?_
 exact rfl
set_option maxHeartbeats 2000000 in
theorem minus_p {ds es : List Int} (hd : ∀ d, d ∈ ds → Zau d) (he : ∀ d, d ∈ es → Zau d) (hl : ds.length ≤ 17592186044416) : PW Tryz.prog 173 [.sl (ds.map u32), .sl (es.map u32)] (.sl ((Zg2 ds es).map u32)) := by
 refine Zas false Tryz.func173 rfl rfl rfl (Nat.le_of_ble_eq_true rfl) Za4.tmp ?_
 refine r1A ?_
 refine r1A ?_
 refine r1A ?_
 refine T.seqI (fun s1 => s1 = mkS [(5, .own 100 ds.length)] [(100, .lst 1 95 (((List.range ds.length).map (mO ds es)).map u32))] 46 false) ?_ ?_
 ·refine r1A ?_
  refine T.block ?_
  refine T.loop (fun k s1 => ∃ i : Nat, k = ds.length - i ∧ i ≤ ds.length ∧ s1 = mkS [(0, .v (.sl (ds.map u32))), (1, .v (.sl (es.map u32))), (5, .own 100 i), (6, .v (.p (.int .u64 (mB ds es i)))), (7, .v (.p (.int .i64 (i : Nat))))] [(100, .lst 1 95 (((List.range i).map (mO ds es)).map u32))] 46 false) ds.length
   (s' := mkS [(0, .v (.sl (ds.map u32))), (1, .v (.sl (es.map u32))), (5, .own 100 0), (6, .v (.p (.int .u64 0))), (7, .v (.p (.int .i64 (0 : Nat))))] [(100, .lst 1 95 [])] 46 false) (by exact entA) ⟨0, rfl, Nat.zero_le _, rfl⟩ ?_
  rintro n _ ⟨i, rfl, hi, rfl⟩
  have hc := mB_b ds es i
  have h1 := gd_b hd i
  have h2 := gd_b he i
  have h3 := mO_b hd he i
  by_cases hlt : i < ds.length
  ·have hA' : decide ((i : Int) < ((ds.map u32).length : Int)) = true := by simp; omega
   have hg := u32_get hlt
   have gx : ds.getD i 0 = ds[i] := by simp [hlt]
   refine T.seqI (fun s1 => s1 = mkS [(0, .v (.sl (ds.map u32))), (1, .v (.sl (es.map u32))), (5, .own 100 i), (6, .v (.p (.int .u64 (mB ds es i)))), (7, .v (.p (.int .i64 (i : Nat))))] [(100, .lst 1 95 (((List.range i).map (mO ds es)).map u32))] 46 false) ?_ ?_
   ·refine goA ?_
    exact Zao (by exact entA) rfl
   rintro _ rfl
   refine T.seq ?_
   refine T.block ?_
   refine r1A ?_
   refine T.seqI (fun s1 => s1 = mkS [(0, .v (.sl (ds.map u32))), (1, .v (.sl (es.map u32))), (5, .own 100 i), (7, .v (.p (.int .i64 (i : Nat)))), (8, .v (.p (.int .u64 (mB ds es i + es.getD i 0))))] [(100, .lst 1 95 (((List.range i).map (mO ds es)).map u32))] 46 false) ?_ ?_
   ·by_cases hA : i < es.length
    ·have hB' : decide ((i : Int) < ((es.map u32).length : Int)) = true := by simp; omega
     have hg := u32_get hA
     have gy : es.getD i 0 = es[i] := by simp [hA]
     rw [gy] at h2 ⊢
     refine goA ?_
     refine evG ggA (Zab (Zaa rfl) (Zac rfl) rfl rfl (by omega) hg rfl) ?_
     refine goA ?_
     refine evG ggA (Zag (Zaa rfl) (Zbh rfl) (Zbh rfl) rfl (u64w h2.1 (by omega))) ?_
     refine evG ggA (Zbk (Zaa rfl) rfl rfl (u64w (by omega) (by omega))) ?_
     refine goA ?_
     exact Zao (by exact entA) rfl
    ·have hB' : decide ((i : Int) < ((es.map u32).length : Int)) = false := by simp; omega
     have gy : es.getD i 0 = 0 := by simp [List.getD_eq_getElem?_getD, List.getElem?_eq_none (show es.length ≤ i by omega)]
     rw [gy, Int.add_zero]
     refine goA ?_
     exact Zao (by exact entA) rfl
   rintro _ rfl
   refine r1A ?_
   refine T.seqI (fun s1 => s1 = mkS [(0, .v (.sl (ds.map u32))), (1, .v (.sl (es.map u32))), (5, .own 100 i), (6, .v (.p (.int .u64 0))), (7, .v (.p (.int .i64 (i : Nat)))), (8, .v (.p (.int .u64 (mB ds es i + es.getD i 0)))), (9, .v (.p (.int .u64 (ds.getD i 0))))] [(100, .lst 1 95 (((List.range i).map (mO ds es)).map u32))] 46 false) ?_ ?_
   ·rw [gx] at h1 ⊢
    refine goA ?_
    refine evG ggA (Zab (Zaa rfl) (Zac rfl) rfl rfl (by omega) hg rfl) ?_
    refine goA ?_
    refine evG ggA (Zag (Zaa rfl) (Zbh rfl) (Zbh rfl) rfl (u64w h1.1 (by omega))) ?_
    refine goA ?_
    exact Zao (by exact entA) rfl
   rintro _ rfl
   refine T.seqI (fun s1 => s1 = mkS [(0, .v (.sl (ds.map u32))), (1, .v (.sl (es.map u32))), (5, .own 100 i), (6, .v (.p (.int .u64 (mB ds es (i + 1))))), (7, .v (.p (.int .i64 (i : Nat)))), (8, .v (.p (.int .u64 (mB ds es i + es.getD i 0)))), (9, .v (.p (.int .u64 (mO ds es i + (mB ds es i + es.getD i 0)))))] [(100, .lst 1 95 (((List.range i).map (mO ds es)).map u32))] 46 false) ?_ ?_
   ·by_cases hlt2 : ds.getD i 0 < mB ds es i + es.getD i 0
    ·have hb : decide (ds.getD i 0 < mB ds es i + es.getD i 0) = true := by simp only [hlt2, decide_true]
     have e1 : mO ds es i + (mB ds es i + es.getD i 0) = ds.getD i 0 + 4294967296 := by unfold mO; rw [if_pos hlt2]; omega
     have e2 : mB ds es (i + 1) = 1 := if_pos hlt2
     rw [e1, e2]
     refine goA ?_
     refine evG ggA (Zbk (Zaa rfl) rfl rfl (u64w (by omega) (by omega))) ?_
     refine goA ?_
     exact Zao (by exact entA) rfl
    ·have hb : decide (ds.getD i 0 < mB ds es i + es.getD i 0) = false := by simp only [hlt2, decide_false]
     have e1 : mO ds es i + (mB ds es i + es.getD i 0) = ds.getD i 0 := by unfold mO; rw [if_neg hlt2]; omega
     have e2 : mB ds es (i + 1) = 0 := if_neg hlt2
     rw [e1, e2]
     refine goA ?_
     exact Zao (by exact entA) rfl
   rintro _ rfl
   have hel : (((List.range i).map (mO ds es)).map u32).length = i := by simp
   have har : IntKind.u64.wrap (mO ds es i + (mB ds es i + es.getD i 0) - (mB ds es i + es.getD i 0)) = mO ds es i := by rw [u64w (by omega) (by omega)]; omega
   have hsn : ((List.range i).map (mO ds es)).map u32 ++ [u32 (mO ds es i)] = ((List.range (i + 1)).map (mO ds es)).map u32 := by rw [range_snoc, List.map_append]; rfl
   refine regA ?_
   refine runA ?_
   refine evG ggA (Zbk (Zaa rfl) rfl rfl har) ?_
   refine evG ggA (Zag (Zaa rfl) (Zbh rfl) (Zbh rfl) rfl (u32w h3.1 h3.2)) ?_
   refine evG ggA (Zar (Zaa rfl) (Zaf rfl) rfl rfl rfl rfl (Zbo rfl rfl) (Nat.le_of_ble_eq_true rfl)) ?_
   refine evG ggA (Zb5 (Zaa rfl) (Zaf rfl) rfl rfl hel rfl Zgv (by decide) (by simp [maxLen]; omega) (by simp; omega) rfl (fun h => by cases h)) ?_
   refine goA ?_
   refine Zad (k := ds.length - (i + 1)) (s' := mkS [(0, .v (.sl (ds.map u32))), (1, .v (.sl (es.map u32))), (5, .own 100 (i + 1)), (6, .v (.p (.int .u64 (mB ds es (i + 1))))), (7, .v (.p (.int .i64 ((i : Int) + 1))))] [(100, .lst 1 95 (((List.range i).map (mO ds es)).map u32 ++ [u32 (mO ds es i)]))] 46 false) (by omega) (by exact entA) ⟨i + 1, rfl, hlt, by rw [hsn]; rfl⟩
  ·obtain rfl : i = ds.length := by omega
   have hA' : decide (((ds.length : Nat) : Int) < ((ds.map u32).length : Int)) = false := by simp
   refine goA ?_
   exact Zao (s' := mkS [(5, .own 100 ds.length)] [(100, .lst 1 95 (((List.range ds.length).map (mO ds es)).map u32))] 46 false) (by exact entA) rfl
 rintro _ rfl
 have hel : (((List.range ds.length).map (mO ds es)).map u32).length = ds.length := by simp
 have hfin : (Zg2 ds es).map u32 = ((List.range ds.length).map (mO ds es)).map u32 := rfl
 rw [hfin]
 refine T.weak (s' := mkS [(5, .v (.sl (((List.range ds.length).map (mO ds es)).map u32)))] [] 46 false) (by exact entA) ?_
 refine goA ?_
 exact rfl
end Ab
namespace Ab
open Go Go.RowKit Go.Proofs Hp
set_option maxRecDepth 100000
theorem split_p (n : Nat) (hn : n < 18446744073709551616) : PW Tryz.prog 158 [.p (.int .u64 n)] (.sl ((dgs n).map u32)) := by
 have hd : ∀ d, d ∈ [((n % 4294967296 : Nat) : Int), ((n / 4294967296 : Nat) : Int)] → Zau d := fun d h => by
  simp only [List.mem_cons, List.not_mem_nil, or_false] at h
  unfold Zau B
  rcases h with rfl | rfl <;> omega
 have c := trim_p hd (Nat.le_of_ble_eq_true rfl)
 have e : nd [((n % 4294967296 : Nat) : Int), ((n / 4294967296 : Nat) : Int)] = dgs n := by
  unfold nd
  congr 1
  rw [vl_cons, vl_cons, vl_nil, B_def]
  omega
 rw [e] at c
 have h1 : IntKind.u32.wrap (n : Int) = ((n % 4294967296 : Nat) : Int) := by rw [u32m]; omega
 have h2 : (n : Int).fdiv (2 ^ (min (32 : Int).toNat IntKind.u64.bits)) = ((n / 4294967296 : Nat) : Int) := by rw [shr32 (by omega)]; omega
 have h3 : IntKind.u32.wrap ((n / 4294967296 : Nat) : Int) = ((n / 4294967296 : Nat) : Int) := u32w (by omega) (by omega)
 refine Zas false Tryz.func158 rfl rfl rfl (Nat.le_of_ble_eq_true rfl) Za4.tmp ?_
 refine goA ?_
 refine evG ggA (Zag (Zaa rfl) (Zbh rfl) (Zbh rfl) rfl h1) ?_
 refine goA ?_
 refine evG ggA (Zbx (Zaa rfl) rfl rfl (by decide) h2) ?_
 refine evG ggA (Zag (Zaa rfl) (Zbh rfl) (Zbh rfl) rfl h3) ?_
 refine evG ggA (Zar (Zaa rfl) (Zaf rfl) rfl rfl rfl rfl (fun x hx => by simp only [List.mem_cons, List.not_mem_nil, or_false] at hx; rcases hx with rfl | rfl <;> exact ⟨rfl, rfl⟩) (Nat.le_of_ble_eq_true rfl)) ?_
 refine evG ggA (Zae (Zaa rfl) rfl rfl c) ?_
 refine goA ?_
 exact rfl
theorem pw_two (q : Nat) : pw q = 2 ^ (32 * q) := by
 induction q with
 | zero => rfl
 | succ q ih => rw [pw_succ, ih, show 32 * (q + 1) = 32 * q + 32 by omega, Int.pow_add]; rfl
theorem two_split (n : Nat) : (2 : Int) ^ n = 2 ^ (n % 32) * pw (n / 32) := by
 rw [pw_two, ← Int.pow_add]
 congr 1
 omega
theorem Zgk (n : Nat) : (0 : Int) < 2 ^ n := Int.pow_pos (by decide)
theorem two_le {m n : Nat} (h : m ≤ n) : (2 : Int) ^ m ≤ 2 ^ n := by
 obtain ⟨k, rfl⟩ := Nat.exists_eq_add_of_le h
 rw [Int.pow_add]
 have h1 := Zgk m
 have h2 := Zgk k
 have := Int.mul_le_mul_of_nonneg_left (show (1 : Int) ≤ 2 ^ k by omega) (show (0 : Int) ≤ 2 ^ m by omega)
 omega
theorem digs_snocR {os : List Int} {x : Int} (h : ∀ d, d ∈ os → Zau d) (hx : Zau x) : ∀ d, d ∈ os ++ [x] → Zau d := fun d hd => by
 rcases List.mem_append.1 hd with hd | hd
 ·exact h d hd
 ·rw [List.mem_singleton] at hd; subst hd; exact hx
theorem digs_rep {n : Nat} : ∀ d, d ∈ List.replicate n (0 : Int) → Zau d := fun d hd => by rw [List.eq_of_mem_replicate hd]; exact dig0
theorem vl_rep (n : Nat) : vl (List.replicate n (0 : Int)) = 0 := by
 induction n with
 | zero => rfl
 | succ n ih => rw [List.replicate_succ, vl_cons, ih]; rfl
set_option maxHeartbeats 2000000 in
theorem shifted_p {ds : List Int} (hd : ∀ d, d ∈ ds → Zau d) (hl : ds.length ≤ 1099511627776) (n : Nat) (hn : n ≤ 35184372088832) : PW Tryz.prog 171 [.sl (ds.map u32), .p (.int .i64 n)] (.sl ((dgs ((vl ds).toNat * 2 ^ n)).map u32)) := by
 have hq : IntKind.i64.wrap ((n : Int).tdiv 32) = ((n / 32 : Nat) : Int) := by rw [Int.tdiv_eq_ediv_of_nonneg (by omega)]; rw [w64 (by omega) (by omega)]; omega
 have hr : (n : Int).tmod 32 = ((n % 32 : Nat) : Int) := by rw [Int.tmod_eq_emod_of_nonneg (by omega)]; omega
 obtain ⟨q, hqd⟩ : ∃ q, q = n / 32 := ⟨_, rfl⟩
 obtain ⟨r, hrd⟩ : ∃ r, r = n % 32 := ⟨_, rfl⟩
 have hsp := two_split n
 rw [← hqd, ← hrd] at hsp
 rw [← hqd] at hq
 rw [← hrd] at hr
 have hr32 : r < 32 := by omega
 have hP0 := Zgk r
 have hP1 : (2 : Int) ^ r ≤ 2147483648 := two_le (n := 31) (by omega)
 obtain ⟨P, hP⟩ : ∃ P : Int, P = 2 ^ r := ⟨_, rfl⟩
 have hqb : q ≤ 1099511627776 := by omega
 rw [← hP] at hsp hP0 hP1
 refine Zas false Tryz.func171 rfl rfl rfl (Nat.le_of_ble_eq_true rfl) Za4.tmp ?_
 refine r1A ?_
 refine T.seq ?_
 refine regA ?_
 refine runA ?_
 refine evG ggA (Zbv (Zaa rfl) rfl rfl (by decide) hq) ?_
 refine evG ggA (ss_make 30 (e0 := u32 0) (Zaa rfl) (Zaf rfl) rfl rfl rfl (by omega) (by omega) (by omega) (by omega) rfl rfl rfl) ?_
 refine runA ?_
 refine Zbs ?_
 refine Zbr ?_
 refine r1A ?_
 refine T.seqI (fun s1 => ∃ (os : List Int) (last : Int), os.length = q + ds.length ∧ (∀ d, d ∈ os → Zau d) ∧ 0 ≤ last ∧ last < P ∧ vl os + last * pw (q + ds.length) = vl ds * P * pw q ∧ s1 = mkS [(5, .own 30 (q + ds.length)), (6, .v (.p (.int .u64 last)))] [(30, .lst 1 95 (os.map u32))] 42 false) ?_ ?_
 ·refine r1A ?_
  refine T.block ?_
  refine T.loop (fun k s1 => ∃ (i : Nat) (os : List Int) (last : Int), k = ds.length - i ∧ i ≤ ds.length ∧ os.length = q + i ∧ (∀ d, d ∈ os → Zau d) ∧ 0 ≤ last ∧ last < P ∧ vl os + last * pw (q + i) = val (fun i => ds.getD i 0) i * P * pw q ∧ s1 = mkS [(0, .v (.sl (ds.map u32))), (1, .v (.p (.int .i64 n))), (5, .own 30 (q + i)), (6, .v (.p (.int .u64 last))), (7, .v (.p (.int .i64 (i : Nat))))] [(30, .lst 1 95 (os.map u32))] 42 false) ds.length
   (s' := mkS [(0, .v (.sl (ds.map u32))), (1, .v (.p (.int .i64 n))), (5, .own 30 q), (6, .v (.p (.int .u64 0))), (7, .v (.p (.int .i64 (0 : Nat))))] [(30, .lst 1 95 (List.replicate q (u32 0)))] 42 false) (by exact entA) ⟨0, List.replicate q 0, 0, rfl, Nat.zero_le _, by simp, digs_rep, Int.le_refl _, hP0, by rw [vl_rep]; simp [val], by rw [List.map_replicate]; rfl⟩ ?_
  rintro _ _ ⟨i, os, last, rfl, hi, hol, hod, hl0, hl1, hv, rfl⟩
  by_cases hlt : i < ds.length
  ·have hA' : decide ((i : Int) < ((ds.map u32).length : Int)) = true := by simp; omega
   have hg := u32_get hlt
   have gx : ds.getD i 0 = ds[i] := by simp [hlt]
   have h1 := gd_b hd i
   rw [gx] at h1
   have hm0 : 0 ≤ ds[i] * P := Int.mul_nonneg h1.1 (by omega)
   have hm1 : ds[i] * P ≤ 4294967295 * P := Int.mul_le_mul_of_nonneg_right (by omega) (by omega)
   have hsl : IntKind.u64.wrap (ds[i] * 2 ^ (min ((r : Int)).toNat IntKind.u64.bits)) = ds[i] * P := by
    rw [show min ((r : Int)).toNat IntKind.u64.bits = r by rw [Int.toNat_natCast]; exact Nat.min_eq_left (by show r ≤ 64; omega), ← hP]
    exact u64w hm0 (by omega)
   obtain ⟨x, hx⟩ : ∃ x, x = ds[i] * P + last := ⟨_, rfl⟩
   have had : IntKind.u64.wrap (ds[i] * P + last) = x := by rw [hx]; exact u64w (by omega) (by omega)
   have hco : IntKind.u32.wrap x = x % 4294967296 := u32m _
   have hsh : x.fdiv (2 ^ (min (32 : Int).toNat IntKind.u64.bits)) = x / 4294967296 := shr32 (by omega)
   have hel : (os.map u32).length = q + i := by simp [hol]
   have hnl : (os ++ [x % 4294967296]).length = q + (i + 1) := by simp [hol]; omega
   have hnv : vl (os ++ [x % 4294967296]) + x / 4294967296 * pw (q + (i + 1)) = val (fun i => ds.getD i 0) (i + 1) * P * pw q := by
    rw [vl_snoc, hol, show q + (i + 1) = q + i + 1 by omega, pw_succ, val_succ]
    show _ = (val (fun i => ds.getD i 0) i + ds.getD i 0 * pw i) * P * pw q
    rw [gx]
    have a1 : x % 4294967296 * pw (q + i) + x / 4294967296 * (pw (q + i) * 4294967296) = x * pw (q + i) := by
     have := Int.mul_ediv_add_emod x 4294967296
     rw [Int.mul_comm (pw (q + i)), ← Int.mul_assoc, ← Int.add_mul]
     congr 1
     omega
    have a2 : x * pw (q + i) = ds[i] * P * pw (q + i) + last * pw (q + i) := by rw [hx, Int.add_mul]
    have a3 : ds[i] * P * pw (q + i) = ds[i] * pw i * P * pw q := by
     rw [pw_add]
     simp only [Int.mul_assoc, Int.mul_comm, Int.mul_left_comm]
    rw [Int.add_mul, Int.add_mul, Int.add_assoc, a1, a2, a3, ← hv]
    omega
   refine T.seqI (fun s1 => s1 = mkS [(0, .v (.sl (ds.map u32))), (1, .v (.p (.int .i64 n))), (5, .own 30 (q + i)), (6, .v (.p (.int .u64 last))), (7, .v (.p (.int .i64 (i : Nat))))] [(30, .lst 1 95 (os.map u32))] 42 false) ?_ ?_
   ·refine goA ?_
    exact Zao (by exact entA) rfl
   rintro _ rfl
   refine T.seq ?_
   refine T.block ?_
   refine T.seq ?_
   refine regA ?_
   refine runA ?_
   refine evG ggA (Zab (Zaa rfl) (Zac rfl) rfl rfl (by omega) hg rfl) ?_
   refine runA ?_
   refine evG ggA (Zag (Zaa rfl) (Zbh rfl) (Zbh rfl) rfl (u64w h1.1 (by omega))) ?_
   refine runA ?_
   refine evG ggA (Zbv (Zaa rfl) rfl rfl (by decide) hr) ?_
   refine evG ggA (Zag (Zaa rfl) (Zbh rfl) und_uint rfl (u64w (by omega) (by omega))) ?_
   refine evG ggA (Zdf (Zaa rfl) rfl rfl (by omega) hsl) ?_
   refine runA ?_
   refine evG ggA (Zbk (Zaa rfl) rfl rfl had) ?_
   refine runA ?_
   refine Zbs ?_
   refine Zbr ?_
   refine T.seq ?_
   refine regA ?_
   refine runA ?_
   refine evG ggA (Zag (Zaa rfl) (Zbh rfl) (Zbh rfl) rfl hco) ?_
   refine evG ggA (Zar (Zaa rfl) (Zaf rfl) rfl rfl rfl rfl (Zbo rfl rfl) (Nat.le_of_ble_eq_true rfl)) ?_
   refine evG ggA (Zb5 (Zaa rfl) (Zaf rfl) rfl rfl hel rfl Zgv (by decide) (by simp [maxLen]; omega) (by simp; omega) rfl (fun h => by cases h)) ?_
   refine runA ?_
   refine Zbs ?_
   refine Zbr ?_
   refine regA ?_
   refine runA ?_
   refine evG ggA (Zbx (Zaa rfl) rfl rfl (by decide) hsh) ?_
   refine goA ?_
   refine Zad (k := ds.length - (i + 1)) (s' := mkS [(0, .v (.sl (ds.map u32))), (1, .v (.p (.int .i64 n))), (5, .own 30 (q + i + 1)), (6, .v (.p (.int .u64 (x / 4294967296)))), (7, .v (.p (.int .i64 ((i : Int) + 1))))] [(30, .lst 1 95 (os.map u32 ++ [u32 (x % 4294967296)]))] 42 false) (by omega) (by exact entA) ⟨i + 1, os ++ [x % 4294967296], x / 4294967296, rfl, hlt, hnl, digs_snocR hod (Zc2 x), by omega, by omega, hnv, by rw [List.map_append]; rfl⟩
  ·obtain rfl : i = ds.length := by omega
   have hA' : decide (((ds.length : Nat) : Int) < ((ds.map u32).length : Int)) = false := by simp
   refine goA ?_
   exact Zao (s' := mkS [(5, .own 30 (q + ds.length)), (6, .v (.p (.int .u64 last)))] [(30, .lst 1 95 (os.map u32))] 42 false) (by exact entA) ⟨os, last, hol, hod, hl0, hl1, hv, rfl⟩
 rintro _ ⟨os, last, hol, hod, hl0, hl1, hv, rfl⟩
 have hel : (os.map u32).length = q + ds.length := by simp [hol]
 have hel2 : (os.map u32 ++ [u32 last]).length = q + ds.length + 1 := by simp [hol]
 have c := trim_p (digs_snocR hod (show Zau last from ⟨hl0, by unfold B; omega⟩)) (by simp [hol]; omega)
 have e : nd (os ++ [last]) = dgs ((vl ds).toNat * 2 ^ n) := by
  unfold nd
  congr 1
  rw [vl_snoc, hol, hv]
  have hv0 := Zef hd
  have : vl ds * P * pw q = (((vl ds).toNat * 2 ^ n : Nat) : Int) := by
   rw [Int.natCast_mul, Int.mul_assoc, ← hsp, Int.toNat_of_nonneg hv0]
   rw [Int.natCast_pow]
   rfl
  rw [this, Int.toNat_natCast]
 rw [e, List.map_append] at c
 refine T.seq ?_
 refine T.regionW 5 ?_
 show EvL _ _ _ (_ :: _) _ _
 refine runA ?_
 refine evG ggA (Zag (Zaa rfl) (Zbh rfl) (Zbh rfl) rfl (u32w hl0 (by omega))) ?_
 refine evG ggA (Zar (Zaa rfl) (Zaf rfl) rfl rfl rfl rfl (Zbo rfl rfl) (Nat.le_of_ble_eq_true rfl)) ?_
 refine evG ggA (Zb5 (Zaa rfl) (Zaf rfl) rfl rfl hel rfl Zgv (by decide) (by simp [maxLen]; omega) (by simp; omega) rfl (fun h => by cases h)) ?_
 refine Zbs ?_
 refine ⟨mkS [(40, .v (.sl (os.map u32 ++ [u32 last])))] [] 42 false, by exact entA, ?_⟩
 show EvL _ _ _ (_ :: _) _ _
 refine evG ggA (Zae (Zaa rfl) rfl rfl c) ?_
 refine goA ?_
 exact rfl
theorem bit_top {ds : List Int} (hd : ∀ d, d ∈ ds → Zau d) {m : Nat} (hm : ds.length = m + 1) (h0 : ds.getD m 0 ≠ 0) : bit' (vl ds).toNat = 32 * m + bit' (ds.getD m 0).toNat := by
  obtain ⟨h1, h2⟩ := gd_b hd m
  obtain ⟨t, ht⟩ : ∃ t : Nat, ds.getD m 0 = t := ⟨(ds.getD m 0).toNat, by omega⟩
  rw [ht] at h0 h2 ⊢
  obtain ⟨b, k1, k2, k3⟩ := Zdz (z := t) (by omega)
  rw [Int.toNat_natCast, k1]
  have hv : vl ds = val (fun i => ds.getD i 0) m + t * pw m := by rw [vl_def, hm, val_succ, ← ht]
  have hD : Digs (fun i => ds.getD i 0) m := fun i _ => gd_dig hd i
  have v0 := Zav hD
  have v1 := Zcy hD
  have p0 := Zdj m
  have e1 : ((2 ^ (32 * m + b) : Nat) : Int) = 2 ^ b * pw m := by rw [pw_two, Int.natCast_pow, ← Int.pow_add, Nat.add_comm b]; rfl
  have e2 : ((2 ^ (32 * m + b + 1) : Nat) : Int) = 2 ^ (b + 1) * pw m := by rw [pw_two, Int.natCast_pow, ← Int.pow_add]; congr 1; omega
  have k2' : (2 : Int) ^ b ≤ t := by have : ((2 ^ b : Nat) : Int) ≤ t := by omega
                                     rw [Int.natCast_pow] at this; exact this
  have k3' : (t : Int) + 1 ≤ 2 ^ (b + 1) := by have : (t : Int) + 1 ≤ ((2 ^ (b + 1) : Nat) : Int) := by omega
                                               rw [Int.natCast_pow] at this; exact this
  have f1 := Int.mul_le_mul_of_nonneg_right k2' (show 0 ≤ pw m by omega)
  have f2 := Int.mul_le_mul_of_nonneg_right k3' (show 0 ≤ pw m by omega)
  rw [Int.add_mul, Int.one_mul] at f2
  rw [← Nat.add_assoc]
  exact bit_eq (by omega) (by omega)
theorem bit_le (z : Nat) : bit' z ≤ z := by
 by_cases h : z = 0
 ·subst h; exact Nat.le_refl _
 ·obtain ⟨b, h1, h2, -⟩ := Zdz h
  have := @Nat.lt_two_pow_self b
  omega
set_option maxHeartbeats 1000000 in
theorem bits_p {a : AV} {k : Nat} {z : Int} (h : IsI a k z) (hk : k ≤ 17592186044416) : PW Tryz.prog 170 [a] (.p (.int .i64 (bit' z.natAbs))) := by
 obtain ⟨cs, rfl, g, ds, rfl, hd, hl, rfl⟩ := h
 have hz : (zof g (vl ds)).natAbs = (vl ds).toNat := by
  have := Zef hd
  unfold zof; split <;> omega
 rw [hz]
 have c := trim_p hd (by omega)
 have hll := nd_len hd
 have hnd : ∀ d, d ∈ nd ds → Zau d := fun d h => dgs_dig d h
 have hlast : Zcr (fun i => (nd ds).getD i 0) (nd ds).length := canon_of (dgs_last _)
 have hvv : vl (nd ds) = ((vl ds).toNat : Int) := Zc3 _
 have hbe : (vl (nd ds)).toNat = (vl ds).toNat := by omega
 rw [← hbe]
 generalize nd ds = es at *
 by_cases h0 : es.length = 0
 ·have hb : (((es.map u32).length : Int) == 0) = true := by simp; exact List.eq_nil_of_length_eq_zero h0
  obtain rfl : es = [] := List.eq_nil_of_length_eq_zero h0
  refine Zas false Tryz.func170 rfl rfl rfl (Nat.le_of_ble_eq_true rfl) Za4.tmp ?_
  refine goA ?_
  refine evG ggA (Zae (Zaa rfl) rfl rfl c) ?_
  refine goA ?_
  exact rfl
 ·have hb : (((es.map u32).length : Int) == 0) = false := by simp; intro e; subst e; exact h0 rfl
  obtain ⟨m, hm⟩ : ∃ m, es.length = m + 1 := ⟨es.length - 1, by omega⟩
  have hlt : m < es.length := by omega
  have gx : es.getD m 0 = es[m] := by simp [hlt]
  have htop : es.getD m 0 ≠ 0 := by
   rcases hlast with h1 | h1
   ·omega
   ·rw [hm] at h1; exact h1
  rw [bit_top hnd hm htop]
  have hx := gd_b hnd m
  obtain ⟨t, ht⟩ : ∃ t : Nat, es.getD m 0 = t := ⟨(es.getD m 0).toNat, by omega⟩
  have hg : (es.map u32)[(((es.map u32).length : Int) - 1).toNat]? = some (.p (.int .u32 t)) := u32_at (by rw [show (((es.map u32).length : Int) - 1).toNat = m by simp [hm], List.getElem?_eq_getElem hlt, ← gx, ht])
  rw [ht, Int.toNat_natCast]
  have htb : t < 4294967296 := by omega
  have hbt := bit_le t
  refine Zas false Tryz.func170 rfl rfl rfl (Nat.le_of_ble_eq_true rfl) Za4.tmp ?_
  refine r1A ?_
  refine T.seq ?_
  refine regA ?_
  refine runA ?_
  refine evG ggA (Zae (Zaa rfl) rfl rfl c) ?_
  refine runA ?_
  refine Zbs ?_
  refine Zbr ?_
  refine T.seqI (fun s1 => s1 = mkS [(3, .v (.sl (es.map u32)))] [] 29 false) ?_ ?_
  ·refine goA ?_
   exact Zao (by exact entA) rfl
  rintro _ rfl
  have hmb : m ≤ 17592186044416 := by omega
  have hlm : ((es.map u32).length : Int) = m + 1 := by simp [hm]
  rw [hlm] at hg
  refine T.seqI (fun s1 => s1 = mkS [(3, .v (.sl (es.map u32))), (4, .v (.p (.int .i64 (32 * m : Nat))))] [] 29 false) ?_ ?_
  ·have hmul : (32 : Int) * (((es.map u32).length : Int) - 1) = ((32 * m : Nat) : Int) := by omega
   refine goA ?_
   exact Zao (s' := mkS [(3, .v (.sl (es.map u32))), (4, .v (.p (.int .i64 (32 * (((es.map u32).length : Int) - 1)))))] [] 29 false) (by exact entA) (by rw [hmul])
  rintro _ rfl
  refine T.seqI (fun s1 => s1 = mkS [(4, .v (.p (.int .i64 ((32 * m + bit' t : Nat) : Int))))] [] 29 false) ?_ ?_
  ·refine T.seq ?_
   refine regA ?_
   refine runA ?_
   refine evG ggA (Zab (Zaa rfl) (Zac rfl) rfl rfl (by omega) (by rw [hlm]; exact hg) rfl) ?_
   refine runA ?_
   refine Zbs ?_
   refine Zbr ?_
   refine T.block ?_
   refine T.loop (fun k s1 => ∃ (x j : Nat), k = x ∧ x < 4294967296 ∧ j + bit' x = 32 * m + bit' t ∧ s1 = mkS [(4, .v (.p (.int .i64 (j : Nat)))), (5, .v (.p (.int .u32 (x : Nat))))] [] 29 false) t
    (s' := mkS [(4, .v (.p (.int .i64 (32 * m : Nat)))), (5, .v (.p (.int .u32 t)))] [] 29 false) (by exact entA) ⟨t, 32 * m, rfl, htb, rfl, rfl⟩ ?_
   rintro x _ ⟨_, j, rfl, hxb, hj, rfl⟩
   by_cases hx0 : x = 0
   ·subst hx0
    have hb : decide (((0 : Nat) : Int) > 0) = false := by decide
    rw [bit_zero, Nat.add_zero] at hj
    subst hj
    refine goA ?_
    exact Zao (s' := mkS [(4, .v (.p (.int .i64 ((32 * m + bit' t : Nat) : Int))))] [] 29 false) (by exact entA) rfl
   ·have hb : decide ((x : Int) > 0) = true := by simp; omega
    have hdv : IntKind.u32.wrap ((x : Int).tdiv 2) = ((x / 2 : Nat) : Int) := by rw [Int.tdiv_eq_ediv_of_nonneg (by omega), u32w (by omega) (by omega)]; omega
    rw [bit_step hx0] at hj
    refine goA ?_
    refine evG ggA (Zbv (Zaa rfl) rfl rfl (by decide) hdv) ?_
    refine goA ?_
    refine Zad (k := x / 2) (s' := mkS [(4, .v (.p (.int .i64 ((j : Int) + 1)))), (5, .v (.p (.int .u32 ((x / 2 : Nat) : Int))))] [] 29 false) (by omega) (by exact entA) ⟨x / 2, j + 1, rfl, by omega, by omega, rfl⟩
  rintro _ rfl
  refine goA ?_
  exact rfl
end Ab
namespace Ab
open Go Go.RowKit Go.Proofs Hp
set_option maxRecDepth 100000
def pad (L n : Nat) : List Int := (List.range L).map fun i => ((n / 4294967296 ^ i % 4294967296 : Nat) : Int)
theorem pw_nat (q : Nat) : pw q = ((4294967296 ^ q : Nat) : Int) := by
 induction q with
 | zero => rfl
 | succ q ih => rw [pw_succ, ih, Nat.pow_succ, Int.natCast_mul]; rfl
theorem pad_dig {L n : Nat} : ∀ d, d ∈ pad L n → Zau d := fun d h => by
 obtain ⟨i, -, rfl⟩ := List.mem_map.1 h
 unfold Zau B
 omega
theorem pad_len (L n : Nat) : (pad L n).length = L := by simp [pad]
theorem pad_vl {L n : Nat} (h : (n : Int) < pw L) : vl (pad L n) = n := by
  unfold pad
  rw [vl_map]
  have key : ∀ L : Nat, val (fun i => ((n / 4294967296 ^ i % 4294967296 : Nat) : Int)) L = ((n % 4294967296 ^ L : Nat) : Int) := by
    intro L
    induction L with
    | zero => simp [val, Nat.mod_one]
    | succ L ih =>
      rw [val_succ, ih, pw_nat, Nat.pow_succ, Nat.mod_mul, ← Int.natCast_mul, ← Int.natCast_add, Nat.mul_comm (4294967296 ^ L)]
  rw [key, Nat.mod_eq_of_lt]
  rw [pw_nat] at h
  omega
theorem pad_of {qs : List Int} {n : Nat} (hd : ∀ d, d ∈ qs → Zau d) (hv : vl qs = n) : qs = pad qs.length n := by
 have hlt : (n : Int) < pw qs.length := by rw [← hv]; exact vl_lt hd
 have e := pad_vl hlt
 apply List.ext_getElem
 ·rw [pad_len]
 ·intro i h1 h2
  have hD2 := Zc8 (pad_dig (L := qs.length) (n := n))
  rw [pad_len] at hD2
  have e2 : val (fun i => qs.getD i 0) qs.length = val (fun i => (pad qs.length n).getD i 0) qs.length := by
   rw [← vl_def, hv, ← e, vl_def, pad_len]
  have := val_inj (Zc8 hd) hD2 e2 i h1
  simpa [h1, h2] using this
def divQ (x y : Nat) : List Int := if (dgs x).length ≤ 2 ∧ (dgs y).length ≤ 2 then dgs (x / y) else if bit' x < bit' y then [] else pad ((bit' x - bit' y) / 32 + 1) (x / y)
theorem bit_len (x : Nat) : bit' x ≤ 32 * (dgs x).length := by
 by_cases h : x = 0
 ·subst h; exact Nat.zero_le _
 ·obtain ⟨b, h1, h2, -⟩ := Zdz h
  have h3 := vl_lt (dgs_dig (n := x))
  rw [Zc3, pw_nat, show (4294967296 : Nat) = 2 ^ 32 from rfl, ← Nat.pow_mul] at h3
  have h4 : 2 ^ b < 2 ^ (32 * (dgs x).length) := by omega
  have := (Nat.pow_lt_pow_iff_right (by decide : 1 < 2)).1 h4
  omega
theorem bit_mono {x y : Nat} (h : x ≤ y) : bit' x ≤ bit' y := by
 by_cases h0 : x = 0
 ·subst h0; exact Nat.zero_le _
 ·obtain ⟨b, h1, h2, -⟩ := Zdz h0
  obtain ⟨c, h3, -, h4⟩ := Zdz (z := y) (by omega)
  have := (Nat.pow_lt_pow_iff_right (by decide : 1 < 2)).1 (show 2 ^ b < 2 ^ (c + 1) by omega)
  omega
theorem bit_lt {x y : Nat} (h : bit' x < bit' y) : x < y := by
 by_cases h1 : x < y
 ·exact h1
 ·have := bit_mono (show y ≤ x by omega); omega
theorem bit_start {x y : Nat} (hy : y ≠ 0) (h : bit' y ≤ bit' x) : x < y * 2 ^ (bit' x - bit' y + 1) := by
 obtain ⟨c, h3, h4, -⟩ := Zdz hy
 by_cases h0 : x = 0
 ·subst h0; exact Nat.mul_pos (by omega) (Nat.two_pow_pos _)
 ·obtain ⟨b, h1, -, h2⟩ := Zdz h0
  have h5 : 2 ^ c * 2 ^ (bit' x - bit' y + 1) ≤ y * 2 ^ (bit' x - bit' y + 1) := Nat.mul_le_mul_right _ h4
  rw [← Nat.pow_add, show c + (bit' x - bit' y + 1) = b + 1 by omega] at h5
  omega
theorem divQ_spec {x y : Nat} (hy : y ≠ 0) : (∀ d, d ∈ divQ x y → Zau d) ∧ vl (divQ x y) = ((x / y : Nat) : Int) ∧ (divQ x y).length ≤ (dgs x).length + 1 := by
 unfold divQ
 have hb := bit_len x
 split
 ·exact ⟨dgs_dig, Zc3 _, Nat.le_succ_of_le (Zfi (Nat.div_le_self x y))⟩
 ·split
  ·rename_i h
   exact ⟨fun d h => by simp at h, by rw [Nat.div_eq_of_lt (bit_lt h)]; rfl, by simp⟩
  ·rename_i h
   have h1 := bit_start hy (show bit' y ≤ bit' x by omega)
   refine ⟨pad_dig, pad_vl ?_, by rw [pad_len]; omega⟩
   rw [pw_two]
   have h2 : x / y < 2 ^ (bit' x - bit' y + 1) := by rw [Nat.div_lt_iff_lt_mul (by omega), Nat.mul_comm]; exact h1
   have h3 : 2 ^ (bit' x - bit' y + 1) ≤ 2 ^ (32 * ((bit' x - bit' y) / 32 + 1)) := Nat.pow_le_pow_right (by decide) (by omega)
   have h4 : ((x / y : Nat) : Int) < ((2 ^ (32 * ((bit' x - bit' y) / 32 + 1)) : Nat) : Int) := by omega
   rw [Int.natCast_pow] at h4
   exact h4
theorem getD_set_eq {qs : List Int} {i : Nat} (h : i < qs.length) (e : Int) : (qs.set i e).getD i 0 = e := by simp [List.getD_eq_getElem?_getD, h]
theorem Zeo {qs : List Int} {i j : Nat} (h : i ≠ j) (e : Int) : (qs.set i e).getD j 0 = qs.getD j 0 := by simp [List.getD_eq_getElem?_getD, List.getElem?_set_ne h]
theorem vl_set {qs : List Int} {i : Nat} (h : i < qs.length) (e : Int) : vl (qs.set i (qs.getD i 0 + e)) = vl qs + e * pw i := by
  rw [vl_def, vl_def, List.length_set]
  have key : ∀ n, val (fun j => (qs.set i (qs.getD i 0 + e)).getD j 0) n = val (fun j => qs.getD j 0) n + if i < n then e * pw i else 0 := by
    intro n
    induction n with
    | zero => simp [val]
    | succ n ih =>
      rw [val_succ, ih, val_succ (fun j => qs.getD j 0)]
      by_cases h1 : i = n
      · subst h1
        rw [getD_set_eq h, if_neg (Nat.lt_irrefl i), if_pos (Nat.lt_succ_self i), Int.add_mul]
        omega
      · rw [Zeo h1]
        by_cases h2 : i < n
        · rw [if_pos h2, if_pos (by omega)]; omega
        · rw [if_neg h2, if_neg (by omega)]; omega
  rw [key, if_pos h]
theorem set_dig {qs : List Int} {i : Nat} {e : Int} (hd : ∀ d, d ∈ qs → Zau d) (he : Zau e) : ∀ d, d ∈ qs.set i e → Zau d := fun d h => by
 rcases List.mem_or_eq_of_mem_set h with h | rfl
 ·exact hd d h
 ·exact he
theorem dig_room {d : Int} {r : Nat} (hr : r < 32) (hd : Zau d) (h : (2 : Int) ^ (r + 1) ∣ d) : 0 ≤ d + 2 ^ r ∧ d + 2 ^ r < 4294967296 := by
 obtain ⟨c, rfl⟩ := h
 have h1 := Zgk r
 have hB : (4294967296 : Int) = 2 ^ (r + 1) * 2 ^ (31 - r) := by rw [← Int.pow_add, show r + 1 + (31 - r) = 32 by omega]; rfl
 have hd2 : 2 ^ (r + 1) * c < 2 ^ (r + 1) * 2 ^ (31 - r) := by rw [← hB]; exact hd.2
 have hc := Int.lt_of_mul_lt_mul_left hd2 (Int.le_of_lt (Zgk _))
 have h2 : (2 : Int) ^ (r + 1) * (c + 1) ≤ 2 ^ (r + 1) * 2 ^ (31 - r) := Int.mul_le_mul_of_nonneg_left (by omega) (Int.le_of_lt (Zgk _))
 rw [← hB, Int.mul_add, Int.mul_one] at h2
 have h3 : (2 : Int) ^ (r + 1) = 2 ^ r * 2 := by rw [Int.pow_succ]
 have := hd.1
 omega
structure DivI (x y L k : Nat) (qs : List Int) (v rv : Nat) : Prop where
 len : qs.length = L
 dig : ∀ d, d ∈ qs → Zau d
 vv : vl qs = (v : Int)
 e : x = y * v + rv
 lt : rv < y * 2 ^ k
 z : ∀ i, i < k / 32 → qs.getD i 0 = 0
 dv : (2 : Int) ^ (k % 32) ∣ qs.getD (k / 32) 0
theorem DivI.low {x y L k : Nat} {qs : List Int} {v rv : Nat} (h : DivI x y L (k + 1) qs v rv) : (∀ i, i < k / 32 → qs.getD i 0 = 0) ∧ (2 : Int) ^ (k % 32 + 1) ∣ qs.getD (k / 32) 0 := by
 refine ⟨fun i hi => h.z i (by omega), ?_⟩
 by_cases h1 : (k + 1) % 32 = 0
 ·rw [h.z (k / 32) (by omega)]; exact Int.dvd_zero _
 ·have := h.dv
  rw [show (k + 1) / 32 = k / 32 by omega, show (k + 1) % 32 = k % 32 + 1 by omega] at this
  exact this
theorem DivI.skip {x y L k : Nat} {qs : List Int} {v rv : Nat} (h : DivI x y L (k + 1) qs v rv) (hlt : rv < y * 2 ^ k) : DivI x y L k qs v rv := by
 obtain ⟨h1, h2⟩ := h.low
 refine ⟨h.len, h.dig, h.vv, h.e, hlt, h1, ?_⟩
 rw [Int.pow_succ] at h2
 exact Int.dvd_trans (Int.dvd_mul_right _ 2) h2
theorem DivI.step {x y L k : Nat} {qs : List Int} {v rv : Nat} (h : DivI x y L (k + 1) qs v rv) (hk : k / 32 < L) (hge : y * 2 ^ k ≤ rv) : DivI x y L k (qs.set (k / 32) (qs.getD (k / 32) 0 + 2 ^ (k % 32))) (v + 2 ^ k) (rv - y * 2 ^ k) := by
 obtain ⟨h1, h2⟩ := h.low
 have hi : k / 32 < qs.length := by rw [h.len]; exact hk
 have hr := dig_room (Nat.mod_lt k (by decide)) (gd_dig h.dig (k / 32)) h2
 have h2p : y * 2 ^ (k + 1) = y * 2 ^ k + y * 2 ^ k := by rw [Nat.pow_succ, ← Nat.mul_assoc]; omega
 have hlt := h.lt
 refine ⟨by rw [List.length_set]; exact h.len, set_dig h.dig ⟨hr.1, by unfold B; exact hr.2⟩, ?_, ?_, by omega, fun i hi => ?_, ?_⟩
 ·rw [vl_set hi, h.vv, ← two_split, Int.natCast_add, Int.natCast_pow]; rfl
 ·rw [Nat.mul_add]; have := h.e; omega
 ·rw [Zeo (by omega)]; exact h1 i hi
 ·rw [getD_set_eq hi]
  rw [Int.pow_succ] at h2
  exact Int.dvd_add (Int.dvd_trans (Int.dvd_mul_right _ 2) h2) (Int.dvd_refl _)
theorem DivI.fin {x y L : Nat} {qs : List Int} {v rv : Nat} (h : DivI x y L 0 qs v rv) : qs = pad L (x / y) ∧ rv = x % y := by
 have hlt := h.lt
 rw [Nat.pow_zero, Nat.mul_one] at hlt
 have e := h.e
 have h1 : x / y = v := by rw [e, Nat.mul_add_div (by omega), Nat.div_eq_of_lt hlt, Nat.add_zero]
 have h2 : x % y = rv := by rw [e, Nat.mul_add_mod, Nat.mod_eq_of_lt hlt]
 rw [h1, h2, ← h.len]
 exact ⟨pad_of h.dig h.vv, rfl⟩
end Ab
namespace Ab
open Go Go.RowKit Go.Proofs Hp
set_option maxRecDepth 100000
theorem isI_dgs (x : Nat) {k : Nat} (h : (dgs x).length ≤ k) : IsI (.agg [.p (.bool false), .sl ((dgs x).map u32)]) k x := ⟨_, rfl, false, dgs x, rfl, dgs_dig, h, by rw [Zc3]; rfl⟩
theorem bits_d (x : Nat) (h : (dgs x).length ≤ 274877906944) : PW Tryz.prog 170 [.agg [.p (.bool false), .sl ((dgs x).map u32)]] (.p (.int .i64 (bit' x))) := by
 have := bits_p (isI_dgs x h) (by decide)
 rw [Int.natAbs_natCast] at this
 exact this
theorem nd_of {ds : List Int} {n : Nat} (h : vl ds = n) : nd ds = dgs n := by unfold nd; rw [h, Int.toNat_natCast]
theorem word_lt {x : Nat} (h : (dgs x).length ≤ 2) : x < 18446744073709551616 := by
 have h1 := vl_lt (dgs_dig (n := x))
 rw [Zc3] at h1
 have h2 := Zfc _ _ h
 have h3 : pw 2 = 18446744073709551616 := by decide
 omega
theorem word_d (x : Nat) (h : (dgs x).length ≤ 2) : PW Tryz.prog 156 [.sl ((dgs x).map u32)] (.p (.int .u64 x)) := by
 have := word_p (dgs_dig (n := x)) h
 rw [Zc3] at this
 exact this
theorem tdiv_nat (x y : Nat) : (x : Int).tdiv (y : Int) = ((x / y : Nat) : Int) := rfl
theorem tmod_nat (x y : Nat) : (x : Int).tmod (y : Int) = ((x % y : Nat) : Int) := rfl
set_option maxHeartbeats 4000000 in
theorem divided_p (x y : Nat) (hy : y ≠ 0) (hlx : (dgs x).length ≤ 274877906944) (hly : (dgs y).length ≤ 274877906944) : PW Tryz.prog 163 [.sl ((dgs x).map u32), .sl ((dgs y).map u32)] (.tup [.sl ((divQ x y).map u32), .sl ((dgs (x % y)).map u32)]) := by
 have elx : ((dgs x).map u32).length = (dgs x).length := by simp
 have ely : ((dgs y).map u32).length = (dgs y).length := by simp
 by_cases hs : (dgs x).length ≤ 2 ∧ (dgs y).length ≤ 2
 ·have hb1 : decide ((((dgs x).map u32).length : Int) ≤ 2) = true := by simp; omega
  have hb2 : decide ((((dgs y).map u32).length : Int) ≤ 2) = true := by simp; omega
  have e : divQ x y = dgs (x / y) := by unfold divQ; rw [if_pos hs]
  rw [e]
  have wx := word_lt hs.1
  have wy := word_lt hs.2
  have c1 := word_d x hs.1
  have c2 := word_d y hs.2
  have hq : x / y ≤ x := Nat.div_le_self x y
  have hm : x % y ≤ x := Nat.mod_le x y
  have c3 := split_p (x / y) (by omega)
  have c4 := split_p (x % y) (by omega)
  have hdq : IntKind.u64.wrap ((x : Int).tdiv (y : Int)) = ((x / y : Nat) : Int) := by rw [tdiv_nat]; exact u64w (Int.natCast_nonneg _) (by omega)
  have hdr := tmod_nat x y
  refine Zb7 false Tryz.func163 rfl rfl rfl (Nat.le_of_ble_eq_true rfl) Za4.tmp Za4.tmp ?_
  refine goA ?_
  refine evG ggA (Zae (Zaa rfl) rfl rfl c1) ?_
  refine goA ?_
  refine evG ggA (Zae (Zaa rfl) rfl rfl c2) ?_
  refine evG ggA (Zbv (Zaa rfl) rfl rfl (by omega) hdq) ?_
  refine evG ggA (Zae (Zaa rfl) rfl rfl c3) ?_
  refine goA ?_
  refine evG ggA (Zae (Zaa rfl) rfl rfl c1) ?_
  refine goA ?_
  refine evG ggA (Zae (Zaa rfl) rfl rfl c2) ?_
  refine evG ggA (Zbv (Zaa rfl) rfl rfl (by omega) hdr) ?_
  refine evG ggA (Zae (Zaa rfl) rfl rfl c4) ?_
  refine goA ?_
  exact rfl
 have hbx := bits_d x hlx
 have hby := bits_d y hly
 have blx := bit_len x
 have bly := bit_len y
 refine Zb7 false Tryz.func163 rfl rfl rfl (Nat.le_of_ble_eq_true rfl) Za4.tmp Za4.tmp ?_
 refine r1A ?_
 refine T.seqI (fun s1 => s1 = mkS [(0, .v (.sl ((dgs x).map u32))), (1, .v (.sl ((dgs y).map u32)))] [] 78 false) ?_ ?_
 ·by_cases h1 : (dgs x).length ≤ 2
  ·have hb1 : decide ((((dgs x).map u32).length : Int) ≤ 2) = true := by simp; omega
   have hb2 : decide ((((dgs y).map u32).length : Int) ≤ 2) = false := by simp; omega
   refine goA ?_
   exact Zao (by exact entA) rfl
  ·have hb1 : decide ((((dgs x).map u32).length : Int) ≤ 2) = false := by simp; omega
   refine goA ?_
   exact Zao (by exact entA) rfl
 rintro _ rfl
 refine r1A ?_
 refine T.seq ?_
 refine regA ?_
 refine runA ?_
 refine evG ggA (Zae (Zaa rfl) rfl rfl hbx) ?_
 refine runA ?_
 refine evG ggA (Zae (Zaa rfl) rfl rfl hby) ?_
 refine runA ?_
 refine Zbs ?_
 refine Zbr ?_
 by_cases hlt : bit' x < bit' y
 ·have hb3 : decide ((bit' x : Int) - (bit' y : Int) < 0) = true := by simp; omega
  have e : divQ x y = [] := by unfold divQ; rw [if_neg hs, if_pos hlt]
  have e2 : x % y = x := Nat.mod_eq_of_lt (bit_lt hlt)
  rw [e, e2]
  refine T.seq ?_
  refine T.seq ?_
  refine regA ?_
  refine runA ?_
  refine Zbs ?_
  refine Zbr ?_
  refine T.condT rfl hb3 ?_
  refine T.seq ?_
  refine regA ?_
  refine runA ?_
  refine Zbs ?_
  refine Zbr ?_
  refine T.weak (s' := mkS [(4, .v (.sl [])), (5, .v (.sl ((dgs x).map u32)))] [] 78 false) (by exact entA) ?_
  refine goA ?_
  exact rfl
 have hb3 : decide ((bit' x : Int) - (bit' y : Int) < 0) = false := by simp; omega
 have e : divQ x y = pad ((bit' x - bit' y) / 32 + 1) (x / y) := by unfold divQ; rw [if_neg hs, if_neg hlt]
 rw [e]
 have hst := bit_start hy (show bit' y ≤ bit' x by omega)
 obtain ⟨S, hS⟩ : ∃ S, S = bit' x - bit' y := ⟨_, rfl⟩
 have hSi : (bit' x : Int) - (bit' y : Int) = (S : Int) := by omega
 rw [← hS] at hst ⊢
 obtain ⟨L, hL⟩ : ∃ L, L = S / 32 + 1 := ⟨_, rfl⟩
 rw [← hL]
 have hSb : S ≤ 8796093022208 := by omega
 have hLb : L ≤ 274877906945 := by omega
 refine T.seqI (fun s1 => s1 = mkS [(1, .v (.sl ((dgs y).map u32))), (6, .v (.sl ((dgs x).map u32))), (7, .v (.p (.int .i64 S)))] [] 78 false) ?_ ?_
 ·refine goA ?_
  rw [hSi]
  exact Zao (by exact entA) rfl
 rintro _ rfl
 have hq : IntKind.i64.wrap ((S : Int).tdiv 32) = ((S / 32 : Nat) : Int) := by
  rw [show (S : Int).tdiv 32 = ((S / 32 : Nat) : Int) from rfl, w64 (by omega) (by omega)]
 refine T.seqI (fun s1 => s1 = mkS [(1, .v (.sl ((dgs y).map u32))), (6, .v (.sl ((dgs x).map u32))), (7, .v (.p (.int .i64 S))), (8, .own 30 L)] [(30, .lst 1 95 ((List.replicate L 0).map u32))] 78 false) ?_ ?_
 ·refine goA ?_
  refine evG ggA (Zbv (Zaa rfl) rfl rfl (by decide) hq) ?_
  refine goA ?_
  refine evG ggA (ss_make 30 (bytes := 4) (e0 := u32 0) (Zaa rfl) (Zaf rfl) rfl rfl rfl (by omega) (by omega) (by omega) (by omega) rfl rfl rfl) ?_
  refine goA ?_
  have e3 : (((S / 32 : Nat) : Int) + 1).toNat = L := by omega
  rw [e3]
  exact Zao (s' := mkS [(1, .v (.sl ((dgs y).map u32))), (6, .v (.sl ((dgs x).map u32))), (7, .v (.p (.int .i64 S))), (8, .own 30 L)] [(30, .lst 1 95 (List.replicate L (u32 0)))] 78 false) (by exact entA) (by rw [List.map_replicate])
 rintro _ rfl
 have hD0 : DivI x y L (S + 1) (List.replicate L 0) 0 x := by
  have z : ∀ i, (List.replicate L (0 : Int)).getD i 0 = 0 := fun i => by
   rw [List.getD_eq_getElem?_getD]
   cases h : (List.replicate L (0 : Int))[i]? with
   | none => rfl
   | some d => exact List.eq_of_mem_replicate (List.mem_of_getElem? h)
  exact ⟨by simp, digs_rep, by rw [vl_rep]; rfl, by omega, hst, fun i _ => z i, by rw [z]; exact Int.dvd_zero _⟩
 refine T.seqI (fun s1 => s1 = mkS [(6, .v (.sl ((dgs (x % y)).map u32))), (8, .own 30 L)] [(30, .lst 1 95 ((pad L (x / y)).map u32))] 78 false) ?_ ?_
 ·refine r1A ?_
  refine T.block ?_
  refine T.loop (fun n s1 => ∃ (k v rv : Nat) (qs : List Int), n = k ∧ k ≤ S + 1 ∧ DivI x y L k qs v rv ∧ s1 = mkS [(1, .v (.sl ((dgs y).map u32))), (6, .v (.sl ((dgs rv).map u32))), (8, .own 30 L), (9, .v (.p (.int .i64 ((k : Int) - 1))))] [(30, .lst 1 95 (qs.map u32))] 78 false) (S + 1)
   (s' := mkS [(1, .v (.sl ((dgs y).map u32))), (6, .v (.sl ((dgs x).map u32))), (8, .own 30 L), (9, .v (.p (.int .i64 S)))] [(30, .lst 1 95 ((List.replicate L 0).map u32))] 78 false) (by exact entA) ⟨S + 1, 0, x, _, rfl, Nat.le_refl _, hD0, by rw [show ((S + 1 : Nat) : Int) - 1 = (S : Int) by omega]⟩ ?_
  clear hbx hby hD0 hst e
  rintro k' _ ⟨_, v, rv, qs, rfl, hk, hD, rfl⟩
  by_cases h0 : k' = 0
  ·subst h0
   have hb : decide (((0 : Nat) : Int) - 1 ≥ 0) = false := by decide
   obtain ⟨f1, f2⟩ := hD.fin
   subst f1 f2
   refine goA ?_
   exact Zao (s' := mkS [(6, .v (.sl ((dgs (x % y)).map u32))), (8, .own 30 L)] [(30, .lst 1 95 ((pad L (x / y)).map u32))] 78 false) (by exact entA) rfl
  ·have hb : decide ((k' : Int) - 1 ≥ 0) = true := by simp; omega
   obtain ⟨k, rfl⟩ : ∃ k, k' = k + 1 := ⟨k' - 1, by omega⟩
   have hkc : ((k + 1 : Nat) : Int) - 1 = (k : Int) := by omega
   rw [hkc] at hb ⊢
   have hkL : k / 32 < L := by omega
   have csh := shifted_p (dgs_dig (n := y)) (by omega) k (by omega)
   rw [Zc3, Int.toNat_natCast] at csh
   have hrx : rv ≤ x := by have := hD.e; omega
   have hlr : (dgs rv).length ≤ (dgs x).length := Zfi hrx
   have cbe := below_p rv (y * 2 ^ k) (by omega)
   by_cases hlt2 : rv < y * 2 ^ k
   ·rw [decide_eq_true hlt2] at cbe
    have hD' := hD.skip hlt2
    refine goA ?_
    refine evG ggA (Zae (Zaa rfl) rfl rfl csh) ?_
    refine goA ?_
    refine evG ggA (Zae (Zaa rfl) rfl rfl cbe) ?_
    refine goA ?_
    exact Zad (k := k) (s' := mkS [(1, .v (.sl ((dgs y).map u32))), (6, .v (.sl ((dgs rv).map u32))), (8, .own 30 L), (9, .v (.p (.int .i64 ((k : Int) - 1))))] [(30, .lst 1 95 (qs.map u32))] 78 false) (by omega) (by exact entA) ⟨k, v, rv, qs, rfl, by omega, hD', rfl⟩
   ·rw [decide_eq_false hlt2] at cbe
    have hge : y * 2 ^ k ≤ rv := by omega
    have hD' := hD.step hkL hge
    obtain ⟨hz, hdv⟩ := hD.low
    have hroom := dig_room (Nat.mod_lt k (by decide)) (gd_dig hD.dig (k / 32)) hdv
    have hiq : k / 32 < qs.length := by rw [hD.len]; exact hkL
    have gq : qs.getD (k / 32) 0 = qs[k / 32] := by simp [hiq]
    have gqd := gd_b hD.dig (k / 32)
    rw [gq] at hD' hroom gqd
    have vr := Zc3 rv
    have vt := Zc3 (y * 2 ^ k)
    have hlt3 : (dgs (y * 2 ^ k)).length ≤ (dgs rv).length := Zfi hge
    have cmi := minus_p (dgs_dig (n := rv)) (dgs_dig (n := y * 2 ^ k)) (by omega)
    have vmi := minusL_vl (dgs_dig (n := rv)) (dgs_dig (n := y * 2 ^ k)) hlt3 (by rw [vr, vt]; omega)
    have cti := trim_p (minusL_dig (dgs_dig (n := rv)) (dgs_dig (n := y * 2 ^ k))) (by rw [minusL_len]; omega)
    rw [nd_of (n := rv - y * 2 ^ k) (by rw [vmi, vr, vt]; omega)] at cti
    have hel : (qs.map u32).length = L := by rw [List.length_map]; exact hD.len
    have hqk : IntKind.i64.wrap ((k : Int).tdiv 32) = ((k / 32 : Nat) : Int) := by
     rw [show (k : Int).tdiv 32 = ((k / 32 : Nat) : Int) from rfl, w64 (by omega) (by omega)]
    have hrk : (k : Int).tmod 32 = ((k % 32 : Nat) : Int) := rfl
    have hP := Zgk (k % 32)
    have hP1 : (2 : Int) ^ (k % 32) ≤ 2147483648 := two_le (n := 31) (by omega)
    have hget : (qs.map u32)[(((k / 32 : Nat) : Int)).toNat]? = some (.p (.int .u32 qs[k / 32])) := u32_get hiq
    have hshl : IntKind.u32.wrap (1 * 2 ^ (min (((k % 32 : Nat) : Int)).toNat IntKind.u32.bits)) = 2 ^ (k % 32) := by
     rw [Int.toNat_natCast, show min (k % 32) IntKind.u32.bits = k % 32 from Nat.min_eq_left (by show k % 32 ≤ 32; omega), Int.one_mul]
     exact u32w (by omega) (by omega)
    have hadd : IntKind.u32.wrap (qs[k / 32] + 2 ^ (k % 32)) = qs[k / 32] + 2 ^ (k % 32) := u32w hroom.1 hroom.2
    refine goA ?_
    refine evG ggA (Zae (Zaa rfl) rfl rfl csh) ?_
    refine goA ?_
    refine evG ggA (Zae (Zaa rfl) rfl rfl cbe) ?_
    refine goA ?_
    refine evG ggA (Zae (Zaa rfl) rfl rfl cmi) ?_
    refine evG ggA (Zae (Zaa rfl) rfl rfl cti) ?_
    refine goA ?_
    refine evG ggA (Zbv (Zaa rfl) rfl rfl (by decide) hqk) ?_
    refine goA ?_
    refine evG ggA (Zbv (Zaa rfl) rfl rfl (by decide) hqk) ?_
    refine evG ggA (Zen (Zaa rfl) (Zac rfl) rfl rfl hel rfl (by omega) (by omega)) ?_
    refine evG ggA (Zgn (Zaa rfl) (Za8 rfl) rfl rfl hel hget rfl) ?_
    refine goA ?_
    refine evG ggA (Zbv (Zaa rfl) rfl rfl (by decide) hrk) ?_
    refine evG ggA (Zag (Zaa rfl) (Zbh rfl) und_uint rfl (u64w (by omega) (by omega))) ?_
    refine evG ggA (Zdf (Zaa rfl) rfl rfl (by omega) hshl) ?_
    refine evG ggA (Zbk (Zaa rfl) rfl rfl hadd) ?_
    refine evG ggA (Zen (Zaa rfl) (Zac rfl) rfl rfl hel rfl (by omega) (by omega)) ?_
    refine evG ggA (ss_store_own rfl (Zcg rfl) rfl rfl hel (by omega) rfl rfl (fun l e => by cases e) rfl) ?_
    refine goA ?_
    refine Zad (k := k) (s' := mkS [(1, .v (.sl ((dgs y).map u32))), (6, .v (.sl ((dgs (rv - y * 2 ^ k)).map u32))), (8, .own 30 L), (9, .v (.p (.int .i64 ((k : Int) - 1))))] [(30, .lst 1 95 ((qs.map u32).set (((k / 32 : Nat) : Int)).toNat (.p (.int .u32 (qs[k / 32] + 2 ^ (k % 32))))))] 78 false) (by omega) (by exact entA) ⟨k, _, _, _, rfl, by omega, hD', by rw [Int.toNat_natCast, List.map_set]; rfl⟩
 rintro _ rfl
 have hel : ((pad L (x / y)).map u32).length = L := by rw [List.length_map, pad_len]
 refine T.weak (s' := mkS [(6, .v (.sl ((dgs (x % y)).map u32))), (8, .v (.sl ((pad L (x / y)).map u32)))] [] 78 false) (by exact entA) ?_
 refine goA ?_
 exact rfl
end Ab
namespace Ab
open Go Go.RowKit Go.Proofs Hp
set_option maxRecDepth 100000
theorem isI_lt {a : AV} {k : Nat} {z : Int} (h : IsI a k z) : z.natAbs < pw k := by
 obtain ⟨cs, rfl, h⟩ := h
 exact isC_lt h
theorem isI_len {a : AV} {k : Nat} {z : Int} (h : IsI a k z) : (dgs z.natAbs).length ≤ k := dgs_len2 (isI_lt h)
theorem encI_nat (n : Nat) : encI (n : Int) = .agg [.p (.bool false), .sl ((dgs n).map u32)] := by
 unfold encI ci
 rw [Int.natAbs_natCast, show decide ((n : Int) < 0) = false by simp]
set_option maxHeartbeats 2000000 in
theorem refadd_p {a b : AV} {k : Nat} {p q : Int} (ha : IsI a k p) (hb : IsI b k q) (hk : k ≤ 8796093022208) : PW Tryz.prog 174 [a, b] (encI (p + q)) := by
 have c1 := Ze9 ha (by omega)
 have c2 := Ze9 hb (by omega)
 have lp := isI_len ha
 have lq := isI_len hb
 obtain ⟨cs, rfl, g, ds, rfl, -⟩ := ha
 obtain ⟨cs, rfl, g', ds', rfl, -⟩ := hb
 have dp := dgs_dig (n := p.natAbs)
 have dq := dgs_dig (n := q.natAbs)
 have vp := Zc3 p.natAbs
 have vq := Zc3 q.natAbs
 unfold encI ci at c1 c2
 by_cases h1 : (p < 0) = (q < 0)
 ·have hb1 : (decide (p < 0) == decide (q < 0)) = true := by simp [h1]
  have c3 := plus_p dp dq (by omega) (by omega)
  have c4 := Zda (g := decide (p < 0)) (plusL_dig dp dq) (Nat.le_refl _) (by rw [plusL_len]; omega)
  have e : zof (decide (p < 0)) (vl (plusL (dgs p.natAbs) (dgs q.natAbs))) = p + q := by
   rw [plusL_vl, vp, vq]
   by_cases h2 : p < 0
   ·have : q < 0 := by rw [← h1]; exact h2
    simp [zof, h2]; omega
   ·have : ¬ q < 0 := by rw [← h1]; exact h2
    simp [zof, h2]; omega
  rw [e] at c4
  unfold encI at c4 ⊢
  clear dp dq vp vq e lp lq
  refine Zas true Tryz.func174 rfl rfl rfl (Nat.le_of_ble_eq_true rfl) (Za4.agg Zce) ?_
  refine goA ?_
  refine evG ggA (Zae (Zaa rfl) rfl rfl c1) ?_
  refine goA ?_
  refine evG ggA (Zae (Zaa rfl) rfl rfl c2) ?_
  refine goA ?_
  refine evG ggA (Zae (Zaa rfl) rfl rfl c3) ?_
  refine evG ggA (Zae (Zaa rfl) rfl rfl c4) ?_
  refine goA ?_
  exact rfl
 ·have hb1 : (decide (p < 0) == decide (q < 0)) = false := by
   rw [beq_eq_false_iff_ne]
   intro e
   rw [decide_eq_decide] at e
   exact h1 (propext e)
  have hor : (p < 0 ∧ ¬ q < 0) ∨ (¬ p < 0 ∧ q < 0) := by
   by_cases h2 : p < 0
   ·by_cases h3 : q < 0
    ·exact absurd (propext ⟨fun _ => h3, fun _ => h2⟩) h1
    ·exact .inl ⟨h2, h3⟩
   ·by_cases h3 : q < 0
    ·exact .inr ⟨h2, h3⟩
    ·exact absurd (propext ⟨fun h => absurd h h2, fun h => absurd h h3⟩) h1
  have cbe := below_p p.natAbs q.natAbs (by omega)
  by_cases h2 : p.natAbs < q.natAbs
  ·rw [decide_eq_true h2] at cbe
   have c3 := minus_p dq dp (by omega)
   have c4 := Zda (g := decide (q < 0)) (minusL_dig dq dp) (Nat.le_refl _) (by rw [minusL_len]; omega)
   have e : zof (decide (q < 0)) (vl (Zg2 (dgs q.natAbs) (dgs p.natAbs))) = p + q := by
    rw [minusL_vl dq dp (Zfi (by omega)) (by rw [vp, vq]; omega), vp, vq]
    rcases hor with ⟨h3, h4⟩ | ⟨h3, h4⟩
    ·simp [zof, h4]; omega
    ·simp [zof, h4]; omega
   rw [e] at c4
   unfold encI at c4 ⊢
   clear dp dq vp vq e lp lq h1 hor
   refine Zas true Tryz.func174 rfl rfl rfl (Nat.le_of_ble_eq_true rfl) (Za4.agg Zce) ?_
   refine goA ?_
   refine evG ggA (Zae (Zaa rfl) rfl rfl c1) ?_
   refine goA ?_
   refine evG ggA (Zae (Zaa rfl) rfl rfl c2) ?_
   refine goA ?_
   refine evG ggA (Zae (Zaa rfl) rfl rfl cbe) ?_
   refine goA ?_
   refine evG ggA (Zae (Zaa rfl) rfl rfl c3) ?_
   refine evG ggA (Zae (Zaa rfl) rfl rfl c4) ?_
   refine goA ?_
   exact rfl
  ·rw [decide_eq_false h2] at cbe
   have c3 := minus_p dp dq (by omega)
   have c4 := Zda (g := decide (p < 0)) (minusL_dig dp dq) (Nat.le_refl _) (by rw [minusL_len]; omega)
   have e : zof (decide (p < 0)) (vl (Zg2 (dgs p.natAbs) (dgs q.natAbs))) = p + q := by
    rw [minusL_vl dp dq (Zfi (by omega)) (by rw [vp, vq]; omega), vp, vq]
    rcases hor with ⟨h3, h4⟩ | ⟨h3, h4⟩
    ·simp [zof, h3]; omega
    ·simp [zof, h3]; omega
   rw [e] at c4
   unfold encI at c4 ⊢
   clear dp dq vp vq e lp lq h1 hor
   refine Zas true Tryz.func174 rfl rfl rfl (Nat.le_of_ble_eq_true rfl) (Za4.agg Zce) ?_
   refine goA ?_
   refine evG ggA (Zae (Zaa rfl) rfl rfl c1) ?_
   refine goA ?_
   refine evG ggA (Zae (Zaa rfl) rfl rfl c2) ?_
   refine goA ?_
   refine evG ggA (Zae (Zaa rfl) rfl rfl cbe) ?_
   refine goA ?_
   refine evG ggA (Zae (Zaa rfl) rfl rfl c3) ?_
   refine evG ggA (Zae (Zaa rfl) rfl rfl c4) ?_
   refine goA ?_
   exact rfl
theorem refsub_p {a b : AV} {k : Nat} {p q : Int} (ha : IsI a k p) (hb : IsI b k q) (hk : k ≤ 8796093022208) : PW Tryz.prog 165 [a, b] (encI (p - q)) := by
 have c1 := refneg_p hb (by omega)
 have hlt := isI_lt hb
 have c2 := refadd_p ha (Zgf (z := -q) (k := k) (by rw [Int.natAbs_neg]; exact hlt)) hk
 rw [← Int.sub_eq_add_neg] at c2
 obtain ⟨cs, rfl, g, ds, rfl, -⟩ := ha
 obtain ⟨cs, rfl, g', ds', rfl, -⟩ := hb
 unfold encI at c1 c2 ⊢
 refine Zas true Tryz.func165 rfl rfl rfl (Nat.le_of_ble_eq_true rfl) (Za4.agg Zce) ?_
 refine goA ?_
 refine evG ggA (Zae (Zaa rfl) rfl rfl c1) ?_
 refine goA ?_
 refine evG ggA (Zae (Zaa rfl) rfl rfl c2) ?_
 refine goA ?_
 exact rfl
theorem euc_pos {a b : Int} (hb : 0 < b) : a / b = (if a < 0 ∧ a.natAbs % b.natAbs ≠ 0 then -((a.natAbs / b.natAbs : Nat) + 1 : Int) else zof (decide (a < 0)) ((a.natAbs / b.natAbs : Nat) : Int)) ∧ a % b = (if a < 0 ∧ a.natAbs % b.natAbs ≠ 0 then (b.natAbs : Int) - ((a.natAbs % b.natAbs : Nat) : Int) else ((a.natAbs % b.natAbs : Nat) : Int)) := by
 obtain ⟨m, rfl⟩ : ∃ m : Nat, b = m := ⟨b.toNat, by omega⟩
 rw [Int.natAbs_natCast]
 have hd := Nat.div_add_mod a.natAbs m
 have hm : a.natAbs % m < m := Nat.mod_lt _ (by omega)
 have hd' : (m : Int) * ((a.natAbs / m : Nat) : Int) + ((a.natAbs % m : Nat) : Int) = (a.natAbs : Int) := by
  rw [← Int.natCast_mul, ← Int.natCast_add, hd]
 generalize a.natAbs / m = Q at *
 generalize a.natAbs % m = R at *
 rw [Int.ediv_emod_unique hb]
 by_cases h1 : a < 0
 ·by_cases h2 : R = 0
  ·subst h2
   rw [if_neg (by simp), if_neg (by simp), decide_eq_true h1]
   show ((0 : Nat) : Int) + m * -(Q : Int) = a ∧ _
   rw [Int.mul_neg]
   omega
  ·rw [if_pos ⟨h1, h2⟩, if_pos ⟨h1, h2⟩]
   rw [Int.mul_neg, Int.mul_add, Int.mul_one]
   omega
 ·rw [if_neg (fun h => h1 h.1), if_neg (fun h => h1 h.1), decide_eq_false h1]
  show (R : Int) + m * (Q : Int) = a ∧ _
  omega
theorem euc1 {a b : Int} (hb : b ≠ 0) (h1 : a < 0) (h2 : a.natAbs % b.natAbs ≠ 0) : zof (!decide (b < 0)) (((a.natAbs / b.natAbs : Nat) : Int) + 1) = a / b ∧ (b.natAbs : Int) - ((a.natAbs % b.natAbs : Nat) : Int) = a % b := by
 by_cases h3 : b < 0
 ·have e := euc_pos (a := a) (b := -b) (by omega)
  rw [Int.ediv_neg, Int.emod_neg, Int.natAbs_neg, if_pos ⟨h1, h2⟩, if_pos ⟨h1, h2⟩] at e
  rw [decide_eq_true h3]
  show ((a.natAbs / b.natAbs : Nat) : Int) + 1 = a / b ∧ _
  omega
 ·have e := euc_pos (a := a) (b := b) (by omega)
  rw [if_pos ⟨h1, h2⟩, if_pos ⟨h1, h2⟩] at e
  rw [decide_eq_false h3]
  show -(((a.natAbs / b.natAbs : Nat) : Int) + 1) = a / b ∧ _
  omega
theorem euc2 {a b : Int} (hb : b ≠ 0) (h : ¬ (a < 0 ∧ a.natAbs % b.natAbs ≠ 0)) : zof (decide (a < 0) != decide (b < 0)) ((a.natAbs / b.natAbs : Nat) : Int) = a / b ∧ ((a.natAbs % b.natAbs : Nat) : Int) = a % b := by
 by_cases h3 : b < 0
 ·have e := euc_pos (a := a) (b := -b) (by omega)
  rw [Int.ediv_neg, Int.emod_neg, Int.natAbs_neg, if_neg h, if_neg h] at e
  rw [decide_eq_true h3, show (decide (a < 0) != true) = !decide (a < 0) by cases decide (a < 0) <;> rfl, zof_not]
  omega
 ·have e := euc_pos (a := a) (b := b) (by omega)
  rw [if_neg h, if_neg h] at e
  rw [decide_eq_false h3, show (decide (a < 0) != false) = decide (a < 0) by cases decide (a < 0) <;> rfl]
  exact ⟨e.1.symm, e.2.symm⟩
set_option maxHeartbeats 4000000 in
theorem euclid_p {a b : AV} {k : Nat} {p q : Int} (ha : IsI a k p) (hb : IsI b k q) (hq : q ≠ 0) (hk : k ≤ 274877906944) : PW Tryz.prog 159 [a, b] (.tup [encI (p / q), encI (p % q)]) := by
 have c1 := Ze9 ha (by omega)
 have c2 := Ze9 hb (by omega)
 have lp := isI_len ha
 have lq := isI_len hb
 have hbt := isI_lt hb
 obtain ⟨cs, rfl, g, ds, rfl, -⟩ := ha
 obtain ⟨cs, rfl, g', ds', rfl, -⟩ := hb
 have c3 := divided_p p.natAbs q.natAbs (by omega) (by omega) (by omega)
 obtain ⟨s1, s2, s3⟩ := divQ_spec (x := p.natAbs) (y := q.natAbs) (by omega)
 have hrm : p.natAbs % q.natAbs < q.natAbs := Nat.mod_lt _ (by omega)
 have lr : (dgs (p.natAbs % q.natAbs)).length ≤ k := Nat.le_trans (Zfi (by omega)) lq
 have c4 := Zda (g := false) (dgs_dig (n := p.natAbs % q.natAbs)) lr (by omega)
 rw [Zc3, show zof false ((p.natAbs % q.natAbs : Nat) : Int) = ((p.natAbs % q.natAbs : Nat) : Int) from rfl, encI_nat] at c4
 have hne := dgs_ne (n := p.natAbs % q.natAbs)
 have hlm : ((((dgs (p.natAbs % q.natAbs)).map u32).length : Nat) : Int) = ((dgs (p.natAbs % q.natAbs)).length : Int) := by simp
 rw [← hlm] at hne
 by_cases h : p < 0 ∧ p.natAbs % q.natAbs ≠ 0
 ·obtain ⟨e1, e2⟩ := euc1 hq h.1 h.2
  have hd1 : ∀ d, d ∈ [(1 : Int)] → Zau d := fun d h => by rw [List.mem_singleton] at h; subst h; exact ⟨by decide, by decide⟩
  have c5 := plus_p s1 hd1 (by omega) (Nat.le_of_ble_eq_true rfl)
  have c6 := Zda (g := !decide (q < 0)) (plusL_dig s1 hd1) (Nat.le_refl _) (by rw [plusL_len]; simp; omega)
  rw [plusL_vl, s2, show vl [(1 : Int)] = 1 from rfl, e1] at c6
  have c7 := refabs_p (Zgf (z := q) hbt) (by omega)
  have c8 := refsub_p (Zgf (z := (q.natAbs : Int)) (k := k) (by rw [Int.natAbs_natCast]; exact hbt)) (isI_dgs (p.natAbs % q.natAbs) lr) (by omega)
  rw [e2] at c8
  have hb1 : decide (p < 0) = true := decide_eq_true h.1
  have hb2 : decide (((((dgs (p.natAbs % q.natAbs)).map u32).length : Nat) : Int) > 0) = true := by rw [hne]; simp; omega
  unfold encI at c1 c2 c6 c7 c8 ⊢
  unfold ci at c1 c2 c7
  rw [hb1] at c1
  clear s1 s2 s3 hrm lr hne hlm e1 e2 hd1 lp lq hbt
  refine Zb7 true Tryz.func159 rfl rfl rfl (Nat.le_of_ble_eq_true rfl) (Za4.agg Zce) (Za4.agg Zce) ?_
  refine goA ?_
  refine evG ggA (Zae (Zaa rfl) rfl rfl c1) ?_
  refine goA ?_
  refine evG ggA (Zae (Zaa rfl) rfl rfl c2) ?_
  refine goA ?_
  refine evG ggA (Zae (Zaa rfl) rfl rfl c3) ?_
  refine goA ?_
  refine evG ggA (Zae (Zaa rfl) rfl rfl c4) ?_
  refine goA ?_
  refine evG ggA (Zar (Zaa rfl) (Zaf rfl) rfl rfl rfl rfl (Zbo rfl rfl) (Nat.le_of_ble_eq_true rfl)) ?_
  refine evG ggA (Zae (Zaa rfl) rfl rfl c5) ?_
  refine evG ggA (Zae (Zaa rfl) rfl rfl c6) ?_
  refine goA ?_
  refine evG ggA (Zae (Zaa rfl) rfl rfl c7) ?_
  refine goA ?_
  refine evG ggA (Zae (Zaa rfl) rfl rfl c8) ?_
  refine goA ?_
  exact rfl
 ·obtain ⟨e1, e2⟩ := euc2 hq h
  have c6 := Zda (g := decide (p < 0) != decide (q < 0)) s1 (Nat.le_refl _) (by omega)
  rw [s2, e1] at c6
  have e3 : encI (p % q) = .agg [.p (.bool false), .sl ((dgs (p.natAbs % q.natAbs)).map u32)] := by rw [← e2, encI_nat]
  rw [e3]
  unfold encI at c1 c2 c6 ⊢
  unfold ci at c1 c2
  by_cases h1 : p < 0
  ·have h2 : p.natAbs % q.natAbs = 0 := by
    by_cases h2 : p.natAbs % q.natAbs = 0
    ·exact h2
    ·exact absurd ⟨h1, h2⟩ h
   have hb1 : decide (p < 0) = true := decide_eq_true h1
   have hb2 : decide (((((dgs (p.natAbs % q.natAbs)).map u32).length : Nat) : Int) > 0) = false := by rw [hne, h2]; rfl
   rw [hb1] at c1 c6
   clear s1 s2 s3 hrm lr hne hlm e1 e2 lp lq hbt h2
   refine Zb7 true Tryz.func159 rfl rfl rfl (Nat.le_of_ble_eq_true rfl) (Za4.agg Zce) (Za4.agg Zce) ?_
   refine goA ?_
   refine evG ggA (Zae (Zaa rfl) rfl rfl c1) ?_
   refine goA ?_
   refine evG ggA (Zae (Zaa rfl) rfl rfl c2) ?_
   refine goA ?_
   refine evG ggA (Zae (Zaa rfl) rfl rfl c3) ?_
   refine goA ?_
   refine evG ggA (Zae (Zaa rfl) rfl rfl c4) ?_
   refine goA ?_
   refine evG ggA (Zae (Zaa rfl) rfl rfl c6) ?_
   refine goA ?_
   exact rfl
  ·have hb1 : decide (p < 0) = false := decide_eq_false h1
   rw [hb1] at c1 c6
   clear s1 s2 s3 hrm lr hne hlm e1 e2 lp lq hbt
   refine Zb7 true Tryz.func159 rfl rfl rfl (Nat.le_of_ble_eq_true rfl) (Za4.agg Zce) (Za4.agg Zce) ?_
   refine goA ?_
   refine evG ggA (Zae (Zaa rfl) rfl rfl c1) ?_
   refine goA ?_
   refine evG ggA (Zae (Zaa rfl) rfl rfl c2) ?_
   refine goA ?_
   refine evG ggA (Zae (Zaa rfl) rfl rfl c3) ?_
   refine goA ?_
   refine evG ggA (Zae (Zaa rfl) rfl rfl c4) ?_
   refine goA ?_
   refine evG ggA (Zae (Zaa rfl) rfl rfl c6) ?_
   refine goA ?_
   exact rfl
end Ab
namespace Ab
open Go Go.RowKit Go.Proofs Hp
set_option maxRecDepth 100000
abbrev varI : Blk := .var [.v (.p (.bool false)), .v (.p nilV)]
abbrev varN (n : Nat) : Blk := .var [.v (.p (.bool false)), .v (.sl ((dgs n).map u32))]
theorem dgs_gt (n : Nat) : decide (((((dgs n).map u32).length : Nat) : Int) > 0) = decide (0 < n) := by rw [List.length_map]; exact dgs_ne
set_option maxHeartbeats 4000000 in
theorem refgcd_p {a b : AV} {k : Nat} {p q : Int} (ha : IsI a k p) (hb : IsI b k q) (hk : k ≤ 274877906944) : PW Tryz.prog 140 [a, b] (encI ((Int.gcd p q : Nat) : Int)) := by
 have c1 := refabs_p ha (by omega)
 have c2 := refabs_p hb (by omega)
 have lp := isI_len ha
 have lq := isI_len hb
 obtain ⟨cs, rfl, g, ds, rfl, -⟩ := ha
 obtain ⟨cs, rfl, g', ds', rfl, -⟩ := hb
 rw [encI_nat] at c1 c2 ⊢
 have hG : Int.gcd p q = Nat.gcd p.natAbs q.natAbs := rfl
 rw [hG]
 clear hG
 generalize p.natAbs = X at *
 generalize q.natAbs = Y at *
 obtain ⟨G, hG⟩ : ∃ G, G = Nat.gcd X Y := ⟨_, rfl⟩
 rw [← hG]
 by_cases hs : (dgs X).length ≤ 2 ∧ (dgs Y).length ≤ 2
 ·have hb1 : decide ((((dgs X).map u32).length : Int) ≤ 2) = true := by simp; omega
  have hb2 : decide ((((dgs Y).map u32).length : Int) ≤ 2) = true := by simp; omega
  have wx := word_lt hs.1
  have wy := word_lt hs.2
  have c3 := word_d X hs.1
  have c4 := word_d Y hs.2
  have hGb : G < 18446744073709551616 := by
   by_cases h0 : X = 0
   ·subst h0; rw [hG, Nat.gcd_zero_left]; exact wy
   ·have := Nat.le_of_dvd (by omega) (Nat.gcd_dvd_left X Y); omega
  have c5 := split_p G hGb
  have c6 := Zda (g := false) (dgs_dig (n := G)) (Nat.le_refl _) (show (dgs G).length ≤ 17592186044416 from by
   have : (dgs G).length ≤ 2 := dgs_len2 (by rw [show pw 2 = 18446744073709551616 from by decide]; omega)
   omega)
  rw [Zc3, show zof false ((G : Nat) : Int) = (G : Int) from rfl, encI_nat] at c6
  refine Zas false Tryz.func140 rfl rfl rfl (Nat.le_of_ble_eq_true rfl) (Za4.agg Zce) ?_
  refine goA ?_
  refine evG ggA (Zae (Zaa rfl) rfl rfl c1) ?_
  refine goA ?_
  refine evG ggA (Zae (Zaa rfl) rfl rfl c2) ?_
  refine goA ?_
  refine evG ggA (Zae (Zaa rfl) rfl rfl c3) ?_
  refine goA ?_
  refine evG ggA (Zae (Zaa rfl) rfl rfl c4) ?_
  refine runA ?_
  refine Zbs ?_
  refine Zbr ?_
  refine T.seqI (fun s1 => s1 = mkS [(4, .ptr 4 0), (7, .v (.p (.int .u64 G)))] [(4, varI)] 53 false) ?_ ?_
  ·refine T.block ?_
   refine T.loop (fun z s1 => ∃ m n : Nat, z = n ∧ Nat.gcd m n = G ∧ m < 18446744073709551616 ∧ n < 18446744073709551616 ∧ s1 = mkS [(4, .ptr 4 0), (7, .v (.p (.int .u64 m))), (8, .v (.p (.int .u64 n)))] [(4, varI)] 53 false) Y
    (s' := mkS [(4, .ptr 4 0), (7, .v (.p (.int .u64 X))), (8, .v (.p (.int .u64 Y)))] [(4, varI)] 53 false) (by exact entA) ⟨X, Y, rfl, hG.symm, wx, wy, rfl⟩ ?_
   clear c1 c2 c3 c4 c5 c6
   rintro n _ ⟨m, _, rfl, hg, hm, hn, rfl⟩
   by_cases h0 : n = 0
   ·subst h0
    have hb : decide (((0 : Nat) : Int) > 0) = false := by decide
    rw [Nat.gcd_zero_right] at hg
    subst hg
    refine goA ?_
    exact Zao (s' := mkS [(4, .ptr 4 0), (7, .v (.p (.int .u64 m)))] [(4, varI)] 53 false) (by exact entA) rfl
   ·have hb : decide ((n : Int) > 0) = true := by simp; omega
    have hdr := tmod_nat m n
    have hlt : m % n < n := Nat.mod_lt _ (by omega)
    refine goA ?_
    refine evG ggA (Zbv (Zaa rfl) rfl rfl (by omega) hdr) ?_
    refine goA ?_
    exact Zad (k := m % n) (s' := mkS [(4, .ptr 4 0), (7, .v (.p (.int .u64 n))), (8, .v (.p (.int .u64 ((m % n : Nat) : Int))))] [(4, varI)] 53 false) hlt (by exact entA) ⟨n, m % n, rfl, by rw [Nat.gcd_comm n (m % n), ← Nat.gcd_rec, Nat.gcd_comm n m]; exact hg, hn, by omega, rfl⟩
  rintro _ rfl
  refine goA ?_
  refine evG ggA (Zae (Zaa rfl) rfl rfl c5) ?_
  refine evG ggA (Zae (Zaa rfl) rfl rfl c6) ?_
  refine goA ?_
  exact rfl
 refine Zas false Tryz.func140 rfl rfl rfl (Nat.le_of_ble_eq_true rfl) (Za4.agg Zce) ?_
 refine r1A ?_
 refine T.seq ?_
 refine regA ?_
 refine runA ?_
 refine evG ggA (Zae (Zaa rfl) rfl rfl c1) ?_
 refine runA ?_
 refine evG ggA (Zae (Zaa rfl) rfl rfl c2) ?_
 refine runA ?_
 refine Zbs ?_
 refine Zbr ?_
 refine T.seqI (fun s1 => s1 = mkS [(4, .ptr 4 0), (5, .ptr 5 0), (6, .ptr 6 0)] [(4, varI), (5, varN X), (6, varN Y)] 53 false) ?_ ?_
 ·by_cases h1 : (dgs X).length ≤ 2
  ·have hb1 : decide ((((dgs X).map u32).length : Int) ≤ 2) = true := by simp; omega
   have hb2 : decide ((((dgs Y).map u32).length : Int) ≤ 2) = false := by simp; omega
   refine goA ?_
   exact Zao (by exact entA) rfl
  ·have hb1 : decide ((((dgs X).map u32).length : Int) ≤ 2) = false := by simp; omega
   refine goA ?_
   exact Zao (by exact entA) rfl
 rintro _ rfl
 clear c1 c2
 refine T.seqI (fun s1 => s1 = mkS [(4, .ptr 4 0), (5, .ptr 5 0)] [(4, varI), (5, varN G)] 53 false) ?_ ?_
 ·refine T.block ?_
  refine T.loop (fun z s1 => ∃ m n : Nat, z = n ∧ Nat.gcd m n = G ∧ (dgs m).length ≤ k ∧ (dgs n).length ≤ k ∧ s1 = mkS [(4, .ptr 4 0), (5, .ptr 5 0), (6, .ptr 6 0)] [(4, varI), (5, varN m), (6, varN n)] 53 false) Y
   (s' := mkS [(4, .ptr 4 0), (5, .ptr 5 0), (6, .ptr 6 0)] [(4, varI), (5, varN X), (6, varN Y)] 53 false) (by exact entA) ⟨X, Y, rfl, hG.symm, lp, lq, rfl⟩ ?_
  rintro n _ ⟨m, _, rfl, hg, hm, hn, rfl⟩
  have hgt := dgs_gt n
  by_cases h0 : n = 0
  ·subst h0
   have hb : decide (((((dgs 0).map u32).length : Nat) : Int) > 0) = false := by rw [hgt]; rfl
   rw [Nat.gcd_zero_right] at hg
   subst hg
   refine goA ?_
   exact Zao (s' := mkS [(4, .ptr 4 0), (5, .ptr 5 0)] [(4, varI), (5, varN m)] 53 false) (by exact entA) rfl
  ·have hb : decide (((((dgs n).map u32).length : Nat) : Int) > 0) = true := by rw [hgt]; simp; omega
   have hlt : m % n < n := Nat.mod_lt _ (by omega)
   have ce := euclid_p (isI_dgs m hm) (isI_dgs n hn) (by omega) hk
   rw [show (m : Int) % (n : Int) = ((m % n : Nat) : Int) from rfl, show (m : Int) / (n : Int) = ((m / n : Nat) : Int) from rfl, encI_nat, encI_nat] at ce
   refine goA ?_
   refine evG ggA (Zae (Zaa rfl) rfl rfl ce) ?_
   refine goA ?_
   exact Zad (k := m % n) (s' := mkS [(4, .ptr 4 0), (5, .ptr 5 0), (6, .ptr 6 0)] [(4, varI), (5, varN n), (6, varN (m % n))] 53 false) hlt (by exact entA) ⟨n, m % n, rfl, by rw [Nat.gcd_comm n (m % n), ← Nat.gcd_rec, Nat.gcd_comm n m]; exact hg, hn, Nat.le_trans (Zfi (by omega)) hn, rfl⟩
 rintro _ rfl
 refine goA ?_
 exact rfl
end Ab
namespace Ab
open Go Go.RowKit Go.Proofs Hp
set_option maxRecDepth 100000
theorem vl_put {os : List Int} {i : Nat} (h : i < os.length) (e : Int) : vl (os.set i e) = vl os + (e - os.getD i 0) * pw i := by
 have := vl_set h (e - os.getD i 0)
 rw [show os.getD i 0 + (e - os.getD i 0) = e by omega] at this
 exact this
structure MulI (xs ys : List Int) (n m i k : Nat) (os : List Int) (c : Int) : Prop where
 len : os.length = n + m
 dig : ∀ d, d ∈ os → Zau d
 c0 : 0 ≤ c
 c1 : c < 4294967296
 v : vl os + c * pw (i + k) = val (fun j => xs.getD j 0) i * vl ys + xs.getD i 0 * pw i * val (fun j => ys.getD j 0) k
 z : ∀ j, i + m ≤ j → os.getD j 0 = 0
theorem sq_b {a b : Int} (ha : 0 ≤ a ∧ a < 4294967296) (hb : 0 ≤ b ∧ b < 4294967296) : 0 ≤ a * b ∧ a * b ≤ 18446744065119617025 := by
 have h1 : 0 ≤ a * b := Int.mul_nonneg ha.1 hb.1
 have h2 : a * b ≤ 4294967295 * b := Int.mul_le_mul_of_nonneg_right (by omega) hb.1
 omega
theorem MulI.s_b {xs ys : List Int} {n m i k : Nat} {os : List Int} {c : Int} (h : MulI xs ys n m i k os c) (hx : ∀ d, d ∈ xs → Zau d) (hy : ∀ d, d ∈ ys → Zau d) : 0 ≤ xs.getD i 0 * ys.getD k 0 ∧ xs.getD i 0 * ys.getD k 0 ≤ 18446744065119617025 ∧ 0 ≤ os.getD (i + k) 0 ∧ os.getD (i + k) 0 < 4294967296 := by
 have h1 := sq_b (gd_b hx i) (gd_b hy k)
 have h2 := gd_b h.dig (i + k)
 exact ⟨h1.1, h1.2, h2.1, h2.2⟩
theorem MulI.step {xs ys : List Int} {n m i k : Nat} {os : List Int} {c : Int} (h : MulI xs ys n m i k os c) (hx : ∀ d, d ∈ xs → Zau d) (hy : ∀ d, d ∈ ys → Zau d) (hi : i < n) (hk : k < m) {s : Int} (hs : s = xs.getD i 0 * ys.getD k 0 + os.getD (i + k) 0 + c) : MulI xs ys n m i (k + 1) (os.set (i + k) (s % 4294967296)) (s / 4294967296) := by
 obtain ⟨b1, b2, b3, b4⟩ := h.s_b hx hy
 have c0 := h.c0
 have c1 := h.c1
 have hlt : i + k < os.length := by rw [h.len]; omega
 refine ⟨by rw [List.length_set]; exact h.len, set_dig h.dig (Zc2 s), by omega, by omega, ?_, fun j hj => ?_⟩
 ·rw [vl_put hlt, ← Nat.add_assoc, pw_succ, val_succ]
  have hv := h.v
  have e1 : s % 4294967296 * pw (i + k) + s / 4294967296 * (pw (i + k) * 4294967296) = s * pw (i + k) := by
   have := Int.mul_ediv_add_emod s 4294967296
   rw [Int.mul_comm (pw (i + k)), ← Int.mul_assoc, ← Int.add_mul]
   congr 1
   omega
  have e2 : s * pw (i + k) = xs.getD i 0 * ys.getD k 0 * pw (i + k) + os.getD (i + k) 0 * pw (i + k) + c * pw (i + k) := by rw [hs, Int.add_mul, Int.add_mul]
  have e3 : xs.getD i 0 * ys.getD k 0 * pw (i + k) = xs.getD i 0 * pw i * (ys.getD k 0 * pw k) := by
   rw [pw_add]
   simp only [Int.mul_assoc, Int.mul_comm, Int.mul_left_comm]
  rw [Int.sub_mul, Int.mul_add]
  omega
 ·rw [Zeo (by omega)]; exact h.z j hj
theorem MulI.out {xs ys : List Int} {n m i : Nat} {os : List Int} {c : Int} (h : MulI xs ys n m i m os c) (hm : ys.length = m) (hi : i < n) : MulI xs ys n m (i + 1) 0 (os.set (i + m) c) 0 := by
 have hlt : i + m < os.length := by rw [h.len]; omega
 refine ⟨by rw [List.length_set]; exact h.len, set_dig h.dig ⟨h.c0, by unfold B; exact h.c1⟩, Int.le_refl _, by decide, ?_, fun j hj => ?_⟩
 ·rw [vl_put hlt, h.z (i + m) (Nat.le_refl _), Int.sub_zero, h.v, val_succ]
  have : val (fun j => ys.getD j 0) m = vl ys := by rw [vl_def, hm]
  rw [this, show val (fun j => ys.getD j 0) 0 = 0 from rfl, Int.add_mul]
  simp
 ·rw [Zeo (by omega)]; exact h.z j (by omega)
end Ab
namespace Ab
open Go Go.RowKit Go.Proofs Hp
set_option maxRecDepth 100000
section
variable {dm : Bool} {P : Program} {ops : Array Oper} {s : AS} {dst : Option Tmp} {ty : TypeId} {pos : String} {after : Array Edge} {g : Option (Nat × Bool)}
end
set_option maxHeartbeats 1000000 in
theorem refsame_p (r q : Bool × List Int) (hr : r.2.length ≤ 4611686018427387904) : PW Tryz.prog 142 [rawI r, rawI q] (.p (.bool (decide (r = q)))) := by
 obtain ⟨g, ds⟩ := r
 obtain ⟨g', es⟩ := q
 have hr : ds.length ≤ 4611686018427387904 := hr
 by_cases h1 : g = g'
 ·subst h1
  have hb1 : (!(g == g)) = false := by simp
  by_cases h2 : ds.length = es.length
  ·have hb2 : (((ds.map u32).length : Int) != ((es.map u32).length : Int)) = false := by simp [h2]
   refine Zas false Tryz.func142 rfl rfl rfl (Nat.le_of_ble_eq_true rfl) Za4.tmp ?_
   refine r1A ?_
   refine T.seqI (fun s1 => s1 = mkS [(2, .ptr 2 0), (3, .ptr 3 0)] [(2, .var [.v (.p (.bool g)), .v (.sl (ds.map u32))]), (3, .var [.v (.p (.bool g)), .v (.sl (es.map u32))])] 38 false) ?_ ?_
   ·refine goA ?_
    exact Zao (by exact entA) rfl
   rintro _ rfl
   refine T.seqI (fun s1 => ds = es ∧ s1 = mkS [] [] 38 false) ?_ ?_
   ·refine r1A ?_
    refine T.block ?_
    refine T.loop (fun n s1 => ∃ k : Nat, n = ds.length - k ∧ k ≤ ds.length ∧ (∀ i, i < k → ds[i]? = es[i]?) ∧ s1 = mkS [(5, .v (.p (.int .i64 k))), (2, .ptr 2 0), (3, .ptr 3 0)] [(2, .var [.v (.p (.bool g)), .v (.sl (ds.map u32))]), (3, .var [.v (.p (.bool g)), .v (.sl (es.map u32))])] 38 false) ds.length
     (s' := mkS [(5, .v (.p (.int .i64 (0 : Nat)))), (2, .ptr 2 0), (3, .ptr 3 0)] [(2, .var [.v (.p (.bool g)), .v (.sl (ds.map u32))]), (3, .var [.v (.p (.bool g)), .v (.sl (es.map u32))])] 38 false) (by exact entA) ⟨0, rfl, Nat.zero_le _, fun i hi => absurd hi (Nat.not_lt_zero _), rfl⟩ ?_
    rintro n _ ⟨k, rfl, hk, hz, rfl⟩
    by_cases hlt : k < ds.length
    ·have hb : decide ((k : Int) < ((ds.map u32).length : Int)) = true := by simp; omega
     have e1 : ds[k]? = some ds[k] := List.getElem?_eq_getElem hlt
     have e2 : es[k]? = some es[k] := List.getElem?_eq_getElem (by omega)
     have e3 := u32_at e1
     have e4 := u32_at e2
     refine goA ?_
     refine evG ggA (Zab (Zaa rfl) (Zac rfl) rfl rfl (by omega) e3 rfl) ?_
     refine goA ?_
     refine evG ggA (Zab (Zaa rfl) (Zac rfl) rfl rfl (by omega) e4 rfl) ?_
     by_cases hd : ds[k] = es[k]
     ·have hb3 : (ds[k] != es[k]) = false := by simp [hd]
      refine goA ?_
      refine Zad (k := ds.length - (k + 1)) (s' := mkS [(5, .v (.p (.int .i64 ((k : Int) + 1)))), (2, .ptr 2 0), (3, .ptr 3 0)] [(2, .var [.v (.p (.bool g)), .v (.sl (ds.map u32))]), (3, .var [.v (.p (.bool g)), .v (.sl (es.map u32))])] 38 false) (by omega) (by exact entA) ⟨k + 1, rfl, hlt, fun i hi => ?_, by simp⟩
      by_cases hik : i = k
      ·subst hik; rw [e1, e2, hd]
      ·exact hz i (by omega)
     ·have hb3 : (ds[k] != es[k]) = true := by simp [hd]
      have hne : decide ((g, ds) = (g, es)) = false := by
       simp only [Prod.mk.injEq, true_and, decide_eq_false_iff_not]
       intro e; subst e; exact hd rfl
      rw [hne]
      refine goA ?_
      exact rfl
    ·have hb : decide ((k : Int) < ((ds.map u32).length : Int)) = false := by simp; omega
     have hde : ds = es := by
      apply List.ext_getElem?
      intro i
      by_cases hi : i < k
      ·exact hz i hi
      ·rw [List.getElem?_eq_none (by omega), List.getElem?_eq_none (by omega)]
     refine goA ?_
     exact Zao (s' := mkS [] [] 38 false) (by exact entA) ⟨hde, rfl⟩
   rintro _ ⟨rfl, rfl⟩
   have hne : decide ((g, ds) = (g, ds)) = true := by simp
   rw [hne]
   refine goA ?_
   exact rfl
  ·have hb2 : (((ds.map u32).length : Int) != ((es.map u32).length : Int)) = true := by simp; omega
   have hne : decide ((g, ds) = (g, es)) = false := by
    simp only [Prod.mk.injEq, true_and, decide_eq_false_iff_not]
    intro e; subst e; exact h2 rfl
   rw [hne]
   refine Zas false Tryz.func142 rfl rfl rfl (Nat.le_of_ble_eq_true rfl) Za4.tmp ?_
   refine goA ?_
   exact rfl
 ·have hb1 : (!(g == g')) = true := by simp [h1]
  have hne : decide ((g, ds) = (g', es)) = false := by
   simp only [Prod.mk.injEq, decide_eq_false_iff_not]
   exact fun e => h1 e.1
  rw [hne]
  refine Zas false Tryz.func142 rfl rfl rfl (Nat.le_of_ble_eq_true rfl) Za4.tmp ?_
  refine goA ?_
  exact rfl
theorem refof_p (x : Int) (h0 : -9223372036854775808 ≤ x) (h1 : x ≤ 9223372036854775807) : PW Tryz.prog 143 [.p (.int .i64 x)] (encI x) := by
 have hd : ∀ d, d ∈ [((x.natAbs % 4294967296 : Nat) : Int), ((x.natAbs / 4294967296 : Nat) : Int)] → Zau d := fun d h => by
  simp only [List.mem_cons, List.not_mem_nil, or_false] at h
  unfold Zau B
  rcases h with rfl | rfl <;> omega
 have c := Zda (g := decide (x < 0)) hd (Nat.le_refl _) (Nat.le_of_ble_eq_true rfl)
 have e : zof (decide (x < 0)) (vl [((x.natAbs % 4294967296 : Nat) : Int), ((x.natAbs / 4294967296 : Nat) : Int)]) = x := by
  rw [vl_cons, vl_cons, vl_nil, B_def]
  by_cases h : x < 0
  ·simp [zof, h]; omega
  ·simp [zof, h]; omega
 rw [e] at c
 have k1 : IntKind.u32.wrap ((x.natAbs : Nat) : Int) = ((x.natAbs % 4294967296 : Nat) : Int) := by rw [u32m]; omega
 have k2 : ((x.natAbs : Nat) : Int).fdiv (2 ^ (min (32 : Int).toNat IntKind.u64.bits)) = ((x.natAbs / 4294967296 : Nat) : Int) := by rw [shr32 (by omega)]; omega
 have k3 : IntKind.u32.wrap ((x.natAbs / 4294967296 : Nat) : Int) = ((x.natAbs / 4294967296 : Nat) : Int) := u32w (by omega) (by omega)
 unfold encI at c ⊢
 refine Zas false Tryz.func143 rfl rfl rfl (Nat.le_of_ble_eq_true rfl) (Za4.agg Zce) ?_
 refine r1A ?_
 refine T.seq ?_
 refine regA ?_
 refine runA ?_
 refine evG ggA (Zag (Zaa rfl) (Zbh rfl) (Zbh rfl) rfl rfl) ?_
 refine runA ?_
 refine Zbs ?_
 refine Zbr ?_
 refine T.seqI (fun s1 => s1 = mkS [(0, .v (.p (.int .i64 x))), (2, .ptr 2 0), (3, .v (.p (.int .u64 (x.natAbs : Int))))] [(2, varI)] 19 false) ?_ ?_
 ·by_cases hx : x < 0
  ·have hb : decide (x < 0) = true := by simp [hx]
   have hw : IntKind.u64.wrap (0 - IntKind.u64.wrap x) = (x.natAbs : Int) := by rw [IntKind.wrap_u64, IntKind.wrap_u64]; omega
   refine goA ?_
   refine evG ggA (ss_neg (Zaa rfl) rfl hw) ?_
   refine goA ?_
   exact Zao (by exact entA) rfl
  ·have hb : decide (x < 0) = false := by simp; omega
   have hw : IntKind.u64.wrap x = (x.natAbs : Int) := by rw [IntKind.wrap_u64]; omega
   rw [hw]
   refine goA ?_
   exact Zao (by exact entA) rfl
 rintro _ rfl
 refine goA ?_
 refine evG ggA (Zag (Zaa rfl) (Zbh rfl) (Zbh rfl) rfl k1) ?_
 refine goA ?_
 refine evG ggA (Zbx (Zaa rfl) rfl rfl (by decide) k2) ?_
 refine evG ggA (Zag (Zaa rfl) (Zbh rfl) (Zbh rfl) rfl k3) ?_
 refine evG ggA (Zar (Zaa rfl) (Zaf rfl) rfl rfl rfl rfl (fun x hx => by simp only [List.mem_cons, List.not_mem_nil, or_false] at hx; rcases hx with rfl | rfl <;> exact ⟨rfl, rfl⟩) (Nat.le_of_ble_eq_true rfl)) ?_
 refine evG ggA (Zae (Zaa rfl) rfl rfl c) ?_
 refine goA ?_
 exact rfl
theorem refdivided_p {a b : AV} {k : Nat} {p q : Int} (ha : IsI a k p) (hb : IsI b k q) (hq : q ≠ 0) (hk : k ≤ 274877906944) : PW Tryz.prog 144 [a, b] (encI (p / q)) := by
 have c := euclid_p ha hb hq hk
 obtain ⟨cs, rfl, g, ds, rfl, -⟩ := ha
 obtain ⟨cs, rfl, g', ds', rfl, -⟩ := hb
 unfold encI at c ⊢
 unfold ci at c
 refine Zas false Tryz.func144 rfl rfl rfl (Nat.le_of_ble_eq_true rfl) (Za4.agg Zce) ?_
 refine goA ?_
 refine evG ggA (Zae (Zaa rfl) rfl rfl c) ?_
 refine goA ?_
 exact rfl
end Ab
namespace Ab
open Go Go.RowKit Go.Proofs Hp
set_option maxRecDepth 100000
abbrev varQ : Blk := .var [.v (.p (.bool false)), .v (.p nilV), .v (.p (.bool false)), .v (.p nilV)]
def gsg (n d : Int) : Int := if d < 0 then -((Int.gcd n d : Nat) : Int) else ((Int.gcd n d : Nat) : Int)
theorem gcdZ_def (n d : Int) : gcdZ n d = ((Int.gcd n d : Nat) : Int) := rfl
theorem gsg_ne {n d : Int} (hd : d ≠ 0) : gsg n d ≠ 0 := by
 have : 0 < Int.gcd n d := Int.gcd_pos_of_ne_zero_right _ hd
 unfold gsg
 split <;> omega
theorem gsg_parts {n d : Int} (hd : d ≠ 0) : (Rat.divInt n d).num = n / gsg n d ∧ ((Rat.divInt n d).den : Int) = d / gsg n d := by
 by_cases h : d < 0
 ·have e : Rat.divInt n d = Rat.divInt (-n) (-d) := (Rat.neg_divInt_neg n d).symm
  have hp := Zd3 (n := -n) (d := -d) (by omega)
  rw [e, hp.1, hp.2, gcdZ_def, Int.gcd_neg, Int.neg_gcd]
  unfold gsg
  rw [if_pos h, Int.ediv_neg, Int.ediv_neg, Int.neg_ediv_of_dvd (Int.gcd_dvd_left n d), Int.neg_ediv_of_dvd (Int.gcd_dvd_right n d)]
  exact ⟨rfl, rfl⟩
 ·have hp := Zd3 (n := n) (d := d) (by omega)
  unfold gsg
  rw [if_neg h]
  exact hp
theorem gsg_lt {n d : Int} {k : Nat} (hd : d ≠ 0) (h : d.natAbs < pw k) : (gsg n d).natAbs < pw k := by
 have h1 : Int.gcd n d ≤ d.natAbs := Nat.gcd_le_right _ (by omega)
 have : (gsg n d).natAbs = Int.gcd n d := by unfold gsg; split <;> omega
 omega
theorem ri_iff {x y : Int} : decide (ri x = ri y) = decide (x = y) := by
 rw [decide_eq_decide]
 exact ⟨ri_inj, fun h => by rw [h]⟩
theorem refof2_p (x : Int) (h0 : -9223372036854775808 ≤ x) (h1 : x ≤ 9223372036854775807) : PW Tryz.prog 139 [.p (.int .i64 x)] (encQ (x : Rat)) := by
 have c1 := refof_p x h0 h1
 have c2 := refof_p 1 (by decide) (by decide)
 have e : encQ (x : Rat) = .agg (ci x ++ ci 1) := by unfold encQ; rw [Rat.num_intCast, Rat.den_intCast]; rfl
 rw [e]
 unfold encI at c1 c2
 refine Zas false Tryz.func139 rfl rfl rfl (Nat.le_of_ble_eq_true rfl) (Za4.agg Zgt) ?_
 refine goA ?_
 refine evG ggA (Zae (Zaa rfl) rfl rfl c1) ?_
 refine evG ggA (Zae (Zaa rfl) rfl rfl c2) ?_
 refine goA ?_
 exact rfl
set_option maxHeartbeats 4000000 in
theorem over_p {a b : AV} {k : Nat} {n d : Int} (ha : IsI a k n) (hb : IsI b k d) (hk : k ≤ 274877906944) : PW Tryz.prog 128 [a, b] (encQ (Rat.divInt n d)) := by
 have cs := refsign_p hb (by omega)
 by_cases h0 : d = 0
 ·have hb0 : (sgn d == 0) = true := by rw [h0]; rfl
  have co := refof2_p 0 (by decide) (by decide)
  have e : Rat.divInt n d = ((0 : Int) : Rat) := by rw [h0, Rat.divInt_zero]; rfl
  rw [e]
  obtain ⟨cs', rfl, g, ds, rfl, -⟩ := ha
  obtain ⟨cs', rfl, g', ds', rfl, -⟩ := hb
  unfold encQ at co ⊢
  refine Zas false Tryz.func128 rfl rfl rfl (Nat.le_of_ble_eq_true rfl) (Za4.agg Zgt) ?_
  refine goA ?_
  refine evG ggA (Zae (Zaa rfl) rfl rfl cs) ?_
  refine goA ?_
  refine evG ggA (Zae (Zaa rfl) rfl rfl co) ?_
  refine goA ?_
  exact rfl
 have hb0 : (sgn d == 0) = false := by
  unfold sgn
  by_cases h1 : d < 0
  ·rw [if_pos h1]; rfl
  ·rw [if_neg h1, if_pos (show 0 < d by omega)]; rfl
 have hbs : decide (sgn d < 0) = decide (d < 0) := by
  unfold sgn
  by_cases h1 : d < 0
  ·rw [if_pos h1]; simp [h1]
  ·rw [if_neg h1, if_pos (show 0 < d by omega)]; simp [h1]
 have cg := refgcd_p ha hb hk
 have hlt := isI_lt hb
 have hgl := gsg_lt (n := n) h0 hlt
 have hgn := gsg_ne (n := n) h0
 have hGl : ((Int.gcd n d : Nat) : Int).natAbs < pw k := by
  have h1 : Int.gcd n d ≤ d.natAbs := Nat.gcd_le_right _ (by omega)
  rw [Int.natAbs_natCast]
  omega
 have cn := refneg_p (Zgf hGl) (by omega)
 have cof := refof_p 1 (by decide) (by decide)
 have csm := refsame_p (ri (gsg n d)) (ri 1) (by
  have : (dgs (gsg n d).natAbs).length ≤ k := dgs_len2 hgl
  show (dgs (gsg n d).natAbs).length ≤ _
  omega)
 rw [ri_iff] at csm
 have cn1 := Ze9 ha (by omega)
 have cn2 := Ze9 hb (by omega)
 have cd1 := refdivided_p ha (Zgf hgl) hgn hk
 have cd2 := refdivided_p hb (Zgf hgl) hgn hk
 obtain ⟨q1, q2⟩ := gsg_parts (n := n) h0
 have e : encQ (Rat.divInt n d) = .agg (ci (n / gsg n d) ++ ci (d / gsg n d)) := by unfold encQ; rw [q1, q2]
 rw [e]
 have hgd : gsg n d = if d < 0 then -((Int.gcd n d : Nat) : Int) else ((Int.gcd n d : Nat) : Int) := rfl
 have csm' : PW Tryz.prog 142 [encI (gsg n d), encI 1] (.p (.bool (decide (gsg n d = 1)))) := csm
 clear csm
 generalize gsg n d = G at *
 generalize ((Int.gcd n d : Nat) : Int) = g0 at *
 obtain ⟨cs', rfl, g, ds, rfl, -⟩ := ha
 obtain ⟨cs', rfl, g', ds', rfl, -⟩ := hb
 unfold encI at cg cn cof csm' cn1 cn2 cd1 cd2
 unfold ci at cg cn cof csm' cd1 cd2
 refine Zas false Tryz.func128 rfl rfl rfl (Nat.le_of_ble_eq_true rfl) (Za4.agg Zgt) ?_
 refine r1A ?_
 refine T.seqI (fun s1 => s1 = mkS [(2, .ptr 2 0), (3, .ptr 3 0), (4, .ptr 4 0)] [(2, .var [.v (.p (.bool g)), .v (.sl (ds.map u32))]), (3, .var [.v (.p (.bool g')), .v (.sl (ds'.map u32))]), (4, varQ)] 33 false) ?_ ?_
 ·refine goA ?_
  refine evG ggA (Zae (Zaa rfl) rfl rfl cs) ?_
  refine goA ?_
  exact Zao (by exact entA) rfl
 rintro _ rfl
 refine T.seqI (fun s1 => s1 = mkS [(2, .ptr 2 0), (3, .ptr 3 0), (4, .ptr 4 0), (5, .ptr 5 0)] [(2, .var [.v (.p (.bool g)), .v (.sl (ds.map u32))]), (3, .var [.v (.p (.bool g')), .v (.sl (ds'.map u32))]), (4, varQ), (5, .var [.v (.p (.bool (decide (g0 < 0)))), .v (.sl ((dgs g0.natAbs).map u32))])] 33 false) ?_ ?_
 ·refine goA ?_
  refine evG ggA (Zae (Zaa rfl) rfl rfl cg) ?_
  refine goA ?_
  exact Zao (by exact entA) rfl
 rintro _ rfl
 refine T.seqI (fun s1 => s1 = mkS [(2, .ptr 2 0), (3, .ptr 3 0), (4, .ptr 4 0), (5, .ptr 5 0)] [(2, .var [.v (.p (.bool g)), .v (.sl (ds.map u32))]), (3, .var [.v (.p (.bool g')), .v (.sl (ds'.map u32))]), (4, varQ), (5, .var [.v (.p (.bool (decide (G < 0)))), .v (.sl ((dgs G.natAbs).map u32))])] 33 false) ?_ ?_
 ·by_cases h1 : d < 0
  ·rw [decide_eq_true h1] at hbs
   rw [if_pos h1] at hgd
   subst hgd
   refine goA ?_
   refine evG ggA (Zae (Zaa rfl) rfl rfl cs) ?_
   refine goA ?_
   refine evG ggA (Zae (Zaa rfl) rfl rfl cn) ?_
   refine goA ?_
   exact Zao (by exact entA) rfl
  ·rw [decide_eq_false h1] at hbs
   rw [if_neg h1] at hgd
   subst hgd
   refine goA ?_
   refine evG ggA (Zae (Zaa rfl) rfl rfl cs) ?_
   refine goA ?_
   exact Zao (by exact entA) rfl
 rintro _ rfl
 by_cases h2 : G = 1
 ·subst h2
  rw [decide_eq_true rfl] at csm'
  rw [Int.ediv_one, Int.ediv_one]
  refine goA ?_
  refine evG ggA (Zae (Zaa rfl) rfl rfl cof) ?_
  refine evG ggA (Zae (Zaa rfl) rfl rfl csm') ?_
  refine goA ?_
  refine evG ggA (Zae (Zaa rfl) rfl rfl cn1) ?_
  refine goA ?_
  refine evG ggA (Zae (Zaa rfl) rfl rfl cn2) ?_
  refine goA ?_
  exact rfl
 ·rw [decide_eq_false h2] at csm'
  refine goA ?_
  refine evG ggA (Zae (Zaa rfl) rfl rfl cof) ?_
  refine evG ggA (Zae (Zaa rfl) rfl rfl csm') ?_
  refine goA ?_
  refine evG ggA (Zae (Zaa rfl) rfl rfl cd1) ?_
  refine goA ?_
  refine evG ggA (Zae (Zaa rfl) rfl rfl cd2) ?_
  refine goA ?_
  exact rfl
theorem refnormal_p {a : AV} {k : Nat} {q : Rat} (h : IsV a k q) (hk : k ≤ 274877906944) : PW Tryz.prog 105 [a] (encQ q) := by
 obtain ⟨cs, ds, p, d, rfl, h1, h2, rfl⟩ := h
 have c := over_p ⟨cs, rfl, h1⟩ ⟨ds, rfl, h2⟩ hk
 obtain ⟨g, l, rfl, -⟩ := h1
 obtain ⟨g', l', rfl, -⟩ := h2
 unfold encQ at c ⊢
 refine Zas false Tryz.func105 rfl rfl rfl (Nat.le_of_ble_eq_true rfl) (Za4.agg Zgt) ?_
 refine goA ?_
 refine evG ggA (Zae (Zaa rfl) rfl rfl c) ?_
 refine goA ?_
 exact rfl
end Ab
