/- Integers and fractions as abstract values. -/
import Derived.Test.YtalcdpjpapojeaaGreatDoorTf
import Derived.Test.YtalcdpjpapojeaaGreatDoorOldE
set_option linter.all false
namespace Ab
open Go Go.RowKit Go.Proofs Hp
def dg : Nat → Nat → List Int
 | 0, _ => []
 | k + 1, n => if n = 0 then [] else ((n % 4294967296 : Nat) : Int) :: dg k (n / 4294967296)
def dgs (n : Nat) : List Int := dg n n
def u32 (d : Int) : AV := .p (.int .u32 d)
def vl (l : List Int) : Int := val (fun i => l.getD i 0) l.length
theorem vl_cons (d : Int) (l : List Int) : vl (d :: l) = d + Hp.B * vl l := by
  have key : ∀ (f : Nat → Int) n, val f (n + 1) = f 0 + Hp.B * val (fun i => f (i + 1)) n := by
    intro f n
    induction n with
    | zero => simp [val, pw]
    | succ n ih =>
      rw [val, ih]
      simp only [val, pw]
      grind
  show val _ (l.length + 1) = _
  rw [key]
  rfl
theorem dg_spec : ∀ k n, n ≤ k → (∀ d, d ∈ dg k n → Zal d) ∧ vl (dg k n) = n ∧ (dg k n = [] ∨ (dg k n).getLast? ≠ some 0)
  | 0, n, h => by
    obtain rfl : n = 0 := oM
    exact ⟨fun d h => by simp [dg] at h, by simp [dg, vl, val], .inl rfl⟩
  | k + 1, n, h => by
    by_cases h0 : n = 0
    · subst h0
      exact ⟨fun d h => by simp [dg] at h, by simp [dg, vl, val], .inl (by simp [dg])⟩
    · have hlt : n / 4294967296 < n := Nat.div_lt_self oM oM
      obtain ⟨h1, h2, h3⟩ := dg_spec k (n / 4294967296) oM
      have e : dg (k + 1) n = ((n % 4294967296 : Nat) : Int) :: dg k (n / 4294967296) := by simp [dg, h0]
      rw [e]
      refine ⟨fun d hd => ?_, ?_, .inr ?_⟩
      · rcases List.mem_cons.1 hd with rfl | hd
        · exact ⟨oM, by unfold Hp.B; omega⟩
        · exact h1 d hd
      · rw [vl_cons, h2]; unfold Hp.B; omega
      · rcases h3 with h3 | h3
        · rw [h3]
          have : vl (dg k (n / 4294967296)) = 0 := by rw [h3]; rfl
          rw [h2] at this
          simp
          omega
        · cases hq : dg k (n / 4294967296) with
          | nil =>
            have : vl (dg k (n / 4294967296)) = 0 := by rw [hq]; rfl
            rw [h2] at this
            simp
            omega
          | cons d l => rw [hq] at h3; simpa using h3
theorem dgs_dig {n : Nat} : ∀ d, d ∈ dgs n → Zal d := (dg_spec n n (Nat.le_refl _)).1
theorem Zcc (n : Nat) : vl (dgs n) = n := (dg_spec n n (Nat.le_refl _)).2.1
theorem dgs_last (n : Nat) : dgs n = [] ∨ (dgs n).getLast? ≠ some 0 := (dg_spec n n (Nat.le_refl _)).2.2
theorem Zcr {l : List Int} (h : ∀ d, d ∈ l → Zal d) : Digs (fun i => l.getD i 0) l.length := fun i hi => by
 have : l.getD i 0 = l[i] := by simp [hi]
 show Zal (l.getD i 0)
 rw [this]; exact h _ (List.getElem_mem hi)
theorem canon_of {l : List Int} (h : l = [] ∨ l.getLast? ≠ some 0) : Zb2 (fun i => l.getD i 0) l.length := by
 rcases h with rfl | h
 ·exact .inl rfl
 ·rcases Nat.eq_zero_or_pos l.length with h0 | h0
  ·exact .inl h0
  ·refine .inr fun e => h ?_
   rw [List.getLast?_eq_getElem?]
   have hlt : l.length - 1 < l.length := oM
   have : l.getD (l.length - 1) 0 = l[l.length - 1] := by simp [hlt]
   have e : l.getD (l.length - 1) 0 = 0 := e
   rw [this] at e
   rw [List.getElem?_eq_getElem hlt, e]
theorem dgs_of {n : Nat} {f : Nat → Int} {z : Nat} (hd : Digs f n) (hc : Zb2 f n) (hv : val f n = z) : dgs z = (List.range n).map f := by
 have e : val f n = val (fun i => (dgs z).getD i 0) (dgs z).length := by rw [hv]; exact (Zcc z).symm
 have hn : n = (dgs z).length := canon_len_eq hd (Zcr dgs_dig) hc (canon_of (dgs_last z)) e
 apply List.ext_getElem
 ·simp [hn]
 ·intro i h1 h2
  have h3 : i < n := by simpa using h2
  have h4 := val_inj (n := n) hd (by rw [hn]; exact Zcr dgs_dig) (by rw [e]; rw [← hn]) i h3
  simp [h4, h1]
theorem rep_digs {w : World} {M : Nat → Prop} {v : Value} {n : Nat} {f : Nat → Int} (h : Dg w v n f) (hM : OKM true M w) : Rep w M (.sl (((List.range n).map f).map u32)) v := by
 obtain ⟨a, cap, rfl, hc, h | ⟨b, off, rfl, h⟩⟩ := h
 ·subst h
  exact .emp _ _
 ·have hlen : (((List.range n).map f).map u32).length = n := by simp
  have hget : ∀ (i : Nat) e, (((List.range n).map f).map u32)[i]? = some e → i < n ∧ e = u32 (f i) := fun i e he => by
   have hi : i < n := by rw [← hlen]; exact (List.getElem?_eq_some_iff.1 he).1
   refine ⟨hi, ?_⟩
   simp [hi] at he
   exact he.symm
  have := Rep.sl (w := w) (M := M) (((List.range n).map f).map u32) b off cap 1 (fun i _ => .int .u32 (f i)) (by rw [hlen]; exact hc) (fun i j hi hj hm => ?_) (fun e he => ?_) (fun e he c hc' => ?_) (fun i j hi hj => ?_) (fun i e j c he hj => ?_)
  ·rw [hlen] at this; exact this
  ·rw [hlen] at hi
   exact (hM.1 b hm).2 rfl _ _ (h.cell i hi)
  ·obtain ⟨i, hi⟩ := List.getElem?_of_mem he
   rw [(hget i e hi).2]; rfl
  ·obtain ⟨i, hi⟩ := List.getElem?_of_mem he
   rw [(hget i e hi).2] at hc'
   simp [u32, AV.cells] at hc'
   subst hc'; rfl
  ·rw [hlen] at hi
   obtain rfl : j = 0 := oM
   rw [Nat.mul_one, Nat.add_zero]
   exact h.cell i hi
  ·obtain ⟨hi, rfl⟩ := hget i e he
   rcases j with _ | j
   ·simp [u32, AV.cells] at hj; subst hj; exact .p _ rfl
   ·simp [u32, AV.cells] at hj
def ci (z : Int) : List AV := [.p (.bool (decide (z < 0))), .sl ((dgs z.natAbs).map u32)]
def encI (z : Int) : AV := .agg (ci z)
def encQ (q : Rat) : AV := .agg (ci q.num ++ ci q.den)
def IsC (cs : List AV) (k : Nat) (z : Int) : Prop := ∃ (g : Bool) (ds : List Int), cs = [.p (.bool g), .sl (ds.map u32)] ∧ (∀ d, d ∈ ds → Zal d) ∧ ds.length ≤ k ∧ z = zof g (vl ds)
def IsI (a : AV) (k : Nat) (z : Int) : Prop := ∃ cs, a = .agg cs ∧ IsC cs k z
def IsV (a : AV) (k : Nat) (q : Rat) : Prop := ∃ cs ds p d, a = .agg (cs ++ ds) ∧ IsC cs k p ∧ IsC ds k d ∧ q = Rat.divInt p d
theorem dg_rep {w : World} {M : Nat → Prop} {ds : List Int} {v : Value} (hd : ∀ d, d ∈ ds → Zal d) (h : Rep w M (.sl (ds.map u32)) v) : Dg w v ds.length (fun i => ds.getD i 0) := by
 obtain ⟨a, cap, h1, h2, h3⟩ := sl_inv h
 rw [List.length_map] at h1 h2
 refine ⟨a, cap, h1, h2, ?_⟩
 rcases h3 with h3 | ⟨b, off, sz, rfl, h4, h5⟩
 ·exact .inl (by simpa using h3)
 ·by_cases h0 : ds.length = 0
  ·exact .inl h0
  ·refine .inr ⟨b, off, rfl, fun i hi => ?_, Zcr hd⟩
   have hsz : sz = 1 := by
    have h6 : 0 < (ds.map u32).length := by simp; omega
    rw [← h4 _ (List.getElem_mem h6)]
    simp [u32, AV.cells]
   subst hsz
   have h6 : (ds.map u32)[i]? = some (u32 ds[i]) := by simp [hi]
   obtain ⟨-, -, x, h7, h8⟩ := h5 i _ h6 0 (u32 ds[i]) rfl
   have := Rep.p_inv h8
   subst this
   rw [Nat.mul_one, Nat.add_zero] at h7
   rw [h7]
   simp [hi]
theorem intR_rep {w : World} {M : Nat → Prop} {cs : List AV} {k : Nat} {z : Int} {x y : Value} (h : IsC cs k z) (hx : ∀ (i : Nat) c, cs[i]? = some c → ∀ v, #[x, y][i]? = some v → Rep w M c v) : IntR w (.agg #[x, y]) k z := by
 obtain ⟨g, ds, rfl, h1, h2, h3⟩ := h
 have hx0 := Rep.p_inv (hx 0 _ rfl x rfl)
 have hx1 := dg_rep h1 (hx 1 _ rfl y rfl)
 subst hx0
 exact ⟨g, y, ds.length, _, rfl, hx1, h2, h3⟩
theorem isC_len {cs : List AV} {k : Nat} {z : Int} (h : IsC cs k z) : cs.length = 2 := by obtain ⟨g, ds, rfl, -⟩ := h; rfl
theorem Zei {w : World} {M : Nat → Prop} {a : AV} {k : Nat} {z : Int} {v : Value} (h : IsI a k z) (hr : Rep w M a v) : IntR w v k z := by
  obtain ⟨cs, rfl, h⟩ := h
  obtain ⟨vs, rfl, h1, -, h2⟩ := agg_inv hr
  have hl := isC_len h
  rcases vs with ⟨l⟩
  rw [hl] at h1
  match l, h1 with
  | [x, y], _ =>
    refine intR_rep (M := M) h fun i c hc u hu => ?_
    obtain ⟨u', h3, h4⟩ := h2 i c hc
    rw [hu] at h3; injection h3 with h3; subst h3; exact h4
theorem Zdi {w : World} {M : Nat → Prop} {a : AV} {k : Nat} {q : Rat} {v : Value} (h : IsV a k q) (hr : Rep w M a v) : RatV w v k q := by
  obtain ⟨cs, ds, p, d, rfl, h1, h2, h3⟩ := h
  obtain ⟨vs, rfl, h4, -, h5⟩ := agg_inv hr
  have hl := isC_len h1
  have hl2 := isC_len h2
  rcases vs with ⟨l⟩
  rw [List.length_append, hl, hl2] at h4
  match l, h4 with
  | [x, y, x', y'], _ =>
    refine ⟨p, d, ⟨x, y, x', y', rfl, intR_rep (M := M) h1 fun i c hc u hu => ?_, intR_rep (M := M) h2 fun i c hc u hu => ?_⟩, h3⟩
    · have hi : i < 2 := by rw [← hl]; exact (List.getElem?_eq_some_iff.1 hc).1
      obtain ⟨u', h6, h7⟩ := h5 i c (by rw [List.getElem?_append_left (by rw [hl]; exact hi)]; exact hc)
      have : u = u' := by
        rcases i with _ | _ | i
        · simp at hu h6; rw [← hu, ← h6]
        · simp at hu h6; rw [← hu, ← h6]
        · omega
      subst this; exact h7
    · have hi : i < 2 := by rw [← hl2]; exact (List.getElem?_eq_some_iff.1 hc).1
      obtain ⟨u', h6, h7⟩ := h5 (i + 2) c (by rw [List.getElem?_append_right oM, hl, Nat.add_sub_cancel]; exact hc)
      have : u = u' := by
        rcases i with _ | _ | i
        · simp at hu h6; rw [← hu, ← h6]
        · simp at hu h6; rw [← hu, ← h6]
        · omega
      subst this; exact h7
theorem isC_ci {z : Int} {k : Nat} (h : z.natAbs < pw k) : IsC (ci z) k z := by
 refine ⟨decide (z < 0), dgs z.natAbs, rfl, dgs_dig, ?_, ?_⟩
 ·rcases Nat.eq_zero_or_pos (dgs z.natAbs).length with h0 | h0
  ·omega
  ·obtain ⟨m, hm⟩ : ∃ m, (dgs z.natAbs).length = m + 1 := ⟨_, (Nat.succ_pred_eq_of_pos h0).symm⟩
   have hc := canon_of (dgs_last z.natAbs)
   have hd := Zcr (dgs_dig (n := z.natAbs))
   rw [hm] at hc hd
   have h1 := Ze6 hd hc
   have h2 : val (fun i => (dgs z.natAbs).getD i 0) (m + 1) = z.natAbs := by rw [← hm]; exact Zcc _
   rw [h2] at h1
   by_cases hk : m + 1 ≤ k
   ·omega
   ·have := Zed k m oM; omega
 ·rw [Zcc]
  unfold zof
  by_cases hz : z < 0
  ·simp [hz]; omega
  ·simp [hz]; omega
theorem Zad {q : Rat} {k : Nat} (h : Ht q k) : IsV (encQ q) k q := ⟨ci q.num, ci q.den, q.num, q.den, rfl, isC_ci h.1, isC_ci (by rw [Int.natAbs_natCast]; exact h.2), (Rat.num_divInt_den q).symm⟩
theorem Zar {z : Int} {k : Nat} (h : z.natAbs < pw k) : IsI (encI z) k z := ⟨_, rfl, isC_ci h⟩
theorem isC_mono {cs : List AV} {k l : Nat} {z : Int} (h : IsC cs k z) (hk : k ≤ l) : IsC cs l z := by
 obtain ⟨g, ds, h1, h2, h3, h4⟩ := h
 exact ⟨g, ds, h1, h2, oM, h4⟩
theorem isV_mono {a : AV} {k l : Nat} {q : Rat} (h : IsV a k q) (hk : k ≤ l) : IsV a l q := by
 obtain ⟨cs, ds, p, d, h1, h2, h3, h4⟩ := h
 exact ⟨cs, ds, p, d, h1, isC_mono h2 hk, isC_mono h3 hk, h4⟩
theorem isC_lt {cs : List AV} {k : Nat} {z : Int} (h : IsC cs k z) : z.natAbs < pw k := by
 obtain ⟨g, ds, -, h1, h2, rfl⟩ := h
 have h3 := Zcg (Zcr h1)
 have h4 := Zam (Zcr h1)
 have h5 := Zed _ _ h2
 have : ((zof g (vl ds)).natAbs : Int) = vl ds := by
  have : vl ds = val (fun i => ds.getD i 0) ds.length := rfl
  unfold zof; cases g <;> simp <;> omega
 have h6 : vl ds = val (fun i => ds.getD i 0) ds.length := rfl
 omega
theorem Zfc {a : AV} {k : Nat} {q : Rat} (h : IsV a k q) (hk : 1 ≤ k) : Ht q k := by
 obtain ⟨cs, ds, p, d, -, h2, h3, rfl⟩ := h
 exact Zeq (isC_lt h2) (isC_lt h3) hk
theorem Zax {a : AV} {k : Nat} {q : Rat} (h : IsV a k q) : ∃ g ds g' ds', a = .agg [.p (.bool g), .sl ds, .p (.bool g'), .sl ds'] := by
 obtain ⟨cs, ds, p, d, rfl, ⟨g, l, rfl, -⟩, ⟨g', l', rfl, -⟩, -⟩ := h
 exact ⟨g, _, g', _, rfl⟩
theorem rep_ci {w : World} {M : Nat → Prop} {x y : Value} {z : Int} (h : IntC w (.agg #[x, y]) z) (hM : OKM true M w) : Rep w M (.p (.bool (decide (z < 0)))) x ∧ Rep w M (.sl ((dgs z.natAbs).map u32)) y := by
 obtain ⟨s, n, f, e, hd, hc, hv⟩ := h
 injection e with e
 have e := congrArg Array.toList e
 simp only [List.cons.injEq, and_true] at e
 obtain ⟨ex, ey⟩ := e
 subst ex ey
 refine ⟨.p _ rfl, ?_⟩
 rw [dgs_of hd.dig hc hv]
 exact rep_digs hd hM
theorem Zgp {w : World} {M : Nat → Prop} {v : Value} {z : Int} (h : IntC w v z) (hM : OKM true M w) : Rep w M (encI z) v := by
 obtain ⟨s, n, f, rfl, hd, hc, hv⟩ := id h
 obtain ⟨h1, h2⟩ := rep_ci h hM
 refine .agg _ _ rfl (fun c hc => ?_) (fun i c v hi hu => ?_)
 ·simp [ci] at hc; rcases hc with rfl | rfl <;> rfl
 ·rcases i with _ | _ | i
  ·simp [ci] at hi hu; subst hi hu; exact h1
  ·simp [ci] at hi hu; subst hi hu; exact h2
  ·simp [ci] at hi
theorem Zdn {w : World} {M : Nat → Prop} {v : Value} {q : Rat} (h : RatC w v q) (hM : OKM true M w) : Rep w M (encQ q) v := by
 obtain ⟨a0, a1, b0, b1, rfl, h1, h2⟩ := h
 obtain ⟨c1, c2⟩ := rep_ci h1 hM
 obtain ⟨c3, c4⟩ := rep_ci h2 hM
 refine .agg _ _ rfl (fun c hc => ?_) (fun i c v hi hu => ?_)
 ·simp [ci] at hc; rcases hc with rfl | rfl | rfl | rfl <;> rfl
 ·rcases i with _ | _ | _ | _ | i
  ·simp [ci] at hi hu; subst hi hu; exact c1
  ·simp [ci] at hi hu; subst hi hu; exact c2
  ·simp [ci] at hi hu; subst hi hu; exact c3
  ·simp [ci] at hi hu; subst hi hu; exact c4
  ·simp [ci] at hi
theorem Zbz {w w' : World} {M : Nat → Prop} (h : OKM true M w) (hb : Below w.heap.size w w') : OKM true M w' := ⟨fun b hm => by
 obtain ⟨h1, h2⟩ := h.1 b hm
 exact ⟨Nat.lt_of_lt_of_le h1 hb.size, fun e i d => by rw [hb.cell (p := ⟨b, i, none⟩) h1]; exact h2 e i d⟩, fun b l hl => by
 obtain ⟨h1, h2, h3⟩ := h.2 b l hl
 exact ⟨h1, Nat.lt_of_lt_of_le h2 hb.size, fun j v hj => by rw [hb.cell (p := ⟨b, j, none⟩) h2]; exact h3 j v hj⟩⟩
theorem reps1 {w : World} {M : Nat → Prop} {a : AV} {vs : List Value} (h : Reps w M [a] vs) : ∃ v, vs = [v] ∧ Rep w M a v := by
 cases h with
 | cons _ v _ vs h t => cases t; exact ⟨v, rfl, h⟩
theorem reps2 {w : World} {M : Nat → Prop} {a b : AV} {vs : List Value} (h : Reps w M [a, b] vs) : ∃ v u, vs = [v, u] ∧ Rep w M a v ∧ Rep w M b u := by
 cases h with
 | cons _ v _ vs h t => obtain ⟨u, rfl, h2⟩ := reps1 t; exact ⟨v, u, rfl, h, h2⟩
theorem Zdg {P : Program} {f : FuncId} {fn : Func} (hf : P.funcs[f]? = some fn) (hn : (fn.name == "runtime.NumGoroutine") = false) (hb : fn.body.isNone = false) : CallOK P f := ⟨fn, hf, hn, hb⟩
theorem Zdh (x : Int) (h0 : -9223372036854775808 ≤ x) (h1 : x ≤ 9223372036854775807) : PC Tryz.prog 48 [.p (.int .i64 x)] (encQ (x : Rat)) := by
 refine ⟨Zdg Tryz.func48 rfl rfl, fun w M hM vs hvs => ?_⟩
 obtain ⟨v, rfl, hv⟩ := reps1 hvs
 rw [Rep.p_inv hv]
 refine (rof_c x w h0 h1).mono ?_
 rintro e w' ⟨v, rfl, hb, hr⟩
 exact ⟨v, rfl, hb, Zdn hr (Zbz hM hb)⟩
theorem radd_p {a b : AV} {p q : Rat} {k l : Nat} (ha : IsV a k p) (hk : k ≤ 2199023255552) (hb : IsV b l q) (hl : l ≤ 2199023255552) : PC Tryz.prog 89 [a, b] (encQ (p + q)) := by
 refine ⟨Zdg Tryz.func89 rfl rfl, fun w M hM vs hvs => ?_⟩
 obtain ⟨v, u, rfl, hv, hu⟩ := reps2 hvs
 refine (radd_c (Zdi ha hv) hk (Zdi hb hu) hl).mono ?_
 rintro e w' ⟨v, rfl, hb, hr⟩
 exact ⟨v, rfl, hb, Zdn hr (Zbz hM hb)⟩
theorem rsub_p {a b : AV} {p q : Rat} {k l : Nat} (ha : IsV a k p) (hk : k ≤ 2199023255552) (hb : IsV b l q) (hl : l + 2 ≤ 2199023255552) : PC Tryz.prog 102 [a, b] (encQ (p - q)) := by
 refine ⟨Zdg Tryz.func102 rfl rfl, fun w M hM vs hvs => ?_⟩
 obtain ⟨v, u, rfl, hv, hu⟩ := reps2 hvs
 refine (rsub_c (Zdi ha hv) hk (Zdi hb hu) hl).mono ?_
 rintro e w' ⟨v, rfl, hb, hr⟩
 exact ⟨v, rfl, hb, Zdn hr (Zbz hM hb)⟩
theorem Zdw {a b : AV} {p q : Rat} {k l : Nat} (ha : IsV a k p) (hk : k ≤ 2199023255552) (hb : IsV b l q) (hl : l ≤ 2199023255552) : PC Tryz.prog 92 [a, b] (encQ (p * q)) := by
 refine ⟨Zdg Tryz.func92 rfl rfl, fun w M hM vs hvs => ?_⟩
 obtain ⟨v, u, rfl, hv, hu⟩ := reps2 hvs
 refine (rmul_c (Zdi ha hv) hk (Zdi hb hu) hl).mono ?_
 rintro e w' ⟨v, rfl, hb, hr⟩
 exact ⟨v, rfl, hb, Zdn hr (Zbz hM hb)⟩
theorem rneg_p {a : AV} {p : Rat} {k : Nat} (ha : IsV a k p) (hk : k ≤ 2199023255552) : PC Tryz.prog 113 [a] (encQ (-p)) := by
 refine ⟨Zdg Tryz.func113 rfl rfl, fun w M hM vs hvs => ?_⟩
 obtain ⟨v, rfl, hv⟩ := reps1 hvs
 refine (rneg_c (Zdi ha hv) hk).mono ?_
 rintro e w' ⟨v, rfl, hb, hr⟩
 exact ⟨v, rfl, hb, Zdn hr (Zbz hM hb)⟩
theorem Zfi {a : AV} {p : Rat} {k : Nat} (ha : IsV a k p) (hk : k ≤ 2199023255552) : PC Tryz.prog 55 [a] (encQ p) := by
 refine ⟨Zdg Tryz.func55 rfl rfl, fun w M hM vs hvs => ?_⟩
 obtain ⟨v, rfl, hv⟩ := reps1 hvs
 refine (rnormal_c (Zdi ha hv) hk).mono ?_
 rintro e w' ⟨v, rfl, hb, hr⟩
 exact ⟨v, rfl, hb, Zdn hr (Zbz hM hb)⟩
theorem rquo_p {a b : AV} {p q : Rat} {k l : Nat} (ha : IsV a k p) (hk : k ≤ 2199023255552) (hb : IsV b l q) (hl : l ≤ 2199023255552) (h0 : q ≠ 0) : PC Tryz.prog 85 [a, b] (.tup [encQ (p / q), .p (.int .i64 0)]) := by
 refine ⟨Zdg Tryz.func85 rfl rfl, fun w M hM vs hvs => ?_⟩
 obtain ⟨v, u, rfl, hv, hu⟩ := reps2 hvs
 refine (rquo_c (Zdi ha hv) hk (Zdi hb hu) hl h0).mono ?_
 rintro e w' ⟨v, rfl, hb, r, rfl, hr⟩
 refine ⟨_, rfl, hb, .tup _ _ rfl (fun i c v hi hv => ?_)⟩
 rcases i with _ | _ | i
 ·simp at hi hv; subst hi hv; exact Zdn hr (Zbz hM hb)
 ·simp at hi hv; subst hi hv; exact .p _ rfl
 ·simp at hi
end Ab
