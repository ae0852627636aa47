/- Arguments of the statements on series, opened: from data to abstract values. The coefficients of sums, products and derivatives of series; plain. What the gate lets in, as fractions; comparison by coefficients. -/
import Derived.Test.YtockbmflgmnbaaaGreatDoorAJ
import Derived.ProofKit
import Derived.Deep.Slices
import Derived.Lib.SmallJoins
import Derived.Test.YtockbmflgmnbaaaGreatDoorIB
set_option linter.all false
namespace Ab
open Go Go.RowKit Go.Proofs Hp Go.ChangeShapes Go.WideShapes
set_option maxRecDepth 100000
def NoM : Nat → Prop := fun _ => False
theorem okNo {dm : Bool} {w : World} (h : TabOK NoM w) : OKM dm NoM w := ⟨fun b h => h.elim, h⟩
section
variable {H : Type} {enc : TypeId × Value → H} {w : World} {base : Nat} {spare : Nat → Bool} {held : Bool} {fuel : Nat} {cs : List Value} {x : DataW H × List MemPlace}
abbrev maxN : Nat := 9223372036854775807
theorem plain_cells {w : World} {base : Nat} {a : Addr} {n i : Nat} {cs : List Value} (h : w.cells? base (a.add i) n = some cs) (hn : 0 < n) : ∃ c, w.cell? (a.add i) = some c := by
 obtain ⟨_, hl, hc⟩ := World.cells?_some h
 have := hc 0 hn
 refine ⟨cs[0], ?_⟩
 rw [List.getElem?_eq_getElem (by omega)] at this
 simpa [Addr.add] using this
theorem plain_at {w : World} {a : Addr} {v : Value} (h : w.cell? (a.add 0) = some v) : ∃ b off, a = ⟨b, off, none⟩ := by
 obtain ⟨b, off, spot⟩ := a
 have hspot : spot = none := by simpa [Addr.add] using World.cell?_spot h
 subst hspot
 exact ⟨b, off, rfl⟩
theorem open_digs (h : DataW.trod enc Tryz.prog w base (fun _ => true) held fuel 45 cs = some x) : ∃ (c : Value) (ds : List Int), cs = [c] ∧ Rep w NoM (.sl (ds.map u32)) c ∧ (∀ d, d ∈ ds → Zar d) ∧ ds.length ≤ maxN := by
 rcases open_ints sl_u32s und_u32 (by kernel_rfl) h with ⟨h1, -⟩ | ⟨a, len, cap, zs, rfl, -, hl, hm, hz, -, hc, hw⟩
 ·exact ⟨_, [], h1, .emp _ _, fun d hd => by simp at hd, by simp⟩
 ·have hz : zs.length = cap := hz
  have hcap : cap ≤ maxN := hm
  refine ⟨_, zs.take len, rfl, ?_, fun d hd => ?_, by simp; omega⟩
  ·by_cases h0 : len = 0
   ·subst h0
    exact .emp _ _
   ·obtain ⟨b, off, rfl⟩ := plain_at (hc 0 (by omega))
    have hlen : ((zs.take len).map u32).length = len := by simp; omega
    have hget : ∀ (i : Nat) e, ((zs.take len).map u32)[i]? = some e → i < len ∧ e = u32 (zs.getD i 0) := fun i e he => by
     have hi : i < len := by rw [← hlen]; exact (List.getElem?_eq_some_iff.1 he).1
     refine ⟨hi, ?_⟩
     have hi' : i < zs.length := by omega
     simp only [List.getElem?_map, List.getElem?_take, if_pos hi, List.getElem?_eq_getElem hi', Option.map_some, Option.some.injEq] at he
     rw [← he]
     simp [hi']
    have := Rep.sl (w := w) (M := NoM) ((zs.take len).map u32) b off cap 1 (fun i _ => .int .u32 (zs.getD i 0)) (by rw [hlen]; exact hl) (fun i j hi hj hm => hm) (fun e he => ?_) (fun e he c hc' => ?_) (fun i j hi hj => ?_) (fun i e j c he hj => ?_)
    ·rw [hlen] at this; exact this
    ·obtain ⟨i, hi⟩ := List.getElem?_of_mem he
     rw [(hget i e hi).2]; rfl
    ·obtain ⟨i, hi⟩ := List.getElem?_of_mem he
     rw [(hget i e hi).2] at hc'
     simp [u32, AV.cells] at hc'
     subst hc'; rfl
    ·rw [hlen] at hi
     obtain rfl : j = 0 := by omega
     rw [Nat.mul_one, Nat.add_zero, ← Go.WideShapes.add_plain]
     exact hc i (by omega)
    ·obtain ⟨hi, rfl⟩ := hget i e he
     rcases j with _ | j
     ·simp [u32, AV.cells] at hj; subst hj; exact .p _ rfl
     ·simp [u32, AV.cells] at hj
  ·have := hw d (List.mem_of_mem_take hd)
   have h2 : IntKind.u32.min ≤ d ∧ d ≤ IntKind.u32.max := by simpa [Lit.wf] using this
   have e0 : IntKind.u32.min = 0 := by decide
   have e1 : IntKind.u32.max = 4294967295 := by decide
   show 0 ≤ d ∧ d < (4294967296 : Int)
   omega
def DigI (r : Bool × List Int) : Prop := (∀ d, d ∈ r.2 → Zar d) ∧ r.2.length ≤ maxN
theorem open_int2 (h : DataW.trod enc Tryz.prog w base (fun _ => true) held fuel 47 cs = some x) : ∃ (c0 c1 : Value) (r : Bool × List Int), cs = [c0, c1] ∧ Rep w NoM (.p (.bool r.1)) c0 ∧ Rep w NoM (.sl (r.2.map u32)) c1 ∧ DigI r := by
  obtain ⟨y0, y1, n, -, hl, h0, h1⟩ := trod_struct2 Tryz.underlying47 h
  have hl : cs.length = 2 := hl.trans (by kernel_rfl)
  match cs, hl with
  | [c0, c1], _ =>
    have h0 : DataW.trod enc Tryz.prog w base (fun _ => true) held n 4 [c0] = some y0 := h0
    have h1 : DataW.trod enc Tryz.prog w base (fun _ => true) held n 45 [c1] = some y1 := h1
    obtain ⟨b, hb, -⟩ := DataW.trod_bool Zf0 h0
    obtain ⟨c, ds, hc, hr, hd, hn⟩ := open_digs h1
    injection hb with hb
    injection hc with hc
    subst hb hc
    exact ⟨_, _, (b, ds), rfl, .p _ rfl, hr, hd, hn⟩
def DigR (r : RQ) : Prop := DigI r.1 ∧ DigI r.2
theorem open_rat4 (h : DataW.trod enc Tryz.prog w base (fun _ => true) held fuel 49 cs = some x) : ∃ (c0 c1 c2 c3 : Value) (r : RQ), cs = [c0, c1, c2, c3] ∧ Rep w NoM (.p (.bool r.1.1)) c0 ∧ Rep w NoM (.sl (r.1.2.map u32)) c1 ∧ Rep w NoM (.p (.bool r.2.1)) c2 ∧ Rep w NoM (.sl (r.2.2.map u32)) c3 ∧ DigR r := by
  obtain ⟨y0, y1, n, -, hl, h0, h1⟩ := trod_struct2 Tryz.underlying49 h
  have hl : cs.length = 4 := hl.trans (by kernel_rfl)
  match cs, hl with
  | [c0, c1, c2, c3], _ =>
    have h0 : DataW.trod enc Tryz.prog w base (fun _ => true) held n 47 [c0, c1] = some y0 := h0
    have h1 : DataW.trod enc Tryz.prog w base (fun _ => true) held n 47 [c2, c3] = some y1 := h1
    obtain ⟨d0, d1, r, e, g0, g1, hr⟩ := open_int2 h0
    obtain ⟨d2, d3, q, e', g2, g3, hq⟩ := open_int2 h1
    simp only [List.cons.injEq, and_true] at e e'
    obtain ⟨rfl, rfl⟩ := e
    obtain ⟨rfl, rfl⟩ := e'
    exact ⟨_, _, _, _, (r, q), rfl, g0, g1, g2, g3, hr, hq⟩
theorem open_rats (h : DataW.trod enc Tryz.prog w base (fun _ => true) held fuel 22 cs = some x) : ∃ (c : Value) (R : List RQ), cs = [c] ∧ Rep w NoM (.sl (R.map rawA)) c ∧ (∀ r, r ∈ R → DigR r) ∧ R.length ≤ maxN := by
 rcases Go.Deep.open_slice sl_rats h with ⟨h1, -⟩ | ⟨a, len, cap, m, n, D, Pl, rfl, -, hl, hm, hmm, -, hx⟩
 ·exact ⟨_, [], h1, .emp _ _, fun d hd => by simp at hd, by simp⟩
 ·have hmm : m = cap := hmm
  have hcap : cap ≤ maxN := hm
  have h4 : Tryz.prog.cellsOf 49 = 4 := by kernel_rfl
  rw [h4] at hx
  by_cases h0 : len = 0
  ·subst h0
   exact ⟨_, [], rfl, .emp _ _, fun d hd => by simp at hd, by simp⟩
  obtain ⟨cs0, hc0, -⟩ := hx 0 (by omega)
  obtain ⟨c, hc⟩ := plain_cells hc0 (by decide)
  rw [Nat.zero_mul] at hc
  obtain ⟨b, off, rfl⟩ := plain_at hc
  obtain ⟨G, hG⟩ := Go.Deep.choose_lt (α := RQ × (Nat → Value)) (n := m) (p := fun i g => DigR g.1 ∧ (∀ j, j < 4 → w.cell? ⟨b, off + i * 4 + j, none⟩ = some (g.2 j)) ∧ ∀ (j : Nat) c, (rawA g.1).cells[j]? = some c → Rep w NoM c (g.2 j)) (fun i hi => by
   obtain ⟨cs', hc', ht⟩ := hx i hi
   obtain ⟨c0, c1, c2, c3, r, rfl, g0, g1, g2, g3, hr⟩ := open_rat4 ht
   obtain ⟨_, -, hcell⟩ := World.cells?_some hc'
   refine ⟨(r, fun j => [c0, c1, c2, c3].getD j (.bool false)), hr, fun j hj => ?_, fun j c hjc => ?_⟩
   ·have := hcell j hj
    rw [Go.WideShapes.add_plain, Go.WideShapes.add_plain] at this
    rw [this]
    rcases j with _ | _ | _ | _ | j
    ·rfl
    ·rfl
    ·rfl
    ·rfl
    ·omega
   ·rcases j with _ | _ | _ | _ | j
    ·simp [rawA, AV.cells] at hjc; subst hjc; exact g0
    ·simp [rawA, AV.cells] at hjc; subst hjc; exact g1
    ·simp [rawA, AV.cells] at hjc; subst hjc; exact g2
    ·simp [rawA, AV.cells] at hjc; subst hjc; exact g3
    ·simp [rawA, AV.cells] at hjc)
  have hlen : (((List.range len).map fun i => (G i).1).map rawA).length = len := by simp
  have hget : ∀ (i : Nat) e, (((List.range len).map fun i => (G i).1).map rawA)[i]? = some e → i < len ∧ e = rawA (G i).1 := fun i e he => by
   have hi : i < len := by rw [← hlen]; exact (List.getElem?_eq_some_iff.1 he).1
   refine ⟨hi, ?_⟩
   simp [hi] at he
   exact he.symm
  refine ⟨_, (List.range len).map fun i => (G i).1, rfl, ?_, fun r hr => ?_, by simp; omega⟩
  ·have := Rep.sl (w := w) (M := NoM) (((List.range len).map fun i => (G i).1).map rawA) b off cap 4 (fun i j => (G i).2 j) (by rw [hlen]; exact hl) (fun i j hi hj hm => hm) (fun e he => ?_) (fun e he c hc' => ?_) (fun i j hi hj => ?_) (fun i e j c he hj => ?_)
   ·rw [hlen] at this; exact this
   ·obtain ⟨i, hi⟩ := List.getElem?_of_mem he
    rw [(hget i e hi).2]; rfl
   ·obtain ⟨i, hi⟩ := List.getElem?_of_mem he
    rw [(hget i e hi).2] at hc'
    simp [rawA, AV.cells] at hc'
    rcases hc' with rfl | rfl | rfl | rfl <;> rfl
   ·rw [hlen] at hi
    exact (hG i (by omega)).2.1 j hj
   ·obtain ⟨hi, rfl⟩ := hget i e he
    exact (hG i (by omega)).2.2 j c hj
  ·obtain ⟨i, hi, rfl⟩ := List.mem_map.1 hr
   exact (hG i (by simp at hi; omega)).1
end
structure Ser where
 from' : Int
 coef : List RQ
def serO (s : Ser) : AV := serA s.from' (s.coef.map rawA)
structure SerOK (s : Ser) : Prop where
 lo : -9223372036854775808 ≤ s.from'
 hi : s.from' ≤ 9223372036854775807
 dig : ∀ r, r ∈ s.coef → DigR r
 len : s.coef.length ≤ maxN
theorem open_ser {H : Type} {enc : TypeId × Value → H} {w : World} {base b0 : Nat} {held : Bool} {r : Reach} {v : Value} {d : DataW H} {p : List MemPlace} (hv : Value.okWide Tryz.prog w r b0 25 v) (h : DataW.Trod enc Tryz.prog w base (fun _ => true) held 25 v d p) : ∃ s : Ser, Rep w NoM (serO s) v ∧ SerOK s := by
 obtain ⟨v0, v1, y0, y1, n, rfl, -, -, h0, h1⟩ := Go.Joins.open_agg2 Tryz.underlying25 (by kernel_rfl) (by kernel_rfl) hv h
 have h0 : DataW.trod enc Tryz.prog w base (fun _ => true) held n 3 [v0] = some y0 := h0
 have h1 : DataW.trod enc Tryz.prog w base (fun _ => true) held n 22 [v1] = some y1 := h1
 obtain ⟨s, e0, -, hw⟩ := DataW.trod_int Zf9 h0
 obtain ⟨c, R, e1, hR, hd, hn⟩ := open_rats h1
 injection e0 with e0
 injection e1 with e1
 subst e0 e1
 have hw : -9223372036854775808 ≤ s ∧ s ≤ 9223372036854775807 := by
  have h2 : IntKind.i64.min ≤ s ∧ s ≤ 9223372036854775807 := by simpa [Lit.wf] using hw
  have e0 : IntKind.i64.min = -9223372036854775808 := by decide
  omega
 refine ⟨⟨s, R⟩, .agg _ _ rfl (fun c hc => ?_) (fun i c v hi hv => ?_), hw.1, hw.2, hd, hn⟩
 ·simp at hc
  rcases hc with rfl | rfl <;> rfl
 ·rcases i with _ | _ | i
  ·simp at hi hv; subst hi hv; exact .p _ rfl
  ·simp at hi hv; subst hi hv; exact hR
  ·simp at hi
end Ab
namespace Ab
open Hp
theorem lz {l : List Rat} {i : Nat} (h : i < lead l) : l.getD i 0 = 0 := by rw [List.getD_eq_getElem?_getD, Zg1 l i h]; rfl
theorem Zfv (s : Int) (l : List Rat) (k : Nat) (hk : k ≤ lead l) (n : Int) : cf (s + k) (l.drop k) n = cf s l n := by
 unfold cf
 by_cases h1 : n < s
 ·rw [if_pos (by omega), if_pos h1]
 ·rw [if_neg h1]
  by_cases h2 : n < s + k
  ·rw [if_pos h2, lz (by omega)]
  ·rw [if_neg h2, List.getD_eq_getElem?_getD, List.getD_eq_getElem?_getD, List.getElem?_drop]
   congr 2
   omega
theorem cf_ge {s : Int} {l : List Rat} {n : Int} (h : s + l.length ≤ n) : cf s l n = 0 := by
 unfold cf
 rw [if_neg (by omega), List.getD_eq_getElem?_getD, List.getElem?_eq_none (by omega)]
 rfl
theorem Zc9 {s : Int} {l : List Rat} {n : Int} (h : n < s) : cf s l n = 0 := by unfold cf; rw [if_pos h]
theorem cf_tk {s : Int} {f : Nat → Rat} {N : Nat} {n : Int} (h0 : s ≤ n) (h1 : n < s + N) : cf s (tk f N) n = f (n - s).toNat := by
 unfold cf tk
 rw [if_neg (by omega), List.getD_eq_getElem?_getD, List.getElem?_map, List.getElem?_range (by omega)]
 rfl
def Out (x : Option (Int × List Rat)) (p : Int) (f : Int → Rat) (b : Int) (K : Nat) : Prop :=
 ∃ s l, x = some (s, l) ∧ -100 ≤ s ∧ s + l.length = p ∧ p ≤ 1000 ∧ b ≤ s ∧ (∀ n, n < p → cf s l n = f n) ∧ (∀ q, q ∈ l → Ht q K) ∧ lead l = 0
theorem lead_drop (l : List Rat) : lead (l.drop (lead l)) = 0 := by
  cases h : l.drop (lead l) with
  | nil => rfl
  | cons q r =>
    have hq : q ≠ 0 := Zdq l q (by rw [show l[lead l]? = (l.drop (lead l))[0]? by simp, h]; rfl)
    unfold lead
    rw [if_neg hq]
theorem nrm_out {s : Int} {l : List Rat} {K : Nat} (h0 : -100 ≤ s) (h1 : s + l.length ≤ 1000) (hK : ∀ q, q ∈ l → Ht q K) : Out (nrm s l) (s + l.length) (cf s l) s K := by
 have a := Zbt l
 refine ⟨_, _, Zd9 h0 (by omega) (by omega), by omega, by simp; omega, h1, by omega, fun n _ => Zfv s l _ (Nat.le_refl _) n, fun q hq => hK q (List.mem_of_mem_drop hq), lead_drop l⟩
theorem Out.congr {x : Option (Int × List Rat)} {p p' : Int} {f f' : Int → Rat} {b b' : Int} {K K' : Nat} (h : Out x p f b K) (hp : p = p') (hf : ∀ n, n < p' → f n = f' n) (hb : b' ≤ b) (hK : K ≤ K') : Out x p' f' b' K' := by
 subst hp
 obtain ⟨s, l, h1, h2, h3, h4, h5, h6, h7, h8⟩ := h
 exact ⟨s, l, h1, h2, h3, h4, by omega, fun n hn => by rw [h6 n hn, hf n hn], fun q hq => (h7 q hq).mono hK, h8⟩
def su (f : Nat → Rat) : Nat → Rat
 | 0 => 0
 | j + 1 => su f j + f j
theorem Za8 {f g : Nat → Rat} : ∀ {n : Nat}, (∀ j, j < n → f j = g j) → su f n = su g n
 | 0, _ => rfl
 | n + 1, h => by rw [su, su, Za8 (fun j hj => h j (by omega)), h n (by omega)]
theorem Zc4 {f : Nat → Rat} : ∀ {n : Nat}, (∀ j, j < n → f j = 0) → su f n = 0
 | 0, _ => rfl
 | n + 1, h => by rw [su, Zc4 (fun j hj => h j (by omega)), h n (by omega), Rat.add_zero]
theorem su_add (f g : Nat → Rat) : ∀ n : Nat, su (fun j => f j + g j) n = su f n + su g n
 | 0 => by simp [su, Rat.add_zero]
 | n + 1 => by rw [su, su, su, su_add f g n]; grind
theorem su_mul (c : Rat) (f : Nat → Rat) : ∀ n : Nat, su (fun j => c * f j) n = c * su f n
 | 0 => by simp [su]
 | n + 1 => by rw [su, su, su_mul c f n, Rat.mul_add]
theorem su_split (f : Nat → Rat) (a : Nat) : ∀ k : Nat, su f (a + k) = su f a + su (fun i => f (a + i)) k
 | 0 => by simp [su, Rat.add_zero]
 | k + 1 => by rw [← Nat.add_assoc, su, su_split f a k, su, Rat.add_assoc]
def cv (A B : Int → Rat) (n : Int) : Rat := su (fun j => A ((j : Int) - 100) * B (n - ((j : Int) - 100))) (n + 201).toNat
theorem cs_su (l m : List Rat) (k : Nat) : ∀ j, cs l m k j = su (fun i => l.getD i 0 * m.getD (k - i) 0) j
 | 0 => rfl
 | j + 1 => by rw [cs, su, cs_su l m k j]
theorem cv_eq {s t : Int} {l m : List Rat} (hs : -100 ≤ s) (ht : -100 ≤ t) (n : Int) : cv (cf s l) (cf t m) n = if n < s + t then 0 else conv l m (n - s - t).toNat := by
 by_cases hn : n < s + t
 ·rw [if_pos hn]
  refine Zc4 fun j _ => ?_
  by_cases h : (j : Int) - 100 < s
  ·rw [Zc9 h, Rat.zero_mul]
  ·rw [Zc9 (s := t) (by omega), Rat.mul_zero]
 ·rw [if_neg hn]
  unfold cv conv
  obtain ⟨a, ha⟩ : ∃ a, a = (s + 100).toNat := ⟨_, rfl⟩
  obtain ⟨k, hk⟩ : ∃ k, k = (n - s - t).toNat := ⟨_, rfl⟩
  obtain ⟨r, hr⟩ : ∃ r, (n + 201).toNat = a + ((k + 1) + r) := ⟨(n + 201).toNat - (a + (k + 1)), by omega⟩
  rw [hr, su_split, su_split, ← hk, cs_su]
  rw [Zc4 (n := a) (fun j hj => by rw [Zc9 (s := s) (by omega), Rat.zero_mul])]
  rw [Zc4 (n := r) (fun j hj => by rw [Zc9 (s := t) (by omega), Rat.mul_zero])]
  rw [Rat.add_zero, Rat.zero_add]
  refine Za8 fun i hi => ?_
  unfold cf
  rw [if_neg (by omega), if_neg (by omega)]
  congr 2 <;> omega
theorem ht_conv {l m : List Rat} {K : Nat} (hK : 1 ≤ K) (hl : ∀ q, q ∈ l → Ht q K) (hm : ∀ q, q ∈ m → Ht q K) {k N : Nat} (hk : k < N) : Ht (conv l m k) ((2 * K + 1) * N + 1) :=
 (ht_cs hK hl hm k (k + 1)).mono (by have := Nat.mul_le_mul_left (2 * K + 1) (show k + 1 ≤ N by omega); omega)
theorem mul_out {s t : Int} {l m : List Rat} {K N : Nat} (hv : Zai s l.length = true) (hw : Zai t m.length = true) (hK : 1 ≤ K) (hl : ∀ q, q ∈ l → Ht q K) (hm : ∀ q, q ∈ m → Ht q K) (hN : l.length ≤ N)
  (h0 : -100 ≤ s + lead l + (t + lead m)) (h1 : min (s + lead l + (t + m.length)) (t + lead m + (s + l.length)) ≤ 1000) :
  Out (mulR s l t m) (min (s + lead l + (t + m.length)) (t + lead m + (s + l.length))) (cv (cf s l) (cf t m)) (s + lead l + (t + lead m)) ((2 * K + 1) * N + 1) := by
 obtain ⟨a0, a1, a2⟩ := Zan.1 hv
 obtain ⟨b0, b1, b2⟩ := Zan.1 hw
 have la := Zbt l
 have lb := Zbt m
 have fa : cf (s + lead l) (l.drop (lead l)) = cf s l := funext fun n => Zfv s l _ (Nat.le_refl _) n
 have fb : cf (t + lead m) (m.drop (lead m)) = cf t m := funext fun n => Zfv t m _ (Nat.le_refl _) n
 have e : mulR s l t m = mulN (s + lead l) (l.drop (lead l)) (t + lead m) (m.drop (lead m)) := by unfold mulR; rw [hv, hw]; rfl
 have n1 : (l.drop (lead l)).length = l.length - lead l := by simp
 have n2 : (m.drop (lead m)).length = m.length - lead m := by simp
 have hl' : ∀ q, q ∈ l.drop (lead l) → Ht q K := fun q hq => hl q (List.mem_of_mem_drop hq)
 have hm' : ∀ q, q ∈ m.drop (lead m) → Ht q K := fun q hq => hm q (List.mem_of_mem_drop hq)
 rw [e]
 unfold mulN
 rw [n1, n2, ← fa, ← fb]
 generalize l.drop (lead l) = l' at *
 generalize m.drop (lead m) = m' at *
 obtain ⟨M, hM⟩ : ∃ M, M = mlen (s + lead l + (t + lead m)) (l.length - lead l) (m.length - lead m) := ⟨_, rfl⟩
 rw [← hM]
 unfold mlen at hM
 have hp : s + lead l + (t + lead m) + M = min (s + lead l + (t + m.length)) (t + lead m + (s + l.length)) := by omega
 have := nrm_out (s := s + lead l + (t + lead m)) (l := tk (conv l' m') M) (K := (2 * K + 1) * N + 1) h0 (by rw [tk_len]; omega) (fun q hq => by
  obtain ⟨i, hi, rfl⟩ := Zfc hq
  exact ht_conv hK hl' hm' (by omega))
 refine this.congr (by rw [tk_len]; exact hp) (fun n hn => ?_) (Int.le_refl _) (Nat.le_refl _)
 rw [cv_eq (by omega) (by omega)]
 by_cases h : n < s + lead l + (t + lead m)
 ·rw [if_pos h, Zc9 h]
 ·rw [if_neg h, cf_tk (by omega) (by omega)]
  congr 1
  omega
theorem Ze6 {s t c : Int} {l m : List Rat} {K : Nat} (hv : Zai s l.length = true) (hw : Zai t m.length = true) (hc : c.natAbs < 4294967296) (hK : 1 ≤ K) (hl : ∀ q, q ∈ l → Ht q K) (hm : ∀ q, q ∈ m → Ht q K) :
  Out (Zdt s l t m c) (min (s + l.length) (t + m.length)) (fun n => cf s l n + c * cf t m n) (min s t) (2 * K + 2) := by
 obtain ⟨a0, a1, a2⟩ := Zan.1 hv
 obtain ⟨b0, b1, b2⟩ := Zan.1 hw
 have e : Zdt s l t m c = nrm (cfr s l.length t m.length) (tk (comb s l t m c) (cp s l.length t m.length - cfr s l.length t m.length).toNat) := by unfold Zdt; rw [hv, hw]; rfl
 rw [e]
 obtain ⟨F, hF⟩ : ∃ F, F = cfr s l.length t m.length := ⟨_, rfl⟩
 obtain ⟨G, hG⟩ : ∃ G, G = cp s l.length t m.length := ⟨_, rfl⟩
 have hcomb : comb s l t m c = fun (i : Nat) => cf s l (F + i) + c * cf t m (F + i) := by rw [hF]; rfl
 have hht : ∀ i, Ht (comb s l t m c i) (2 * K + 2) := ht_comb hK hl hm hc
 rw [← hF, ← hG]
 unfold cp at hG
 unfold cfr cp at hF
 have := nrm_out (s := F) (l := tk (comb s l t m c) (G - F).toNat) (K := 2 * K + 2) (by omega) (by rw [tk_len]; omega) (fun q hq => by
  obtain ⟨i, hi, rfl⟩ := Zfc hq
  exact hht i)
 refine this.congr (by rw [tk_len]; omega) (fun n hn => ?_) (by omega) (Nat.le_refl _)
 by_cases h : n < F
 ·rw [Zc9 h, Zc9 (s := s) (by omega), Zc9 (s := t) (by omega), Rat.mul_zero, Rat.add_zero]
 ·rw [cf_tk (by omega) (by omega), hcomb]
  simp only [show F + ((n - F).toNat : Int) = n by omega]
theorem fst_none {P : Nat → Bool} : ∀ (n j : Nat), (∀ i, j ≤ i → i < j + n → P i = false) → fst P n j = none
  | 0, _, _ => rfl
  | n + 1, j, h => by
    unfold fst
    rw [h j (Nat.le_refl _) (by omega)]
    exact fst_none n (j + 1) fun i h1 h2 => h i (by omega) (by omega)
end Ab
namespace Ab
open Go Go.RowKit Go.Proofs Hp
set_option maxRecDepth 100000
def ratO (r : RQ) : Rat := Rat.divInt (zof r.1.1 (vl r.1.2)) (zof r.2.1 (vl r.2.2))
theorem isV_raw {r : RQ} {k : Nat} (h : DigR r) (h1 : r.1.2.length ≤ k) (h2 : r.2.2.length ≤ k) : IsV (rawA r) k (ratO r) :=
 ⟨_, _, _, _, rfl, ⟨r.1.1, r.1.2, rfl, h.1.1, h1, rfl⟩, ⟨r.2.1, r.2.2, rfl, h.2.1, h2, rfl⟩, rfl⟩
theorem big_raw {r : RQ} (h : big (rawA r) = false) : r.1.2.length ≤ 4 ∧ r.2.2.length ≤ 4 := by
 simp [big, rawA] at h
 omega
theorem isL_raw {k : Nat} : ∀ {R : List RQ}, (∀ r, r ∈ R → DigR r ∧ r.1.2.length ≤ k ∧ r.2.2.length ≤ k) → IsL (R.map rawA) k (R.map ratO)
 | [], _ => trivial
 | r :: R, h => ⟨isV_raw (h r (by simp)).1 (h r (by simp)).2.1 (h r (by simp)).2.2, isL_raw fun q hq => h q (by simp [hq])⟩
theorem isL_long {n : Nat} {R : List RQ} (hd : ∀ r, r ∈ R → DigR r) (h : longB n (R.map rawA) = false) : IsL (R.map rawA) 4 (R.map ratO) ∧ R.length ≤ n := by
 unfold longB at h
 rw [Bool.or_eq_false_iff] at h
 obtain ⟨h1, h2⟩ := h
 refine ⟨isL_raw fun r hr => ⟨hd r hr, big_raw ?_⟩, by simpa using h1⟩
 have := List.any_eq_false.1 h2 (rawA r) (List.mem_map.2 ⟨r, hr, rfl⟩)
 simpa using this
def pr (a : Ser) : Int × List AV := (a.from', a.coef.map rawA)
theorem inR_ser {a : Ser} (h : SerOK a) : InR a.from' (a.coef.map rawA).length := ⟨h.lo, h.hi, by rw [List.length_map]; exact h.len⟩
structure GoodS (a : Ser) (l : List Rat) : Prop where
 isL : IsL (a.coef.map rawA) 4 l
 len : (a.coef.map rawA).length = l.length
 v : Zai a.from' l.length = true
 lo : -8 ≤ a.from'
 hi : a.from' ≤ 40
 n : l.length ≤ 12
 ht : ∀ q, q ∈ l → Ht q 4
 r : InR a.from' (a.coef.map rawA).length
theorem good {a : Ser} (h : SerOK a) (hi : inn (pr a) = true) : GoodS a (a.coef.map ratO) := by
 unfold inn pr at hi
 simp only [Bool.and_eq_true, decide_eq_true_eq, Bool.not_eq_true'] at hi
 obtain ⟨⟨⟨h1, h2⟩, h3⟩, h4⟩ := hi
 obtain ⟨h5, h6⟩ := isL_long h.dig h2
 exact ⟨h5, by simp, by simpa using h1, h3, h4, by simpa using h6, Zb2 h5 (by decide), inR_ser h⟩
theorem agr_true {s t : Int} {l m : List Rat} (hv : Zai s l.length = true) (hw : Zai t m.length = true) (h : ∀ n, n < s + l.length → n < t + m.length → cf s l n = cf t m n) : agr s l t m = true := by
 have e : difR s l t m = (min (s + l.length) (t + m.length), false, 0) := by
  unfold difR
  rw [hv, hw]
  have : fst (difP s l t m) (difN s l.length t m.length) 0 = none := fst_none _ _ fun i _ hi => by
   unfold difN at hi
   unfold difP
   rw [h _ (by omega) (by omega)]
   simp
  rw [this]
  rfl
 unfold agr
 rw [e]
 rfl
theorem both_mk {s t : Int} {es fs : List AV} {l m : List Rat} {K : Nat} (h1 : IsL es K l) (h2 : IsL fs K m) (h3 : InR s es.length) (h4 : InR t fs.length) : Both s es t fs K l m := ⟨fun _ _ => ⟨h1, h2⟩, h1.get.1, h2.get.1, h3, h4⟩
theorem Out.v {s : Int} {l : List Rat} {p : Int} (h3 : -100 ≤ s) (h4 : s + l.length = p) (h5 : p ≤ 1000) : Zai s l.length = true := Zan.2 ⟨h3, by omega, by omega⟩
theorem inR_enc {s : Int} {l : List Rat} (hv : Zai s l.length = true) : InR s (l.map encQ).length := by
 obtain ⟨a0, a1, a2⟩ := Zan.1 hv
 rw [List.length_map]
 exact ⟨by omega, by omega, by omega⟩
end Ab
