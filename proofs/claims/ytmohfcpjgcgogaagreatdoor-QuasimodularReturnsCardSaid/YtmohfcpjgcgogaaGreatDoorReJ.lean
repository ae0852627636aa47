/- Echelon forms of the expansions of monomials of small weight, and coordinates with respect to them: reckoned in the kernel. Plain arithmetic. A polynomial of one small weight is returned by its coordinates. Plain arithmetic. The echelon forms row by row, with the lengths and heights that the kernel reckoned. Plain arithmetic. Brackets of polynomials: they change at most their sign when the two change places, and brackets of polynomials without E2 are without E2. Plain arithmetic. Serre's derivative of a polynomial without E2 is without E2; a polynomial of one weight and a depth lies among the monomials. Plain arithmetic. -/
import Derived.Test.YtmohfcpjgcgogaaGreatDoorCmA
import Derived.Test.YtmohfcpjgcgogaaGreatDoorQrJ
import Derived.Test.YtmohfcpjgcgogaaGreatDoorQA2
set_option linter.all false
namespace Ab
open Go Go.RowKit Go.Proofs Hp
set_option maxRecDepth 100000
def clr (c : Rat) (a b : List Rat) : List Rat := List.zipWith (fun x y => x - c * y) a b
structure Stp where
 p : Nat
 v : List Rat
 c : List Rat
def el1 (st : List Rat × List Rat) (s : Stp) : List Rat × List Rat := (clr (st.1.getD s.p 0) st.1 s.v, clr (st.1.getD s.p 0) st.2 s.c)
def elm (L : List Stp) (st : List Rat × List Rat) : List Rat × List Rat := L.foldl el1 st
def co1 (st : List Rat × List Rat) (s : Stp) : List Rat × List Rat := (clr (st.1.getD s.p 0) st.1 s.v, clr (-(st.1.getD s.p 0)) st.2 s.c)
def cor (L : List Stp) (st : List Rat × List Rat) : List Rat × List Rat := L.foldl co1 st
def uni (n i : Nat) : List Rat := tk (fun j => if j = i then 1 else 0) n
def red1 (n : Nat) (L : List Stp) (i : Nat) (row : List Rat) : Option Stp :=
 let st := elm L (row, uni n i)
 if lead st.1 < row.length then some ⟨lead st.1, st.1.map fun x => 1 / st.1.getD (lead st.1) 0 * x, st.2.map fun x => 1 / st.1.getD (lead st.1) 0 * x⟩ else none
def redF (n : Nat) : List (List Rat) → Nat → List Stp → Option (List Stp)
  | [], _, L => some L
  | r :: R, i, L => match red1 n L i r with
    | none => none
    | some s => redF n R (i + 1) (L ++ [s])
def Zbc (w d : Nat) : List Ky := (List.range (d + 1)).flatMap fun i => if 2 * i ≤ w then ((List.range (w + 1)).flatMap fun (k : Nat) => if 2 * i + 4 * k ≤ w ∧ (w - 2 * i - 4 * k) % 6 = 0 then [((i : Int), (k : Int), (((w - 2 * i - 4 * k) / 6 : Nat) : Int))] else []) else []
def mulZ (n : Nat) (a b : List Int) : List Int := (List.range n).map fun m => suZ (fun j => a.getD j 0 * b.getD (m - j) 0) (m + 1)
def lE (n : Nat) : List Nat → List Int
 | [] => (List.range n).map fun m => if m = 0 then 1 else 0
 | k :: l => mulZ n (lE n l) ((List.range n).map (eiZ k))
def Zcs (w d : Nat) : List (List Rat) := (Zbc w d).map fun k => (lE 20 (qK k)).map fun (z : Int) => (z : Rat)
theorem clr_tk (x : Rat) (f g : Nat → Rat) (n : Nat) : clr x (tk f n) (tk g n) = tk (fun j => f j - x * g j) n := by
 unfold clr tk
 rw [List.zipWith_map, List.zipWith_self]
theorem Zdq {x : Rat} {a b : List Rat} {n : Nat} (ha : a.length = n) (hb : b.length = n) : (clr x a b).length = n := by
 unfold clr
 rw [List.length_zipWith, ha, hb, Nat.min_self]
theorem clr_get {x : Rat} {a b : List Rat} {n : Nat} (ha : a.length = n) (hb : b.length = n) (j : Nat) (hj : j < n) : (clr x a b).getD j 0 = a.getD j 0 - x * b.getD j 0 := by
 have e := clr_tk x (fun i => a.getD i 0) (fun i => b.getD i 0) n
 rw [← ha, ← tk_of a, ha] at e
 rw [← hb, ← tk_of b, hb] at e
 rw [e, Zco hj]
def lc2 (c : Nat → Rat) (n : Nat) (V : Nat → List Rat × List Rat) (m k : Nat) : List Rat × List Rat := (tk (fun j => su (fun i => c i * (V i).1.getD j 0) n) m, tk (fun j => su (fun i => c i * (V i).2.getD j 0) n) k)
theorem su_lin (c a b : Nat → Rat) (y : Rat) (n : Nat) : su (fun i => c i * (a i - b i * y)) n = su (fun i => c i * a i) n - su (fun i => c i * b i) n * y := by
 have e : su (fun i => c i * (a i - b i * y)) n = su (fun i => c i * a i + (-y) * (c i * b i)) n := Zay fun i _ => by grind
 rw [e, su_add, Zgq]
 grind
theorem co1_lin {c : Nat → Rat} {n m k : Nat} {V : Nat → List Rat × List Rat} {s : Stp} (hV : ∀ i, i < n → (V i).1.length = m ∧ (V i).2.length = k) (hs : s.v.length = m ∧ s.c.length = k ∧ s.p < m) : co1 (lc2 c n V m k) s = lc2 c n (fun i => co1 (V i) s) m k := by
 obtain ⟨h1, h2, h3⟩ := hs
 have e1 : s.v = tk (fun i => s.v.getD i 0) m := by rw [← h1]; exact tk_of _
 have e2 : s.c = tk (fun i => s.c.getD i 0) k := by rw [← h2]; exact tk_of _
 unfold co1 lc2
 simp only
 rw [Zco h3]
 refine Prod.ext ?_ ?_
 ·show clr _ (tk _ m) s.v = _
  conv => lhs; rw [e1]
  rw [clr_tk]
  refine Zbw fun j hj => ?_
  have e : su (fun i => c i * (clr ((V i).1.getD s.p 0) (V i).1 s.v).getD j 0) n = su (fun i => c i * ((V i).1.getD j 0 - (V i).1.getD s.p 0 * s.v.getD j 0)) n := Zay fun i hi => by rw [clr_get (hV i hi).1 h1 j hj]
  rw [e, su_lin]
 ·show clr _ (tk _ k) s.c = _
  conv => lhs; rw [e2]
  rw [clr_tk]
  refine Zbw fun j hj => ?_
  have e : su (fun i => c i * (clr (-(V i).1.getD s.p 0) (V i).2 s.c).getD j 0) n = su (fun i => c i * ((V i).2.getD j 0 - (V i).1.getD s.p 0 * (-s.c.getD j 0))) n := Zay fun i hi => by
   rw [clr_get (hV i hi).2 h2 j hj]
   congr 1
   grind
  rw [e, su_lin]
  grind
def stpOK (m k : Nat) (s : Stp) : Prop := s.v.length = m ∧ s.c.length = k ∧ s.p < m
theorem cor_lin {c : Nat → Rat} {n m k : Nat} : ∀ (L : List Stp) (V : Nat → List Rat × List Rat), (∀ i, i < n → (V i).1.length = m ∧ (V i).2.length = k) → (∀ s, s ∈ L → stpOK m k s) → cor L (lc2 c n V m k) = lc2 c n (fun i => cor L (V i)) m k
  | [], _, _, _ => rfl
  | s :: L, V, hV, hL => by
    have hs := hL s (List.mem_cons_self ..)
    show cor L (co1 (lc2 c n V m k) s) = lc2 c n (fun i => cor L (co1 (V i) s)) m k
    rw [co1_lin hV hs]
    exact cor_lin L _ (fun i hi => ⟨Zdq (hV i hi).1 hs.1, Zdq (hV i hi).2 hs.2.1⟩) fun u hu => hL u (List.mem_cons_of_mem _ hu)
theorem cor_app (A B : List Stp) (st : List Rat × List Rat) : cor (A ++ B) st = cor B (cor A st) := by unfold cor; rw [List.foldl_append]
def zer (n : Nat) : List Rat := tk (fun _ => 0) n
def Zcf (l : List Rat) : Bool := l.all (htB 4)
def smallS (s : Stp) : Bool := Zcf s.v && Zcf s.c
def corS (st : List Rat × List Rat) : List Stp → Bool
 | [] => Zcf st.1 && Zcf st.2
 | s :: L => Zcf st.1 && Zcf st.2 && corS (co1 st s) L
def elmS (st : List Rat × List Rat) : List Stp → Bool
 | [] => Zcf st.1 && Zcf st.2
 | s :: L => Zcf st.1 && Zcf st.2 && elmS (el1 st s) L
def redS (n : Nat) : List (List Rat) → Nat → List Stp → Bool
  | [], _, _ => true
  | r :: R, i, L => elmS (r, uni n i) L && match red1 n L i r with
    | none => false
    | some s => smallS s && decide (s.v.length = 20) && decide (s.c.length = n) && decide (s.p < 20) && redS n R (i + 1) (L ++ [s])
def Zdf (w d : Nat) : List Stp := (redF (Zbc w d).length (Zcs w d) 0 []).getD []
def chkW (w d : Nat) : Bool := redS (Zbc w d).length (Zcs w d) 0 [] && (redF (Zbc w d).length (Zcs w d) 0 []).isSome && (List.range (Zbc w d).length).all fun i => decide (cor (Zdf w d) ((Zcs w d).getD i [], zer (Zbc w d).length) = (zer 20, uni (Zbc w d).length i)) && corS ((Zcs w d).getD i [], zer (Zbc w d).length) (Zdf w d)
def chkAll : Bool := (List.range 7).all fun h => (List.range 7).all fun d => chkW (2 * h) d
theorem chkAll_ok : chkAll = true := by decide +kernel
end Ab
namespace Ab
open Go Go.RowKit Go.Proofs Hp
set_option maxRecDepth 100000
def lsum (f : Ky → Rat) : List Ky → Rat
 | [] => 0
 | κ :: K => f κ + lsum f K
theorem lsum_su (f : Ky → Rat) : ∀ K : List Ky, su (fun i => f (K.getD i (0, 0, 0))) K.length = lsum f K
  | [] => rfl
  | κ :: K => by
    rw [List.length_cons, su_front, lsum, ← lsum_su f K]
    rfl
theorem lsum_add (f g : Ky → Rat) : ∀ K : List Ky, lsum (fun κ => f κ + g κ) K = lsum f K + lsum g K
 | [] => (Rat.add_zero 0).symm
 | κ :: K => by rw [lsum, lsum, lsum, lsum_add f g K]; grind
theorem lsum_z {f : Ky → Rat} : ∀ {K : List Ky}, (∀ κ, κ ∈ K → f κ = 0) → lsum f K = 0
 | [], _ => rfl
 | κ :: K, h => by rw [lsum, h κ (List.mem_cons_self ..), lsum_z fun x hx => h x (List.mem_cons_of_mem _ hx), Rat.add_zero]
theorem lsum_ind (q : Rat) (φ : Ky → Rat) (x : Ky) : ∀ K : List Ky, K.Pairwise (fun a b => a ≠ b) → x ∈ K → lsum (fun κ => (if x = κ then q else 0) * φ κ) K = q * φ x
  | [], _, h => by cases h
  | κ :: K, hn, h => by
    obtain ⟨h1, h2⟩ := List.pairwise_cons.1 hn
    rw [lsum]
    by_cases e : x = κ
    · subst e
      rw [if_pos rfl, lsum_z fun y hy => by rw [if_neg (h1 y hy), Rat.zero_mul], Rat.add_zero]
    · rw [if_neg e, Rat.zero_mul, Rat.zero_add]
      exact lsum_ind q φ x K h2 (by
        rcases List.mem_cons.1 h with h | h
        · exact absurd h e
        · exact h)
theorem lf_keys {K : List Ky} (hn : K.Pairwise (fun a b => a ≠ b)) (φ : Ky → Rat) : ∀ P : List QT, (∀ t, t ∈ P → t.k ∈ K) → qlf φ P = lsum (fun κ => qco P κ * φ κ) K
  | [], _ => (lsum_z fun κ _ => Rat.zero_mul _).symm
  | t :: P, h => by
    have e : (fun κ => qco (t :: P) κ * φ κ) = fun κ => (if t.k = κ then t.q else 0) * φ κ + qco P κ * φ κ := funext fun κ => by rw [qco, Rat.add_mul]
    rw [qlf, e, lsum_add, lsum_ind _ _ _ _ hn (h t (List.mem_cons_self ..)), lf_keys hn φ P fun u hu => h u (List.mem_cons_of_mem _ hu)]
theorem suZ_cg {f g : Nat → Int} : ∀ {n : Nat}, (∀ j, j < n → f j = g j) → suZ f n = suZ g n
 | 0, _ => rfl
 | n + 1, h => by rw [suZ, suZ, suZ_cg fun j hj => h j (by omega), h n (by omega)]
theorem rg_get {f : Nat → Int} {n i : Nat} (h : i < n) : ((List.range n).map f).getD i 0 = f i := by
 rw [List.getD_eq_getElem?_getD, List.getElem?_map, List.getElem?_range h]
 rfl
theorem lE_get (n : Nat) : ∀ (l : List Nat) (j : Nat), j < n → (lE n l).getD j 0 = zE l j
  | [], j, h => rg_get h
  | k :: l, j, h => by
    show (mulZ n (lE n l) ((List.range n).map (eiZ k))).getD j 0 = _
    unfold mulZ
    rw [rg_get h]
    show _ = suZ (fun i => zE l i * eiZ k (j - i)) (j + 1)
    exact suZ_cg fun i hi => by rw [lE_get n l i (by omega), rg_get (by omega)]
def keyOK : Bool := (List.range 7).all fun h => (List.range 7).all fun d => decide ((Zbc (2 * h) d).Pairwise fun a b => a ≠ b) && (List.range 7).all fun a => (List.range 4).all fun b => (List.range 3).all fun c => !(decide (a ≤ d) && decide (2 * a + 4 * b + 6 * c = 2 * h)) || decide (((a : Int), (b : Int), (c : Int)) ∈ Zbc (2 * h) d)
theorem keyOK_ok : keyOK = true := by decide +kernel
theorem keys_n {h d : Nat} (hh : h ≤ 6) (hd : d ≤ 6) : (Zbc (2 * h) d).Pairwise fun a b => a ≠ b := by
 have h1 := List.all_eq_true.1 (List.all_eq_true.1 keyOK_ok h (List.mem_range.2 (by omega))) d (List.mem_range.2 (by omega))
 rw [Bool.and_eq_true] at h1
 exact of_decide_eq_true h1.1
theorem keys_all {h d a b c : Nat} (hh : h ≤ 6) (hd : d ≤ 6) (ha : a ≤ d) (hw : 2 * a + 4 * b + 6 * c = 2 * h) : ((a : Int), (b : Int), (c : Int)) ∈ Zbc (2 * h) d := by
 have h1 := List.all_eq_true.1 (List.all_eq_true.1 keyOK_ok h (List.mem_range.2 (by omega))) d (List.mem_range.2 (by omega))
 rw [Bool.and_eq_true] at h1
 have h2 := List.all_eq_true.1 (List.all_eq_true.1 (List.all_eq_true.1 h1.2 a (List.mem_range.2 (by omega))) b (List.mem_range.2 (by omega))) c (List.mem_range.2 (by omega))
 rw [decide_eq_true ha, decide_eq_true hw] at h2
 exact of_decide_eq_true (by simpa using h2)
theorem chk_at {h d : Nat} (hh : h ≤ 6) (hd : d ≤ 6) : chkW (2 * h) d = true :=
 List.all_eq_true.1 (List.all_eq_true.1 chkAll_ok h (List.mem_range.2 (by omega))) d (List.mem_range.2 (by omega))
theorem row_get {w d i j : Nat} (hi : i < (Zbc w d).length) (hj : j < 20) : ((Zcs w d).getD i []).getD j 0 = qE (qK ((Zbc w d).getD i (0, 0, 0))) j := by
 have e : (Zcs w d).getD i [] = (lE 20 (qK ((Zbc w d).getD i (0, 0, 0)))).map fun (z : Int) => (z : Rat) := by
  unfold Zcs
  rw [List.getD_eq_getElem?_getD, List.getD_eq_getElem?_getD, List.getElem?_map, List.getElem?_eq_getElem hi]
  rfl
 rw [e, qE_Z _ (qK_all _), ← lE_get 20 _ j hj]
 have hl : (lE 20 (qK ((Zbc w d).getD i (0, 0, 0)))).length = 20 := by
  generalize qK _ = l
  cases l with
  | nil => show ((List.range 20).map _).length = 20; simp
  | cons k l => show (mulZ 20 _ _).length = 20; unfold mulZ; simp
 generalize lE 20 (qK ((Zbc w d).getD i (0, 0, 0))) = L at *
 rw [List.getD_eq_getElem?_getD, List.getD_eq_getElem?_getD, List.getElem?_map, List.getElem?_eq_getElem (by omega)]
 rfl
structure InW (h d : Nat) (P : List QT) : Prop where
 hh : h ≤ 6
 hd : d ≤ 6
 k : ∀ t, t ∈ P → t.k ∈ Zbc (2 * h) d
def cf0 (h d : Nat) (P : List QT) (i : Nat) : Rat := qco P ((Zbc (2 * h) d).getD i (0, 0, 0))
theorem InW.vec {h d : Nat} {P : List QT} (H : InW h d P) {j : Nat} (hj : j < 20) : qlf (xP j) P = su (fun i => cf0 h d P i * ((Zcs (2 * h) d).getD i []).getD j 0) (Zbc (2 * h) d).length := by
 rw [lf_keys (keys_n H.hh H.hd) (xP j) P H.k, ← lsum_su]
 exact Zay fun i hi => by rw [row_get hi hj]; rfl
theorem InW.crd {h d : Nat} {P : List QT} (H : InW h d P) (hl : ∀ i, i < (Zbc (2 * h) d).length → ((Zcs (2 * h) d).getD i []).length = 20) (hf : ∀ s, s ∈ Zdf (2 * h) d → stpOK 20 (Zbc (2 * h) d).length s) :
  cor (Zdf (2 * h) d) (tk (fun j => qlf (xP j) P) 20, zer (Zbc (2 * h) d).length) = (zer 20, tk (cf0 h d P) (Zbc (2 * h) d).length) := by
 have hc := chk_at H.hh H.hd
 unfold chkW at hc
 simp only [Bool.and_eq_true] at hc
 have hc := hc.2
 generalize hn : (Zbc (2 * h) d).length = n at *
 have l := cor_lin (c := cf0 h d P) (n := n) (m := 20) (k := n) (Zdf (2 * h) d) (fun i => ((Zcs (2 * h) d).getD i [], zer n)) (fun i hi => ⟨hl i hi, by unfold zer; rw [tk_len]⟩) hf
 have e1 : lc2 (cf0 h d P) n (fun i => ((Zcs (2 * h) d).getD i [], zer n)) 20 n = (tk (fun j => qlf (xP j) P) 20, zer n) := by
  unfold lc2 zer
  refine congr (congrArg Prod.mk (Zbw fun j hj => ?_)) (Zbw fun j hj => ?_)
  ·rw [H.vec hj, hn]
  ·rw [Zay (g := fun _ => 0) fun i _ => by rw [Zco hj, Rat.mul_zero]]
   exact Zcr fun _ _ => rfl
 rw [← e1, l]
 unfold lc2
 have hv : ∀ i, i < n → cor (Zdf (2 * h) d) ((Zcs (2 * h) d).getD i [], zer n) = (zer 20, uni n i) := fun i hi => by
  have h1 := List.all_eq_true.1 hc i (List.mem_range.2 hi)
  rw [Bool.and_eq_true] at h1
  exact of_decide_eq_true h1.1
 refine congr (congrArg Prod.mk (Zbw fun j hj => ?_)) (Zbw fun j hj => ?_)
 ·rw [Zay (g := fun _ => 0) fun i hi => by
   show cf0 h d P i * (cor (Zdf (2 * h) d) ((Zcs (2 * h) d).getD i [], zer n)).1.getD j 0 = _
   rw [hv i hi]
   unfold zer
   rw [Zco hj, Rat.mul_zero]]
  exact Zcr fun _ _ => rfl
 ·rw [Zay (g := fun i => if i = j then cf0 h d P i else 0) fun i hi => by
   show cf0 h d P i * (cor (Zdf (2 * h) d) ((Zcs (2 * h) d).getD i [], zer n)).2.getD j 0 = _
   rw [hv i hi]
   unfold uni
   rw [Zco hj]
   by_cases e : j = i
   ·rw [if_pos e, if_pos e.symm, Rat.mul_one]
   ·rw [if_neg e, if_neg fun x => e x.symm, Rat.mul_zero]]
  have s := su_split (fun i => if i = j then cf0 h d P i else 0) (j + 1) (n - (j + 1))
  rw [show j + 1 + (n - (j + 1)) = n by omega] at s
  rw [s, su, if_pos rfl, Zcr fun i hi => if_neg (by omega), Zcr fun i hi => if_neg (by omega), Rat.zero_add, Rat.add_zero]
end Ab
namespace Ab
open Go Go.RowKit Go.Proofs Hp
set_option maxRecDepth 100000
def st0 : Stp := ⟨0, [], []⟩
structure FormOK (n : Nat) (R : List (List Rat)) (F : List Stp) : Prop where
 l : F.length = R.length
 e : ∀ i, i < R.length → red1 n (F.take i) i (R.getD i []) = some (F.getD i st0)
 s : ∀ i, i < R.length → ∀ j, j ≤ i → Zcf (elm (F.take j) (R.getD i [], uni n i)).1 = true ∧ Zcf (elm (F.take j) (R.getD i [], uni n i)).2 = true
 k : ∀ s, s ∈ F → stpOK 20 n s ∧ smallS s = true
theorem elmS_at : ∀ (L : List Stp) (st : List Rat × List Rat), elmS st L = true → ∀ j, j ≤ L.length → Zcf (elm (L.take j) st).1 = true ∧ Zcf (elm (L.take j) st).2 = true
  | [], st, h, j, hj => by
    obtain rfl : j = 0 := by simpa using hj
    unfold elmS at h
    rw [Bool.and_eq_true] at h
    exact h
  | s :: L, st, h, j, hj => by
    unfold elmS at h
    rw [Bool.and_eq_true, Bool.and_eq_true] at h
    rcases j with _ | j
    · exact h.1
    · exact elmS_at L (el1 st s) h.2 j (by simpa using hj)
theorem corS_at : ∀ (L : List Stp) (st : List Rat × List Rat), corS st L = true → ∀ j, j ≤ L.length → Zcf (cor (L.take j) st).1 = true ∧ Zcf (cor (L.take j) st).2 = true
  | [], st, h, j, hj => by
    obtain rfl : j = 0 := by simpa using hj
    unfold corS at h
    rw [Bool.and_eq_true] at h
    exact h
  | s :: L, st, h, j, hj => by
    unfold corS at h
    rw [Bool.and_eq_true, Bool.and_eq_true] at h
    rcases j with _ | j
    · exact h.1
    · exact corS_at L (co1 st s) h.2 j (by simpa using hj)
theorem red_form (n : Nat) : ∀ (R R0 : List (List Rat)) (L F : List Stp), FormOK n R0 L → redF n R R0.length L = some F → redS n R R0.length L = true → FormOK n (R0 ++ R) F
  | [], R0, L, F, h, e, _ => by
    obtain rfl : L = F := by simpa [redF] using e
    rw [List.append_nil]
    exact h
  | r :: R, R0, L, F, h, e, hs => by
    unfold redS at hs
    unfold redF at e
    rw [Bool.and_eq_true] at hs
    obtain ⟨h1, h2⟩ := hs
    cases hr : red1 n L R0.length r with
    | none => rw [hr] at e; cases e
    | some s =>
      rw [hr] at e h2
      simp only [Bool.and_eq_true, decide_eq_true_eq] at h2 e
      obtain ⟨⟨⟨⟨k1, k2⟩, k3⟩, k4⟩, k5⟩ := h2
      have hl : (R0 ++ [r]).length = R0.length + 1 := by simp
      have hE := elmS_at L _ h1
      have ih := red_form n R (R0 ++ [r]) (L ++ [s]) F ⟨by rw [hl, List.length_append, h.l]; rfl, fun i hi => ?_, fun i hi j hj => ?_, fun u hu => ?_⟩ (by rw [hl]; exact e) (by rw [hl]; exact k5)
      · rw [List.append_assoc] at ih
        exact ih
      · by_cases hi2 : i < R0.length
        · have := h.e i hi2
          rw [List.take_append_of_le_length (by rw [h.l]; omega), List.getD_eq_getElem?_getD, List.getD_eq_getElem?_getD, List.getElem?_append_left hi2, List.getElem?_append_left (by rw [h.l]; exact hi2), ← List.getD_eq_getElem?_getD, ← List.getD_eq_getElem?_getD]
          exact this
        · obtain rfl : i = R0.length := by omega
          have a1 : (L ++ [s]).take R0.length = L := by rw [← h.l]; simp
          have a2 : (R0 ++ [r]).getD R0.length [] = r := by simp
          have a3 : (L ++ [s]).getD R0.length st0 = s := by rw [← h.l]; simp
          rw [a1, a2, a3, hr]
      · by_cases hi2 : i < R0.length
        · have := h.s i hi2 j hj
          rw [List.take_append_of_le_length (by rw [h.l]; omega), List.getD_eq_getElem?_getD, List.getElem?_append_left hi2, ← List.getD_eq_getElem?_getD]
          exact this
        · obtain rfl : i = R0.length := by omega
          have a2 : (R0 ++ [r]).getD R0.length [] = r := by simp
          rw [List.take_append_of_le_length (by rw [h.l]; omega), a2]
          exact hE j (by rw [h.l]; exact hj)
      · rcases List.mem_append.1 hu with hu | hu
        · exact h.k u hu
        · rw [List.mem_singleton.1 hu]
          exact ⟨⟨k2, k3, k4⟩, k1⟩
theorem form_ok {h d : Nat} (hh : h ≤ 6) (hd : d ≤ 6) : FormOK (Zbc (2 * h) d).length (Zcs (2 * h) d) (Zdf (2 * h) d) := by
 have hc := chk_at hh hd
 unfold chkW at hc
 simp only [Bool.and_eq_true] at hc
 obtain ⟨⟨h1, h2⟩, -⟩ := hc
 have e : redF (Zbc (2 * h) d).length (Zcs (2 * h) d) 0 [] = some (Zdf (2 * h) d) := by
  unfold Zdf
  obtain ⟨F, hF⟩ := Option.isSome_iff_exists.1 h2
  rw [hF]
  rfl
 exact red_form _ (Zcs (2 * h) d) [] [] _ ⟨rfl, fun i hi => absurd hi (by simp), fun i hi => absurd hi (by simp), fun s hs => (by cases hs)⟩ e h1
theorem cor_small {h d : Nat} (hh : h ≤ 6) (hd : d ≤ 6) {i : Nat} (hi : i < (Zbc (2 * h) d).length) : ∀ j, j ≤ (Zdf (2 * h) d).length → Zcf (cor ((Zdf (2 * h) d).take j) ((Zcs (2 * h) d).getD i [], zer (Zbc (2 * h) d).length)).1 = true ∧ Zcf (cor ((Zdf (2 * h) d).take j) ((Zcs (2 * h) d).getD i [], zer (Zbc (2 * h) d).length)).2 = true := by
 have hc := chk_at hh hd
 unfold chkW at hc
 simp only [Bool.and_eq_true] at hc
 have h1 := List.all_eq_true.1 hc.2 i (List.mem_range.2 hi)
 rw [Bool.and_eq_true] at h1
 exact corS_at _ _ h1.2
end Ab
namespace Ab
open Go Go.RowKit Go.Proofs Hp
set_option maxRecDepth 100000
def kad (x y : Ky) : Ky := (x.1 + y.1, x.2.1 + y.2.1, x.2.2 + y.2.2)
theorem lf_cg {φ ψ : Ky → Rat} : ∀ {p : List QT}, (∀ t, t ∈ p → φ t.k = ψ t.k) → qlf φ p = qlf ψ p
 | [], _ => rfl
 | t :: p, h => by rw [qlf, qlf, h t (List.mem_cons_self ..), lf_cg fun u hu => h u (List.mem_cons_of_mem _ hu)]
theorem lf_addf (φ ψ : Ky → Rat) : ∀ p : List QT, qlf (fun x => φ x + ψ x) p = qlf φ p + qlf ψ p
 | [] => (Rat.add_zero 0).symm
 | t :: p => by rw [qlf, qlf, qlf, lf_addf φ ψ p]; grind
theorem lf_scf (c : Rat) (φ : Ky → Rat) : ∀ p : List QT, qlf (fun x => c * φ x) p = c * qlf φ p
 | [] => (Rat.mul_zero c).symm
 | t :: p => by rw [qlf, qlf, lf_scf c φ p]; grind
theorem lf_prg (φ : Ky → Rat) (s : QT) : ∀ r : List QT, qlf φ (r.map (qpr s)) = s.q * qlf (fun y => φ (kad s.k y)) r
  | [] => (Rat.mul_zero _).symm
  | t :: r => by
    show (s.q * t.q) * φ (kad s.k t.k) + qlf φ (r.map (qpr s)) = s.q * (t.q * φ (kad s.k t.k) + qlf (fun y => φ (kad s.k y)) r)
    rw [lf_prg φ s r, Rat.mul_add, Rat.mul_assoc]
theorem lf_mlg (φ : Ky → Rat) (r : List QT) : ∀ p : List QT, qlf φ (qml p r) = qlf (fun x => qlf (fun y => φ (kad x y)) r) p
  | [] => rfl
  | t :: p => by
    have e : qml (t :: p) r = r.map (qpr t) ++ qml p r := by unfold qml; rw [List.flatMap_cons]
    rw [e, qlf_app, lf_prg, lf_mlg φ r p]
    rfl
theorem lf_adg (φ : Ky → Rat) (t : QT) (m d a b c : Int) : qlf φ (qad t m d a b c) = t.q * ((m : Rat) / (d : Rat)) * φ (t.a + a, t.b + b, t.c + c) := by
 unfold qad
 split
 ·rename_i h
  rw [h]
  show (0 : Rat) = _
  rw [show ((0 : Int) : Rat) = 0 from rfl]
  grind
 ·show t.q * ((m : Rat) / (d : Rat)) * φ _ + 0 = _
  rw [Rat.add_zero]
  rfl
def dst (φ : Ky → Rat) (x : Ky) : Rat :=
 (x.1 : Rat) * (1 / 12) * (φ (x.1 + 1, x.2.1, x.2.2) - φ (x.1 - 1, x.2.1 + 1, x.2.2)) + (x.2.1 : Rat) * (1 / 3) * (φ (x.1 + 1, x.2.1, x.2.2) - φ (x.1, x.2.1 - 1, x.2.2 + 1)) +
 (x.2.2 : Rat) * (1 / 2) * (φ (x.1 + 1, x.2.1, x.2.2) - φ (x.1, x.2.1 + 2, x.2.2 - 1))
theorem lf_d1g (φ : Ky → Rat) (t : QT) : qlf φ (qd1 t) = t.q * dst φ t.k := by
 obtain ⟨a, b, c, q⟩ := t
 unfold qd1 dst QT.k
 simp only [qlf_app, lf_adg]
 have j : ∀ x : Int, ((-x : Int) : Rat) = -(x : Rat) := fun x => Rat.intCast_neg x
 have k12 : ((12 : Int) : Rat) = 12 := rfl
 have k3 : ((3 : Int) : Rat) = 3 := rfl
 have k2 : ((2 : Int) : Rat) = 2 := rfl
 simp only [Int.add_zero, j, k12, k3, k2, show ∀ x : Int, x + -1 = x - 1 from fun _ => rfl]
 generalize φ (a + 1, b, c) = X
 generalize φ (a - 1, b + 1, c) = Y
 generalize φ (a, b - 1, c + 1) = Z
 generalize φ (a, b + 2, c - 1) = W
 generalize (a : Rat) = a'
 generalize (b : Rat) = b'
 generalize (c : Rat) = c'
 grind
theorem lf_dvg (φ : Ky → Rat) : ∀ p : List QT, qlf φ (qdv p) = qlf (dst φ) p
  | [] => rfl
  | t :: p => by
    have e : qdv (t :: p) = qd1 t ++ qdv p := by unfold qdv; rw [List.flatMap_cons]
    rw [e, qlf_app, lf_d1g, lf_dvg φ p, qlf]
def det (φ : Ky → Rat) (x : Ky) : Rat := 12 * (x.1 : Rat) * φ (x.1 - 1, x.2.1, x.2.2)
def wtK (x : Ky) : Int := 2 * x.1 + 4 * x.2.1 + 6 * x.2.2
theorem dst_det (φ : Ky → Rat) (x : Ky) : dst (det φ) x = det (dst φ) x + (wtK x : Rat) * φ x := by
 obtain ⟨a, b, c⟩ := x
 unfold dst det wtK
 simp only
 have e1 : ((2 * a + 4 * b + 6 * c : Int) : Rat) = 2 * (a : Rat) + 4 * (b : Rat) + 6 * (c : Rat) := by
  rw [Rat.intCast_add, Rat.intCast_add, Rat.intCast_mul, Rat.intCast_mul, Rat.intCast_mul]
  rfl
 have e2 : ((a + 1 : Int) : Rat) = (a : Rat) + 1 := by rw [Rat.intCast_add]; rfl
 have e3 : ((a - 1 : Int) : Rat) = (a : Rat) - 1 := by rw [Rat.intCast_sub]; rfl
 rw [e1, e2, e3, show a + 1 - 1 = a by omega, show a - 1 + 1 = a by omega]
 generalize φ (a, b, c) = X
 generalize φ (a - 1 - 1, b + 1, c) = Y
 generalize φ (a - 1, b - 1, c + 1) = Z
 generalize φ (a - 1, b + 2, c - 1) = W
 generalize (a : Rat) = a'
 generalize (b : Rat) = b'
 generalize (c : Rat) = c'
 grind
theorem lf_D (φ : Ky → Rat) (i : Nat) (p : List QT) : qlf φ (qD (i + 1) p) = qlf (dst φ) (qD i p) := by
 rw [qD, qlf_nf, lf_dvg]
theorem dv_wt {p : List QT} {k : Int} (h : ∀ t, t ∈ p → wtK t.k = k) : ∀ u, u ∈ qdv p → wtK u.k = k + 2 := fun u hu => by
 unfold qdv at hu
 obtain ⟨t, ht, hu⟩ := List.mem_flatMap.1 hu
 have := h t ht
 unfold qd1 at hu
 simp only [List.mem_append] at hu
 rcases hu with hu | hu | hu | hu | hu | hu <;> (obtain ⟨h0, rfl⟩ := qad_mem hu; unfold wtK QT.k at *; simp only at *; omega)
theorem nf_wt {p : List QT} {k : Int} (h : ∀ t, t ∈ p → wtK t.k = k) : ∀ u, u ∈ qnf p → wtK u.k = k := fun u hu => by
 obtain ⟨v, hv, e⟩ := Zff hu
 rw [← e]
 exact h v hv
theorem D_wt {p : List QT} {k : Int} (h : ∀ t, t ∈ p → wtK t.k = k) : ∀ i : Nat, ∀ u, u ∈ qD i p → wtK u.k = k + 2 * i
  | 0, u, hu => by rw [h u hu]; simp
  | i + 1, u, hu => by
    rw [nf_wt (dv_wt (D_wt h i)) u hu]
    omega
theorem del_D {p : List QT} {k : Int} (h : ∀ t, t ∈ p → wtK t.k = k) (h0 : ∀ t, t ∈ p → t.a = 0) : ∀ (i : Nat) (φ : Ky → Rat), qlf (det φ) (qD i p) = ((i * (k + i - 1) : Int) : Rat) * qlf φ (qD (i - 1) p)
  | 0, φ => by
    have e : qlf (det φ) p = qlf (fun _ => 0 * 0) p := lf_cg fun t ht => by
      unfold det QT.k
      rw [h0 t ht]
      show 12 * (0 : Rat) * _ = _
      grind
    show qlf (det φ) p = _
    rw [e, lf_scf, show (((0 : Nat) : Int) * (k + ((0 : Nat) : Int) - 1)) = 0 by simp]
    show _ = (0 : Rat) * _
    rw [Rat.zero_mul, Rat.zero_mul]
  | i + 1, φ => by
    have ih := del_D h h0 i (dst φ)
    have e : qlf (dst (det φ)) (qD i p) = qlf (fun x => det (dst φ) x + ((k + 2 * i : Int) : Rat) * φ x) (qD i p) := lf_cg fun t ht => by
      rw [dst_det, D_wt h i t ht]
    have e2 : ((i : Nat) : Int) = 0 ∨ qlf (dst φ) (qD (i - 1) p) = qlf φ (qD i p) := by
      rcases i with _ | i
      · exact .inl rfl
      · exact .inr (lf_D φ i p).symm
    rw [lf_D, e, lf_addf, lf_scf, ih, show i + 1 - 1 = i from rfl]
    have e3 : (((i + 1 : Nat) : Int) * (k + ((i + 1 : Nat) : Int) - 1)) = (i : Int) * (k + i - 1) + (k + 2 * i) := by
      rw [show ((i + 1 : Nat) : Int) = (i : Int) + 1 by omega]
      grind
    have e4 : (((i : Int) * (k + i - 1) + (k + 2 * i) : Int) : Rat) = (((i : Int) * (k + i - 1) : Int) : Rat) + ((k + 2 * i : Int) : Rat) := Rat.intCast_add ..
    rw [e3, e4, Rat.add_mul]
    rcases e2 with e2 | e2
    · rw [show (i : Int) * (k + i - 1) = 0 by rw [e2, Int.zero_mul], show ((0 : Int) : Rat) = 0 from rfl, Rat.zero_mul, Rat.zero_mul]
    · rw [e2]
def indK (κ : Ky) (x : Ky) : Rat := if x = κ then 1 else 0
theorem det_ind (a b c : Int) : ∀ p : List QT, qlf (det (indK (a - 1, b, c))) p = 12 * (a : Rat) * qco p (a, b, c)
  | [] => (Rat.mul_zero _).symm
  | t :: p => by
    rw [qlf, qco, det_ind a b c p]
    obtain ⟨ta, tb, tc, q⟩ := t
    unfold det indK QT.k
    simp only [Prod.mk.injEq]
    by_cases h : ta = a ∧ tb = b ∧ tc = c
    · obtain ⟨rfl, rfl, rfl⟩ := h
      rw [if_pos ⟨rfl, rfl, rfl⟩, if_pos ⟨rfl, rfl, rfl⟩]
      generalize (ta : Rat) = x
      grind
    · rw [if_neg (by omega), if_neg h]
      grind
end Ab
namespace Ab
open Go Go.RowKit Go.Proofs Hp
set_option maxRecDepth 100000
theorem det_e2 {p : List QT} (p0 : ∀ t, t ∈ p → t.a = 0) (φ : Ky → Rat) (c : Rat) : qlf (det φ) (qml p [⟨1, 0, 0, c⟩]) = 12 * c * qlf φ p := by
 rw [lf_mlg, ← lf_scf]
 refine lf_cg fun t ht => ?_
 have h0 := p0 t ht
 obtain ⟨a, b, d, q⟩ := t
 simp only at h0
 subst h0
 show c * det φ (kad (QT.k ⟨0, b, d, q⟩) (QT.k ⟨1, 0, 0, c⟩)) + 0 = _
 unfold det kad QT.k
 simp only
 rw [show (0 : Int) + 1 - 1 = 0 from rfl, show (0 : Int) + 1 = 1 from rfl, Int.add_zero, Int.add_zero, show ((1 : Int) : Rat) = 1 from rfl]
 generalize φ (0, b, d) = x
 grind
theorem serre_depth {p : List QT} {k : Int} (hp : ∀ t, t ∈ p → wtK t.k = k) (p0 : ∀ t, t ∈ p → t.a = 0) : ∀ t, t ∈ qnf (qnf (qdv p) ++ qnf (qml p [⟨1, 0, 0, ((0 - k : Int) : Rat) / ((12 : Int) : Rat)⟩])) → t.a = 0 := fun t ht => by
 have h : qlf (det (indK (t.a - 1, t.b, t.c))) (qnf (qnf (qdv p) ++ qnf (qml p [⟨1, 0, 0, ((0 - k : Int) : Rat) / ((12 : Int) : Rat)⟩]))) = 0 := by
  have d1 := del_D hp p0 1 (indK (t.a - 1, t.b, t.c))
  rw [show qD 1 p = qnf (qdv p) from rfl, show qD (1 - 1) p = p from rfl] at d1
  have e1 : (((1 : Nat) : Int) * (k + ((1 : Nat) : Int) - 1)) = k := by omega
  rw [e1] at d1
  rw [qlf_nf, qlf_app, qlf_nf (det _) (qml _ _), d1, det_e2 p0, Int.zero_sub, Rat.intCast_neg, show ((12 : Int) : Rat) = 12 from rfl]
  generalize qlf _ p = x
  generalize (k : Rat) = y
  grind
 have hc : qco (qnf (qnf (qdv p) ++ qnf (qml p [⟨1, 0, 0, ((0 - k : Int) : Rat) / ((12 : Int) : Rat)⟩]))) (t.a, t.b, t.c) = t.q := qn_co (qnf_n _) t ht
 rw [det_ind, hc] at h
 have hq := qn_ne (qnf_n _) t ht
 by_cases h0 : t.a = 0
 ·exact h0
 ·exfalso
  have ha : (t.a : Rat) ≠ 0 := fun e => h0 (by
   have : (t.a : Rat) = ((0 : Int) : Rat) := e
   exact Rat.intCast_inj.1 this)
  rcases Rat.mul_eq_zero.1 h with h | h
  ·rcases Rat.mul_eq_zero.1 h with h | h
   ·exact absurd h (by decide)
   ·exact ha h
  ·exact hq h
def kbas (K : List Ky) (f : Nat → Rat) : List QT := (List.range K.length).map fun i => ⟨(K.getD i (0, 0, 0)).1, (K.getD i (0, 0, 0)).2.1, (K.getD i (0, 0, 0)).2.2, f i⟩
theorem kbas_cons (κ : Ky) (K : List Ky) (f : Nat → Rat) : kbas (κ :: K) f = ⟨κ.1, κ.2.1, κ.2.2, f 0⟩ :: kbas K fun i => f (i + 1) := by
 unfold kbas
 rw [List.length_cons, List.range_succ_eq_map, List.map_cons, List.map_map]
 rfl
theorem kbas_co (x : Ky) : ∀ (K : List Ky) (g : Ky → Rat), K.Pairwise (fun a b => a ≠ b) → qco (kbas K fun i => g (K.getD i (0, 0, 0))) x = if x ∈ K then g x else 0
  | [], g, _ => rfl
  | κ :: K, g, hn => by
    obtain ⟨h1, h2⟩ := List.pairwise_cons.1 hn
    have ih := kbas_co x K g h2
    rw [kbas_cons, qco]
    show (if κ = x then g κ else 0) + qco (kbas K fun i => g (K.getD i (0, 0, 0))) x = _
    rw [ih]
    by_cases e : κ = x
    · subst e
      have hm : κ ∉ K := fun hx => h1 κ hx rfl
      rw [if_pos rfl, if_neg hm, if_pos (List.mem_cons_self ..), Rat.add_zero]
    · rw [if_neg e, Rat.zero_add]
      by_cases hx : x ∈ K
      · rw [if_pos hx, if_pos (List.mem_cons_of_mem _ hx)]
      · rw [if_neg hx, if_neg (fun h => by
          rcases List.mem_cons.1 h with h | h
          · exact e h.symm
          · exact hx h)]
theorem kbas_nf {h d : Nat} {P : List QT} (H : InW h d P) (hn : QN P) : qnf (kbas (Zbc (2 * h) d) (cf0 h d P)) = P := by
 rw [← qnf_id hn]
 conv => lhs; rw [qnf_id hn]
 refine qnf_eq fun x => ?_
 have e := kbas_co x (Zbc (2 * h) d) (qco P) (keys_n H.hh H.hd)
 show qco (kbas (Zbc (2 * h) d) fun i => qco P ((Zbc (2 * h) d).getD i (0, 0, 0))) x = _
 rw [e]
 by_cases hx : x ∈ Zbc (2 * h) d
 ·rw [if_pos hx]
 ·rw [if_neg hx]
  exact (Zcz fun t ht hk => hx (by rw [← hk]; exact H.k t ht)).symm
theorem in_w {P : List QT} {k : Int} {d : Nat} (hP : ∀ t, t ∈ P → Nn t ∧ wtK t.k = k) (hk : 0 ≤ k ∧ k ≤ 12) (hd : d ≤ 6) (ha : ∀ t, t ∈ P → t.a ≤ d) (hne : 0 < P.length) : ∃ h : Nat, k = 2 * (h : Int) ∧ InW h d P := by
 rcases P with _ | ⟨u, P⟩
 ·simp at hne
 have hu := hP u (List.mem_cons_self ..)
 have hk2 : k = 2 * ((k.toNat / 2 : Nat) : Int) := by
  have := hu.2
  unfold wtK QT.k at this
  simp only at this
  omega
 refine ⟨k.toNat / 2, hk2, by omega, hd, fun t ht => ?_⟩
 obtain ⟨h1, h2⟩ := hP t ht
 have h3 := ha t ht
 unfold Nn at h1
 unfold wtK QT.k at h2
 simp only at h2
 have := keys_all (h := k.toNat / 2) (d := d) (a := t.a.toNat) (b := t.b.toNat) (c := t.c.toNat) (by omega) hd (by omega) (by omega)
 rw [show ((t.a.toNat : Nat) : Int) = t.a by omega, show ((t.b.toNat : Nat) : Int) = t.b by omega, show ((t.c.toNat : Nat) : Int) = t.c by omega] at this
 exact this
end Ab
