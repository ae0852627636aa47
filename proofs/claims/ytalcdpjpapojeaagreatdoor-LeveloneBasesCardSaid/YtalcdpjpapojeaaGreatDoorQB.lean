/- More steps. -/
import Derived.Test.YtalcdpjpapojeaaGreatDoorKx
import Derived.Lib.SliceRun
import Derived.Test.YtalcdpjpapojeaaGreatDoorSerC
import Derived.Test.YtalcdpjpapojeaaGreatDoorTz
import Derived.Shelf.Spec.SlicesGrow
set_option linter.all false
namespace Ab
open Go Go.RowKit Go.Proofs
section
variable {dm : Bool} {P : Program} {ops : Array Oper} {s : AS} {dst : Option Tmp} {ty : TypeId} {pos : String} {after : Array Edge} {g : Option (Nat × Bool)}
end
end Ab
namespace Ab
open Go Go.RowKit Go.Proofs Hp
structure QT where
 a : Int
 b : Int
 c : Int
 q : Rat
abbrev Ky := Int × Int × Int
def QT.k (t : QT) : Ky := (t.a, t.b, t.c)
def kl (x y : Ky) : Prop := x.1 < y.1 ∨ (x.1 = y.1 ∧ (x.2.1 < y.2.1 ∨ (x.2.1 = y.2.1 ∧ x.2.2 < y.2.2)))
instance (x y : Ky) : Decidable (kl x y) := inferInstanceAs (Decidable (_ ∨ _))
theorem kl_irr (x : Ky) : ¬ kl x x := by unfold kl; omega
theorem kl_tr {x y z : Ky} (h : kl x y) (k : kl y z) : kl x z := by unfold kl at *; omega
theorem kl_tri (x y : Ky) : kl x y ∨ x = y ∨ kl y x := by
 obtain ⟨a, b, c⟩ := x
 obtain ⟨d, e, f⟩ := y
 unfold kl
 simp only [Prod.mk.injEq]
 omega
theorem kl_ne {x y : Ky} (h : kl x y) : x ≠ y := fun e => kl_irr y (e ▸ h)
def qco : List QT → Ky → Rat
 | [], _ => 0
 | t :: p, k => (if t.k = k then t.q else 0) + qco p k
theorem Zd9 {p : List QT} {k : Ky} (h : ∀ t, t ∈ p → t.k ≠ k) : qco p k = 0 := by
 induction p with
 | nil => rfl
 | cons t p ih => rw [qco, if_neg (h t (List.mem_cons_self ..)), ih fun u hu => h u (List.mem_cons_of_mem _ hu), Rat.add_zero]
def QN : List QT → Prop
 | [] => True
 | t :: p => t.q ≠ 0 ∧ (∀ u, u ∈ p → kl t.k u.k) ∧ QN p
theorem qn_ext : ∀ {p r : List QT}, QN p → QN r → (∀ k, qco p k = qco r k) → p = r
  | [], [], _, _, _ => rfl
  | [], u :: r, _, h, e => by
    have := e u.k
    rw [qco, qco, if_pos rfl, Zd9 fun t ht => (kl_ne (h.2.1 t ht)).symm, Rat.add_zero] at this
    exact absurd this.symm h.1
  | t :: p, [], h, _, e => by
    have := e t.k
    rw [qco, qco, if_pos rfl, Zd9 fun u hu => (kl_ne (h.2.1 u hu)).symm, Rat.add_zero] at this
    exact absurd this h.1
  | t :: p, u :: r, h, k, e => by
    have ht := e t.k
    have hu := e u.k
    rw [qco, qco, if_pos rfl, Zd9 fun u hu => (kl_ne (h.2.1 u hu)).symm, Rat.add_zero] at ht
    rw [qco, qco, if_pos rfl, Zd9 (p := r) fun t ht => (kl_ne (k.2.1 t ht)).symm, Rat.add_zero] at hu
    rcases kl_tri t.k u.k with c | c | c
    · rw [if_neg (kl_ne c).symm, Zd9 (p := r) fun v hv ev => kl_irr t.k (by have := kl_tr c (k.2.1 v hv); rwa [ev] at this), Rat.add_zero] at ht
      exact absurd ht h.1
    · rw [if_pos c.symm, Zd9 (p := r) fun v hv ev => kl_irr u.k (by have := k.2.1 v hv; rwa [ev, c] at this), Rat.add_zero] at ht
      have e1 : t = u := by
        obtain ⟨a, b, d, q⟩ := t
        obtain ⟨a', b', d', q'⟩ := u
        simp only [QT.k, Prod.mk.injEq] at c
        obtain ⟨rfl, rfl, rfl⟩ := c
        have ht : q = q' := ht
        rw [ht]
      subst e1
      rw [qn_ext h.2.2 k.2.2 fun x => by have := e x; rw [qco, qco] at this; grind]
    · rw [if_neg (kl_ne c).symm, Zd9 (p := p) fun v hv ev => kl_irr u.k (by have := kl_tr c (h.2.1 v hv); rwa [ev] at this), Rat.add_zero] at hu
      exact absurd hu.symm k.1
def qput : List QT → QT → List QT
 | [], t => if t.q = 0 then [] else [t]
 | u :: p, t => if kl u.k t.k then u :: qput p t else if kl t.k u.k then (if t.q = 0 then u :: p else t :: u :: p) else (if u.q + t.q = 0 then p else { t with q := u.q + t.q } :: p)
theorem qput_mem : ∀ (p : List QT) (t u : QT), u ∈ qput p t → u.k = t.k ∨ u ∈ p
  | [], t, u, h => by
    rw [qput] at h
    split at h
    · cases h
    · rw [List.mem_singleton] at h; subst h; exact .inl rfl
  | v :: p, t, u, h => by
    rw [qput] at h
    split at h
    · rcases List.mem_cons.1 h with rfl | h
      · exact .inr (List.mem_cons_self ..)
      · rcases qput_mem p t u h with h | h
        · exact .inl h
        · exact .inr (List.mem_cons_of_mem _ h)
    · split at h
      · split at h
        · exact .inr h
        · rcases List.mem_cons.1 h with rfl | h
          · exact .inl rfl
          · exact .inr h
      · split at h
        · exact .inr (List.mem_cons_of_mem _ h)
        · rcases List.mem_cons.1 h with rfl | h
          · exact .inl rfl
          · exact .inr (List.mem_cons_of_mem _ h)
theorem qput_spec : ∀ (p : List QT) (t : QT), QN p → QN (qput p t) ∧ ∀ k, qco (qput p t) k = qco p k + if t.k = k then t.q else 0
  | [], t, _ => by
    rw [qput]
    split
    · rename_i h
      refine ⟨trivial, fun k => ?_⟩
      rw [h]; simp [qco, Rat.zero_add]
    · rename_i h
      exact ⟨⟨h, fun u hu => (by cases hu), trivial⟩, fun k => (by simp only [qco]; rw [Rat.add_comm])⟩
  | u :: p, t, h => by
    obtain ⟨h1, h2, h3⟩ := h
    obtain ⟨i1, i2⟩ := qput_spec p t h3
    rw [qput]
    split
    · rename_i c
      refine ⟨⟨h1, fun v hv => ?_, i1⟩, fun k => by simp only [qco, i2, Rat.add_assoc]⟩
      rcases qput_mem p t v hv with e | e
      · rw [e]; exact c
      · exact h2 v e
    · rename_i c
      split
      · rename_i d
        split
        · rename_i z
          refine ⟨⟨h1, h2, h3⟩, fun k => ?_⟩
          rw [z]; simp [Rat.add_zero]
        · rename_i z
          refine ⟨⟨z, fun v hv => ?_, h1, h2, h3⟩, fun k => by simp only [qco]; grind⟩
          rcases List.mem_cons.1 hv with rfl | hv
          · exact d
          · exact kl_tr d (h2 v hv)
      · rename_i d
        have e : u.k = t.k := by
          rcases kl_tri u.k t.k with x | x | x
          · exact absurd x c
          · exact x
          · exact absurd x d
        split
        · rename_i z
          refine ⟨h3, fun k => ?_⟩
          simp only [qco, e]
          by_cases x : t.k = k
          · rw [if_pos x, if_pos x]; grind
          · rw [if_neg x, if_neg x, Rat.zero_add, Rat.add_zero]
        · rename_i z
          refine ⟨⟨z, fun v hv => by have := h2 v hv; rw [e] at this; exact this, h3⟩, fun k => ?_⟩
          simp only [qco, e]
          have e2 : QT.k { t with q := u.q + t.q } = t.k := rfl
          rw [e2]
          by_cases x : t.k = k
          · rw [if_pos x, if_pos x, if_pos x]; grind
          · rw [if_neg x, if_neg x, if_neg x, Rat.zero_add, Rat.add_zero]
def qnf (p : List QT) : List QT := p.foldl qput []
theorem qfold_spec : ∀ (l p : List QT), QN p → QN (l.foldl qput p) ∧ ∀ k, qco (l.foldl qput p) k = qco p k + qco l k
  | [], p, h => ⟨h, fun k => by simp [qco, Rat.add_zero]⟩
  | t :: l, p, h => by
    obtain ⟨i1, i2⟩ := qput_spec p t h
    obtain ⟨j1, j2⟩ := qfold_spec l _ i1
    exact ⟨j1, fun k => by rw [List.foldl_cons, j2, i2, qco, Rat.add_assoc]⟩
theorem qnf_n (p : List QT) : QN (qnf p) := (qfold_spec p [] trivial).1
theorem qnf_co (p : List QT) (k : Ky) : qco (qnf p) k = qco p k := by
 rw [qnf, (qfold_spec p [] trivial).2, qco, Rat.zero_add]
theorem qnf_id {p : List QT} (h : QN p) : qnf p = p := qn_ext (qnf_n p) h fun k => qnf_co p k
theorem qn_co : ∀ {p : List QT}, QN p → ∀ t, t ∈ p → qco p t.k = t.q
  | [], _, t, h => by cases h
  | u :: p, hn, t, h => by
    rcases List.mem_cons.1 h with rfl | h
    · rw [qco, if_pos rfl, Zd9 (p := p) fun v hv => (kl_ne (hn.2.1 v hv)).symm, Rat.add_zero]
    · rw [qco, if_neg (kl_ne (hn.2.1 t h)), Rat.zero_add, qn_co hn.2.2 t h]
theorem qco_ht {K : Nat} (hK : 1 ≤ K) (k : Ky) : ∀ {p : List QT}, (∀ t, t ∈ p → Ht t.q K) → Ht (qco p k) (1 + p.length * (K + 1))
  | [], _ => ht0 (by simp)
  | t :: p, h => by
    have h1 := qco_ht hK k (p := p) fun u hu => h u (List.mem_cons_of_mem _ hu)
    have h2 : Ht (if t.k = k then t.q else 0) K := by
      split
      · exact h t (List.mem_cons_self ..)
      · exact ht0 hK
    rw [qco]
    refine (Zgy h2 h1).mono ?_
    rw [List.length_cons, Nat.add_mul]
    omega
theorem qnf_ht {K : Nat} (hK : 1 ≤ K) {p : List QT} (h : ∀ t, t ∈ p → Ht t.q K) : ∀ t, t ∈ qnf p → Ht t.q (1 + p.length * (K + 1)) := fun t ht => by
 rw [← qn_co (qnf_n p) t ht, qnf_co]
 exact qco_ht hK t.k h
theorem qput_len : ∀ (p : List QT) (t : QT), (qput p t).length ≤ p.length + 1
  | [], t => by rw [qput]; split <;> simp
  | u :: p, t => by
    rw [qput]
    split
    · have := qput_len p t
      rw [List.length_cons, List.length_cons]; omega
    · split <;> split <;> simp only [List.length_cons] <;> omega
theorem qfold_len : ∀ (l p : List QT), (l.foldl qput p).length ≤ p.length + l.length
  | [], p => by simp
  | t :: l, p => by
    have h1 := qfold_len l (qput p t)
    have h2 := qput_len p t
    rw [List.foldl_cons, List.length_cons]
    omega
theorem qnf_len (p : List QT) : (qnf p).length ≤ p.length := by
 have := qfold_len p []
 simpa [qnf] using this
theorem qnf_key {p : List QT} {t : QT} (h : t ∈ qnf p) : ∃ u, u ∈ p ∧ u.k = t.k := by
  have key : ∀ (l r : List QT), t ∈ l.foldl qput r → (∃ u, u ∈ l ∧ u.k = t.k) ∨ t ∈ r := by
    intro l
    induction l with
    | nil => intro r h; exact .inr h
    | cons v l ih =>
      intro r h
      rcases ih _ h with ⟨u, hu, e⟩ | h
      · exact .inl ⟨u, List.mem_cons_of_mem _ hu, e⟩
      · rcases qput_mem r v t h with e | h
        · exact .inl ⟨v, List.mem_cons_self .., e.symm⟩
        · exact .inr h
  rcases key p [] h with h | h
  · exact h
  · cases h
def qlf (φ : Ky → Rat) : List QT → Rat
 | [] => 0
 | t :: p => t.q * φ t.k + qlf φ p
theorem qlf_put (φ : Ky → Rat) : ∀ (p : List QT) (t : QT), qlf φ (qput p t) = qlf φ p + t.q * φ t.k
  | [], t => by
    rw [qput]
    split
    · rename_i h
      rw [h, Rat.zero_mul, Rat.add_zero]
    · simp only [qlf, Rat.add_zero, Rat.zero_add]
  | u :: p, t => by
    rw [qput]
    split
    · simp only [qlf, qlf_put φ p t, Rat.add_assoc]
    · rename_i c
      split
      · split
        · rename_i z
          rw [z, Rat.zero_mul, Rat.add_zero]
        · simp only [qlf]
          exact Rat.add_comm ..
      · rename_i d
        have e : u.k = t.k := by
          rcases kl_tri u.k t.k with x | x | x
          · exact absurd x c
          · exact x
          · exact absurd x d
        split
        · rename_i z
          have : u.q * φ t.k + t.q * φ t.k = 0 := by rw [← Rat.add_mul, z, Rat.zero_mul]
          simp only [qlf, e]
          grind
        · simp only [qlf, e]
          have e2 : QT.k { t with q := u.q + t.q } = t.k := rfl
          rw [e2, Rat.add_mul]
          grind
theorem qlf_fold (φ : Ky → Rat) : ∀ (l p : List QT), qlf φ (l.foldl qput p) = qlf φ p + qlf φ l
 | [], p => by simp [qlf, Rat.add_zero]
 | t :: l, p => by rw [List.foldl_cons, qlf_fold φ l, qlf_put, qlf, Rat.add_assoc]
theorem qlf_nf (φ : Ky → Rat) (p : List QT) : qlf φ (qnf p) = qlf φ p := by
 rw [qnf, qlf_fold, qlf, Rat.zero_add]
structure QE where
 a : Int
 b : Int
 c : Int
 g : Bool
 d : List AV
 g' : Bool
 d' : List AV
 q : Rat
def QE.r (e : QE) : AV := .agg [.p (.bool e.g), .sl e.d, .p (.bool e.g'), .sl e.d']
def QE.ok (K : Nat) (e : QE) : Prop := IsV e.r K e.q
def QE.t (e : QE) : QT := ⟨e.a, e.b, e.c, e.q⟩
def QE.k (e : QE) : Ky := (e.a, e.b, e.c)
def QE.av (e : QE) : AV := .agg [.p (.int .i64 e.a), .p (.int .i64 e.b), .p (.int .i64 e.c), .p (.bool e.g), .sl e.d, .p (.bool e.g'), .sl e.d']
theorem get_app {α : Type} {p q : List α} {x : α} {j : Nat} (hj : p.length = j) : (p ++ x :: q)[j]? = some x := by
 subst hj
 rw [List.getElem?_append_right oM, Nat.sub_self]
 rfl
end Ab
namespace Ab
open Go Go.RowKit Go.Proofs Hp
set_option maxRecDepth 100000
def QE.sm (e : QE) : Prop := (-1000000 ≤ e.a ∧ e.a ≤ 1000000) ∧ (-1000000 ≤ e.b ∧ e.b ≤ 1000000) ∧ -1000000 ≤ e.c ∧ e.c ≤ 1000000
theorem av_get {p q : List QE} {x : QE} {j : Nat} (hj : p.length = j) : ((p ++ x :: q).map QE.av)[j]? = some x.av := by
 rw [List.map_append, List.map_cons]
 exact get_app (by rw [List.length_map]; exact hj)
end Ab
