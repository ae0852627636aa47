/- Readers and what they promise: the plain laws of pairs and lists. -/
import Derived.Test.YtbpdgaolmikjbaaGreatRdI
set_option linter.all false
namespace Ab
open Go Go.RowKit Go.Proofs Hp
structure Rd {α : Type} (C : List Nat → Bool → α → List Nat → Bool → Prop) (ok : α → Prop) (e : α → List Nat) (can : α → α) (good : α → Prop) : Prop where
 law : ∀ l, By l → l.length ≤ 1000000000 → ∀ b, ∃ v l' b', C l b v l' b' ∧ ok v ∧ (∃ j, l' = l.drop j) ∧ (b = true → b' = true) ∧ (b' = false → l'.length < l.length ∧ (e (can v)).length ≤ 10 * (l.length - l'.length)) ∧
  ∀ w tail, ok w → good w → b = false → l = e w ++ tail → v = w ∧ l' = tail ∧ b' = false
 pos : ∀ w, 1 ≤ (e w).length
theorem By.of_drop {l l' : List Nat} (h : By l) (k : ∃ j, l' = l.drop j) : By l' := by
 obtain ⟨j, rfl⟩ := k
 exact h.drop j
theorem Zaj {l l1 l2 : List Nat} (h : ∃ j, l1 = l.drop j) (k : ∃ j, l2 = l1.drop j) : ∃ j, l2 = l.drop j := by
 obtain ⟨i, rfl⟩ := h
 obtain ⟨j, rfl⟩ := k
 exact ⟨i + j, by rw [List.drop_drop]⟩
theorem Zcu (n : Nat) : 1 ≤ (eN n).length := by
 by_cases h : n < 128
 ·rw [eN_lt h]; simp
 ·rw [eN_ge h]; simp
theorem eN_len : ∀ (k n : Nat), n < 2 ^ (7 * (k + 1)) → (eN n).length ≤ k + 1 := by
  intro k
  induction k with
  | zero => intro n h; rw [eN_lt (by simpa using h)]; simp
  | succ k ih =>
    intro n h
    by_cases h1 : n < 128
    · rw [eN_lt h1]; simp
    · rw [eN_ge h1, List.length_cons]
      have := ih (n / 128) (by rw [pw7] at h; omega)
      omega
theorem eN_10 {n : Nat} (h : n < 18446744073709551616) : (eN n).length ≤ 10 := eN_len 9 n (by
 have : (2 : Nat) ^ (7 * (9 + 1)) = 1180591620717411303424 := by decide
 rw [this]; omega)
theorem eN_5 {n : Nat} (h : n ≤ 2000000001) : (eN n).length ≤ 5 := eN_len 4 n (by
 have : (2 : Nat) ^ (7 * (4 + 1)) = 34359738368 := by decide
 rw [this]; omega)
theorem eI_10 {n : Int} (h : I64 n) : (eI n).length ≤ 10 := eN_10 (zg_lt h)
theorem Zax {α β : Type} {C1 : List Nat → Bool → α → List Nat → Bool → Prop} {C2 : List Nat → Bool → β → List Nat → Bool → Prop} {ok1 : α → Prop} {ok2 : β → Prop} {e1 : α → List Nat} {e2 : β → List Nat} {n1 : α → α} {n2 : β → β} {g1 : α → Prop} {g2 : β → Prop}
  (h1 : Rd C1 ok1 e1 n1 g1) (h2 : Rd C2 ok2 e2 n2 g2) : Rd (fun l b (v : α × β) l' b' => ∃ l1 b1, C1 l b v.1 l1 b1 ∧ C2 l1 b1 v.2 l' b') (fun v => ok1 v.1 ∧ ok2 v.2) (fun v => e1 v.1 ++ e2 v.2) (fun v => (n1 v.1, n2 v.2)) (fun v => g1 v.1 ∧ g2 v.2) where
 law l hl hn b := by
  obtain ⟨v1, l1, b1, c1, o1, d1, m1, s1, r1⟩ := h1.law l hl hn b
  have hl1 := Zaw d1
  obtain ⟨v2, l2, b2, c2, o2, d2, m2, s2, r2⟩ := h2.law l1 (hl.of_drop d1) (by omega) b1
  refine ⟨(v1, v2), l2, b2, ⟨l1, b1, c1, c2⟩, ⟨o1, o2⟩, Zaj d1 d2, fun h => m2 (m1 h), fun h => ?_, fun w tail ho hg hb he => ?_⟩
  ·have hf : b1 = false := by
    cases b1 with
    | false => rfl
    | true => rw [m2 rfl] at h; cases h
   obtain ⟨p1, p2⟩ := s1 hf
   obtain ⟨p3, p4⟩ := s2 h
   refine ⟨by omega, ?_⟩
   rw [List.length_append]
   show (e1 (n1 v1)).length + (e2 (n2 v2)).length ≤ _
   omega
  ·rw [List.append_assoc] at he
   obtain ⟨q1, q2, q3⟩ := r1 w.1 _ ho.1 hg.1 hb he
   obtain ⟨q4, q5, q6⟩ := r2 w.2 tail ho.2 hg.2 q3 q2
   exact ⟨by rw [q1, q4], q5, q6⟩
 pos w := by
  rw [List.length_append]
  have := h1.pos w.1
  omega
theorem Zfl {α β : Type} {C : List Nat → Bool → α → List Nat → Bool → Prop} {C' : List Nat → Bool → β → List Nat → Bool → Prop} {ok : α → Prop} {ok' : β → Prop} {e : α → List Nat} {e' : β → List Nat} {n : α → α} {n' : β → β} {g : α → Prop} {g' : β → Prop}
  (h : Rd C ok e n g) (mk : α → β) (un : β → α) (h1 : ∀ w, mk (un w) = w) (ho : ∀ v, ok v → ok' (mk v)) (ho' : ∀ w, ok' w → ok (un w)) (hg : ∀ w, g' w → g (un w)) (he : ∀ w, e' w = e (un w)) (hc : ∀ v, ok v → (e' (n' (mk v))).length ≤ (e (n v)).length)
  (hC : ∀ l b v l' b', By l → l.length ≤ 1000000000 → By l' → l'.length ≤ 1000000000 → ok v → C l b v l' b' → C' l b (mk v) l' b') : Rd C' ok' e' n' g' where
 law l hl hn b := by
  obtain ⟨v, l1, b1, c1, o1, d1, m1, s1, r1⟩ := h.law l hl hn b
  have hl1 := Zaw d1
  refine ⟨mk v, l1, b1, hC l b v l1 b1 hl hn (hl.of_drop d1) (by omega) o1 c1, ho v o1, d1, m1, fun h => ?_, fun w tail wo wg hb hw => ?_⟩
  ·obtain ⟨p1, p2⟩ := s1 h
   have := hc v o1
   exact ⟨p1, by omega⟩
  ·rw [he] at hw
   obtain ⟨q1, q2, q3⟩ := r1 (un w) tail (ho' w wo) (hg w wg) hb hw
   exact ⟨by rw [q1, h1], q2, q3⟩
 pos w := by rw [he]; exact h.pos _
def runL {α : Type} (g : List Nat → α × List Nat × Bool) : Nat → List Nat → Bool → List α × List Nat × Bool
 | 0, l, b => ([], l, b)
 | n + 1, l, b => if b then ([], l, b) else ((g l).1 :: (runL g n (g l).2.1 (g l).2.2).1, (runL g n (g l).2.1 (g l).2.2).2)
theorem Zch {α : Type} (g : List Nat → α × List Nat × Bool) (n : Nat) (l : List Nat) : runL g n l true = ([], l, true) := by cases n <;> rfl
theorem Zfb {α : Type} {C : List Nat → Bool → α → List Nat → Bool → Prop} {D : List Nat → Bool → List α → List Nat → Bool → Prop} {N : List Nat → Bool → Nat → List Nat → Bool → Prop} {ok : α → Prop} {e : α → List Nat} {can : α → α} {good : α → Prop} (h : Rd C ok e can good)
    (hN : ∀ l, By l → l.length ≤ 1000000000 → ∀ b, ∃ (n : Nat) (l' : List Nat) (b' : Bool), N l b n l' b' ∧ n ≤ l'.length ∧ (∃ j, l' = l.drop j) ∧ (b = true → b' = true) ∧ (b' = false → l'.length < l.length) ∧ ∀ m tail, m ≤ tail.length → b = false → l = eN m ++ tail → n = m ∧ l' = tail ∧ b' = false)
    (hD : ∀ g : List Nat → α × List Nat × Bool, (∀ l, By l → l.length ≤ 1000000000 → C l false (g l).1 (g l).2.1 (g l).2.2 ∧ ok (g l).1 ∧ ∃ j, (g l).2.1 = l.drop j) → ∀ l b n l1 b1, N l b n l1 b1 → n ≤ l1.length → By l1 → l1.length ≤ 1000000000 → D l b (runL g n l1 b1).1 (runL g n l1 b1).2.1 (runL g n l1 b1).2.2) :
    Rd D (fun vs => (∀ v, v ∈ vs → ok v) ∧ vs.length ≤ 1000000000) (eL e) (fun vs => vs.map can) (fun vs => ∀ v, v ∈ vs → good v) where
  pos w := by
    unfold eL
    rw [List.length_append]
    have := Zcu w.length
    omega
  law l hl hn b := by
    obtain ⟨v0, -⟩ := h.law [] (fun c hc => by cases hc) (by simp) true
    have hex : ∀ l : List Nat, ∃ p : α × List Nat × Bool, By l → l.length ≤ 1000000000 → C l false p.1 p.2.1 p.2.2 ∧ ok p.1 ∧ (∃ j, p.2.1 = l.drop j) ∧ (p.2.2 = false → p.2.1.length < l.length ∧ (e (can p.1)).length ≤ 10 * (l.length - p.2.1.length)) ∧ ∀ w tail, ok w → good w → l = e w ++ tail → p.1 = w ∧ p.2.1 = tail ∧ p.2.2 = false := fun l => by
      by_cases hh : By l ∧ l.length ≤ 1000000000
      · obtain ⟨v, l', b', c, o, d, -, s, r⟩ := h.law l hh.1 hh.2 false
        exact ⟨(v, l', b'), fun _ _ => ⟨c, o, d, s, fun w tail h1 h2 h3 => r w tail h1 h2 rfl h3⟩⟩
      · exact ⟨(v0, l, true), fun h1 h2 => absurd ⟨h1, h2⟩ hh⟩
    obtain ⟨g, hg⟩ := Classical.axiomOfChoice hex
    have hg' : ∀ l, By l → l.length ≤ 1000000000 → C l false (g l).1 (g l).2.1 (g l).2.2 ∧ ok (g l).1 ∧ ∃ j, (g l).2.1 = l.drop j := fun l h1 h2 => by
      obtain ⟨c, o, d, -⟩ := hg l h1 h2
      exact ⟨c, o, d⟩
    obtain ⟨n, l1, b1, c, h1, h2, h3, h4, h5⟩ := hN l hl hn b
    have hl1 := Zaw h2
    have hb1 := hl.of_drop h2
    have hd := hD g hg' l b n l1 b1 c h1 hb1 (by omega)
    have key : ∀ (n : Nat) (l : List Nat) (b : Bool), By l → l.length ≤ 1000000000 → (∀ v, v ∈ (runL g n l b).1 → ok v) ∧ (runL g n l b).1.length ≤ n ∧ (∃ j, (runL g n l b).2.1 = l.drop j) ∧ (b = true → (runL g n l b).2.2 = true) ∧ ((runL g n l b).2.2 = false → (runL g n l b).2.1.length ≤ l.length ∧ (((runL g n l b).1.map can).flatMap e).length ≤ 10 * (l.length - (runL g n l b).2.1.length)) ∧
        ∀ ws tail, (∀ w, w ∈ ws → ok w ∧ good w) → ws.length = n → b = false → l = ws.flatMap e ++ tail → (runL g n l b).1 = ws ∧ (runL g n l b).2.1 = tail ∧ (runL g n l b).2.2 = false := by
      intro n
      induction n with
      | zero =>
        intro l b _ _
        refine ⟨fun v hv => (by cases hv), Nat.zero_le _, ⟨0, rfl⟩, fun h => h, fun _ => ⟨Nat.le_refl _, Nat.zero_le _⟩, fun ws tail hw hl hb he => ?_⟩
        obtain rfl : ws = [] := List.length_eq_zero_iff.1 hl
        exact ⟨rfl, he, hb⟩
      | succ n ih =>
        intro l b hl hn
        cases b with
        | true => exact ⟨fun v hv => (by cases hv), Nat.zero_le _, ⟨0, rfl⟩, fun _ => rfl, fun h => (by cases h), fun ws tail hw hl hb he => (by cases hb)⟩
        | false =>
          obtain ⟨c, o, d, s, r⟩ := hg l hl hn
          have hd := Zaw d
          obtain ⟨i1, i2, i3, i4, i5, i6⟩ := ih (g l).2.1 (g l).2.2 (hl.of_drop d) (by omega)
          show (∀ v, v ∈ (g l).1 :: (runL g n (g l).2.1 (g l).2.2).1 → ok v) ∧ ((g l).1 :: (runL g n (g l).2.1 (g l).2.2).1).length ≤ n + 1 ∧ (∃ j, (runL g n (g l).2.1 (g l).2.2).2.1 = l.drop j) ∧ _ ∧ ((runL g n (g l).2.1 (g l).2.2).2.2 = false → (runL g n (g l).2.1 (g l).2.2).2.1.length ≤ l.length ∧ ((((g l).1 :: (runL g n (g l).2.1 (g l).2.2).1).map can).flatMap e).length ≤ 10 * (l.length - (runL g n (g l).2.1 (g l).2.2).2.1.length)) ∧ ∀ ws tail, _ → _ → _ → _ → (g l).1 :: (runL g n (g l).2.1 (g l).2.2).1 = ws ∧ (runL g n (g l).2.1 (g l).2.2).2.1 = tail ∧ (runL g n (g l).2.1 (g l).2.2).2.2 = false
          generalize runL g n (g l).2.1 (g l).2.2 = q at *
          refine ⟨fun v hv => ?_, by simp only [List.length_cons]; omega, Zaj d i3, fun h => (by cases h), fun hq => ?_, fun ws tail hw hl hb he => ?_⟩
          · rcases List.mem_cons.1 hv with rfl | hv
            · exact o
            · exact i1 v hv
          · have hf : (g l).2.2 = false := by
              cases hh : (g l).2.2 with
              | false => rfl
              | true => rw [i4 hh] at hq; cases hq
            obtain ⟨s1, s2⟩ := s hf
            obtain ⟨s3, s4⟩ := i5 hq
            refine ⟨by omega, ?_⟩
            rw [List.map_cons, List.flatMap_cons, List.length_append]
            omega
          · cases ws with
            | nil => cases hl
            | cons w ws =>
              rw [List.flatMap_cons, List.append_assoc] at he
              obtain ⟨wo, wg⟩ := hw w (List.mem_cons_self ..)
              obtain ⟨q1, q2, q3⟩ := r w _ wo wg he
              obtain ⟨q4, q5, q6⟩ := i6 ws tail (fun x hx => hw x (List.mem_cons_of_mem _ hx)) (by simpa using hl) q3 q2
              exact ⟨by rw [q1, q4], q5, q6⟩
    obtain ⟨i1, i2, i3, i4, i5, i6⟩ := key n l1 b1 hb1 (by omega)
    refine ⟨_, _, _, hd, ⟨i1, by omega⟩, Zaj h2 i3, fun h => i4 (h3 h), fun hq => ?_, fun ws tail ho hgd hb he => ?_⟩
    · have hf : b1 = false := by
        cases b1 with
        | false => rfl
        | true => rw [i4 rfl] at hq; cases hq
      have h4 := h4 hf
      obtain ⟨s1, s2⟩ := i5 hq
      refine ⟨by omega, ?_⟩
      unfold eL
      rw [List.length_append, List.length_map]
      have := eN_10 (n := (runL g n l1 b1).1.length) (by omega)
      omega
    · unfold eL at he
      rw [List.append_assoc] at he
      have hfl : ws.length ≤ (ws.flatMap e).length := by
        clear he hgd ho
        induction ws with
        | nil => simp
        | cons w ws ih => rw [List.flatMap_cons, List.length_append, List.length_cons]; have := h.pos w; omega
      obtain ⟨q1, q2, q3⟩ := h5 ws.length _ (by rw [List.length_append]; omega) hb he
      exact i6 ws tail (fun w hw => ⟨ho.1 w hw, hgd w hw⟩) q1.symm q3 q2
theorem eR_can {v : BR} (h : v.ok) : (eR v.can).length ≤ 18 + 8 * (v.n.ds.length + v.d.ds.length) := by
 have hv : IsV v.av (v.n.ds.length + v.d.ds.length + 1) v.q := ⟨v.n.cs, v.d.cs, v.n.z, v.d.z, rfl, ⟨v.n.g, v.n.ds, rfl, h.1.1, by omega, rfl⟩, ⟨v.d.g, v.d.ds, rfl, h.2.1, by omega, rfl⟩, rfl⟩
 have ht := isV_ht hv (by omega)
 have h1 := Zf3 ht.1
 have h2 := Zf3 (z := (v.q.den : Int)) (by rw [Int.natAbs_natCast]; exact ht.2)
 have ho := can_ok h
 have f4 : ∀ ds : List Int, (ds.flatMap e4).length = 4 * ds.length := by
  intro ds
  induction ds with
  | nil => rfl
  | cons a ds ih => rw [List.flatMap_cons, List.length_append, ih]; simp [e4]; omega
 have fb : ∀ a : BI, a.ok → (eB a).length ≤ 5 + 4 * a.ds.length := fun a ha => by
  unfold eB
  rw [List.length_append, f4]
  have := eN_5 (n := 2 * a.ds.length + if a.g then 1 else 0) (by have := ha.2; split <;> omega)
  omega
 have k1 := fb _ ho.1
 have k2 := fb _ ho.2
 have e1 : v.can.n.ds.length = (dgs v.q.num.natAbs).length := rfl
 have e2 : v.can.d.ds.length = (dgs (v.q.den : Int).natAbs).length := rfl
 unfold eR
 rw [List.length_append]
 omega
abbrev RC {α : Type} (f : FuncId) (xs : List TV) (av : α → AV) (lv : Int) : List Nat → Bool → α → List Nat → Bool → Prop := fun l b v l' b' => PCM false Tryz.prog f (.ptr 100 0 :: xs) (RR l b lv) true (.v (av v)) (RR l' b' lv)
theorem Zeh (lv : Int) : Rd (RC 107 [] iV lv) I64 eI id (fun _ => True) where
 law l hl hn b := by
  obtain ⟨v, l', b', c, h1, h2, h3, h4, h5⟩ := r_int l hl b lv
  refine ⟨v, l', b', c, h1, h2, h3, fun h => ⟨h4 h, ?_⟩, fun w tail hw _ hb he => h5 w tail hw hb he⟩
  have := h4 h
  have := eI_10 h1
  show (eI v).length ≤ _
  omega
 pos w := Zcu _
theorem rd_number (lv : Int) : Rd (RC 129 [] qV' lv) (fun n => n < 18446744073709551616) eN id (fun _ => True) where
 law l hl hn b := by
  obtain ⟨v, l', b', c, h1, h2, h3, h4, h5⟩ := r_number l hl b lv
  refine ⟨v, l', b', c, h1, h2, h3, fun h => ⟨h4 h, ?_⟩, fun w tail hw _ hb he => h5 w tail hw hb he⟩
  have := h4 h
  have := eN_10 h1
  show (eN v).length ≤ _
  omega
 pos w := Zcu _
theorem rd_rat (lv : Int) : Rd (RC 109 [] BR.av lv) BR.ok eR BR.can (fun _ => True) where
 law l hl hn b := by
  obtain ⟨v, l', b', c, h1, h2, h3, h4, h5⟩ := r_rat l hl hn b lv
  refine ⟨v, l', b', c, h1, h2, h3, fun h => ?_, fun w tail hw _ hb he => h5 w tail hw hb he⟩
  have := h4 h
  have := eR_can h1
  exact ⟨by omega, by omega⟩
 pos w := by
  unfold eR eB
  rw [List.length_append, List.length_append]
  have := Zcu (2 * w.n.ds.length + if w.n.g then 1 else 0)
  omega
theorem eT_len (s : ByteArray) (h : s.size ≤ 1000000000) : (eT s).length ≤ 5 + s.size := by
 unfold eT
 have e : (s.data.toList.map (·.toNat)).length = s.size := by rw [List.length_map, Array.length_toList]; rfl
 rw [List.length_append, e]
 have := eN_5 (n := s.size) (by omega)
 omega
theorem rd_text (lv : Int) : Rd (RC 111 [] tV lv) (fun s => s.size ≤ 1000000000) eT id (fun _ => True) where
 law l hl hn b := by
  obtain ⟨v, l', b', c, h1, h2, h3, h4, h5⟩ := r_text l hl hn b lv
  refine ⟨v, l', b', c, by omega, h2, h3, fun h => ?_, fun w tail hw _ hb he => h5 w tail hb he⟩
  have := h4 h
  have := eT_len v (by omega)
  refine ⟨by omega, ?_⟩
  show (eT v).length ≤ _
  omega
 pos w := by
  unfold eT
  rw [List.length_append]
  have := Zcu w.size
  omega
end Ab
