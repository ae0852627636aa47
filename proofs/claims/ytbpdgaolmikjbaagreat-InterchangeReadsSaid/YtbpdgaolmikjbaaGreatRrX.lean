/- The document's reader: numbers. The document's reader: lists, lengths, ints, texts (printed by tools/gen_rr.py). The document's reader: integers of any size (printed by tools/gen_rr.py). The document's reader: fractions, lists, series (printed by tools/gen_rr.py). The document's reader: lists of ints, kinds (printed by tools/gen_rr.py). -/
import Derived.Test.YtbpdgaolmikjbaaGreatRdJ
import Derived.Test.YtbpdgaolmikjbaaGreatRdO
set_option linter.all false
namespace Ab
open Go Go.RowKit Go.Proofs Hp
set_option maxRecDepth 100000
set_option maxHeartbeats 4000000
abbrev DD (B : List Nat) (a : Nat) (b : Bool) : List (Nat × Blk) := [(100, .var [.v (.sl (B.map nV)), .v (iV ((a : Nat) : Int)), .v (boV b)])]
abbrev DS (B l : List Nat) (b : Bool) : List (Nat × Blk) := DD B (B.length - l.length) b
def dY (k c : Nat) : Nat := if k = 9 then c % 2 else c % 128
def dN : Nat → Nat → List Nat → Nat × List Nat × Bool
 | _, _, [] => (0, [], true)
 | k, n, c :: l => if 9 < k then (0, c :: l, true) else if c < 128 then (n + dY k c * 2 ^ (7 * k), l, false) else dN (k + 1) (n + dY k c * 2 ^ (7 * k)) l
theorem dY_lt {k n c : Nat} (hk : k ≤ 9) (hn : n < 2 ^ (7 * k)) : n + dY k c * 2 ^ (7 * k) < 2 ^ 64 ∧ (k < 9 → n + dY k c * 2 ^ (7 * k) < 2 ^ (7 * (k + 1))) := by
 unfold dY
 by_cases h : k = 9
 ·subst h
  rw [if_pos rfl]
  simp only [Nat.reduceMul, Nat.reduceAdd, Nat.reducePow] at *
  omega
 ·rw [if_neg h]
  have : k = 0 ∨ k = 1 ∨ k = 2 ∨ k = 3 ∨ k = 4 ∨ k = 5 ∨ k = 6 ∨ k = 7 ∨ k = 8 := by omega
  clear h hk
  rcases this with rfl | rfl | rfl | rfl | rfl | rfl | rfl | rfl | rfl
  all_goals
   simp only [Nat.reduceMul, Nat.reduceAdd, Nat.reducePow] at *
   omega
theorem dY_wrap {k c : Nat} (hk : k ≤ 9) : IntKind.u64.wrap (((c % 128 : Nat) : Int) * 2 ^ (min (((7 * k : Nat) : Int)).toNat IntKind.u64.bits)) = ((dY k c * 2 ^ (7 * k) : Nat) : Int) := by
 rw [Int.toNat_natCast, show min (7 * k) IntKind.u64.bits = 7 * k from Nat.min_eq_left (by show 7 * k ≤ 64; omega)]
 have : ((c % 128 : Nat) : Int) * 2 ^ (7 * k) = ((c % 128 * 2 ^ (7 * k) : Nat) : Int) := by rw [Int.natCast_mul, Int.natCast_pow]; rfl
 rw [this]
 unfold dY
 by_cases h : k = 9
 ·subst h
  rw [if_pos rfl]
  show (((c % 128 * 2 ^ (7 * 9) : Nat) : Int)) % 18446744073709551616 = _
  simp only [Nat.reduceMul, Nat.reducePow]
  omega
 ·rw [if_neg h]
  have hb := (dY_lt (c := c) hk (Nat.two_pow_pos (7 * k))).1
  unfold dY at hb
  rw [if_neg h] at hb
  exact u64w (by omega) (by omega)
theorem dN_eN : ∀ (m k n : Nat) (tail : List Nat), k ≤ 9 → n + m * 2 ^ (7 * k) < 2 ^ 64 → dN k n (eN m ++ tail) = (n + m * 2 ^ (7 * k), tail, false) := by
  intro m
  induction m using Nat.strongRecOn with
  | _ m ih =>
    intro k n tail hk hb
    have h9 : k = 9 → m ≤ 1 := fun e => by
      subst e
      have : (2 : Nat) ^ (7 * 9) = 9223372036854775808 := by decide
      rw [this] at hb
      omega
    by_cases hm : m < 128
    · rw [eN_lt hm]
      show dN k n (m :: tail) = _
      have hy : dY k m = m := by
        unfold dY
        by_cases h : k = 9
        · have := h9 h
          rw [if_pos h]; omega
        · rw [if_neg h]; omega
      rw [dN, if_neg (by omega), if_pos hm, hy]
    · rw [eN_ge hm]
      show dN k n ((m % 128 + 128) :: (eN (m / 128) ++ tail)) = _
      have hk9 : k ≠ 9 := fun e => by have := h9 e; omega
      have e1 : dY k (m % 128 + 128) = m % 128 := by unfold dY; rw [if_neg hk9]; omega
      have e2 : m % 128 * 2 ^ (7 * k) + m / 128 * 2 ^ (7 * (k + 1)) = m * 2 ^ (7 * k) := by
        rw [pw7, Nat.mul_comm (2 ^ (7 * k)) 128, ← Nat.mul_assoc, ← Nat.add_mul]
        congr 1
        omega
      rw [dN, if_neg (by omega), if_neg (by omega), e1, ih (m / 128) (by omega) (k + 1) _ tail (by omega) (by rw [Nat.add_assoc, e2]; exact hb), Nat.add_assoc, e2]
theorem dN_left : ∀ (l : List Nat) (k n : Nat), (∃ j, (dN k n l).2.1 = l.drop j) ∧ ((dN k n l).2.2 = false → (dN k n l).2.1.length < l.length)
  | [], k, n => ⟨⟨0, rfl⟩, fun h => by rw [dN] at h; cases h⟩
  | c :: l, k, n => by
    rw [dN]
    by_cases h1 : 9 < k
    · rw [if_pos h1]
      exact ⟨⟨0, rfl⟩, fun h => (by cases h)⟩
    · rw [if_neg h1]
      by_cases h2 : c < 128
      · rw [if_pos h2]
        exact ⟨⟨1, rfl⟩, fun _ => by simp⟩
      · rw [if_neg h2]
        obtain ⟨⟨j, e⟩, h3⟩ := dN_left l (k + 1) (n + dY k c * 2 ^ (7 * k))
        exact ⟨⟨j + 1, by rw [e]; rfl⟩, fun h => by have := h3 h; simp only [List.length_cons]; omega⟩
theorem dN_ten : ∀ (l : List Nat) (n : Nat), (dN 10 n l).1 = 0
 | [], _ => rfl
 | c :: l, n => by rw [dN, if_pos (by omega)]
theorem dN_lt : ∀ (l : List Nat) (k n : Nat), k ≤ 9 → n < 2 ^ (7 * k) → (dN k n l).1 < 18446744073709551616
  | [], k, n, _, _ => by rw [dN]; decide
  | c :: l, k, n, hk, hn => by
    rw [dN, if_neg (by omega)]
    obtain ⟨b1, b2⟩ := dY_lt (c := c) hk hn
    by_cases h2 : c < 128
    · rw [if_pos h2]; exact b1
    · rw [if_neg h2]
      by_cases hk9 : k = 9
      · subst hk9; rw [dN_ten]; decide
      · exact dN_lt l (k + 1) _ (by omega) (b2 (by omega))
theorem dn_bad (B : List Nat) (a : Nat) : PCM false Tryz.prog 115 [.ptr 100 0] (DD B a true) true (.v (qV' 0)) (DD B a true) := by
 refine Zay Tryz.func115 rfl rfl rfl (Nat.le_of_ble_eq_true rfl) ?_
 refine goI ?_
 refine T.unroll 1 ?_
 refine goI ?_
 exact ⟨.inr rfl, by exact Zak⟩
theorem drop_get {B : List Nat} {a c : Nat} {l : List Nat} (h : B.drop a = c :: l) : B[a]? = some c ∧ B.drop (a + 1) = l ∧ a < B.length := by
 have h1 : (B.drop a)[0]? = some c := by rw [h]; rfl
 rw [List.getElem?_drop, Nat.add_zero] at h1
 refine ⟨h1, ?_, (List.getElem?_eq_some_iff.1 h1).1⟩
 have := congrArg (List.drop 1) h
 rw [List.drop_drop] at this
 exact this
theorem drop_nil {B : List Nat} {a : Nat} (h : B.drop a = []) (ha : a ≤ B.length) : a = B.length := by
 have := congrArg List.length h
 rw [List.length_drop, List.length_nil] at this
 omega
theorem dn_p (B : List Nat) (a : Nat) (ha : a ≤ B.length) (hB : By (B.drop a)) (hn : B.length ≤ 1000000000) : PCM false Tryz.prog 115 [.ptr 100 0] (DD B a false) true (.v (qV' (dN 0 0 (B.drop a)).1)) (DD B (B.length - (dN 0 0 (B.drop a)).2.1.length) (dN 0 0 (B.drop a)).2.2) := by
  have eml : (B.map nV).length = B.length := List.length_map ..
  refine Zay Tryz.func115 rfl rfl rfl (Nat.le_of_ble_eq_true rfl) ?_
  refine goI ?_
  refine T.loop (fun N s1 => ∃ (k n q : Nat), N = 10 - k ∧ k ≤ 10 ∧ q ≤ B.length ∧ (k ≤ 9 → n < 2 ^ (7 * k)) ∧ By (B.drop q) ∧ dN 0 0 (B.drop a) = dN k n (B.drop q) ∧ s1 = mkP [(0, .ptr 100 0), (3, .v (qV' n)), (4, .v (iV ((7 * k : Nat) : Int)))] (DD B q false) 58 true [100]) 10
    (s' := mkP [(0, .ptr 100 0), (3, .v (qV' 0)), (4, .v (iV ((7 * 0 : Nat) : Int)))] (DD B a false) 58 true [100]) (by exact Zak) ⟨0, 0, a, rfl, by omega, ha, fun _ => by omega, hB, rfl, rfl⟩ ?_
  rintro _ _ ⟨k, n, q, rfl, hk, hq, hnn, hby, hr, rfl⟩
  rw [hr]
  cases hl : B.drop q with
  | nil =>
    have hq2 := drop_nil hl hq
    rw [dN]
    have d1 : decide (((q : Nat) : Int) ≥ (((B.map nV).length : Nat) : Int)) = true := decide_eq_true (by omega)
    have e0 : B.length - ([] : List Nat).length = q := by rw [List.length_nil]; omega
    rw [e0]
    refine goI ?_
    exact ⟨.inr rfl, by exact Zak⟩
  | cons c l =>
    obtain ⟨hg, hd, hql⟩ := drop_get hl
    rw [hl] at hby
    have hc := hby c (List.mem_cons_self ..)
    have hby2 : By (B.drop (q + 1)) := by rw [hd]; exact fun x hx => hby x (List.mem_cons_of_mem _ hx)
    have d1 : decide (((q : Nat) : Int) ≥ (((B.map nV).length : Nat) : Int)) = false := decide_eq_false (by omega)
    have hx : (B.map nV)[((q : Nat) : Int).toNat]? = some (nV c) := by rw [Int.toNat_natCast, List.getElem?_map, hg]; rfl
    have hll : B.length - l.length = q + 1 := by
      have := congrArg List.length hd
      rw [List.length_drop] at this
      omega
    rw [dN]
    by_cases hk9 : 9 < k
    · rw [if_pos hk9]
      have d2 : decide (((7 * k : Nat) : Int) > 63) = true := decide_eq_true (by omega)
      have e0 : B.length - (c :: l).length = q := by rw [← hl, List.length_drop]; omega
      rw [e0]
      refine goI ?_
      exact ⟨.inr rfl, by exact Zak⟩
    · rw [if_neg hk9]
      have d2 : decide (((7 * k : Nat) : Int) > 63) = false := decide_eq_false (by omega)
      obtain ⟨b1, b2⟩ := dY_lt (c := c) (by omega) (hnn (by omega))
      have e1 := dY_wrap (k := k) (c := c) (by omega)
      have e2 := or64 (hnn (by omega)) b1
      have e3 : (((c : Nat) : Int).tmod 128) = ((c % 128 : Nat) : Int) := rfl
      have hs : (((7 * k : Nat) : Int)) + 7 = ((7 * (k + 1) : Nat) : Int) := by omega
      have hs2 : ((q : Nat) : Int) + 1 = ((q + 1 : Nat) : Int) := by omega
      generalize hX : n + dY k c * 2 ^ (7 * k) = X at *
      by_cases h128 : c < 128
      · rw [if_pos h128]
        have d4 : decide ((c : Int) < 128) = true := decide_eq_true (by omega)
        show T _ _ _ _ _
        have e0 : DD B (B.length - l.length) false = DD B (q + 1) false := by rw [hll]
        simp only
        rw [e0]
        refine goI ?_
        refine evG ggA (Zab (Zaa rfl) (Zac rfl) rfl rfl (by omega) hx rfl) ?_
        refine goI ?_
        refine evG ggA (Zbv (op := .rem) (Zaa rfl) rfl rfl (by omega) e3) ?_
        refine evG ggA (Zag (Zaa rfl) Za3 Za0 rfl (u64w (by omega) (by omega))) ?_
        refine goI ?_
        refine evG ggA (Zdf (Zaa rfl) rfl rfl (by omega) e1) ?_
        refine evG ggA (Zbp (Zaa rfl) rfl rfl rfl e2) ?_
        refine goI ?_
        exact ⟨.inr rfl, by exact Zak⟩
      · rw [if_neg h128]
        have d4 : decide ((c : Int) < 128) = false := decide_eq_false (by omega)
        refine goI ?_
        refine evG ggA (Zab (Zaa rfl) (Zac rfl) rfl rfl (by omega) hx rfl) ?_
        refine goI ?_
        refine evG ggA (Zbv (op := .rem) (Zaa rfl) rfl rfl (by omega) e3) ?_
        refine evG ggA (Zag (Zaa rfl) Za3 Za0 rfl (u64w (by omega) (by omega))) ?_
        refine goI ?_
        refine evG ggA (Zdf (Zaa rfl) rfl rfl (by omega) e1) ?_
        refine evG ggA (Zbp (Zaa rfl) rfl rfl rfl e2) ?_
        refine goI ?_
        exact Zad (k := 10 - (k + 1)) (s' := mkP [(0, .ptr 100 0), (3, .v (qV' X)), (4, .v (iV (((7 * k : Nat) : Int) + 7)))] (DD B (q + 1) false) 58 true [100]) (by omega) (by exact Zak) ⟨k + 1, X, q + 1, rfl, by omega, by omega, fun _ => b2 (by omega), hby2, by rw [hd], by rw [hs]⟩
end Ab
namespace Ab
open Go Go.RowKit Go.Proofs Hp
set_option maxRecDepth 100000
set_option maxHeartbeats 4000000
def LD {α : Type} (C : List Nat → Bool → α → List Nat → Bool → Prop) (N : List Nat → Bool → Nat → List Nat → Bool → Prop) (ok : α → Prop) (l : List Nat) (b : Bool) (vs : List α) (l' : List Nat) (b' : Bool) : Prop :=
 ∃ (g : List Nat → α × List Nat × Bool) (n : Nat) (l1 : List Nat) (b1 : Bool), (∀ l, By l → l.length ≤ 1000000000 → C l false (g l).1 (g l).2.1 (g l).2.2 ∧ ok (g l).1 ∧ ∃ j, (g l).2.1 = l.drop j) ∧ N l b n l1 b1 ∧ n ≤ l1.length ∧ (∃ j, l1 = l.drop j) ∧ runL g n l1 b1 = (vs, l', b')
theorem Zfa {α : Type} (K : Nat) {C : List Nat → Bool → α → List Nat → Bool → Prop} {N : List Nat → Bool → Nat → List Nat → Bool → Prop} {ok : α → Prop} {e : α → List Nat} {can : α → α} {good : α → Prop} (h : Rd C ok e can good) (hK : ∀ w, K ≤ (e w).length)
    (hN : ∀ l, By l → l.length ≤ 1000000000 → ∀ b, ∃ (n : Nat) (l' : List Nat) (b' : Bool), N l b n l' b' ∧ n ≤ l'.length ∧ (∃ j, l' = l.drop j) ∧ (b = true → b' = true) ∧ (b' = false → l'.length < l.length) ∧ ∀ m tail, m * K ≤ tail.length → b = false → l = eN m ++ tail → n = m ∧ l' = tail ∧ b' = false) :
    Rd (LD C N ok) (fun vs => (∀ v, v ∈ vs → ok v) ∧ vs.length ≤ 1000000000) (eL e) (fun vs => vs.map can) (fun vs => ∀ v, v ∈ vs → good v) where
  pos w := by
    unfold eL
    rw [List.length_append]
    have := Zcu w.length
    omega
  law l hl hn b := by
    obtain ⟨v0, -⟩ := h.law [] (fun c hc => by cases hc) (by simp) true
    have hex : ∀ l : List Nat, ∃ p : α × List Nat × Bool, By l → l.length ≤ 1000000000 → C l false p.1 p.2.1 p.2.2 ∧ ok p.1 ∧ (∃ j, p.2.1 = l.drop j) ∧ (p.2.2 = false → p.2.1.length < l.length ∧ (e (can p.1)).length ≤ 10 * (l.length - p.2.1.length)) ∧ ∀ w tail, ok w → good w → l = e w ++ tail → p.1 = w ∧ p.2.1 = tail ∧ p.2.2 = false := fun l => by
      by_cases hh : By l ∧ l.length ≤ 1000000000
      · obtain ⟨v, l', b', c, o, d, -, s, r⟩ := h.law l hh.1 hh.2 false
        exact ⟨(v, l', b'), fun _ _ => ⟨c, o, d, s, fun w tail h1 h2 h3 => r w tail h1 h2 rfl h3⟩⟩
      · exact ⟨(v0, l, true), fun h1 h2 => absurd ⟨h1, h2⟩ hh⟩
    obtain ⟨g, hg⟩ := Classical.axiomOfChoice hex
    have hg' : ∀ l, By l → l.length ≤ 1000000000 → C l false (g l).1 (g l).2.1 (g l).2.2 ∧ ok (g l).1 ∧ ∃ j, (g l).2.1 = l.drop j := fun l h1 h2 => by
      obtain ⟨c, o, d, -⟩ := hg l h1 h2
      exact ⟨c, o, d⟩
    obtain ⟨n, l1, b1, c, h1, h2, h3, h4, h5⟩ := hN l hl hn b
    have hl1 := Zaw h2
    have hb1 := hl.of_drop h2
    have hd : LD C N ok l b (runL g n l1 b1).1 (runL g n l1 b1).2.1 (runL g n l1 b1).2.2 := ⟨g, n, l1, b1, hg', c, h1, h2, rfl⟩
    have key : ∀ (n : Nat) (l : List Nat) (b : Bool), By l → l.length ≤ 1000000000 → (∀ v, v ∈ (runL g n l b).1 → ok v) ∧ (runL g n l b).1.length ≤ n ∧ (∃ j, (runL g n l b).2.1 = l.drop j) ∧ (b = true → (runL g n l b).2.2 = true) ∧ ((runL g n l b).2.2 = false → (runL g n l b).2.1.length ≤ l.length ∧ (((runL g n l b).1.map can).flatMap e).length ≤ 10 * (l.length - (runL g n l b).2.1.length)) ∧
        ∀ ws tail, (∀ w, w ∈ ws → ok w ∧ good w) → ws.length = n → b = false → l = ws.flatMap e ++ tail → (runL g n l b).1 = ws ∧ (runL g n l b).2.1 = tail ∧ (runL g n l b).2.2 = false := by
      intro n
      induction n with
      | zero =>
        intro l b _ _
        refine ⟨fun v hv => (by cases hv), Nat.zero_le _, ⟨0, rfl⟩, fun h => h, fun _ => ⟨Nat.le_refl _, Nat.zero_le _⟩, fun ws tail hw hl hb he => ?_⟩
        obtain rfl : ws = [] := List.length_eq_zero_iff.1 hl
        exact ⟨rfl, he, hb⟩
      | succ n ih =>
        intro l b hl hn
        cases b with
        | true => exact ⟨fun v hv => (by cases hv), Nat.zero_le _, ⟨0, rfl⟩, fun _ => rfl, fun h => (by cases h), fun ws tail hw hl hb he => (by cases hb)⟩
        | false =>
          obtain ⟨c, o, d, s, r⟩ := hg l hl hn
          have hd := Zaw d
          obtain ⟨i1, i2, i3, i4, i5, i6⟩ := ih (g l).2.1 (g l).2.2 (hl.of_drop d) (by omega)
          show (∀ v, v ∈ (g l).1 :: (runL g n (g l).2.1 (g l).2.2).1 → ok v) ∧ ((g l).1 :: (runL g n (g l).2.1 (g l).2.2).1).length ≤ n + 1 ∧ (∃ j, (runL g n (g l).2.1 (g l).2.2).2.1 = l.drop j) ∧ _ ∧ ((runL g n (g l).2.1 (g l).2.2).2.2 = false → (runL g n (g l).2.1 (g l).2.2).2.1.length ≤ l.length ∧ ((((g l).1 :: (runL g n (g l).2.1 (g l).2.2).1).map can).flatMap e).length ≤ 10 * (l.length - (runL g n (g l).2.1 (g l).2.2).2.1.length)) ∧ ∀ ws tail, _ → _ → _ → _ → (g l).1 :: (runL g n (g l).2.1 (g l).2.2).1 = ws ∧ (runL g n (g l).2.1 (g l).2.2).2.1 = tail ∧ (runL g n (g l).2.1 (g l).2.2).2.2 = false
          generalize runL g n (g l).2.1 (g l).2.2 = q at *
          refine ⟨fun v hv => ?_, by simp only [List.length_cons]; omega, Zaj d i3, fun h => (by cases h), fun hq => ?_, fun ws tail hw hl hb he => ?_⟩
          · rcases List.mem_cons.1 hv with rfl | hv
            · exact o
            · exact i1 v hv
          · have hf : (g l).2.2 = false := by
              cases hh : (g l).2.2 with
              | false => rfl
              | true => rw [i4 hh] at hq; cases hq
            obtain ⟨s1, s2⟩ := s hf
            obtain ⟨s3, s4⟩ := i5 hq
            refine ⟨by omega, ?_⟩
            rw [List.map_cons, List.flatMap_cons, List.length_append]
            omega
          · cases ws with
            | nil => cases hl
            | cons w ws =>
              rw [List.flatMap_cons, List.append_assoc] at he
              obtain ⟨wo, wg⟩ := hw w (List.mem_cons_self ..)
              obtain ⟨q1, q2, q3⟩ := r w _ wo wg he
              obtain ⟨q4, q5, q6⟩ := i6 ws tail (fun x hx => hw x (List.mem_cons_of_mem _ hx)) (by simpa using hl) q3 q2
              exact ⟨by rw [q1, q4], q5, q6⟩
    obtain ⟨i1, i2, i3, i4, i5, i6⟩ := key n l1 b1 hb1 (by omega)
    refine ⟨_, _, _, hd, ⟨i1, by omega⟩, Zaj h2 i3, fun h => i4 (h3 h), fun hq => ?_, fun ws tail ho hgd hb he => ?_⟩
    · have hf : b1 = false := by
        cases b1 with
        | false => rfl
        | true => rw [i4 rfl] at hq; cases hq
      have h4 := h4 hf
      obtain ⟨s1, s2⟩ := i5 hq
      refine ⟨by omega, ?_⟩
      unfold eL
      rw [List.length_append, List.length_map]
      have := eN_10 (n := (runL g n l1 b1).1.length) (by omega)
      omega
    · unfold eL at he
      rw [List.append_assoc] at he
      have hfl : ws.length * K ≤ (ws.flatMap e).length := by
        clear he hgd ho
        induction ws with
        | nil => simp
        | cons w ws ih => rw [List.flatMap_cons, List.length_append, List.length_cons, Nat.succ_mul]; have := hK w; omega
      obtain ⟨q1, q2, q3⟩ := h5 ws.length _ (by rw [List.length_append]; omega) hb he
      exact i6 ws tail (fun w hw => ⟨ho.1 w hw, hgd w hw⟩) q1.symm q3 q2
theorem suf_at {l B : List Nat} (h : ∃ j, l = B.drop j) : ∃ a, a ≤ B.length ∧ l = B.drop a ∧ B.length - l.length = a := by
 obtain ⟨j, rfl⟩ := h
 by_cases hj : j ≤ B.length
 ·exact ⟨j, hj, rfl, by rw [List.length_drop]; omega⟩
 ·refine ⟨B.length, Nat.le_refl _, ?_, by rw [List.length_drop]; omega⟩
  rw [List.drop_length, List.drop_eq_nil_of_le (by omega)]
abbrev DC {α : Type} (f : FuncId) (xs : List TV) (av : α → AV) : List Nat → Bool → α → List Nat → Bool → Prop := fun l b v l' b' => ∀ B : List Nat, (∃ j, l = B.drop j) → B.length ≤ 1000000000 → PCM false Tryz.prog f (.ptr 100 0 :: xs) (DS B l b) true (.v (av v)) (DS B l' b')
theorem d_number (l : List Nat) (hl : By l) (b : Bool) : ∃ (n : Nat) (l' : List Nat) (b' : Bool), DC 115 [] qV' l b n l' b' ∧ n < 18446744073709551616 ∧ (∃ j, l' = l.drop j) ∧ (b = true → b' = true ∧ n = 0 ∧ l' = l) ∧ (b' = false → l'.length < l.length) ∧ ∀ m tail, m < 18446744073709551616 → b = false → l = eN m ++ tail → n = m ∧ l' = tail ∧ b' = false := by
  cases b with
  | true => exact ⟨0, l, true, fun B _ _ => dn_bad B _, by decide, ⟨0, rfl⟩, fun _ => ⟨rfl, rfl, rfl⟩, fun h => (by cases h), fun m tail _ h => (by cases h)⟩
  | false =>
    obtain ⟨h1, h2⟩ := dN_left l 0 0
    refine ⟨_, _, _, fun B hs hB => ?_, dN_lt l 0 0 (by omega) (by decide), h1, fun h => (by cases h), h2, fun m tail hm _ e => ?_⟩
    · obtain ⟨a, ha, rfl, he⟩ := suf_at hs
      have := dn_p B a ha hl hB
      show PCM _ _ _ _ (DD B _ false) _ _ _
      rw [he]; exact this
    · subst e
      rw [dN_eN m 0 0 tail (by omega) (by simpa using hm)]
      simp
theorem rd_dnumber : Rd (DC 115 [] qV') (fun n => n < 18446744073709551616) eN id (fun _ => True) where
 law l hl hn b := by
  obtain ⟨v, l', b', c, h1, h2, h3, h4, h5⟩ := d_number l hl b
  refine ⟨v, l', b', c, h1, h2, fun h => (h3 h).1, fun h => ⟨h4 h, ?_⟩, fun w tail hw _ hb he => h5 w tail hw hb he⟩
  have := h4 h
  have := eN_10 h1
  show (eN v).length ≤ _
  omega
 pos w := Zcu _
theorem Zf4 (K : Nat) (hK : 0 < K) (hK9 : K ≤ 100) (l : List Nat) (hl : By l) (hn : l.length ≤ 1000000000) (b : Bool) : ∃ (n : Nat) (l' : List Nat) (b' : Bool), DC 80 [.v (iV K)] (fun n : Nat => iV n) l b n l' b' ∧ n ≤ l'.length ∧ (∃ j, l' = l.drop j) ∧ (b = true → b' = true) ∧ (b' = false → l'.length < l.length) ∧
  ∀ m tail, m * K ≤ tail.length → b = false → l = eN m ++ tail → n = m ∧ l' = tail ∧ b' = false := by
 obtain ⟨n, l', b1, c, h1, h2, h3, h4, h5⟩ := d_number l hl b
 have hl' := Zaw h2
 have hsuf : ∀ {B : List Nat}, (∃ j, l = B.drop j) → (l'.length ≤ B.length) := fun ⟨j, e⟩ => by have := Zaw ⟨j, e⟩; omega
 have big : ∀ m tail, m * K ≤ tail.length → l = eN m ++ tail → m < 18446744073709551616 := fun m tail hm e => by
  have h1 := congrArg List.length e
  rw [List.length_append] at h1
  have : m ≤ m * K := Nat.le_mul_of_pos_right m hK
  omega
 have e1 : IntKind.u64.wrap ((l'.length / K : Nat) : Int) = ((l'.length / K : Nat) : Int) := by
  have := Nat.div_le_self l'.length K
  generalize l'.length / K = q at *
  exact u64w (by omega) (by omega)
 have e2 : IntKind.i64.wrap ((l'.length : Int).tdiv (K : Int)) = ((l'.length / K : Nat) : Int) := by
  have e : (l'.length : Int).tdiv (K : Int) = ((l'.length / K : Nat) : Int) := rfl
  have := Nat.div_le_self l'.length K
  rw [e]
  generalize l'.length / K = q at *
  exact w64 (by omega) (by omega)
 by_cases hb1 : b1 = true
 ·subst hb1
  refine ⟨0, l', true, fun B hs hB => ?_, Nat.zero_le _, h2, fun _ => rfl, fun h => (by cases h), fun m tail hm hb e => ?_⟩
  ·have c := c B hs hB
   refine Zay Tryz.func80 rfl rfl rfl (Nat.le_of_ble_eq_true rfl) ?_
   refine goI ?_
   refine mcA c ?_
   refine goI ?_
   exact ⟨.inr rfl, by exact Zak⟩
  ·obtain ⟨-, -, g⟩ := h5 m tail (big m tail hm e) hb e
   cases g
 ·have hb1 : b1 = false := by simpa using hb1
  subst hb1
  have h4 := h4 rfl
  by_cases hgt : l'.length / K < n
  ·have d1 : decide ((n : Int) > ((l'.length / K : Nat) : Int)) = true := decide_eq_true (by omega)
   refine ⟨0, l', true, fun B hs hB => ?_, Nat.zero_le _, h2, fun _ => rfl, fun h => (by cases h), fun m tail hm hb e => ?_⟩
   ·have c := c B hs hB
    have hle := hsuf hs
    have eml : (B.map nV).length = B.length := List.length_map ..
    have e0 : (((B.map nV).length : Nat) : Int) - ((B.length - l'.length : Nat) : Int) = (l'.length : Int) := by omega
    refine Zay Tryz.func80 rfl rfl rfl (Nat.le_of_ble_eq_true rfl) ?_
    refine goI ?_
    refine mcA c ?_
    refine goI ?_
    rw [e0]
    refine evG ggA (Zbv (Zaa rfl) rfl rfl (by omega) e2) ?_
    refine evG ggA (Zag (Zaa rfl) Zbd Za0 rfl e1) ?_
    refine goI ?_
    exact ⟨.inr rfl, by exact Zak⟩
   ·obtain ⟨g1, g2, -⟩ := h5 m tail (big m tail hm e) hb e
    rw [g1, g2] at hgt
    have := (Nat.le_div_iff_mul_le hK).2 hm
    omega
  ·have d1 : decide ((n : Int) > ((l'.length / K : Nat) : Int)) = false := decide_eq_false (by omega)
   have hnl : n ≤ l'.length := Nat.le_trans (by omega) (Nat.div_le_self l'.length K)
   refine ⟨n, l', false, fun B hs hB => ?_, hnl, h2, fun h => (h3 h).1, fun _ => h4, fun m tail hm hb e => h5 m tail (big m tail hm e) hb e⟩
   have c := c B hs hB
   have hle := hsuf hs
   have eml : (B.map nV).length = B.length := List.length_map ..
   have e0 : (((B.map nV).length : Nat) : Int) - ((B.length - l'.length : Nat) : Int) = (l'.length : Int) := by omega
   refine Zay Tryz.func80 rfl rfl rfl (Nat.le_of_ble_eq_true rfl) ?_
   refine goI ?_
   refine mcA c ?_
   refine goI ?_
   rw [e0]
   refine evG ggA (Zbv (Zaa rfl) rfl rfl (by omega) e2) ?_
   refine evG ggA (Zag (Zaa rfl) Zbd Za0 rfl e1) ?_
   refine goI ?_
   refine evG ggA (Zag (Zaa rfl) Za0 Zbd rfl (w64 (by omega) (by omega))) ?_
   refine goI ?_
   exact ⟨.inr rfl, by exact Zak⟩
theorem d_signed (l : List Nat) (hl : By l) (b : Bool) : ∃ (v : Int) (l' : List Nat) (b' : Bool), DC 81 [] iV l b v l' b' ∧ I64 v ∧ (∃ j, l' = l.drop j) ∧ (b = true → b' = true ∧ v = 0 ∧ l' = l) ∧ (b' = false → l'.length < l.length) ∧ ∀ w tail, I64 w → b = false → l = eI w ++ tail → v = w ∧ l' = tail ∧ b' = false := by
 obtain ⟨n, l', b1, c, h1, h2, h3, h4, h5⟩ := d_number l hl b
 refine ⟨unz n, l', b1, fun B hs hB => ?_, unz_ok h1, h2, fun h => ⟨(h3 h).1, by rw [(h3 h).2.1]; rfl, (h3 h).2.2⟩, h4, fun w tail hw hb e => ?_⟩
 ·have c := c B hs hB
  have e0 : (n : Int).tmod 2 = ((n % 2 : Nat) : Int) := rfl
  have e1 := qdiv (k := 2) h1 (by omega)
  refine Zay Tryz.func81 rfl rfl rfl (Nat.le_of_ble_eq_true rfl) ?_
  by_cases ho : n % 2 = 1
  ·have ev : unz n = 0 - ((n / 2 : Nat) : Int) - 1 := by unfold unz; rw [if_pos ho]; omega
   have e3 : IntKind.i64.wrap ((n / 2 : Nat) : Int) = ((n / 2 : Nat) : Int) := w64 (by omega) (by omega)
   have hI := unz_ok h1
   rw [ho] at e0
   have d1 : ((((1 : Nat) : Int)) == 1) = true := rfl
   rw [ev] at hI ⊢
   refine goI ?_
   refine mcA c ?_
   refine goI ?_
   refine evG ggA (Zbv (op := .rem) (Zaa rfl) rfl rfl (by omega) e0) ?_
   refine goI ?_
   refine evG ggA (Zbv (Zaa rfl) rfl rfl (by omega) e1) ?_
   refine evG ggA (Zag (Zaa rfl) Za0 Zbd rfl e3) ?_
   refine goI ?_
   exact ⟨.inr rfl, by exact Zak⟩
  ·have ev : unz n = ((n / 2 : Nat) : Int) := by unfold unz; rw [if_neg ho]
   have ho : n % 2 = 0 := by omega
   rw [ho] at e0
   have d1 : ((((0 : Nat) : Int)) == 1) = false := rfl
   rw [ev]
   refine goI ?_
   refine mcA c ?_
   refine goI ?_
   refine evG ggA (Zbv (op := .rem) (Zaa rfl) rfl rfl (by omega) e0) ?_
   refine goI ?_
   refine evG ggA (Zbv (Zaa rfl) rfl rfl (by omega) e1) ?_
   refine evG ggA (Zag (Zaa rfl) Za0 Zbd rfl (w64 (by omega) (by omega))) ?_
   refine goI ?_
   exact ⟨.inr rfl, by exact Zak⟩
 ·obtain ⟨g1, g2, g3⟩ := h5 (zg w) tail (zg_lt hw) hb e
  exact ⟨by rw [g1, unz_zg], g2, g3⟩
theorem Zdc : Rd (DC 81 [] iV) I64 eI id (fun _ => True) where
 law l hl hn b := by
  obtain ⟨v, l', b', c, h1, h2, h3, h4, h5⟩ := d_signed l hl b
  refine ⟨v, l', b', c, h1, h2, fun h => (h3 h).1, fun h => ⟨h4 h, ?_⟩, fun w tail hw _ hb he => h5 w tail hw hb he⟩
  have := h4 h
  have := eI_10 h1
  show (eI v).length ≤ _
  omega
 pos w := Zcu _
theorem d_text (l : List Nat) (hl : By l) (hn : l.length ≤ 1000000000) (b : Bool) : ∃ (s : ByteArray) (l' : List Nat) (b' : Bool), DC 116 [] tV l b s l' b' ∧ s.size + l'.length ≤ l.length ∧ (∃ j, l' = l.drop j) ∧ (b = true → b' = true) ∧ (b' = false → s.size + l'.length < l.length) ∧
  ∀ w tail, b = false → l = eT w ++ tail → s = w ∧ l' = tail ∧ b' = false := by
 obtain ⟨n, l', b1, c, h1, h2, h3, h4, h5⟩ := Zf4 1 (by omega) (by omega) l hl hn b
 have hl' := Zaw h2
 refine ⟨txB (l'.take n), l'.drop n, b1, fun B hs hB => ?_, by rw [txB_size, List.length_take, List.length_drop]; omega, ?_, h3, fun h => by have := h4 h; rw [txB_size, List.length_take, List.length_drop]; omega, fun w tail hb e => ?_⟩
 ·have c := c B hs hB
  have hle := Zaw (Zaj hs h2)
  obtain ⟨a, ha, hd, hea⟩ := suf_at (Zaj hs h2)
  have hll : l'.length = B.length - a := by rw [hd, List.length_drop]
  have e2 : B.length - (l'.drop n).length = a + n := by rw [List.length_drop]; omega
  have eml : (B.map nV).length = B.length := List.length_map ..
  have ea : (((a : Nat) : Int) + ((n : Nat) : Int)).toNat = a + n := by omega
  have eb : ((a : Nat) : Int).toNat = a := by omega
  have ex : ((B.map nV).take (a + n)).drop a = ((l'.take n).map fun n : Nat => (n : Int)).map bV := by
   rw [hd, ← take_nV, List.map_drop, List.take_drop]
  have c : PCM false Tryz.prog 80 [.ptr 100 0, .v (iV 1)] (DS B l b) true (.v (iV n)) (DD B a b1) := by rw [← hea]; exact c
  show PCM _ _ _ _ _ _ _ (DD B (B.length - (l'.drop n).length) b1)
  rw [e2]
  refine Zay Tryz.func116 rfl rfl rfl (Nat.le_of_ble_eq_true rfl) ?_
  refine goI ?_
  refine mcA c ?_
  refine goI ?_
  refine evG ggA (Zgm (Zaa rfl) (Zac rfl) rfl (Zdw B) rfl rfl (by omega) (by omega) (by omega)) ?_
  rw [ea, eb, ex]
  refine evG ggA (Zdg (Zaa rfl) Zem Za3 Zel rfl) ?_
  refine goI ?_
  exact ⟨.inr rfl, by exact Zak⟩
 ·obtain ⟨j, rfl⟩ := h2
  exact ⟨j + n, by rw [List.drop_drop]⟩
 ·unfold eT at e
  rw [List.append_assoc] at e
  have hw : (w.data.toList.map (·.toNat)).length = w.size := by rw [List.length_map, Array.length_toList]; rfl
  obtain ⟨g1, g2, g3⟩ := h5 w.size _ (by rw [List.length_append, hw]; omega) hb e
  subst g1 g2
  rw [← hw, List.take_left, List.drop_left]
  exact ⟨txB_of w, rfl, g3⟩
theorem rd_dtext : Rd (DC 116 [] tV) (fun s => s.size ≤ 1000000000) eT id (fun _ => True) where
 law l hl hn b := by
  obtain ⟨v, l', b', c, h1, h2, h3, h4, h5⟩ := d_text l hl hn b
  refine ⟨v, l', b', c, by omega, h2, h3, fun h => ?_, fun w tail hw _ hb he => h5 w tail hb he⟩
  have := h4 h
  have := eT_len v (by omega)
  refine ⟨by omega, ?_⟩
  show (eT v).length ≤ _
  omega
 pos w := by
  unfold eT
  rw [List.length_append]
  have := Zcu w.size
  omega
end Ab
namespace Ab
open Go Go.RowKit Go.Proofs Hp
set_option maxRecDepth 100000
set_option maxHeartbeats 4000000
theorem dint_no {l l' : List Nat} {b b1 : Bool} {n : Nat} (c : DC 115 [] qV' l b n l' b1) (hn : n < 18446744073709551616) (h2 : ∃ j, l' = l.drop j) (hl : l'.length ≤ 1000000000) (h : b1 = true ∨ l'.length / 4 < n / 2) : DC 146 [] (fun v : BI => .agg v.cs) l b ⟨false, []⟩ l' true := by
  intro B hs hB
  have c := c B hs hB
  have hle := Zaw (Zaj hs h2)
  have eml : (B.map nV).length = B.length := List.length_map ..
  have e0 : (((B.map nV).length : Nat) : Int) - ((B.length - l'.length : Nat) : Int) = (l'.length : Int) := by omega
  have e2 := qdiv (k := 2) hn (by omega)
  have e3 : IntKind.i64.wrap ((l'.length : Int).tdiv 4) = ((l'.length / 4 : Nat) : Int) := by
    rw [show (l'.length : Int).tdiv 4 = ((l'.length / 4 : Nat) : Int) from rfl]
    exact w64 (by omega) (by omega)
  have e1 : IntKind.u64.wrap ((l'.length / 4 : Nat) : Int) = ((l'.length / 4 : Nat) : Int) := u64w (by omega) (by omega)
  refine Zbz Tryz.func146 rfl rfl rfl (Nat.le_of_ble_eq_true rfl) (Za1 rfl) ?_
  cases b1 with
  | true =>
    refine goI ?_
    refine mcA c ?_
    refine goI ?_
    exact ⟨.inr rfl, rfl, rfl, by exact Zak⟩
  | false =>
    have h : l'.length / 4 < n / 2 := by simpa using h
    have d1 : decide (((n / 2 : Nat) : Int) > ((l'.length / 4 : Nat) : Int)) = true := decide_eq_true (by omega)
    refine goI ?_
    refine mcA c ?_
    refine goI ?_
    refine evG ggA (Zbv (Zaa rfl) rfl rfl (by omega) e2) ?_
    refine goI ?_
    rw [e0]
    refine evG ggA (Zbv (Zaa rfl) rfl rfl (by omega) e3) ?_
    refine evG ggA (Zag (Zaa rfl) Zbd Za0 rfl e1) ?_
    refine goI ?_
    exact ⟨.inr rfl, rfl, rfl, by exact Zak⟩
theorem dint_ok {l l' : List Nat} {b : Bool} {n : Nat} (c : DC 115 [] qV' l b n l' false) (hby : By l') (hn : n < 18446744073709551616) (h2 : ∃ j, l' = l.drop j) (hl : l'.length ≤ 1000000000) (h : n / 2 ≤ l'.length / 4) : DC 146 [] (fun v : BI => .agg v.cs) l b ⟨decide (n % 2 = 1), digs (n / 2) l'⟩ (l'.drop (4 * (n / 2))) false := by
 intro B hs hB
 have c := c B hs hB
 have hle := Zaw (Zaj hs h2)
 obtain ⟨a, ha, hd, hea⟩ := suf_at (Zaj hs h2)
 have eml : (B.map nV).length = B.length := List.length_map ..
 have hll : l'.length = B.length - a := by rw [hd, List.length_drop]
 have e0 : (((B.map nV).length : Nat) : Int) - ((a : Nat) : Int) = (l'.length : Int) := by omega
 have e2 := qdiv (k := 2) hn (by omega)
 have e3 : IntKind.i64.wrap ((l'.length : Int).tdiv 4) = ((l'.length / 4 : Nat) : Int) := by
  rw [show (l'.length : Int).tdiv 4 = ((l'.length / 4 : Nat) : Int) from rfl]
  exact w64 (by omega) (by omega)
 have e1 : IntKind.u64.wrap ((l'.length / 4 : Nat) : Int) = ((l'.length / 4 : Nat) : Int) := u64w (by omega) (by omega)
 have e5 : IntKind.i64.wrap ((n / 2 : Nat) : Int) = ((n / 2 : Nat) : Int) := w64 (by omega) (by omega)
 have e4' : ((n : Int).tmod 2) = ((n % 2 : Nat) : Int) := rfl
 have d1 : decide (((n / 2 : Nat) : Int) > ((l'.length / 4 : Nat) : Int)) = false := decide_eq_false (by omega)
 have eg : (((n % 2 : Nat) : Int) == 1) = decide (n % 2 = 1) := by
  have : n % 2 = 0 ∨ n % 2 = 1 := by omega
  rcases this with h | h <;> rw [h] <;> rfl
 have c : PCM false Tryz.prog 115 [.ptr 100 0] (DS B l b) true (.v (qV' n)) (DD B a false) := by rw [← hea]; exact c
 have hfin : B.length - (l'.drop (4 * (n / 2))).length = a + 4 * (n / 2) := by rw [List.length_drop]; omega
 show PCM _ _ _ _ _ _ _ (DD B (B.length - (l'.drop (4 * (n / 2))).length) false)
 rw [hfin]
 generalize hm : n / 2 = m at *
 generalize decide (n % 2 = 1) = g at *
 refine Zbz Tryz.func146 rfl rfl rfl (Nat.le_of_ble_eq_true rfl) (Za1 rfl) ?_
 refine goI ?_
 refine mcA c ?_
 refine goI ?_
 refine evG ggA (Zbv (Zaa rfl) rfl rfl (by omega) e2) ?_
 refine goI ?_
 rw [e0]
 refine evG ggA (Zbv (Zaa rfl) rfl rfl (by omega) e3) ?_
 refine evG ggA (Zag (Zaa rfl) Zbd Za0 rfl e1) ?_
 refine goI ?_
 refine evG ggA (Zbv (op := .rem) (Zaa rfl) rfl rfl (by omega) e4') ?_
 refine evG ggA (Zfu (Zaa rfl) rfl rfl (congrArg some eg)) ?_
 refine evG ggA (Zc1 (Zaa rfl) (Zb0 rfl) rfl rfl rfl) ?_
 refine goI ?_
 refine T.loop (fun N s1 => ∃ i : Nat, N = m - i ∧ i ≤ m ∧ s1 = mkP [(0, .ptr 100 0), (2, .ptr 2 0), (3, .v (qV' n)), (4, .ptr 4 0), (5, .v (iV i))] (DD B (a + 4 * i) false ++ [(2, .var [.v (boV false), .v (.p nilV)]), (4, .var [.v (boV g), .own 102 i]), (102, .lst 1 95 ((digs i l').map u32))]) 95 false [100]) m
  (s' := mkP [(0, .ptr 100 0), (2, .ptr 2 0), (3, .v (qV' n)), (4, .ptr 4 0), (5, .v (iV ((0 : Nat) : Int)))] (DD B a false ++ [(2, .var [.v (boV false), .v (.p nilV)]), (4, .var [.v (boV g), .own 102 0]), (102, .lst 1 95 [])]) 95 false [100]) (by exact Zak) ⟨0, rfl, Nat.zero_le _, rfl⟩ ?_
 rintro _ _ ⟨i, rfl, hi, rfl⟩
 by_cases hlt : i < m
 ·have d2 : decide ((i : Int) < (m : Int)) = true := decide_eq_true (by omega)
  obtain ⟨x0, x1, x2, x3, t, hq⟩ := four (l'.drop (4 * i)) (by rw [List.length_drop]; omega)
  have hbq := By.drop hby (4 * i)
  have hs := digs_snoc i l' hq
  have hli : ((digs i l').map u32).length = i := by rw [List.length_map]; exact Zfh i l' (by omega)
  rw [hq] at hbq
  have q0 := hbq x0 (by simp)
  have q1 := hbq x1 (by simp)
  have q2 := hbq x2 (by simp)
  have q3 := hbq x3 (by simp)
  have s1 : IntKind.u32.wrap ((x1 : Int) * 2 ^ (min (8 : Int).toNat 32)) = ((x1 * 2 ^ 8 : Nat) : Int) := by rw [u32w (by show 0 ≤ (x1 : Int) * 256; omega) (by show (x1 : Int) * 256 < _; omega)]; rfl
  have s2 : IntKind.u32.wrap ((x2 : Int) * 2 ^ (min (16 : Int).toNat 32)) = ((x2 * 2 ^ 16 : Nat) : Int) := by rw [u32w (by show 0 ≤ (x2 : Int) * 65536; omega) (by show (x2 : Int) * 65536 < _; omega)]; rfl
  have s3 : IntKind.u32.wrap ((x3 : Int) * 2 ^ (min (24 : Int).toNat 32)) = ((x3 * 2 ^ 24 : Nat) : Int) := by rw [u32w (by show 0 ≤ (x3 : Int) * 16777216; omega) (by show (x3 : Int) * 16777216 < _; omega)]; rfl
  have o1 := or32 (a := x0) (b := x1) (i := 8) (by omega) (by omega)
  have o2 := or32 (a := x0 + x1 * 2 ^ 8) (b := x2) (i := 16) (by omega) (by omega)
  have o3 := or32 (a := x0 + x1 * 2 ^ 8 + x2 * 2 ^ 16) (b := x3) (i := 24) (by omega) (by omega)
  have hD : (digs (i + 1) l').map u32 = (digs i l').map u32 ++ [u32 ((d4 x0 x1 x2 x3 : Nat) : Int)] := by rw [hs, List.map_append]; rfl
  have hsl : ((B.map nV).take (((a + 4 * i : Nat) : Int) + 4).toNat).drop (((a + 4 * i : Nat) : Int)).toNat = [nV x0, nV x1, nV x2, nV x3] := by
   have hq2 : B.drop (a + 4 * i) = x0 :: x1 :: x2 :: x3 :: t := by rw [← hq, hd, List.drop_drop]
   rw [show (((a + 4 * i : Nat) : Int) + 4).toNat = (a + 4 * i) + 4 by omega, show (((a + 4 * i : Nat) : Int)).toNat = a + 4 * i by omega, ← List.map_take, ← List.map_drop]
   have : (B.take (a + 4 * i + 4)).drop (a + 4 * i) = (B.drop (a + 4 * i)).take 4 := by rw [List.take_drop]
   rw [this, hq2]; rfl
  have y0 : [nV x0, nV x1, nV x2, nV x3][(0 : Int).toNat]? = some (nV x0) := rfl
  have y1 : [nV x0, nV x1, nV x2, nV x3][(1 : Int).toNat]? = some (nV x1) := rfl
  have y2 : [nV x0, nV x1, nV x2, nV x3][(2 : Int).toNat]? = some (nV x2) := rfl
  have y3 : [nV x0, nV x1, nV x2, nV x3][(3 : Int).toNat]? = some (nV x3) := rfl
  have ea : ((a + 4 * i : Nat) : Int) + 4 = ((a + 4 * (i + 1) : Nat) : Int) := by omega
  clear hq hs
  generalize (digs i l').map u32 = D at *
  generalize hD2 : (digs (i + 1) l').map u32 = D2 at *
  subst hD
  generalize ha4 : a + 4 * i = p at *
  have hp : p + 4 ≤ B.length := by omega
  refine goJ ?_
  refine evG ggA (Zbv (Zaa rfl) rfl rfl (by omega) e2) ?_
  refine evG ggA (Zag (Zaa rfl) Za0 Zbd rfl e5) ?_
  refine goJ ?_
  refine T.drawF mixed ?_
  refine goJ ?_
  refine evG ggA (Zgm (Zaa rfl) (Zac rfl) rfl (Zdw B) rfl rfl (by omega) (by omega) (by omega)) ?_
  rw [hsl]
  refine goJ ?_
  refine ⟨by kernel_rfl, ?_⟩
  refine goJ ?_
  refine T.drawF mixed ?_
  refine goJ ?_
  refine evG ggA (Zab (Zaa rfl) (Zac rfl) rfl rfl (by decide) y0 rfl) ?_
  refine goJ ?_
  refine evG ggA (Zag (Zaa rfl) Za3 Za2 rfl (u32w (by omega) (by omega))) ?_
  refine goJ ?_
  refine evG ggA (Zab (Zaa rfl) (Zac rfl) rfl rfl (by decide) y1 rfl) ?_
  refine goJ ?_
  refine evG ggA (Zag (Zaa rfl) Za3 Za2 rfl (u32w (by omega) (by omega))) ?_
  refine evG ggA (Zdf (Zaa rfl) rfl rfl (by decide) s1) ?_
  refine evG ggA (Zbp (Zaa rfl) rfl rfl rfl o1) ?_
  refine goJ ?_
  refine evG ggA (Zab (Zaa rfl) (Zac rfl) rfl rfl (by decide) y2 rfl) ?_
  refine goJ ?_
  refine evG ggA (Zag (Zaa rfl) Za3 Za2 rfl (u32w (by omega) (by omega))) ?_
  refine evG ggA (Zdf (Zaa rfl) rfl rfl (by decide) s2) ?_
  refine evG ggA (Zbp (Zaa rfl) rfl rfl rfl o2) ?_
  refine goJ ?_
  refine evG ggA (Zab (Zaa rfl) (Zac rfl) rfl rfl (by decide) y3 rfl) ?_
  refine goJ ?_
  refine evG ggA (Zag (Zaa rfl) Za3 Za2 rfl (u32w (by omega) (by omega))) ?_
  refine evG ggA (Zdf (Zaa rfl) rfl rfl (by decide) s3) ?_
  refine evG ggA (Zbp (Zaa rfl) rfl rfl rfl o3) ?_
  refine evG ggA (Zar (Zaa rfl) (Zaf rfl) rfl rfl rfl rfl (Zbo rfl rfl) (Nat.le_of_ble_eq_true rfl)) ?_
  refine evG ggA (Zb5 (xs := [u32 ((d4 x0 x1 x2 x3 : Nat) : Int)]) (Zaa rfl) (Zaf rfl) rfl rfl hli rfl (fun b hb => by simp at hb; subst hb; rfl) (by decide) (by unfold maxLen; simp; omega) (by simp; omega) rfl (fun e => by cases e)) ?_
  refine goJ ?_
  refine ⟨by kernel_rfl, ?_⟩
  refine goJ ?_
  exact Zad (k := m - (i + 1)) (s' := mkP [(0, .ptr 100 0), (2, .ptr 2 0), (3, .v (qV' n)), (4, .ptr 4 0), (5, .v (iV ((i : Int) + 1)))] (DD B (p + 4) false ++ [(2, .var [.v (boV false), .v (.p nilV)]), (4, .var [.v (boV g), .own 102 (i + 1)]), (102, .lst 1 95 (D ++ [_]))]) 95 false [100]) (by omega) (by exact Zak) ⟨i + 1, rfl, hlt, by rw [hD2, show a + 4 * (i + 1) = p + 4 by omega]; rfl⟩
 ·obtain rfl : i = m := by omega
  have d2 : decide ((i : Int) < (i : Int)) = false := decide_eq_false (by omega)
  have hli : ((digs i l').map u32).length = i := by rw [List.length_map]; exact Zfh i l' (by omega)
  refine T.seq ?_
  refine T.seq ?_
  refine T.region ?_
  refine runA ?_
  refine evG ggA (Zbv (Zaa rfl) rfl rfl (by omega) e2) ?_
  refine evG ggA (Zag (Zaa rfl) Za0 Zbd rfl e5) ?_
  refine runA ?_
  refine Zbs ?_
  refine Zbr ?_
  first
   | refine T.condF rfl (by assumption) ?_
   | (refine T.seq ?_; refine T.condF rfl (by assumption) ?_)
  refine T.exit ?_
  refine osA ?_
  refine T.weak (s' := mkP [(2, .ptr 2 0), (4, .ptr 4 0)] (DD B (a + 4 * i) false ++ [(2, .var [.v (boV false), .v (.p nilV)]), (4, .var [.v (boV g), .v (.sl ((digs i l').map u32))])]) 95 false [100]) (by exact Zak) ?_
  refine T.weak (Ent.ndP rfl) ?_
  refine goI ?_
  exact ⟨.inr rfl, rfl, rfl, by exact Zak⟩
end Ab
namespace Ab
open Go Go.RowKit Go.Proofs Hp
set_option maxRecDepth 100000
set_option maxHeartbeats 4000000
theorem d_integer (l : List Nat) (hl : By l) (hn : l.length ≤ 1000000000) (b : Bool) : ∃ (v : BI) (l' : List Nat) (b' : Bool), DC 146 [] (fun v : BI => .agg v.cs) l b v l' b' ∧ v.ok ∧ (∃ j, l' = l.drop j) ∧ (b = true → b' = true) ∧ (b' = false → 1 + 4 * v.ds.length + l'.length ≤ l.length) ∧ ∀ w tail, w.ok → b = false → l = eB w ++ tail → v = w ∧ l' = tail ∧ b' = false := by
 obtain ⟨n, l', b1, c, h1, h2, h3, h4, h5⟩ := d_number l hl b
 have hl' := Zaw h2
 have back : ∀ (w : BI) (tail : List Nat), w.ok → b = false → l = eB w ++ tail → n = 2 * w.ds.length + (if w.g then 1 else 0) ∧ l' = w.ds.flatMap e4 ++ tail ∧ b1 = false := fun w tail hw hb e => by
  unfold eB at e
  rw [List.append_assoc] at e
  exact h5 _ _ (by have := hw.2; split <;> omega) hb e
 have f4 : ∀ ds : List Int, (ds.flatMap e4).length = 4 * ds.length := by
  intro ds
  induction ds with
  | nil => rfl
  | cons a ds ih => rw [List.flatMap_cons, List.length_append, ih]; simp [e4]; omega
 by_cases hgt : b1 = true ∨ l'.length / 4 < n / 2
 ·refine ⟨⟨false, []⟩, l', true, dint_no c h1 h2 (by omega) hgt, ⟨fun d hd => (by cases hd), Nat.zero_le _⟩, h2, fun _ => rfl, fun h => (by cases h), fun w tail hw hb e => ?_⟩
  obtain ⟨g1, g2, g3⟩ := back w tail hw hb e
  have := congrArg List.length g2
  rw [List.length_append, f4] at this
  rcases hgt with h | h
  ·rw [g3] at h; cases h
  ·split at g1 <;> omega
 ·have hb1 : b1 = false := by
   cases b1 with
   | false => rfl
   | true => exact absurd (.inl rfl) hgt
  subst hb1
  have hle : n / 2 ≤ l'.length / 4 := by
   rcases Nat.lt_or_ge (l'.length / 4) (n / 2) with h | h
   ·exact absurd (.inr h) hgt
   ·exact h
  have hby : By l' := hl.of_drop h2
  have h4 := h4 rfl
  have hd := Zfh (n / 2) l' (by omega)
  refine ⟨_, _, false, dint_ok c hby h1 h2 (by omega) hle, ⟨digs_ok _ _ hby, by show (digs _ _).length ≤ _; rw [hd]; omega⟩, ?_, fun h => (h3 h).1, fun _ => ?_, fun w tail hw hb e => ?_⟩
  ·obtain ⟨j, rfl⟩ := h2
   exact ⟨j + 4 * (n / 2), by rw [List.drop_drop]⟩
  ·show 1 + 4 * (digs _ _).length + _ ≤ _
   rw [hd, List.length_drop]; omega
  ·obtain ⟨g1, g2, -⟩ := back w tail hw hb e
   obtain ⟨g, ds⟩ := w
   have g1 : n = 2 * ds.length + (if g then 1 else 0) := g1
   have g2 : l' = ds.flatMap e4 ++ tail := g2
   have e2 : n / 2 = ds.length := by split at g1 <;> omega
   have e3 : decide (n % 2 = 1) = g := by
    cases g
    ·have : n % 2 = 0 := by simp at g1; omega
     rw [this]; rfl
    ·have : n % 2 = 1 := by simp at g1; omega
     rw [this]; rfl
   rw [e2, e3, g2, digs_flat ds tail hw.1, ← f4, List.drop_left]
   exact ⟨rfl, rfl, rfl⟩
theorem drat_w {l l1 l2 : List Nat} {b b1 b2 : Bool} {x y : BI} (hs1 : ∃ j, l1 = l.drop j) (c1 : DC 146 [] (fun v : BI => .agg v.cs) l b x l1 b1) (c2 : DC 146 [] (fun v : BI => .agg v.cs) l1 b1 y l2 b2) : DC 133 [] BR.av l b ⟨x, y⟩ l2 b2 := by
 intro B hs hB
 have c1 := c1 B hs hB
 have c2 := c2 B (Zaj hs hs1) hB
 obtain ⟨xg, xd⟩ := x
 obtain ⟨yg, yd⟩ := y
 refine Zbz Tryz.func133 rfl rfl rfl (Nat.le_of_ble_eq_true rfl) (Za1 rfl) ?_
 refine goI ?_
 refine mcA c1 ?_
 refine evG ggA (Zcv (Zaa rfl) (Zd7 rfl) rfl rfl rfl) ?_
 refine evG ggA (Zbi rfl (Zcg rfl) rfl rfl rfl rfl rfl (Nat.le_of_ble_eq_true rfl) rfl) ?_
 refine Zbs ?_
 refine Zbr ?_
 refine T.seq ?_
 refine T.drawC mixed ?_
 refine Zbc (Zba (Zaa rfl) (Za1 rfl) rfl rfl rfl rfl) rfl ?_
 refine Zal (Zbj (Zaa rfl) rfl) rfl rfl ?_
 refine Zbm [(100, 100)] c2 rfl rfl rfl rfl rfl rfl rfl ⟨rfl, trivial⟩ ⟨.inl rfl, trivial⟩ ?_
 refine Zal (Zdv (Zaa rfl) (Zb0 rfl) rfl rfl rfl) rfl rfl ?_
 refine Ze2 (Zbi rfl (Zcg rfl) rfl rfl rfl rfl rfl (Nat.le_of_ble_eq_true rfl) rfl) rfl rfl rfl (fun i h => h) ?_
 refine ⟨by kernel_rfl, ?_⟩
 refine goI ?_
 exact ⟨.inr rfl, rfl, rfl, by exact Zak⟩
theorem rd_drat : Rd (DC 133 [] BR.av) BR.ok eR BR.can (fun _ => True) where
 law l hl hn b := by
  obtain ⟨x, l1, b1, c1, h1, h2, h3, h4, h5⟩ := d_integer l hl hn b
  have hl1 := Zaw h2
  obtain ⟨y, l2, b2, c2, k1, k2, k3, k4, k5⟩ := d_integer l1 (hl.of_drop h2) (by omega) b1
  refine ⟨⟨x, y⟩, l2, b2, drat_w h2 c1 c2, ⟨h1, k1⟩, Zaj h2 k2, fun h => k3 (h3 h), fun h => ?_, fun w tail hw _ hb e => ?_⟩
  ·have hf : b1 = false := by
    cases b1 with
    | false => rfl
    | true => rw [k3 rfl] at h; cases h
   have := h4 hf
   have := k4 h
   have hc := eR_can (v := ⟨x, y⟩) ⟨h1, k1⟩
   have hc : (eR (BR.can ⟨x, y⟩)).length ≤ 18 + 8 * (x.ds.length + y.ds.length) := hc
   exact ⟨by omega, by omega⟩
  ·obtain ⟨p, q⟩ := w
   have e : l = eB p ++ (eB q ++ tail) := by rw [e]; show eB p ++ eB q ++ tail = _; rw [List.append_assoc]
   obtain ⟨g1, g2, g3⟩ := h5 p _ hw.1 hb e
   obtain ⟨m1, m2, m3⟩ := k5 q tail hw.2 g3 g2
   exact ⟨by rw [g1, m1], m2, m3⟩
 pos w := by
  unfold eR eB
  rw [List.length_append, List.length_append]
  have := Zcu (2 * w.n.ds.length + if w.n.g then 1 else 0)
  omega
theorem eR_two (w : BR) : 2 ≤ (eR w).length := by
 unfold eR eB
 rw [List.length_append, List.length_append, List.length_append]
 have := Zcu (2 * w.n.ds.length + if w.n.g then 1 else 0)
 have := Zcu (2 * w.d.ds.length + if w.d.g then 1 else 0)
 omega
theorem d_lRat {g : List Nat → BR × List Nat × Bool} (hg : ∀ l, By l → l.length ≤ 1000000000 → DC 133 [] BR.av l false (g l).1 (g l).2.1 (g l).2.2 ∧ BR.ok (g l).1 ∧ ∃ j, (g l).2.1 = l.drop j) (l : List Nat) (b : Bool) (n : Nat) (l1 : List Nat) (b1 : Bool) (hN : DC 80 [.v (iV 2)] (fun n : Nat => iV n) l b n l1 b1) (hsuf : ∃ j, l1 = l.drop j) (hn : n ≤ l1.length) (hb : By l1) (hl : l1.length ≤ 1000000000) : DC 119 [] (fun vs : List BR => .sl (vs.map BR.av)) l b (runL g n l1 b1).1 (runL g n l1 b1).2.1 (runL g n l1 b1).2.2 := by
  intro B hs hB
  have hs1 := Zaj hs hsuf
  have hN := hN B hs hB
  refine Zay Tryz.func119 rfl rfl rfl (Nat.le_of_ble_eq_true rfl) ?_
  refine goI ?_
  refine mcA hN ?_
  refine goI ?_
  refine T.loop (fun N s1 => ∃ (m i : Nat) (vs : List BR) (q : List Nat) (c : Bool) (Q : List AV), m = N ∧ i + m = n ∧ i = vs.length ∧ Q = vs.map BR.av ∧ By q ∧ q.length ≤ 1000000000 ∧ (∃ j, q = B.drop j) ∧ runL g n l1 b1 = (vs ++ (runL g m q c).1, (runL g m q c).2) ∧ s1 = mkP [(0, .ptr 100 0), (3, .own 102 i), (4, .v (iV n)), (5, .v (iV i))] (DS B q c ++ [(102, .lst 4 54 Q)]) 26 true [100]) n
    (s' := mkP [(0, .ptr 100 0), (3, .own 102 0), (4, .v (iV n)), (5, .v (iV ((0 : Nat) : Int)))] (DS B l1 b1 ++ [(102, .lst 4 54 [])]) 26 true [100]) (by exact Zak) ⟨n, 0, [], l1, b1, [], rfl, by omega, rfl, rfl, hb, hl, hs1, rfl, rfl⟩ ?_
  rintro _ _ ⟨m, i, vs, q, c, Q, rfl, him, hi, hQ, hbq, hq, hsq, hr, rfl⟩
  by_cases hgo : 0 < m ∧ c = false
  · obtain ⟨hm, rfl⟩ := hgo
    obtain ⟨k, rfl⟩ : ∃ k, m = k + 1 := ⟨m - 1, by omega⟩
    have dd1 : decide ((i : Int) < (n : Int)) = true := decide_eq_true (by omega)
    obtain ⟨hc, ho, hd⟩ := hg q hbq hq
    have e1 : runL g (k + 1) q false = ((g q).1 :: (runL g k (g q).2.1 (g q).2.2).1, (runL g k (g q).2.1 (g q).2.2).2) := rfl
    rw [e1] at hr
    have hlen := Zaw hd
    have hby := hbq.of_drop hd
    have hsq2 := Zaj hsq hd
    clear e1 hg
    generalize (g q).1 = x at *
    generalize (g q).2.1 = q2 at *
    generalize (g q).2.2 = c2 at *
    have hli : Q.length = i := by rw [hQ, hi, List.length_map]
    have fin : runL g n l1 b1 = ((vs ++ [x]) ++ (runL g k q2 c2).1, (runL g k q2 c2).2) := by rw [hr, List.append_assoc]; rfl
    have hQ2 : Q ++ [BR.av x] = (vs ++ [x]).map BR.av := by rw [hQ, List.map_append]; rfl
    clear hr
    have fin2 : ∀ N s1, N = k → s1 = mkP [(0, .ptr 100 0), (3, .own 102 (i + 1)), (4, .v (iV n)), (5, .v (iV (i + 1)))] (DS B q2 c2 ++ [(102, .lst 4 54 (Q ++ [BR.av x]))]) 26 true [100] → ∃ (m i : Nat) (vs : List BR) (q : List Nat) (c : Bool) (Q : List AV), m = N ∧ i + m = n ∧ i = vs.length ∧ Q = vs.map BR.av ∧ By q ∧ q.length ≤ 1000000000 ∧ (∃ j, q = B.drop j) ∧ runL g n l1 b1 = (vs ++ (runL g m q c).1, (runL g m q c).2) ∧ s1 = mkP [(0, .ptr 100 0), (3, .own 102 i), (4, .v (iV n)), (5, .v (iV i))] (DS B q c ++ [(102, .lst 4 54 Q)]) 26 true [100] := fun N s1 hN hs => ⟨k, i + 1, vs ++ [x], q2, c2, Q ++ [BR.av x], hN.symm, by omega, by simp [hi], hQ2, hby, by omega, hsq2, fin, hs⟩
    have hin : i ≤ 1000000000 := by omega
    clear fin hQ2 ho hQ hi
    skip
    obtain ⟨⟨ga, da⟩, ⟨gb, db⟩⟩ := x
    have hc := hc B hsq hB
    refine goI ?_
    refine mcA hc ?_
    refine evG ggA (Zar (Zaa rfl) (Zaf rfl) rfl rfl rfl rfl (Zbo rfl rfl) (Nat.le_of_ble_eq_true rfl)) ?_
    refine evG ggA (Zbe (Zaa rfl) (Zaf rfl) rfl rfl hli rfl rfl (by decide) rfl (by omega) (Nat.le_of_ble_eq_true rfl) rfl) ?_
    refine goI ?_
    exact Zad (k := k) (s' := mkP [(0, .ptr 100 0), (3, .own 102 (i + 1)), (4, .v (iV n)), (5, .v (iV ((i : Int) + 1)))] (DS B q2 c2 ++ [(102, .lst 4 54 (Q ++ [_]))]) 26 true [100]) (by omega) (by exact Zak) (fin2 _ _ rfl rfl)
  · have hend : runL g m q c = ([], q, c) := by
      cases c with
      | true => exact Zch g m q
      | false =>
        have : m = 0 := by
          rcases Nat.eq_zero_or_pos m with h | h
          · exact h
          · exact absurd ⟨h, rfl⟩ hgo
        subst this; rfl
    rw [hend, List.append_nil] at hr
    rw [hr]
    subst hQ hi
    have hli : (vs.map BR.av).length = vs.length := List.length_map ..
    clear hg hend
    by_cases hm : 0 < m
    · have hc : c = true := by
        cases c with
        | true => rfl
        | false => exact absurd ⟨hm, rfl⟩ hgo
      subst hc
      have dd1 : decide ((vs.length : Int) < (n : Int)) = true := decide_eq_true (by omega)
      refine goI ?_
      exact ⟨.inr rfl, by exact Zak⟩
    · have dd1 : decide ((vs.length : Int) < (n : Int)) = false := decide_eq_false (by omega)
      refine goI ?_
      exact ⟨.inr rfl, by exact Zak⟩
theorem rd_dlist {α : Type} {K : Nat} {C : List Nat → Bool → α → List Nat → Bool → Prop} {D : List Nat → Bool → List α → List Nat → Bool → Prop} {ok : α → Prop} {e : α → List Nat} {can : α → α} {good : α → Prop} (hK0 : 0 < K) (hK9 : K ≤ 100) (h : Rd C ok e can good) (hK : ∀ w, K ≤ (e w).length)
  (hD : ∀ g : List Nat → α × List Nat × Bool, (∀ l, By l → l.length ≤ 1000000000 → C l false (g l).1 (g l).2.1 (g l).2.2 ∧ ok (g l).1 ∧ ∃ j, (g l).2.1 = l.drop j) → ∀ l b n l1 b1, DC 80 [.v (iV K)] (fun n : Nat => iV n) l b n l1 b1 → (∃ j, l1 = l.drop j) → n ≤ l1.length → By l1 → l1.length ≤ 1000000000 → D l b (runL g n l1 b1).1 (runL g n l1 b1).2.1 (runL g n l1 b1).2.2) :
  Rd D (fun vs => (∀ v, v ∈ vs → ok v) ∧ vs.length ≤ 1000000000) (eL e) (fun vs => vs.map can) (fun vs => ∀ v, v ∈ vs → good v) := by
 have hL := Zfa K h hK (Zf4 K hK0 hK9)
 refine ⟨fun l hl hn b => ?_, hL.pos⟩
 obtain ⟨vs, l', b', ⟨g, n, l1, b1, hg, hN, hnl, hsuf, hrun⟩, rest⟩ := hL.law l hl hn b
 have := Zaw hsuf
 have hd := hD g hg l b n l1 b1 hN hsuf hnl (hl.of_drop hsuf) (by omega)
 rw [hrun] at hd
 exact ⟨vs, l', b', hd, rest⟩
theorem rd_drats : Rd (DC 119 [] (fun vs : List BR => .sl (vs.map BR.av))) (fun vs => (∀ v, v ∈ vs → v.ok) ∧ vs.length ≤ 1000000000) (eL eR) (fun vs => vs.map BR.can) (fun vs => ∀ v, v ∈ vs → True) := rd_dlist (K := 2) (by omega) (by omega) rd_drat eR_two fun g hg l b n l1 b1 hN hs hn hb hl => d_lRat hg l b n l1 b1 hN hs hn hb hl
theorem dser_w {l l1 l2 : List Nat} {b b1 b2 : Bool} {f : Int} {cs : List BR} (hs1 : ∃ j, l1 = l.drop j) (c1 : DC 81 [] iV l b f l1 b1) (c2 : DC 119 [] (fun vs : List BR => .sl (vs.map BR.av)) l1 b1 cs l2 b2) : DC 114 [] PS.av l b ⟨f, cs⟩ l2 b2 := by
 intro B hs hB
 have c1 := c1 B hs hB
 have c2 := c2 B (Zaj hs hs1) hB
 refine Zbz Tryz.func114 rfl rfl rfl (Nat.le_of_ble_eq_true rfl) (Za1 rfl) ?_
 refine goI ?_
 refine mcA c1 ?_
 refine goI ?_
 refine mcA c2 ?_
 refine goI ?_
 exact ⟨.inr rfl, rfl, rfl, by exact Zak⟩
theorem rd_dseries : Rd (DC 114 [] PS.av) PS.ok eS PS.can (fun _ => True) where
 law l hl hn b := by
  obtain ⟨f, l1, b1, c1, h1, h2, h3, h4, h5⟩ := Zdc.law l hl hn b
  have hl1 := Zaw h2
  obtain ⟨cs, l2, b2, c2, k1, k2, k3, k4, k5⟩ := rd_drats.law l1 (hl.of_drop h2) (by omega) b1
  refine ⟨⟨f, cs⟩, l2, b2, dser_w h2 c1 c2, ⟨h1, k1.1, k1.2⟩, Zaj h2 k2, fun h => k3 (h3 h), fun h => ?_, fun w tail hw _ hb e => ?_⟩
  ·have hf : b1 = false := by
    cases b1 with
    | false => rfl
    | true => rw [k3 rfl] at h; cases h
   obtain ⟨p1, p2⟩ := h4 hf
   obtain ⟨p3, p4⟩ := k4 h
   refine ⟨by omega, ?_⟩
   show (eI f ++ eL eR (cs.map BR.can)).length ≤ _
   have p2 : (eI f).length ≤ _ := p2
   rw [List.length_append]
   omega
  ·obtain ⟨wf, wc⟩ := w
   have e : l = eI wf ++ (eL eR wc ++ tail) := by rw [e]; show eI wf ++ eL eR wc ++ tail = _; rw [List.append_assoc]
   obtain ⟨g1, g2, g3⟩ := h5 wf _ hw.1 trivial hb e
   obtain ⟨m1, m2, m3⟩ := k5 wc tail ⟨hw.2.1, hw.2.2⟩ (fun _ _ => trivial) g3 g2
   exact ⟨by rw [g1, m1], m2, m3⟩
 pos w := by
  have : 1 ≤ (eI w.f).length := Zcu _
  show 1 ≤ (eI w.f ++ _).length
  rw [List.length_append]; omega
theorem eS_two (w : PS) : 2 ≤ (eS w).length := by
 have h1 : 1 ≤ (eI w.f).length := Zcu _
 have h2 := Zcu w.c.length
 show 2 ≤ (eI w.f ++ (eN w.c.length ++ _)).length
 rw [List.length_append, List.length_append]; omega
theorem d_lSer {g : List Nat → PS × List Nat × Bool} (hg : ∀ l, By l → l.length ≤ 1000000000 → DC 114 [] PS.av l false (g l).1 (g l).2.1 (g l).2.2 ∧ PS.ok (g l).1 ∧ ∃ j, (g l).2.1 = l.drop j) (l : List Nat) (b : Bool) (n : Nat) (l1 : List Nat) (b1 : Bool) (hN : DC 80 [.v (iV 2)] (fun n : Nat => iV n) l b n l1 b1) (hsuf : ∃ j, l1 = l.drop j) (hn : n ≤ l1.length) (hb : By l1) (hl : l1.length ≤ 1000000000) : DC 79 [] (fun vs : List PS => .sl (vs.map PS.av)) l b (runL g n l1 b1).1 (runL g n l1 b1).2.1 (runL g n l1 b1).2.2 := by
  intro B hs hB
  have hs1 := Zaj hs hsuf
  have hN := hN B hs hB
  refine Zay Tryz.func79 rfl rfl rfl (Nat.le_of_ble_eq_true rfl) ?_
  refine goI ?_
  refine mcA hN ?_
  refine goI ?_
  refine T.loop (fun N s1 => ∃ (m i : Nat) (vs : List PS) (q : List Nat) (c : Bool) (Q : List AV), m = N ∧ i + m = n ∧ i = vs.length ∧ Q = vs.map PS.av ∧ By q ∧ q.length ≤ 1000000000 ∧ (∃ j, q = B.drop j) ∧ runL g n l1 b1 = (vs ++ (runL g m q c).1, (runL g m q c).2) ∧ s1 = mkP [(0, .ptr 100 0), (3, .own 102 i), (4, .v (iV n)), (5, .v (iV i))] (DS B q c ++ [(102, .lst 2 49 Q)]) 26 true [100]) n
    (s' := mkP [(0, .ptr 100 0), (3, .own 102 0), (4, .v (iV n)), (5, .v (iV ((0 : Nat) : Int)))] (DS B l1 b1 ++ [(102, .lst 2 49 [])]) 26 true [100]) (by exact Zak) ⟨n, 0, [], l1, b1, [], rfl, by omega, rfl, rfl, hb, hl, hs1, rfl, rfl⟩ ?_
  rintro _ _ ⟨m, i, vs, q, c, Q, rfl, him, hi, hQ, hbq, hq, hsq, hr, rfl⟩
  by_cases hgo : 0 < m ∧ c = false
  · obtain ⟨hm, rfl⟩ := hgo
    obtain ⟨k, rfl⟩ : ∃ k, m = k + 1 := ⟨m - 1, by omega⟩
    have dd1 : decide ((i : Int) < (n : Int)) = true := decide_eq_true (by omega)
    obtain ⟨hc, ho, hd⟩ := hg q hbq hq
    have e1 : runL g (k + 1) q false = ((g q).1 :: (runL g k (g q).2.1 (g q).2.2).1, (runL g k (g q).2.1 (g q).2.2).2) := rfl
    rw [e1] at hr
    have hlen := Zaw hd
    have hby := hbq.of_drop hd
    have hsq2 := Zaj hsq hd
    clear e1 hg
    generalize (g q).1 = x at *
    generalize (g q).2.1 = q2 at *
    generalize (g q).2.2 = c2 at *
    have hli : Q.length = i := by rw [hQ, hi, List.length_map]
    have fin : runL g n l1 b1 = ((vs ++ [x]) ++ (runL g k q2 c2).1, (runL g k q2 c2).2) := by rw [hr, List.append_assoc]; rfl
    have hQ2 : Q ++ [PS.av x] = (vs ++ [x]).map PS.av := by rw [hQ, List.map_append]; rfl
    clear hr
    have fin2 : ∀ N s1, N = k → s1 = mkP [(0, .ptr 100 0), (3, .own 102 (i + 1)), (4, .v (iV n)), (5, .v (iV (i + 1)))] (DS B q2 c2 ++ [(102, .lst 2 49 (Q ++ [PS.av x]))]) 26 true [100] → ∃ (m i : Nat) (vs : List PS) (q : List Nat) (c : Bool) (Q : List AV), m = N ∧ i + m = n ∧ i = vs.length ∧ Q = vs.map PS.av ∧ By q ∧ q.length ≤ 1000000000 ∧ (∃ j, q = B.drop j) ∧ runL g n l1 b1 = (vs ++ (runL g m q c).1, (runL g m q c).2) ∧ s1 = mkP [(0, .ptr 100 0), (3, .own 102 i), (4, .v (iV n)), (5, .v (iV i))] (DS B q c ++ [(102, .lst 2 49 Q)]) 26 true [100] := fun N s1 hN hs => ⟨k, i + 1, vs ++ [x], q2, c2, Q ++ [PS.av x], hN.symm, by omega, by simp [hi], hQ2, hby, by omega, hsq2, fin, hs⟩
    have hin : i ≤ 1000000000 := by omega
    clear fin hQ2 ho hQ hi
    skip
    obtain ⟨f, cs⟩ := x
    have hc := hc B hsq hB
    refine goI ?_
    refine mcA hc ?_
    refine evG ggA (Zar (Zaa rfl) (Zaf rfl) rfl rfl rfl rfl (Zbo rfl rfl) (Nat.le_of_ble_eq_true rfl)) ?_
    refine evG ggA (Zbe (Zaa rfl) (Zaf rfl) rfl rfl hli rfl rfl (by decide) rfl (by omega) (Nat.le_of_ble_eq_true rfl) rfl) ?_
    refine goI ?_
    exact Zad (k := k) (s' := mkP [(0, .ptr 100 0), (3, .own 102 (i + 1)), (4, .v (iV n)), (5, .v (iV ((i : Int) + 1)))] (DS B q2 c2 ++ [(102, .lst 2 49 (Q ++ [_]))]) 26 true [100]) (by omega) (by exact Zak) (fin2 _ _ rfl rfl)
  · have hend : runL g m q c = ([], q, c) := by
      cases c with
      | true => exact Zch g m q
      | false =>
        have : m = 0 := by
          rcases Nat.eq_zero_or_pos m with h | h
          · exact h
          · exact absurd ⟨h, rfl⟩ hgo
        subst this; rfl
    rw [hend, List.append_nil] at hr
    rw [hr]
    subst hQ hi
    have hli : (vs.map PS.av).length = vs.length := List.length_map ..
    clear hg hend
    by_cases hm : 0 < m
    · have hc : c = true := by
        cases c with
        | true => rfl
        | false => exact absurd ⟨hm, rfl⟩ hgo
      subst hc
      have dd1 : decide ((vs.length : Int) < (n : Int)) = true := decide_eq_true (by omega)
      refine goI ?_
      exact ⟨.inr rfl, by exact Zak⟩
    · have dd1 : decide ((vs.length : Int) < (n : Int)) = false := decide_eq_false (by omega)
      refine goI ?_
      exact ⟨.inr rfl, by exact Zak⟩
theorem rd_dsers : Rd (DC 79 [] (fun vs : List PS => .sl (vs.map PS.av))) (fun vs => (∀ v, v ∈ vs → v.ok) ∧ vs.length ≤ 1000000000) (eL eS) (fun vs => vs.map PS.can) (fun vs => ∀ v, v ∈ vs → True) := rd_dlist (K := 2) (by omega) (by omega) rd_dseries eS_two fun g hg l b n l1 b1 hN hs hn hb hl => d_lSer hg l b n l1 b1 hN hs hn hb hl
end Ab
namespace Ab
open Go Go.RowKit Go.Proofs Hp
set_option maxRecDepth 100000
set_option maxHeartbeats 4000000
def runI (g : List Nat → Int × List Nat × Bool) : Nat → List Nat → Bool → List Int × List Nat × Bool
 | 0, l, b => ([], l, b)
 | n + 1, l, b => if b then (0 :: (runI g n l true).1, (runI g n l true).2) else ((g l).1 :: (runI g n (g l).2.1 (g l).2.2).1, (runI g n (g l).2.1 (g l).2.2).2)
theorem runI_bad (g : List Nat → Int × List Nat × Bool) : ∀ (n : Nat) (l : List Nat), (runI g n l true).2 = (l, true) ∧ ∀ v, v ∈ (runI g n l true).1 → v = 0
  | 0, l => ⟨rfl, fun v h => (by cases h)⟩
  | n + 1, l => by
    obtain ⟨h1, h2⟩ := runI_bad g n l
    refine ⟨h1, fun v h => ?_⟩
    have h : v ∈ 0 :: (runI g n l true).1 := h
    rcases List.mem_cons.1 h with h | h
    · exact h
    · exact h2 v h
theorem runI_L (g : List Nat → Int × List Nat × Bool) : ∀ (n : Nat) (l : List Nat) (b : Bool), (runI g n l b).2 = (runL g n l b).2 ∧ (runI g n l b).1.length = n ∧ (∀ v, v ∈ (runI g n l b).1 → v = 0 ∨ v ∈ (runL g n l b).1) ∧ ((runL g n l b).2.2 = false → (runI g n l b).1 = (runL g n l b).1)
  | 0, l, b => ⟨rfl, rfl, fun v h => (by cases h), fun _ => rfl⟩
  | n + 1, l, true => by
    obtain ⟨h1, h2⟩ := runI_bad g (n + 1) l
    obtain ⟨-, i2, -⟩ := runI_L g n l true
    refine ⟨h1, ?_, fun v h => .inl (h2 v h), fun h => (by cases h)⟩
    show (0 :: (runI g n l true).1).length = _
    rw [List.length_cons, i2]
  | n + 1, l, false => by
    obtain ⟨i1, i2, i3, i4⟩ := runI_L g n (g l).2.1 (g l).2.2
    show (runI g n (g l).2.1 (g l).2.2).2 = (runL g n (g l).2.1 (g l).2.2).2 ∧ ((g l).1 :: (runI g n (g l).2.1 (g l).2.2).1).length = n + 1 ∧ (∀ v, v ∈ (g l).1 :: (runI g n (g l).2.1 (g l).2.2).1 → v = 0 ∨ v ∈ (g l).1 :: (runL g n (g l).2.1 (g l).2.2).1) ∧ ((runL g n (g l).2.1 (g l).2.2).2.2 = false → (g l).1 :: (runI g n (g l).2.1 (g l).2.2).1 = (g l).1 :: (runL g n (g l).2.1 (g l).2.2).1)
    refine ⟨i1, by rw [List.length_cons, i2], fun v h => ?_, fun h => by rw [i4 h]⟩
    rcases List.mem_cons.1 h with h | h
    · exact .inr (by rw [h]; exact List.mem_cons_self ..)
    · rcases i3 v h with h | h
      · exact .inl h
      · exact .inr (List.mem_cons_of_mem _ h)
theorem dsigned_bad (l : List Nat) : DC 81 [] iV l true 0 l true := by
 intro B hs hB
 have c := dn_bad B (B.length - l.length)
 refine Zay Tryz.func81 rfl rfl rfl (Nat.le_of_ble_eq_true rfl) ?_
 have e0 : (((0 : Nat) : Int)).tmod 2 = ((0 : Nat) : Int) := rfl
 have e1 := qdiv (n := 0) (k := 2) (by omega) (by omega)
 refine goI ?_
 refine mcA c ?_
 refine goI ?_
 refine evG ggA (Zbv (op := .rem) (Zaa rfl) rfl rfl (by omega) e0) ?_
 refine goI ?_
 refine evG ggA (Zbv (Zaa rfl) rfl rfl (by omega) e1) ?_
 refine evG ggA (Zag (Zaa rfl) Za0 Zbd rfl (c := 0) rfl) ?_
 refine goI ?_
 exact ⟨.inr rfl, by exact Zak⟩
theorem d_lInt {g : List Nat → Int × List Nat × Bool} (hg : ∀ l, By l → l.length ≤ 1000000000 → DC 81 [] iV l false (g l).1 (g l).2.1 (g l).2.2 ∧ I64 (g l).1 ∧ ∃ j, (g l).2.1 = l.drop j) (l : List Nat) (b : Bool) (n : Nat) (l1 : List Nat) (b1 : Bool) (hN : DC 80 [.v (iV 1)] (fun n : Nat => iV n) l b n l1 b1) (hsuf : ∃ j, l1 = l.drop j) (hn : n ≤ l1.length) (hb : By l1) (hl : l1.length ≤ 1000000000) : DC 82 [] (fun vs : List Int => .sl (vs.map iV)) l b (runI g n l1 b1).1 (runI g n l1 b1).2.1 (runI g n l1 b1).2.2 := by
  intro B hs hB
  have hs1 := Zaj hs hsuf
  have hN := hN B hs hB
  refine Zay Tryz.func82 rfl rfl rfl (Nat.le_of_ble_eq_true rfl) ?_
  refine goI ?_
  refine mcA hN ?_
  refine goI ?_
  refine T.loop (fun N s1 => ∃ (m i : Nat) (vs : List Int) (q : List Nat) (c : Bool) (Q : List AV), m = N ∧ i + m = n ∧ i = vs.length ∧ Q = vs.map iV ∧ By q ∧ q.length ≤ 1000000000 ∧ (∃ j, q = B.drop j) ∧ runI g n l1 b1 = (vs ++ (runI g m q c).1, (runI g m q c).2) ∧ s1 = mkP [(0, .ptr 100 0), (3, .own 102 i), (4, .v (iV n)), (5, .v (iV i))] (DS B q c ++ [(102, .lst 1 3 Q)]) 19 true [100]) n
    (s' := mkP [(0, .ptr 100 0), (3, .own 102 0), (4, .v (iV n)), (5, .v (iV ((0 : Nat) : Int)))] (DS B l1 b1 ++ [(102, .lst 1 3 [])]) 19 true [100]) (by exact Zak) ⟨n, 0, [], l1, b1, [], rfl, by omega, rfl, rfl, hb, hl, hs1, rfl, rfl⟩ ?_
  rintro _ _ ⟨m, i, vs, q, c, Q, rfl, him, hi, hQ, hbq, hq, hsq, hr, rfl⟩
  by_cases hm : 0 < m
  · obtain ⟨k, rfl⟩ : ∃ k, m = k + 1 := ⟨m - 1, by omega⟩
    have dd1 : decide ((i : Int) < (n : Int)) = true := decide_eq_true (by omega)
    obtain ⟨x, q2, c2, hc, hd, e1⟩ : ∃ x q2 c2, DC 81 [] iV q c x q2 c2 ∧ (∃ j, q2 = q.drop j) ∧ runI g (k + 1) q c = (x :: (runI g k q2 c2).1, (runI g k q2 c2).2) := by
      cases c with
      | true => exact ⟨0, q, true, dsigned_bad q, ⟨0, rfl⟩, rfl⟩
      | false =>
        obtain ⟨hc, -, hd⟩ := hg q hbq hq
        exact ⟨_, _, _, hc, hd, rfl⟩
    rw [e1] at hr
    have hlen := Zaw hd
    have hby := hbq.of_drop hd
    have hsq2 := Zaj hsq hd
    have hli : Q.length = i := by rw [hQ, hi, List.length_map]
    have fin : runI g n l1 b1 = ((vs ++ [x]) ++ (runI g k q2 c2).1, (runI g k q2 c2).2) := by rw [hr, List.append_assoc]; rfl
    have hQ2 : Q ++ [iV x] = (vs ++ [x]).map iV := by rw [hQ, List.map_append]; rfl
    have fin2 : ∀ N s1, N = k → s1 = mkP [(0, .ptr 100 0), (3, .own 102 (i + 1)), (4, .v (iV n)), (5, .v (iV (i + 1)))] (DS B q2 c2 ++ [(102, .lst 1 3 (Q ++ [iV x]))]) 19 true [100] → ∃ (m i : Nat) (vs : List Int) (q : List Nat) (c : Bool) (Q : List AV), m = N ∧ i + m = n ∧ i = vs.length ∧ Q = vs.map iV ∧ By q ∧ q.length ≤ 1000000000 ∧ (∃ j, q = B.drop j) ∧ runI g n l1 b1 = (vs ++ (runI g m q c).1, (runI g m q c).2) ∧ s1 = mkP [(0, .ptr 100 0), (3, .own 102 i), (4, .v (iV n)), (5, .v (iV i))] (DS B q c ++ [(102, .lst 1 3 Q)]) 19 true [100] := fun N s1 hN hs => ⟨k, i + 1, vs ++ [x], q2, c2, Q ++ [iV x], hN.symm, by omega, by simp [hi], hQ2, hby, by omega, hsq2, fin, hs⟩
    have hin : i ≤ 1000000000 := by omega
    have hc := hc B hsq hB
    clear fin hQ2 hQ hi e1 hr hg
    refine goI ?_
    refine mcA hc ?_
    refine evG ggA (Zar (Zaa rfl) (Zaf rfl) rfl rfl rfl rfl (Zbo rfl rfl) (Nat.le_of_ble_eq_true rfl)) ?_
    refine evG ggA (Zbe (Zaa rfl) (Zaf rfl) rfl rfl hli rfl rfl (by decide) rfl (by omega) (Nat.le_of_ble_eq_true rfl) rfl) ?_
    refine goI ?_
    exact Zad (k := k) (s' := mkP [(0, .ptr 100 0), (3, .own 102 (i + 1)), (4, .v (iV n)), (5, .v (iV ((i : Int) + 1)))] (DS B q2 c2 ++ [(102, .lst 1 3 (Q ++ [_]))]) 19 true [100]) (by omega) (by exact Zak) (fin2 _ _ rfl rfl)
  · have hm0 : m = 0 := by omega
    subst hm0
    have hr : runI g n l1 b1 = (vs ++ [], q, c) := hr
    rw [List.append_nil] at hr
    rw [hr]
    subst hQ hi
    have hli : (vs.map iV).length = vs.length := List.length_map ..
    have dd1 : decide ((vs.length : Int) < (n : Int)) = false := decide_eq_false (by omega)
    refine goI ?_
    exact ⟨.inr rfl, by exact Zak⟩
theorem eI_one (w : Int) : 1 ≤ (eI w).length := Zcu _
theorem rd_dints : Rd (DC 82 [] (fun vs : List Int => .sl (vs.map iV))) (fun vs => (∀ v, v ∈ vs → I64 v) ∧ vs.length ≤ 1000000000) (eL eI) (fun vs => vs.map id) (fun vs => ∀ v, v ∈ vs → True) := by
 have hL := Zfa 1 Zdc eI_one (Zf4 1 (by omega) (by omega))
 refine ⟨fun l hl hn b => ?_, hL.pos⟩
 obtain ⟨vs, l', b', ⟨g, n, l1, b1, hg, hN, hnl, hsuf, hrun⟩, ⟨ho, hvn⟩, h2, h3, h4, h5⟩ := hL.law l hl hn b
 have hl1 := Zaw hsuf
 have hd := d_lInt hg l b n l1 b1 hN hsuf hnl (hl.of_drop hsuf) (by omega)
 obtain ⟨i1, i2, i3, i4⟩ := runI_L g n l1 b1
 rw [hrun] at i1 i3 i4
 have e1 : (runI g n l1 b1).2.1 = l' := congrArg Prod.fst i1
 have e2 : (runI g n l1 b1).2.2 = b' := congrArg Prod.snd i1
 rw [e1, e2] at hd
 refine ⟨_, l', b', hd, ⟨fun v hv => ?_, by rw [i2]; omega⟩, h2, h3, fun h => ?_, fun w tail wo wg hb he => ?_⟩
 ·rcases i3 v hv with h | h
  ·rw [h]; unfold I64; omega
  ·exact ho v h
 ·rw [i4 h]; exact h4 h
 ·obtain ⟨g1, g2, g3⟩ := h5 w tail wo wg hb he
  exact ⟨by rw [i4 g3, g1], g2, g3⟩
theorem dkind_w {l l1 l2 l3 l4 l5 : List Nat} {b b1 b2 b3 b4 b5 : Bool} {f1 f2 f3 f4 : Int} {n : Nat} (s1 : ∃ j, l1 = l.drop j) (s2 : ∃ j, l2 = l1.drop j) (s3 : ∃ j, l3 = l2.drop j) (s4 : ∃ j, l4 = l3.drop j) (c1 : DC 81 [] iV l b f1 l1 b1) (c2 : DC 81 [] iV l1 b1 f2 l2 b2) (c3 : DC 81 [] iV l2 b2 f3 l3 b3) (c4 : DC 81 [] iV l3 b3 f4 l4 b4) (c5 : DC 115 [] qV' l4 b4 n l5 b5) : DC 118 [] PK.av l b ⟨f1, f2, f3, f4, decide (n = 1)⟩ l5 b5 := by
 intro B hs hB
 have h1 := Zaj hs s1
 have h2 := Zaj h1 s2
 have h3 := Zaj h2 s3
 have h4 := Zaj h3 s4
 have c1 := c1 B hs hB
 have c2 := c2 B h1 hB
 have c3 := c3 B h2 hB
 have c4 := c4 B h3 hB
 have c5 := c5 B h4 hB
 have eg : (((n : Nat) : Int) == 1) = decide (n = 1) := by
  by_cases h : n = 1
  ·subst h; rfl
  ·rw [decide_eq_false h]; exact beq_eq_false_iff_ne.2 (by omega)
 refine Zbz Tryz.func118 rfl rfl rfl (Nat.le_of_ble_eq_true rfl) (Za1 rfl) ?_
 refine goI ?_
 refine mcA c1 ?_
 refine goI ?_
 refine mcA c2 ?_
 refine goI ?_
 refine mcA c3 ?_
 refine goI ?_
 refine mcA c4 ?_
 refine goI ?_
 refine mcA c5 ?_
 refine goI ?_
 first
  | refine evG ggA (Zfu (Zaa rfl) rfl rfl (congrArg some eg)) ?_
  | rw [eg]
 refine goI ?_
 exact ⟨.inr rfl, rfl, rfl, by exact Zak⟩
theorem Zco {α : Type} {C : List Nat → Bool → α → List Nat → Bool → Prop} {ok : α → Prop} {e : α → List Nat} {can : α → α} {good : α → Prop} (h : Rd C ok e can good) : Rd (fun l b v l' b' => (∃ j, l' = l.drop j) ∧ C l b v l' b') ok e can good where
 law l hl hn b := by
  obtain ⟨v, l', b', c, o, d, r⟩ := h.law l hl hn b
  exact ⟨v, l', b', ⟨d, c⟩, o, d, r⟩
 pos := h.pos
theorem rd_dkind : Rd (DC 118 [] PK.av) PK.ok eK id (fun _ => True) := by
 have hx := Zax (Zco Zdc) (Zax (Zco Zdc) (Zax (Zco Zdc) (Zax (Zco Zdc) rd_dnumber)))
 refine ⟨fun l hl hn b => ?_, fun w => by show 1 ≤ (eI w.w ++ _).length; rw [List.length_append]; have := eI_one w.w; omega⟩
 obtain ⟨⟨f1, f2, f3, f4, n⟩, l', b', ⟨l1, b1, ⟨s1, c1⟩, l2, b2, ⟨s2, c2⟩, l3, b3, ⟨s3, c3⟩, l4, b4, ⟨s4, c4⟩, c5⟩, ⟨o1, o2, o3, o4, o5⟩, d, m, s, r⟩ := hx.law l hl hn b
 refine ⟨_, l', b', dkind_w s1 s2 s3 s4 c1 c2 c3 c4 c5, ⟨o1, o2, o3, o4⟩, d, m, fun h => ?_, fun w tail wo _ hb he => ?_⟩
 ·obtain ⟨p1, p2⟩ := s h
  refine ⟨p1, ?_⟩
  have p2 : (eI f1 ++ (eI f2 ++ (eI f3 ++ (eI f4 ++ eN n)))).length ≤ _ := p2
  show (eI f1 ++ (eI f2 ++ (eI f3 ++ (eI f4 ++ eN (if decide (n = 1) then 1 else 0))))).length ≤ _
  simp only [List.length_append] at p2 ⊢
  have k1 : (eN (if decide (n = 1) = true then 1 else 0)).length = 1 := by split <;> (rw [eN_lt (by decide)]; rfl)
  have k2 := Zcu n
  omega
 ·obtain ⟨w1, w2, w3, w4, wu⟩ := w
  obtain ⟨e1, e2, e3⟩ := r (w1, w2, w3, w4, if wu then 1 else 0) tail ⟨wo.1, wo.2.1, wo.2.2.1, wo.2.2.2, by show (if wu = true then 1 else 0) < 18446744073709551616; split <;> decide⟩ ⟨trivial, trivial, trivial, trivial, trivial⟩ hb (by rw [he]; rfl)
  injection e1 with f1 e1
  injection e1 with f2 e1
  injection e1 with f3 e1
  injection e1 with f4 f5
  subst f1 f2 f3 f4 f5
  refine ⟨?_, e2, e3⟩
  cases wu <;> rfl
end Ab
