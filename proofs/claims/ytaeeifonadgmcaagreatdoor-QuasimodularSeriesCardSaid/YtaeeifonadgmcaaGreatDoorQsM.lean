/- Iterated derivatives and products of series, as brackets want them. Plain arithmetic. -/
import Derived.Test.YtaeeifonadgmcaaGreatDoorLa
set_option linter.all false
namespace Ab
open Go Go.RowKit Go.Proofs Hp
set_option maxRecDepth 100000
theorem tdy_v {s : Int} {l : List Rat} (hv : Zaq s l.length = true) : Zaq (tdy s l).1 (tdy s l).2.length = true := by
 obtain ⟨a0, a1, a2⟩ := Zas.1 hv
 have := Zb7 l
 unfold tdy
 exact Zas.2 ⟨by omega, by omega, by rw [List.length_drop]; omega⟩
theorem mulR_l {s t : Int} {l m : List Rat} (hv : Zaq s l.length = true) : mulR (tdy s l).1 (tdy s l).2 t m = mulR s l t m := by
 have h := tdy_v hv
 unfold mulR
 rw [h, hv]
 have e : lead (tdy s l).2 = 0 := Zgv l
 rw [e, List.drop_zero, show (tdy s l).1 + ((0 : Nat) : Int) = (tdy s l).1 by omega]
 rfl
theorem mulR_r {s t : Int} {l m : List Rat} (hv : Zaq t m.length = true) : mulR s l (tdy t m).1 (tdy t m).2 = mulR s l t m := by
 have h := tdy_v hv
 unfold mulR
 rw [h, hv]
 have e : lead (tdy t m).2 = 0 := Zgv m
 rw [e, List.drop_zero, show (tdy t m).1 + ((0 : Nat) : Int) = (tdy t m).1 by omega]
 rfl
abbrev Sr := Int × List Rat
structure SOK (x : Sr) (p b : Int) (K : Nat) : Prop where
 v : Zaq x.1 x.2.length = true
 p : x.1 + x.2.length = p
 b : b ≤ x.1
 h : ∀ q, q ∈ x.2 → Ht q K
theorem tdy_ok {x : Sr} {p b : Int} {K : Nat} (h : SOK x p b K) : SOK (tdy x.1 x.2) p b K := by
 obtain ⟨h1, h2, h3, h4⟩ := h
 have := Zb7 x.2
 refine ⟨tdy_v h1, ?_, ?_, fun q hq => h4 q (List.mem_of_mem_drop hq)⟩
 ·unfold tdy
  rw [List.length_drop]
  omega
 ·unfold tdy
  show b ≤ x.1 + _
  omega
theorem SOK.mono {x : Sr} {p b : Int} {K L : Nat} (h : SOK x p b K) (hk : K ≤ L) : SOK x p b L := ⟨h.v, h.p, h.b, fun q hq => (h.h q hq).mono hk⟩
def thS (x : Sr) : Sr := (sF (thR x.1 x.2), sL (thR x.1 x.2))
theorem thS_ok {x : Sr} {p b : Int} {K : Nat} (hK : 1 ≤ K) (h : SOK x p b K) : SOK (thS x) p b (K + 1) ∧ thR x.1 x.2 = some (thS x) ∧ lead (thS x).2 = 0 := by
 obtain ⟨s, l, e, h1, h2, h3, h4, h5, h6, h7⟩ := th_out h.v hK h.h
 have e2 : thS x = (s, l) := by unfold thS; rw [e]; rfl
 rw [e2]
 have hp := h.p
 have hb := h.b
 have v : Zaq s l.length = true := Zas.2 ⟨h1, by omega, by omega⟩
 exact ⟨⟨v, by show s + (l.length : Int) = p; omega, by show b ≤ s; omega, h6⟩, e, h7⟩
theorem thS_tdy {x : Sr} {p b : Int} {K : Nat} (hK : 1 ≤ K) (h : SOK x p b K) : thS (tdy x.1 x.2) = thS x := by
 have h1 := th_out h.v hK h.h
 have h2 := th_out (tdy_ok h).v hK (tdy_ok h).h
 have e : thR (tdy x.1 x.2).1 (tdy x.1 x.2).2 = thR x.1 x.2 := by
  refine Out.eq (h2.congr (by rw [(tdy_ok h).p, h.p]) (fun n _ => ?_) (Int.le_refl _) (Nat.le_refl _)) h1
  show (n : Rat) * cf (x.1 + lead x.2) (x.2.drop (lead x.2)) n = _
  rw [Zgh _ _ _ (Nat.le_refl _)]
 unfold thS
 rw [e]
def thI : Nat → Sr → Sr
 | 0, x => x
 | i + 1, x => thS (thI i x)
theorem Zf5 {x : Sr} {p b : Int} {K : Nat} (hK : 1 ≤ K) (h : SOK x p b K) : ∀ i, SOK (thI i x) p b (K + i)
 | 0 => h
 | i + 1 => (thS_ok (by omega) (Zf5 hK h i)).1
theorem thI_lead {x : Sr} {p b : Int} {K : Nat} (hK : 1 ≤ K) (h : SOK x p b K) (hl : lead x.2 = 0) : ∀ i, lead (thI i x).2 = 0
 | 0 => hl
 | i + 1 => (thS_ok (by omega) (Zf5 hK h i)).2.2
theorem thI_tdy {x : Sr} {p b : Int} {K : Nat} (hK : 1 ≤ K) (h : SOK x p b K) : ∀ i, 1 ≤ i → thI i (tdy x.1 x.2) = thI i x
 | 0, h0 => absurd h0 (by decide)
 | 1, _ => thS_tdy hK h
 | i + 2, _ => by rw [thI, thI_tdy hK h (i + 1) (by omega)]; rfl
theorem thI_mul {x y : Sr} {p b p' b' : Int} {K : Nat} (hK : 1 ≤ K) (hx : SOK x p b K) (hy : SOK y p' b' K) (i j : Nat) : mulR (thI i (tdy x.1 x.2)).1 (thI i (tdy x.1 x.2)).2 (thI j (tdy y.1 y.2)).1 (thI j (tdy y.1 y.2)).2 = mulR (thI i x).1 (thI i x).2 (thI j y).1 (thI j y).2 := by
 have e1 : ∀ (t : Int) (m : List Rat), mulR (thI i (tdy x.1 x.2)).1 (thI i (tdy x.1 x.2)).2 t m = mulR (thI i x).1 (thI i x).2 t m := fun t m => by
  rcases Nat.eq_zero_or_pos i with h | h
  ·subst h; exact mulR_l hx.v
  ·rw [thI_tdy hK hx i h]
 have e2 : ∀ (s : Int) (l : List Rat), mulR s l (thI j (tdy y.1 y.2)).1 (thI j (tdy y.1 y.2)).2 = mulR s l (thI j y).1 (thI j y).2 := fun s l => by
  rcases Nat.eq_zero_or_pos j with h | h
  ·subst h; exact mulR_r hy.v
  ·rw [thI_tdy hK hy j h]
 rw [e1, e2]
theorem mul_some {x y : Sr} {p b p' b' : Int} {K N : Nat} (hK : 1 ≤ K) (hx : SOK x p b K) (hy : SOK y p' b' K) (lx : lead x.2 = 0) (ly : lead y.2 = 0) (hN : x.2.length ≤ N) :
    (-100 ≤ x.1 + y.1 → ∃ u c, mulR x.1 x.2 y.1 y.2 = some (u, c) ∧ SOK (u, c) (min 1000 (min (x.1 + p') (y.1 + p))) (-100) ((2 * K + 1) * N + 1)) ∧ (x.1 + y.1 < -100 → mulR x.1 x.2 y.1 y.2 = none) := by
  obtain ⟨s, l⟩ := x
  obtain ⟨t, m⟩ := y
  obtain ⟨h1, h2, h3, h4⟩ := hx
  obtain ⟨k1, k2, k3, k4⟩ := hy
  simp only at *
  obtain ⟨a0, a1, a2⟩ := Zas.1 h1
  obtain ⟨b0, b1, b2⟩ := Zas.1 k1
  have e : mulR s l t m = nrm (s + t) (tk (conv l m) (mlen (s + t) l.length m.length)) := by
    unfold mulR mulN
    rw [h1, k1, if_pos (show (true && true) = true from rfl), lx, ly, List.drop_zero, List.drop_zero, show s + ((0 : Nat) : Int) = s by omega, show t + ((0 : Nat) : Int) = t by omega]
  obtain ⟨M, hM⟩ : ∃ M, M = mlen (s + t) l.length m.length := ⟨_, rfl⟩
  rw [e, ← hM]
  unfold mlen at hM
  have hH : ∀ q, q ∈ tk (conv l m) M → Ht q ((2 * K + 1) * N + 1) := fun q hq => by
    obtain ⟨i, hi, rfl⟩ := Zdv hq
    exact ht_conv hK h4 k4 (by omega)
  by_cases c : s + t > 1000
  · have hM0 : M = 0 := by omega
    refine ⟨fun _ => ⟨1000, [], ?_, ⟨rfl, by simp; omega, by decide, fun q hq => by cases hq⟩⟩, fun h => by omega⟩
    unfold nrm Zdc ncut
    rw [if_pos c, if_pos c]
    rfl
  · have hl0 : lead (tk (conv l m) M) = 0 := by
      rcases Nat.eq_zero_or_pos M with h0 | h0
      · rw [h0]; rfl
      · refine lead_tk ?_
        have hl : 0 < l.length := by omega
        have hm : 0 < m.length := by omega
        match l, m, lx, ly, hl, hm with
        | q :: l, r :: m, lx, ly, _, _ =>
          have hq : q ≠ 0 := fun e => by rw [e, lead, if_pos rfl] at lx; cases lx
          have hr : r ≠ 0 := fun e => by rw [e, lead, if_pos rfl] at ly; cases ly
          have : conv (q :: l) (r :: m) 0 = q * r := by
            unfold conv
            rw [cs, cs, Rat.zero_add]
            rfl
          rw [this]
          exact mul_ne hq hr
    have hct : ncut (s + t) (tk (conv l m) M) = tk (conv l m) M := by
      unfold ncut
      rw [if_neg c, List.take_of_length_le (by rw [tk_len]; omega)]
    have hnf : Zdc (s + t) = s + t := by unfold Zdc; rw [if_neg c]
    constructor
    · intro h
      refine ⟨s + t, tk (conv l m) M, ?_, ⟨Zas.2 ⟨h, by omega, by rw [tk_len]; omega⟩, ?_, h, hH⟩⟩
      · unfold nrm
        rw [hct, hnf, hl0, if_neg (by omega), List.drop_zero, show s + t + ((0 : Nat) : Int) = s + t by omega]
      · show s + t + ((tk (conv l m) M).length : Int) = _
        rw [tk_len]
        omega
    · intro h
      unfold nrm
      rw [hct, hnf, hl0, if_pos (by omega)]
def brO (c : Nat → Rat) (pr : Nat → Sr) (p : Int) : Nat → Sr
 | 0 => (p, [])
 | r + 1 => (sF (Ze7 (brO c pr p r).1 (brO c pr p r).2 (sF (sclR (c r) (pr r).1 (pr r).2)) (sL (sclR (c r) (pr r).1 (pr r).2)) 1), sL (Ze7 (brO c pr p r).1 (brO c pr p r).2 (sF (sclR (c r) (pr r).1 (pr r).2)) (sL (sclR (c r) (pr r).1 (pr r).2)) 1))
def brK (K : Nat) : Nat → Nat
 | 0 => K
 | r + 1 => 2 * brK K r + 2
theorem brK_le (K : Nat) : ∀ r, K ≤ brK K r
 | 0 => Nat.le_refl _
 | r + 1 => by have := brK_le K r; rw [brK]; omega
theorem brO_ok {c : Nat → Rat} {pr : Nat → Sr} {p : Int} {K C n : Nat} (hK : 1 ≤ K) (hC : 1 ≤ C) (hp0 : -100 ≤ p) (hp : p ≤ 1000) (hc : ∀ r, r < n → Ht (c r) C) (hpr : ∀ r, r < n → ∃ p', p ≤ p' ∧ SOK (pr r) p' (-100) K) :
    ∀ r, r ≤ n → SOK (brO c pr p r) p (-100) (brK (C + K) r) ∧ ∀ j, j < r → sclR (c j) (pr j).1 (pr j).2 = some (sF (sclR (c j) (pr j).1 (pr j).2), sL (sclR (c j) (pr j).1 (pr j).2)) ∧ SOK (sF (sclR (c j) (pr j).1 (pr j).2), sL (sclR (c j) (pr j).1 (pr j).2)) ((pr j).1 + (pr j).2.length) (-100) (C + K) ∧
      Ze7 (brO c pr p j).1 (brO c pr p j).2 (sF (sclR (c j) (pr j).1 (pr j).2)) (sL (sclR (c j) (pr j).1 (pr j).2)) 1 = some (brO c pr p (j + 1))
  | 0, _ => ⟨⟨Zas.2 ⟨hp0, hp, by simp [brO]; omega⟩, by simp [brO], hp0, fun q hq => by cases hq⟩, fun j hj => by omega⟩
  | r + 1, hr => by
    obtain ⟨o, rest⟩ := brO_ok hK hC hp0 hp hc hpr r (by omega)
    obtain ⟨p', hpp, hx⟩ := hpr r (by omega)
    have s1 := scl_out hx.v (hc r (by omega)) hC hK hx.h
    obtain ⟨s, l, e, h1, h2, h3, h4, h5, h6, h7⟩ := s1
    have hb := hx.b
    have hpe := hx.p
    have g1 : sF (sclR (c r) (pr r).1 (pr r).2) = s := by rw [e]; rfl
    have g2 : sL (sclR (c r) (pr r).1 (pr r).2) = l := by rw [e]; rfl
    have v2 : Zaq s l.length = true := Zas.2 ⟨h1, by omega, by omega⟩
    have hle := brK_le (C + K) r
    have o3 := comb_out (s := (brO c pr p r).1) (t := s) (c := 1) (l := (brO c pr p r).2) (m := l) (K := brK (C + K) r) o.v v2 (by decide) (by omega) o.h (fun q hq => (h6 q hq).mono hle)
    obtain ⟨u, w, f, k1, k2, k3, k4, k5, k6, k7⟩ := o3
    have g3 : brO c pr p (r + 1) = (u, w) := by rw [brO, g1, g2, f]; rfl
    have ho := o.p
    have hob := o.b
    refine ⟨?_, fun j hj => ?_⟩
    · rw [g3]
      have v3 : Zaq u w.length = true := Zas.2 ⟨k1, by omega, by omega⟩
      exact ⟨v3, by show u + (w.length : Int) = p; omega, by show -100 ≤ u; omega, k6⟩
    · by_cases hjr : j < r
      · exact rest j hjr
      · obtain rfl : j = r := by omega
        rw [g1, g2]
        exact ⟨e, ⟨v2, by show s + _ = _; omega, by show -100 ≤ s; omega, h6⟩, by rw [f, g3]⟩
end Ab
