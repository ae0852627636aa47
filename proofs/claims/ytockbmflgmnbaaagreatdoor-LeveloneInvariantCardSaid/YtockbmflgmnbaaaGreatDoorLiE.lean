/- Polynomials in j, in the program: the peeling, the expansion, Faber's polynomials; by the contracts of what they call. -/
import Derived.Test.YtockbmflgmnbaaaGreatDoorLiD
set_option linter.all false
namespace Ab
open Go Go.RowKit Go.Proofs Hp
set_option maxRecDepth 100000
theorem rkH_20 {k : Nat} (h : k ≤ 20) : rkH k ≤ 52428765 := by
 unfold rkH
 have : 2 ^ k ≤ 2 ^ 20 := Nat.pow_le_pow_right (by decide) h
 omega
theorem Zfm {x : Option (Int × List Rat)} {p b : Int} {f : Int → Rat} {K : Nat} (h : Out x p f b K) : serE x = .tup [serA (sF x) ((sL x).map encQ), iV 0] := by
 obtain ⟨s, l, rfl, -⟩ := h
 rfl
theorem Zge {x : Option (Int × List Rat)} {p b : Int} {f : Int → Rat} {K : Nat} (h : Out x p f b K) : -100 ≤ sF x ∧ sF x + (sL x).length = p ∧ p ≤ 1000 ∧ b ≤ sF x ∧ (∀ n, n < p → cf (sF x) (sL x) n = f n) ∧ (∀ q, q ∈ sL x → Ht q K) ∧ lead (sL x) = 0 ∧ x = some (sF x, sL x) := by
 obtain ⟨s, l, rfl, h2, h3, h4, h5, h6, h7, h8⟩ := h
 exact ⟨h2, h3, h4, h5, h6, h7, h8, rfl⟩
theorem Zc0 {x : Option (Int × List Rat)} {p b : Int} {f : Int → Rat} {K : Nat} (h : Out x p f b K) : Zai (sF x) (sL x).length = true ∧ InR (sF x) ((sL x).map encQ).length := by
 obtain ⟨h1, h2, h3, -⟩ := Zge h
 exact ⟨Zan.2 ⟨h1, by omega, by omega⟩, ⟨by omega, by omega, by simp; omega⟩⟩
theorem both_out {x y : Option (Int × List Rat)} {p b p' b' : Int} {f f' : Int → Rat} {K K1 K2 : Nat} (h : Out x p f b K1) (h' : Out y p' f' b' K2) (k1 : K1 ≤ K) (k2 : K2 ≤ K) : Both (sF x) ((sL x).map encQ) (sF y) ((sL y).map encQ) K (sL x) (sL y) :=
 ⟨fun _ _ => ⟨Zau fun q hq => ((Zge h).2.2.2.2.2.1 q hq).mono k1, Zau fun q hq => ((Zge h').2.2.2.2.2.1 q hq).mono k2⟩, by simp, by simp, (Zc0 h).2, (Zc0 h').2⟩
theorem saddX_p {s t : Int} {es fs : List AV} {l m : List Rat} {K : Nat} (h : Both s es t fs K l m) (hK : 1 ≤ K ∧ K ≤ 268435456) : PC Tryz.prog 33 [serA s es, serA t fs] (serE (Zdt s l t m 1)) := by
 obtain ⟨h1, h2, h3, ⟨a, b, c⟩, ⟨d, e, f⟩⟩ := h
 have hc := scombine_p (c := 1) (fun x y => (h1 x y).1) (fun x y => (h1 x y).2) h2 h3 hK ⟨a, b, c⟩ ⟨d, e, f⟩ (by decide)
 rw [Zbc] at hc ⊢
 refine pb2 Tryz.func33 (Zab.agg Zaf) Zab.tmp ?_
 refine goA ?_
 refine clG hc ?_
 exact rfl
theorem jX {N : Nat} (h : N ≤ 38) : PC Tryz.prog 18 [iV N] (.tup [serA (-1) ((tk jV (N + 1)).map encQ), iV 0]) := by
 have c := j_p (p := (N : Int)) (by omega)
 rw [jT_ok h] at c
 exact c
theorem jpowX_p {e N : Nat} (he : e ≤ 20) (h1 : 1 ≤ N) (hN : N ≤ 39) : PC Tryz.prog 46 [serA (-1) ((tk jV N).map encQ), iV e] (.tup [serA ((e : Int) * -1) ((tk (pq jV e) N).map encQ), iV 0]) := by
 have c := spow_p (s := -1) (n := (e : Int)) (es := (tk jV N).map encQ) (l := tk jV N) (K := 5) (Q := 32) (fun _ => ⟨Zau (Zee fun i hi => jV_h (by omega)), by simp; omega⟩) (by simp) (Zeb (by decide) (by decide) (by omega)) (by decide) (by decide) (by omega) (by omega)
  (fun _ _ _ m hm => by
   rw [drop_tk jV_ne] at hm ⊢
   rw [Zgd jV_ne h1 e (by rw [tk_len] at hm; exact hm)]
   exact Zee fun i hi => jp_ht he (by rw [tk_len] at hm; omega))
 rw [powT_tk jV_ne h1 (by omega) (by decide) (by omega) (by omega) (by omega)] at c
 exact c
theorem peelP {α : Int → Rat} {m N : Nat} {p : Int} (hm : m ≤ 20) (hp : p + m ≤ 38) (hp0 : 1 ≤ p) (hN0 : p + m ≤ N) (hN1 : N ≤ 39) (hα : ∀ n, n < p → Ht (α n) 12) (h0 : ∀ n, n < -(m : Int) → α n = 0) :
  PC Tryz.prog 22 [serA (sF (xk α m p 0)) ((sL (xk α m p 0)).map encQ), serA (-1) ((tk jV N).map encQ), iV m] (.tup [.sl ((pkL α m).map encQ), serA (sF (xk α m p (m + 1))) ((sL (xk α m p (m + 1))).map encQ)]) := by
 have o := fun k (hk : k ≤ m + 1) => xk_out hm (by omega) hp0 hα h0 hk
 have hc := fun k (hk : k ≤ m) => ck_ht hm (by omega) hp0 hα hk
 have h := peel_core (m := m) (by omega) (aS := fun k => sF (xk α m p k)) (aL := fun k => (sL (xk α m p k)).map encQ) (pS := fun k => ((m - k : Nat) : Int) * -1) (pL := fun k => (tk (pq jV (m - k)) N).map encQ) (qL := fun k => (tk (fun i => ck α m k * pq jV (m - k) i) N).map encQ) (mo := fun k => (ck α m k :: List.replicate 999 0).map encQ) (c := ck α m) (sj := -1) (J := (tk jV N).map encQ) (K := 104857600) (by decide)
  (fun k hk => (hc k hk).mono (rkH_le (by omega)))
  (fun k hk => by
   obtain ⟨f2, f3, f4, f5, f6, f7, f8, f9⟩ := Zge (o k (by omega))
   have := Zc8 k
   have c := seriesAt_p (s := sF (xk α m p k)) (n := 0 - ((m : Int) - k)) (Zau f7) ⟨by omega, by have := rkH_20 (k := k) (by omega); omega⟩ (by rw [List.length_map]; exact (Zc0 (o k (by omega))).1) (by omega) (by rw [List.length_map]; omega)
   rw [f6 _ (by omega), show 0 - ((m : Int) - k) = -((m : Int) - k) by omega] at c
   rw [show 0 - ((m : Int) - k) = -((m : Int) - k) by omega]
   exact c)
  (fun k hk h => by rw [xk_zero h]; exact ⟨rfl, rfl⟩)
  (fun k hk h => by
   have := Zc8 k
   have c := monomial_p (a := encQ (ck α m k)) (c := ck α m k) (K := rkH k) (n := 0) (p := 1000) (Zad (hc k hk)) ⟨by omega, by have := rkH_20 (k := k) (by omega); omega⟩
   rw [mon_some h] at c
   exact c)
  (fun k hk h => by
   have c := jpowX_p (e := m - k) (N := N) (by omega) (by omega) hN1
   rw [show ((m - k : Nat) : Int) = (m : Int) - k by omega] at c
   rw [show ((m - k : Nat) : Int) = (m : Int) - k by omega]
   exact c)
  (fun k hk h => by
   have := Zc8 k
   have c := scale_p (a := encQ (ck α m k)) (c := ck α m k) (k := rkH k) (s := ((m - k : Nat) : Int) * -1) (es := (tk (pq jV (m - k)) N).map encQ) (l := tk (pq jV (m - k)) N) (K := 32) (Zad (hc k (by omega))) (fun _ => Zau (Zee fun i hi => jp_ht (by omega) (by omega))) (by simp) (Zeb (by omega) (by omega) (by omega)) (by omega) (by decide) (by have := rkH_20 (k := k) (by omega); omega)
   rw [sclR_tk h (pq_ne jV_ne _) (by omega) (by omega)] at c
   exact c)
  (fun k hk h => by
   obtain ⟨f2, f3, f4, f5, f6, f7, f8, f9⟩ := Zge (o k (by omega))
   have e2 := sclR_tk (s := -((m : Int) - k)) (n := N) h (pq_ne jV_ne (m - k)) (by omega) (by omega)
   obtain ⟨g1, g2, g3, g4, g5⟩ := xk_go hm hp hp0 h0 (k := k) (by omega) hN0 hN1 f2 f3 f6 f7 (hc k (by omega)) e2
   have es : ((m - k : Nat) : Int) * -1 = -((m : Int) - k) := by omega
   have := Zc8 k
   have c := ssub_p (s := sF (xk α m p k)) (es := (sL (xk α m p k)).map encQ) (t := -((m : Int) - k)) (fs := (tk (fun i => ck α m k * pq jV (m - k) i) N).map encQ) (l := sL (xk α m p k)) (m := tk (fun i => ck α m k * pq jV (m - k) i) N) (K := rkH k + 32)
    ⟨fun _ _ => ⟨Zau fun q hq => (f7 q hq).mono (by omega), Zau g2⟩, by simp, by simp, (Zc0 (o k (by omega))).2, Zeb (by omega) (by omega) (by omega)⟩ ⟨by omega, by have := rkH_20 (k := k) (by omega); omega⟩
   rw [g1, Zfm (o (k + 1) (by omega)), ← es] at c
   exact c)
  (fun h => by
   obtain ⟨f2, f3, f4, f5, f6, f7, f8, f9⟩ := Zge (o m (by omega))
   have g1 := xk_end hm hp hp0 h0 f2 f3 f6 f7 (hc m (Nat.le_refl _)) h
   have := Zc8 m
   have c := ssub_p (s := sF (xk α m p m)) (es := (sL (xk α m p m)).map encQ) (t := 0) (fs := (ck α m m :: List.replicate 999 0).map encQ) (l := sL (xk α m p m)) (m := ck α m m :: List.replicate 999 0) (K := rkH m)
    ⟨fun _ _ => ⟨Zau f7, Zau fun q hq => by
     rcases List.mem_cons.1 hq with e | e
     ·rw [e]; exact hc m (Nat.le_refl _)
     ·rw [(List.mem_replicate.1 e).2]; exact ht0 (by omega)⟩, by simp, by simp, (Zc0 (o m (by omega))).2, ⟨by decide, by decide, by simp⟩⟩ ⟨by omega, by have := rkH_20 (k := m) (by omega); omega⟩
   rw [g1, Zfm (o (m + 1) (Nat.le_refl _))] at c
   exact c)
 rw [oA_end] at h
 exact h
theorem ofjP' {es : List AV} {l : List Rat} {d : Nat} {p : Int} (h : IsL es 12 l) (hl : l.length ≤ 24) (hd : d ≤ 20) (hdg : pdg l = d + 1) (hp : -100 ≤ p ∧ p ≤ 8) {P : Nat} (hP : (P : Int) = max (p + d) 0) :
    PC Tryz.prog 11 [.sl es, iV p] (.tup [serA (sF (cutR (sF (hX (fun k => l.getD (d - k) 0) P d)) (sL (hX (fun k => l.getD (d - k) 0) P d)) p)) ((sL (cutR (sF (hX (fun k => l.getD (d - k) 0) P d)) (sL (hX (fun k => l.getD (d - k) 0) P d)) p)).map encQ), iV 0]) := by
  have hlen := h.get.1
  have hht := Zb2 h (by decide)
  have hdl := pdg_le l
  have h0 := pdg_top hdg
  obtain ⟨-, b, hcut⟩ := hd_cut (l := l) (P := P) (d := d) (p := p) hd (by omega) hp.1 hp.2 (by omega) hht
  rw [← (hd_cut (l := l) (P := P) (d := d) (p := p) hd (by omega) hp.1 hp.2 (by omega) hht).1] at hcut
  have hA : ∀ k, ∃ e, es[d - k]? = some e ∧ IsV e 12 (l.getD (d - k) 0) := fun k => by
    cases e : l[d - k]? with
    | none => rw [List.getElem?_eq_none_iff] at e; omega
    | some q =>
      obtain ⟨a, h1, h2⟩ := h.get.2 _ q e
      refine ⟨a, h1, ?_⟩
      rw [List.getD_eq_getElem?_getD, e]
      exact h2
  have hA' : ∀ k, es[d - k]? = some (es.getD (d - k) rz) ∧ IsV (es.getD (d - k) rz) 12 (l.getD (d - k) 0) := fun k => by
    obtain ⟨e, h1, h2⟩ := hA k
    have e1 : es.getD (d - k) rz = e := by rw [List.getD_eq_getElem?_getD, h1]; rfl
    rw [e1]
    exact ⟨h1, h2⟩
  have hdeg := degreeL_p h (by decide) (by omega)
  rw [hdg, show ((d + 1 : Nat) : Int) - 1 = d by omega] at hdeg
  have hJ := jX (N := P) (by omega)
  rw [hP] at hJ
  generalize hcc : (fun k => l.getD (d - k) 0) = c at *
  have hck : ∀ k, c k = l.getD (d - k) 0 := fun k => by rw [← hcc]
  have hcK : ∀ k, Ht (c k) 12 := fun k => by rw [hck]; exact Zca (by decide) hht _
  have c0 : c 0 ≠ 0 := by rw [hck, Nat.sub_zero]; exact h0
  have oX := fun k (hk : k ≤ d) => hX_out (c := c) (P := P) (k := k) (by omega) (by omega) (fun i _ => hcK i)
  have oM := fun k (hk : k < d) => hM_out (c := c) (P := P) (k := k) (by omega) (by omega) c0 (fun i _ => hcK i)
  have oN := fun k => hN_out (c := c) (k := k) (K := 12) (by decide) (hcK k)
  refine ofj_coreI (d := d) (p := p) hd ⟨by omega, by omega⟩ (A := fun k => es.getD (d - k) rz) (fun k => Za4 (hA' k).2) (J := (tk jV (P + 1)).map encQ) (oS := fun k => sF (hX c P k)) (oL := fun k => (sL (hX c P k)).map encQ) (mS := fun k => sF (hM c P k)) (mL := fun k => (sL (hM c P k)).map encQ) (nS := fun k => sF (hN c k)) (mo := fun k => (sL (hN c k)).map encQ)
    hdeg hJ (fun k _ => (hA' k).1) (fun k _ => ?_) ⟨by rw [hX_0 (hcK 0)], by rw [hX_0 (hcK 0)]⟩ (fun k hk => ?_) (fun k hk => ?_) ?_
  · have m := monomial_p (a := es.getD (d - k) rz) (c := c k) (K := 12) (n := 0) (p := 1000) (by rw [hck]; exact (hA' k).2) (by decide)
    have e := Zfm (oN k)
    unfold hN at e ⊢
    rw [e] at m
    exact m
  · obtain ⟨f2, f3, f4, f5, f6, f7, f8, f9⟩ := Zge (oX k (by omega))
    have e := Zfm (oM k hk)
    have m := mul_g (s := sF (hX c P k)) (es := (sL (hX c P k)).map encQ) (t := -1) (fs := (tk jV (P + 1)).map encQ) (l := sL (hX c P k)) (m := tk jV (P + 1)) (K := 1000) (M := 2000)
      ⟨fun _ _ => ⟨Zau f7, Zau fun q hq => (Zee (fun i hi => jV_h (by omega)) q hq).mono (by decide)⟩, by simp, by simp, (Zc0 (oX k (by omega))).2, Zeb (by decide) (by decide) (by omega)⟩ (by decide) (by decide) (by decide) (fun _ => by rw [List.length_map]; omega)
    unfold hM at e ⊢
    rw [e] at m
    exact m
  · have m := saddX_p (both_out (oM k hk) (oN (k + 1)) (K := 3000000) (Nat.le_refl _) (by decide)) (by decide)
    rw [hA_out (by omega) (by omega) c0 (fun i _ => hcK i), Zfm (oX (k + 1) (by omega))] at m
    exact m
  · obtain ⟨f2, f3, f4, f5, f6, f7, f8, f9⟩ := Zge (oX d (Nat.le_refl _))
    have m := scutx_p (s := sF (hX c P d)) (p := p) (es := (sL (hX c P d)).map encQ) (l := sL (hX c P d)) (K := 1000) (fun _ => Zau f7) (by simp) (Zc0 (oX d (Nat.le_refl _))).2 (by decide) (by omega) (by omega)
    rw [Zfm hcut] at m
    exact m
def qm (m : Nat) (n : Int) : Rat := if n = -(m : Int) then 1 else 0
theorem qm_ht (m : Nat) (n : Int) : Ht (qm m n) 12 := by
 unfold qm
 split
 ·exact ⟨by decide, by decide⟩
 ·exact ht0 (by decide)
theorem qm_low {m : Nat} {n : Int} (h : n < -(m : Int)) : qm m n = 0 := by
 unfold qm
 rw [if_neg (by omega)]
theorem qm_mon {m : Nat} (hm : m ≤ 20) : monR 1 (0 - (m : Int)) 1 = xk (qm m) m 1 0 ∧ monR 1 (0 - (m : Int)) 1 = some (0 - (m : Int), 1 :: List.replicate m 0) := by
 have e : monR 1 (0 - (m : Int)) 1 = some (0 - (m : Int), 1 :: List.replicate m 0) := by
  unfold monR
  have e : MV (0 - (m : Int)) 1 = true := by unfold MV; simp; omega
  rw [if_pos e, if_neg (by omega), show ((1 : Int) - (0 - (m : Int))).toNat - 1 = m by omega, Zd9 (by omega) (by omega) (by simp; omega), lead00 (by show (1 : Rat) ≠ 0; decide)]
  simp
 refine ⟨?_, e⟩
 rw [e]
 have o : Out (some (0 - (m : Int), (1 : Rat) :: List.replicate m 0)) 1 (qm m) (0 - (m : Int)) 12 := by
  refine ⟨_, _, rfl, by omega, by simp; omega, by decide, Int.le_refl _, fun n hn => ?_, fun q hq => ?_, lead00 (by show (1 : Rat) ≠ 0; decide)⟩
  ·unfold qm cf
   by_cases h1 : n < 0 - (m : Int)
   ·rw [if_pos h1, if_neg (by omega)]
   ·rw [if_neg h1]
    by_cases h2 : n = -(m : Int)
    ·rw [if_pos h2, show (n - (0 - (m : Int))).toNat = 0 by omega]
     rfl
    ·rw [if_neg h2]
     obtain ⟨i, hi⟩ : ∃ i, (n - (0 - (m : Int))).toNat = i + 1 := ⟨(n - (0 - (m : Int))).toNat - 1, by omega⟩
     rw [hi, List.getD_eq_getElem?_getD, List.getElem?_cons_succ, List.getElem?_replicate]
     split <;> rfl
  ·rcases List.mem_cons.1 hq with e | e
   ·rw [e]; exact ⟨by decide, by decide⟩
   ·rw [(List.mem_replicate.1 e).2]; exact ht0 (by decide)
 exact out_mkX o (by omega) (by omega) fun n hn => qm_low hn
theorem faberP' {m : Nat} (hm : m ≤ 20) : PC Tryz.prog 9 [iV m] (.tup [.sl ((pkL (qm m) m).map encQ), iV 0]) := by
 have hpeel := peelP (α := qm m) (m := m) (N := m + 1) (p := 1) hm (by omega) (by decide) (by omega) (by omega) (fun n _ => qm_ht m n) (fun n hn => qm_low hn)
 have h1 : Ht (1 : Rat) 12 := ⟨by decide, by decide⟩
 have hOf : PC Tryz.prog 21 [iV 1] (encQ 1) := Zdp 1 (by decide) (by decide)
 have hMon := monomial_p (a := encQ 1) (c := 1) (K := 12) (n := 0 - (m : Int)) (p := 1) (Zad h1) (by decide)
 obtain ⟨e1, e2⟩ := qm_mon hm
 rw [← e1] at hpeel
 rw [e2] at hMon hpeel
 obtain ⟨g, xs, g', xs', e⟩ := Za4 (Zad h1)
 rw [e] at hOf hMon
 exact faber_core (m := m) hm (jX (by omega)) hOf hMon hpeel
end Ab
