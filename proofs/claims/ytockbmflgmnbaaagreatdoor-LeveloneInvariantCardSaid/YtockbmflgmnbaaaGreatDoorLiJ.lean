/- Polynomials in j: program and document agree; by the contracts of what they call. -/
import Derived.Test.YtockbmflgmnbaaaGreatDoorLiG
import Derived.Test.YtockbmflgmnbaaaGreatDoorLiH
import Derived.Test.YtockbmflgmnbaaaGreatDoorLiI
set_option linter.all false
namespace Ab
open Go Go.RowKit Go.Proofs Hp
set_option maxRecDepth 100000
theorem rjX {N : Nat} (h : N ≤ 38) : PC Tryz.prog 54 [iV N] (.tup [serA (-1) ((tk jV (N + 1)).map encQ), iV 0]) := by
 have c := rj_p (p := (N : Int)) (by omega)
 rw [jT_ok h] at c
 exact c
theorem tk_oneX {N : Nat} (h : 1 ≤ N) : (1 : Rat) :: List.replicate (N - 1) 0 = tk one' N := by
  apply List.ext_getElem?
  intro i
  unfold tk
  rw [List.getElem?_map]
  cases i with
  | zero =>
    rw [List.getElem?_range (by omega)]
    rfl
  | succ i =>
    rw [List.getElem?_cons_succ, List.getElem?_replicate]
    by_cases hi : i + 1 < N
    · rw [List.getElem?_range hi, if_pos (by omega)]
      show some (0 : Rat) = some (one' (i + 1))
      unfold one'
      rw [if_neg (by omega)]
    · rw [if_neg (by omega), List.getElem?_eq_none (by simp; omega)]
      rfl
theorem powersP {n N : Nat} {p : Int} (hn : n ≤ 20) (hp : 1 ≤ p ∧ p ≤ 12) (hN : p + n = (N : Int)) : PC Tryz.prog 23 [iV n, iV p] (.sl (jpA n N)) := by
 have h1 : Ht (1 : Rat) 12 := ⟨by decide, by decide⟩
 have hJ := rjX (N := N) (by omega)
 rw [← hN] at hJ
 have hQ : PC Tryz.prog 26 [iV 1] (encQ 1) := q_p 1 (by decide) (by decide)
 have hMon := rmonomial_p (a := encQ 1) (c := 1) (K := 12) (n := 0) (p := p + n) (Zad h1) (by decide)
 have e : monR 1 0 (p + n) = some (0, tk (pq jV 0) N) := by
  unfold monR
  have e : MV 0 (p + n) = true := by unfold MV; simp; omega
  rw [if_pos e, if_neg (by omega), show ((p + n : Int) - 0).toNat - 1 = N - 1 by omega, tk_oneX (by omega)]
  exact nrm_tk (f := one') (by unfold one'; decide) (by decide) (by omega)
 rw [e] at hMon
 have hMul : ∀ k, k < n → PC Tryz.prog 55 [serA (-(k : Int)) ((tk (pq jV k) N).map encQ), serA (-1) ((tk jV (N + 1)).map encQ)] (.tup [serA (-((k + 1 : Nat) : Int)) ((tk (pq jV (k + 1)) N).map encQ), iV 0]) := fun k hk => by
  have c := rmul33_p (s := -(k : Int)) (t := -1) (es := (tk (pq jV k) N).map encQ) (fs := (tk jV (N + 1)).map encQ) (l := tk (pq jV k) N) (m := tk jV (N + 1)) (K := 32) (M := 100)
   ⟨fun _ _ => ⟨Zau (Zee fun i hi => jp_ht (by omega) (by omega)), Zau fun q hq => (Zee (fun i hi => jV_h (by omega)) q hq).mono (by decide)⟩, by simp, by simp, Zeb (by omega) (by omega) (by omega), Zeb (by decide) (by decide) (by omega)⟩ (by decide) (by decide) (by decide) (fun _ => by rw [List.length_map, tk_len]; omega)
  rw [mulR_tk (pq_ne jV_ne k) jV_ne (by omega) (by decide) (by omega) (by omega) (by omega) (by omega), show min N (N + 1) = N by omega, show -(k : Int) + -1 = -((k + 1 : Nat) : Int) by omega] at c
  exact c
 obtain ⟨g, xs, g', xs', ea⟩ := Za4 (Zad h1)
 rw [ea] at hQ hMon
 exact powers_core (E := fun k => (tk (pq jV k) N).map encQ) hn ⟨hp.1, by omega⟩ hJ hQ hMon hMul
theorem sameQsX_p {l : List Rat} {k : Nat} (h : ∀ q, q ∈ l → Ht q k) (hk : k ≤ 4611686018427387904) (hl : l.length ≤ 4611686018427387904) : PC Tryz.prog 15 [.sl (l.map encQ), .sl (l.map encQ)] (.p (.bool true)) := by
 have c := sameRats_p (l.map rq) (l.map rq) (fun r hr => ⟨Nat.le_trans (Zgv h r hr).1 hk, Nat.le_trans (Zgv h r hr).2 hk⟩) (by simpa using hl)
 rw [decide_eq_true rfl, ← encs_raw] at c
 exact c
theorem faberB {m : Int} (h : m ≤ 8 ∨ 20 < m) : ∃ (L : List Rat) (e : Int), (∀ q, q ∈ L → Ht q 104857600) ∧ L.length ≤ 1000 ∧ PC Tryz.prog 9 [iV m] (.tup [.sl (L.map encQ), iV e]) ∧ PC Tryz.prog 10 [iV m] (.tup [.sl (L.map encQ), iV e]) := by
 by_cases h0 : 0 ≤ m ∧ m ≤ 20
 ·obtain ⟨k, rfl⟩ : ∃ k : Nat, m = k := ⟨m.toNat, by omega⟩
  have hk : k ≤ 8 := by omega
  refine ⟨pkL (qm k) k, 0, pkL_ht (p := 1) (by omega) (by omega) (by decide) (fun n _ => qm_ht k n), by rw [pkL_len]; omega, faberP' (by omega), ?_⟩
  have h1 : Ht (1 : Rat) 12 := ⟨by decide, by decide⟩
  obtain ⟨e1, e2⟩ := qm_mon (m := k) (by omega)
  have hrp : RP (qm k) k (k + 1) 1 (0 - (k : Int)) (((1 : Rat) :: List.replicate k 0).map encQ) ((1 : Rat) :: List.replicate k 0) := by
   have hht : ∀ q, q ∈ ((1 : Rat) :: List.replicate k 0) → Ht q 12 := fun q hq => by
    rcases List.mem_cons.1 hq with e | e
    ·rw [e]; exact h1
    ·rw [(List.mem_replicate.1 e).2]; exact ht0 (by decide)
   have o := xk_out (α := qm k) (m := k) (p := 1) (k := 0) (by omega) (by omega) (by decide) (fun n _ => qm_ht k n) (fun n hn => qm_low hn) (by omega)
   rw [← e1, e2] at o
   obtain ⟨f2, f3, f4, f5, f6, f7, f8, f9⟩ := Zge o
   exact ⟨by omega, by omega, by decide, by omega, by omega, fun n _ => qm_ht k n, fun n hn => qm_low hn, Zau hht, f2, f3, f6⟩
  have hPw := powersP (n := k) (N := k + 1) (p := 1) (by omega) (by decide) (by omega)
  have hQ : PC Tryz.prog 26 [iV 1] (encQ 1) := q_p 1 (by decide) (by decide)
  have hMon := rmonomial_p (a := encQ 1) (c := 1) (K := 12) (n := 0 - (k : Int)) (p := 1) (Zad h1) (by decide)
  rw [e2] at hMon
  have hZ := zeros_p (k + 1) (by omega)
  rw [oZ_0 (ck (qm k) k), show ((k + 1 : Nat) : Int) = (k : Int) + 1 by omega] at hZ
  obtain ⟨g, xs, g', xs', ea⟩ := Za4 (Zad h1)
  rw [ea] at hQ hMon
  have c := faber39_core (m := k) (by omega) (PL := jpA k (k + 1)) (c := ck (qm k) k) (aS := rS (0 - (k : Int)) (xk (qm k) k 1)) (aL := rL (((1 : Rat) :: List.replicate k 0).map encQ) (xk (qm k) k 1)) (pS := fun i => -((k - i : Nat) : Int)) (pL := fun i => (tk (pq jV (k - i)) (k + 1)).map encQ) (qS := fun i => sF (tmk (qm k) k (k + 1) i)) (qL := fun i => (sL (tmk (qm k) k (k + 1) i)).map encQ)
   hPw hQ hMon (fun i hi => jpA_at (by omega)) (fun i => ?_) hZ (fun i hi => hrp.coef hi) (fun i hi => hrp.scl hi) (fun i hi => hrp.sub hi)
  ·rw [oZ_end] at c
   exact c
  ·unfold encQ ci
   exact ⟨_, _, _, _, rfl⟩
 ·exact ⟨[], 2, fun q hq => (by cases hq), by simp, faber_no h0, faber39_no h0⟩
theorem ofjB {es : List AV} {l : List Rat} {p : Int} (h : IsL es 12 l) (hl : l.length ≤ 24) (hp : p ≤ 8 ∨ 1000 < p) : ∃ (s : Int) (L : List Rat) (e : Int), (∀ q, q ∈ L → Ht q 1000) ∧ L.length ≤ 2000 ∧ PC Tryz.prog 11 [.sl es, iV p] (.tup [serA s (L.map encQ), iV e]) ∧ PC Tryz.prog 12 [.sl es, iV p] (.tup [serA s (L.map encQ), iV e]) := by
  have hd1 := degreeL_p h (by decide) (by omega)
  have hd2 := rdegreeL_p h (by decide) (by omega)
  have hdl := pdg_le l
  by_cases hbig : 21 < pdg l
  · exact ⟨0, [], 7, fun q hq => (by cases hq), by simp, ofj_big (by omega) hd1, ofj39_big (by omega) hd2⟩
  by_cases hr : ¬ (-100 ≤ p ∧ p ≤ 900)
  · exact ⟨0, [], 2, fun q hq => (by cases hq), by simp, ofj_range (by omega) hr hd1, ofj39_range (by omega) hr hd2⟩
  have hr := Classical.not_not.1 hr
  have hp8 : p ≤ 8 := by omega
  have hht := Zb2 h (by decide)
  have hlen := h.get.1
  obtain ⟨D, hD⟩ : ∃ D, D = pdg l := ⟨_, rfl⟩
  obtain ⟨n, hn⟩ : ∃ n : Nat, n = D - 1 := ⟨_, rfl⟩
  obtain ⟨P, hP⟩ : ∃ P : Int, P = max p 1 := ⟨_, rfl⟩
  obtain ⟨N, hN⟩ : ∃ N : Nat, P + n = (N : Int) := ⟨(P + n).toNat, by omega⟩
  have hPr : 1 ≤ P ∧ P ≤ 8 := by omega
  have oX := fun k (hk : k ≤ D) => dX_out (l := l) (p := P) (k := k) hPr (by omega) hht
  have oT := fun k (hk : k < D) => dT_out (l := l) (N := N) (i := k) (by omega) (by omega) hht
  have hcut := cut_out (s := sF (dX l P D)) (l := sL (dX l P D)) (p := p) (by have := oX D (Nat.le_refl _); rwa [(Zge this).2.2.2.2.2.2.2] at this) (by omega) hr.1
  have hA : ∀ k, k < D → ∃ e, es[k]? = some e ∧ IsV e 12 (l.getD k 0) := fun k hk => by
    cases e : l[k]? with
    | none => rw [List.getElem?_eq_none_iff] at e; omega
    | some q =>
      obtain ⟨a, h1, h2⟩ := h.get.2 _ q e
      refine ⟨a, h1, ?_⟩
      rw [List.getD_eq_getElem?_getD, e]
      exact h2
  have hA' : ∀ k, k < D → es[k]? = some (es.getD k rz) ∧ IsV (es.getD k rz) 12 (l.getD k 0) := fun k hk => by
    obtain ⟨e, h1, h2⟩ := hA k hk
    have e1 : es.getD k rz = e := by rw [List.getD_eq_getElem?_getD, h1]; rfl
    rw [e1]
    exact ⟨h1, h2⟩
  have hAg : ∀ k, ∃ g xs g' xs', (if k < D then es.getD k rz else rz) = .agg [.p (.bool g), .sl xs, .p (.bool g'), .sl xs'] := fun k => by
    by_cases hk : k < D
    · rw [if_pos hk]; exact Za4 (hA' k hk).2
    · rw [if_neg hk]; exact ⟨_, _, _, _, rfl⟩
  have hPw := powersP (n := n) (N := N) (p := P) (by omega) ⟨by omega, by omega⟩ hN
  rw [show (n : Int) = max 0 ((D : Int) - 1) by omega] at hPw
  have hE := empty_p' P
  have hd2 : PC Tryz.prog 35 [.sl es] (iV ((D : Int) - 1)) := by rw [hD]; exact hd2
  have hX0 := dX_0 (l := l) hPr
  rw [hP] at hPw hE
  have c := ofj39_core (D := D) (p := p) (by omega) hr (es := es) (PL := jpA n N) (A := fun k => if k < D then es.getD k rz else rz) (oS := fun k => sF (dX l P k)) (oL := fun k => (sL (dX l P k)).map encQ) (pS := fun k => -(k : Int)) (pL := fun k => (tk (pq jV k) N).map encQ) (qS := fun k => sF (dT l N k)) (qL := fun k => (sL (dT l N k)).map encQ)
    (rs := sF (cutR (sF (dX l P D)) (sL (dX l P D)) p)) (rl := (sL (cutR (sF (dX l P D)) (sL (dX l P D)) p)).map encQ)
    hAg hd2 hPw (by rw [hX0, hP]; exact hE) (fun k hk => by rw [if_pos hk]; exact (hA' k hk).1) (fun k hk => jpA_at (by omega))
    (fun k hk => by
      rw [if_pos hk]
      have m := rscale_p (a := es.getD k rz) (c := l.getD k 0) (k := 12) (s := -(k : Int)) (es := (tk (pq jV k) N).map encQ) (l := tk (pq jV k) N) (K := 32) (hA' k hk).2 (fun _ => Zau (Zee fun i hi => jp_ht (by omega) (by omega))) (by simp) (Zeb (by omega) (by omega) (by omega)) (by decide) (by decide) (by decide)
      have e := Zfm (oT k hk)
      unfold dT at e ⊢
      rw [e] at m
      exact m)
    (fun k hk => by
      have m := radd33_p (both_out (oX k (by omega)) (oT k hk) (K := 1000) (Nat.le_refl _) (by decide)) (by decide)
      rw [dA_out hPr (by omega) (by omega) (by omega) hht, Zfm (oX (k + 1) (by omega))] at m
      exact m)
    (by
      obtain ⟨f2, f3, f4, f5, f6, f7, f8, f9⟩ := Zge (oX D (Nat.le_refl _))
      have m := rcut_p (s := sF (dX l P D)) (p := p) (es := (sL (dX l P D)).map encQ) (l := sL (dX l P D)) (K := 1000) (Zau f7) (by decide) (by rw [List.length_map]; exact (Zc0 (oX D (Nat.le_refl _))).1) (by omega) (by omega)
      rw [Zfm hcut] at m
      exact m)
  obtain ⟨g2, g3, g4, g5, g6, g7, g8, g9⟩ := Zge hcut
  refine ⟨_, _, 0, g7, by omega, ?_, c⟩
  by_cases hD0 : D = 0
  · have e : cutR (sF (dX l P D)) (sL (dX l P D)) p = some (p, []) := by
      have o : Out (some (p, ([] : List Rat))) p (dsm l D) p 1 := ⟨p, [], rfl, by omega, by simp, by omega, Int.le_refl _, fun n hn => by rw [Zc9 hn, hD0]; rfl, fun q hq => (by cases hq), rfl⟩
      exact Out.eq hcut o
    rw [e]
    refine ofj_none hr ?_
    rw [← hD, hD0] at hd1
    exact hd1
  · obtain ⟨Q, hQ⟩ : ∃ Q : Nat, (Q : Int) = max (p + n) 0 := ⟨(max (p + n) 0).toNat, by omega⟩
    have e := (hd_cut (l := l) (P := Q) (d := n) (p := p) (by omega) (by omega) hr.1 hp8 (by omega) hht).1
    rw [show n + 1 = D by omega, ← hP] at e
    rw [← e]
    exact ofjP' h hl (d := n) (by omega) (by omega) ⟨hr.1, hp8⟩ hQ
end Ab
