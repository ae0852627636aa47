import Derived.Test.YtdbkmjahbgcjbaaGreatDoorVaA
import Derived.Test.YtdbkmjahbgcjbaaGreatDoorWo
set_option linter.all false
namespace Ab
open Go Go.RowKit Go.Proofs Hp
set_option maxRecDepth 100000
theorem ht_n (m : Nat) (hm : m ≤ 100000) : Ht (((m : Int) + 1 : Int) : Rat) 1 := ht_int (by omega)
theorem ht_dv {q r : Rat} {k l : Nat} (hq : Ht q k) (hr : Ht r l) (hk : 1 ≤ k) (hl : 1 ≤ l) : Ht (q / r) (k + l) := by
 rw [Rat.div_def]; exact ht_mul hq (ht_inv hr hl) hk
theorem frac_parts (c : Int) (hc : c = 1 ∨ c = -1) (m : Nat) : ((c : Rat) / (((m : Int) + 1 : Int) : Rat)).num = c ∧ ((((c : Rat) / (((m : Int) + 1 : Int) : Rat)).den : Nat) : Int) = (m : Int) + 1 := by
 have h1 : gsg c ((m : Int) + 1) = 1 := by
  unfold gsg
  rw [if_neg (by omega)]
  rcases hc with rfl | rfl
  ·rw [Int.one_gcd]; rfl
  ·rw [Int.neg_gcd, Int.one_gcd]; rfl
 obtain ⟨g1, g2⟩ := gsg_parts (n := c) (d := (m : Int) + 1) (by omega)
 rw [h1, Int.ediv_one] at g1 g2
 rw [← Rat.divInt_eq_div]
 exact ⟨g1, g2⟩
set_option maxHeartbeats 1000000 in
theorem vfrac_p (c : Int) (hc : c = 1 ∨ c = -1) (m : Nat) (hm : m ≤ 100000) : PC Tryz.prog 143 [.p (.int .i64 c), .p (.int .i64 ((m : Int) + 1))] (encQ ((c : Rat) / (((m : Int) + 1 : Int) : Rat))) := by
 have z1 := z_p c (by omega) (by omega)
 have z2 := z_p ((m : Int) + 1) (by omega) (by omega)
 obtain ⟨p1, p2⟩ := frac_parts c hc m
 have hq : encQ ((c : Rat) / (((m : Int) + 1 : Int) : Rat)) = .agg (ci c ++ ci ((m : Int) + 1)) := by unfold encQ; rw [p1, p2]
 rw [hq]
 unfold encI at z1 z2
 have hb : decide ((m : Int) + 1 < 0) = false := by simp; omega
 have hmx : max c (0 - c) = 1 := by rcases hc with rfl | rfl <;> rfl
 have w1 : IntKind.i64.wrap (c.tdiv 1) = c := by rw [Int.tdiv_one]; exact w64 (by omega) (by omega)
 have w2 : IntKind.i64.wrap (((m : Int) + 1).tdiv 1) = (m : Int) + 1 := by rw [Int.tdiv_one]; exact w64 (by omega) (by omega)
 refine pc_body1 true Tryz.func143 rfl rfl rfl (Nat.le_of_ble_eq_true rfl) (CellT.agg agg_rat) ?_
 refine r1A ?_
 refine T.seqI (fun s1 => s1 = mkS [(0, .v (.p (.int .i64 c))), (1, .v (.p (.int .i64 ((m : Int) + 1)))), (4, .ptr 4 0)] [(4, varQ)] 33 true) ?_ ?_
 ·refine goA ?_
  exact midQ_intro (by exact entA) rfl
 rintro _ rfl
 refine T.seqI (fun s1 => s1 = mkS [(0, .v (.p (.int .i64 c))), (1, .v (.p (.int .i64 ((m : Int) + 1)))), (4, .ptr 4 0), (5, .v (.p (.int .i64 1))), (6, .v (.p (.int .i64 ((m : Int) + 1))))] [(4, varQ)] 33 true) ?_ ?_
 ·refine goA ?_
  exact midQ_intro (s' := mkS [(0, .v (.p (.int .i64 c))), (1, .v (.p (.int .i64 ((m : Int) + 1)))), (4, .ptr 4 0), (5, .v (.p (.int .i64 (max c (0 - c))))), (6, .v (.p (.int .i64 ((m : Int) + 1))))] [(4, varQ)] 33 true) (by exact entA) (by rw [hmx])
 rintro _ rfl
 refine T.seqI (fun s1 => s1 = mkS [(0, .v (.p (.int .i64 c))), (1, .v (.p (.int .i64 ((m : Int) + 1)))), (4, .ptr 4 0), (5, .v (.p (.int .i64 1)))] [(4, varQ)] 33 true) ?_ ?_
 ·refine T.block ?_
  refine T.loop (fun n s1 => ∃ a b : Int, ((a = 1 ∧ b = (m : Int) + 1 ∧ n = 2) ∨ (a = (m : Int) + 1 ∧ b = 1 ∧ n = 1) ∨ (a = 1 ∧ b = 0 ∧ n = 0)) ∧ s1 = mkS [(0, .v (.p (.int .i64 c))), (1, .v (.p (.int .i64 ((m : Int) + 1)))), (4, .ptr 4 0), (5, .v (.p (.int .i64 a))), (6, .v (.p (.int .i64 b)))] [(4, varQ)] 33 true) 2
   (s' := mkS [(0, .v (.p (.int .i64 c))), (1, .v (.p (.int .i64 ((m : Int) + 1)))), (4, .ptr 4 0), (5, .v (.p (.int .i64 1))), (6, .v (.p (.int .i64 ((m : Int) + 1))))] [(4, varQ)] 33 true) (by exact entA) ⟨1, (m : Int) + 1, .inl ⟨rfl, rfl, rfl⟩, rfl⟩ ?_
  rintro n _ ⟨a, b, h, rfl⟩
  rcases h with ⟨rfl, rfl, rfl⟩ | ⟨rfl, rfl, rfl⟩ | ⟨rfl, rfl, rfl⟩
  ·have hb2 : decide ((m : Int) + 1 > 0) = true := by rw [decide_eq_true_eq]; omega
   by_cases h0 : m = 0
   ·subst h0
    refine goA ?_
    refine evG ggA (ss_div (InB_of rfl) rfl rfl (by omega) (show (1 : Int).tmod (((0 : Nat) : Int) + 1) = 0 from rfl)) ?_
    refine goA ?_
    exact loopQ_intro (k := 0) (s' := mkS [(0, .v (.p (.int .i64 c))), (1, .v (.p (.int .i64 (((0 : Nat) : Int) + 1)))), (4, .ptr 4 0), (5, .v (.p (.int .i64 (((0 : Nat) : Int) + 1)))), (6, .v (.p (.int .i64 0)))] [(4, varQ)] 33 true) (by omega) (by exact entA) ⟨1, 0, .inr (.inr ⟨rfl, rfl, rfl⟩), rfl⟩
   ·refine goA ?_
    refine evG ggA (ss_div (InB_of rfl) rfl rfl (by omega) (show (1 : Int).tmod ((m : Int) + 1) = 1 from by rw [Int.tmod_eq_of_lt (by omega) (by omega)])) ?_
    refine goA ?_
    exact loopQ_intro (k := 1) (s' := mkS [(0, .v (.p (.int .i64 c))), (1, .v (.p (.int .i64 ((m : Int) + 1)))), (4, .ptr 4 0), (5, .v (.p (.int .i64 ((m : Int) + 1)))), (6, .v (.p (.int .i64 1)))] [(4, varQ)] 33 true) (by omega) (by exact entA) ⟨(m : Int) + 1, 1, .inr (.inl ⟨rfl, rfl, rfl⟩), rfl⟩
  ·refine goA ?_
   refine evG ggA (ss_div (InB_of rfl) rfl rfl (by omega) (show ((m : Int) + 1).tmod 1 = 0 from Int.tmod_one _)) ?_
   refine goA ?_
   exact loopQ_intro (k := 0) (s' := mkS [(0, .v (.p (.int .i64 c))), (1, .v (.p (.int .i64 ((m : Int) + 1)))), (4, .ptr 4 0), (5, .v (.p (.int .i64 1))), (6, .v (.p (.int .i64 0)))] [(4, varQ)] 33 true) (by omega) (by exact entA) ⟨1, 0, .inr (.inr ⟨rfl, rfl, rfl⟩), rfl⟩
  ·refine goA ?_
   exact midQ_intro (by exact entA) rfl
 rintro _ rfl
 refine goA ?_
 refine evG ggA (ss_div (InB_of rfl) rfl rfl (by omega) w1) ?_
 refine goA ?_
 refine evG ggA (ss_call (InB_of rfl) rfl rfl z1) ?_
 refine goA ?_
 refine evG ggA (ss_div (InB_of rfl) rfl rfl (by omega) w2) ?_
 refine goA ?_
 refine evG ggA (ss_call (InB_of rfl) rfl rfl z2) ?_
 refine goA ?_
 exact rfl
set_option maxHeartbeats 4000000 in
theorem rem_b (m j : Nat) : (((m : Int) + 1).tmod ((j : Int) + 1) == 0) = decide ((m + 1) % (j + 1) = 0) := by
 have e : ((m : Int) + 1).tmod ((j : Int) + 1) = (((m + 1) % (j + 1) : Nat) : Int) := rfl
 rw [e]
 by_cases h : (m + 1) % (j + 1) = 0
 ·rw [h]; rfl
 ·rw [decide_eq_false h]; simp only [beq_eq_false_iff_ne, ne_eq]; omega
def dsg (c : List Rat) (i : Nat) : Nat → Rat
 | 0 => 0
 | d + 1 => if (i + 1) % (d + 1) = 0 then dsg c i d + (((d : Int) + 1 : Int) : Rat) * c.getD d 0 else dsg c i d
def sgs (c : List Rat) (k : Nat) : List Rat := tk (fun i => dsg c i (i + 1)) k
def prc (L : List Rat) : Nat → List Rat
 | 0 => [1]
 | m + 1 => prc L m ++ [-(iss (0 :: L) (prc L m) (m + 1) (m + 1)) / (((m : Int) + 1 : Int) : Rat)]
def PV (h : Int) (n : Nat) : Bool := decide (-100 ≤ h) && decide (h ≤ 1000) && decide ((n : Int) ≤ 1000 - h - 1)
def prodR (h : Int) (c : List Rat) : Option (Int × List Rat) := if PV h c.length then nrm h (prc (sgs c c.length) c.length) else none
theorem prc_len (L : List Rat) : ∀ m, (prc L m).length = m + 1
 | 0 => rfl
 | m + 1 => by rw [prc, List.length_append, prc_len L m]; rfl
theorem sgs_len (c : List Rat) (k : Nat) : (sgs c k).length = k := by unfold sgs tk; simp
theorem sg_skip (c : List Rat) {i d : Nat} (h : ¬ (i + 1) % (d + 1) = 0) : dsg c i (d + 1) = dsg c i d := by rw [dsg, if_neg h]
theorem sg_far (c : List Rat) (i : Nat) : ∀ d, i + 1 ≤ d → dsg c i d = dsg c i (i + 1) := fun d h => by
  induction h with
  | refl => rfl
  | step h ih =>
    rename_i k
    rw [sg_skip c (d := k) (by rw [Nat.mod_eq_of_lt (by have : i + 1 ≤ k := h; omega)]; omega)]
    exact ih
theorem ht_sg {c : List Rat} {K i : Nat} (hK : 1 ≤ K) (hc : ∀ q, q ∈ c → Ht q K) : ∀ d, d ≤ 100000 → Ht (dsg c i d) (1 + d * (K + 2))
  | 0, _ => (ht0 (Nat.le_refl 1)).mono (by omega)
  | d + 1, h => by
    have ih := ht_sg (i := i) hK hc d (by omega)
    rw [dsg]
    split
    · exact (ht_add ih (ht_mul (ht_n d (by omega)) (getD_ht hK hc d) (Nat.le_refl 1))).mono (by rw [Nat.add_mul d 1]; omega)
    · exact ih.mono (by rw [Nat.add_mul d 1]; omega)
theorem rep_range' {α : Type} (n : Nat) (x : α) {g : Nat → α} (h : ∀ k, k < n → g k = x) : List.replicate n x = (List.range n).map g := by
 apply List.ext_getElem
 ·simp
 ·intro i h1 h2
  have : i < n := by simpa using h1
  simp [h i this]
theorem range_set' {α : Type} (n i : Nat) (x : α) {g g' : Nat → α} (h0 : g' i = x) (h : ∀ k, k < n → k ≠ i → g' k = g k) : ((List.range n).map g).set i x = (List.range n).map g' := by
 apply List.ext_getElem
 ·simp
 ·intro k h1 h2
  have hk : k < n := by simpa using h1
  rw [List.getElem_set]
  split
  ·rename_i e; subst e; simp [h0]
  ·rename_i e; simp [h k hk (fun e2 => e e2.symm)]
theorem range_congr' {α : Type} (n : Nat) {g g' : Nat → α} (h : ∀ k, k < n → g k = g' k) : (List.range n).map g = (List.range n).map g' := by
 apply List.ext_getElem
 ·simp
 ·intro k h1 h2
  have hk : k < n := by simpa using h1
  simp [h k hk]
def proG (c : List Rat) (d cur k : Nat) : AV := if k = 0 then rz else if k < cur then encQ (dsg c (k - 1) (d + 1)) else if d = 0 then rz else encQ (dsg c (k - 1) d)
theorem proG_V {c : List Rat} {d cur k K : Nat} (hk : 1 ≤ k) (hc : cur ≤ k) (h : Ht (dsg c (k - 1) d) K) : IsV (proG c d cur k) K (dsg c (k - 1) d) := by
 unfold proG
 rw [if_neg (by omega), if_neg (by omega)]
 by_cases hd : d = 0
 ·subst hd; rw [if_pos rfl]; exact isV_rz K
 ·rw [if_neg hd]; exact isV_encQ h
theorem pro_start (c : List Rat) (d k : Nat) : proG c (d + 1) (d + 2) k = proG c (d + 1) 0 k := by
 unfold proG
 by_cases h0 : k = 0
 ·rw [if_pos h0, if_pos h0]
 ·rw [if_neg h0, if_neg h0, if_neg (Nat.not_lt_zero k), if_neg (show ¬ d + 1 = 0 by omega)]
  by_cases h1 : k < d + 2
  ·rw [if_pos h1, sg_skip c (by rw [show k - 1 + 1 = k by omega, Nat.mod_eq_of_lt (by omega)]; omega)]
  ·rw [if_neg h1]
theorem pro_next (c : List Rat) (d N k : Nat) (hk : k < N + 1) (cur : Nat) (hc : N < cur) : proG c d cur k = proG c (d + 1) 0 k := by
 unfold proG
 by_cases h0 : k = 0
 ·rw [if_pos h0, if_pos h0]
 ·rw [if_neg h0, if_neg h0, if_neg (Nat.not_lt_zero k), if_neg (show ¬ d + 1 = 0 by omega), if_pos (show k < cur by omega)]
theorem pro_step (c : List Rat) {d cur k : Nat} (hd : cur % (d + 1) = 0) (hk : k ≠ cur) : proG c d (cur + (d + 1)) k = proG c d cur k := by
 unfold proG
 by_cases h0 : k = 0
 ·rw [if_pos h0, if_pos h0]
 ·rw [if_neg h0, if_neg h0]
  by_cases h1 : k < cur
  ·rw [if_pos h1, if_pos (by omega)]
  ·rw [if_neg h1]
   by_cases h2 : k < cur + (d + 1)
   ·rw [if_pos h2]
    obtain ⟨e, he⟩ : ∃ e, k = cur + (e + 1) := ⟨k - cur - 1, by omega⟩
    have hne : ¬ (k - 1 + 1) % (d + 1) = 0 := by
     rw [show k - 1 + 1 = cur + (e + 1) by omega, Nat.add_mod, hd, Nat.zero_add, Nat.mod_mod, Nat.mod_eq_of_lt (by omega)]
     omega
    rw [sg_skip c hne, if_neg (by omega)]
   ·rw [if_neg h2]
set_option maxHeartbeats 8000000 in
theorem prod_p {h : Int} {es : List AV} {c : List Rat} {K P Q : Nat} (hL0 : PV h es.length = true → IsL es K c ∧ c.length ≤ 160) (hle : es.length = c.length) (h0 : -9223372036854775808 ≤ h) (h1 : h ≤ 9223372036854775807) (hn : es.length ≤ 9223372036854775807) (hK : 1 ≤ K ∧ K ≤ 1000000) (hP : 1 ≤ P ∧ P ≤ 1000000) (hQ : 1 ≤ Q ∧ Q ≤ 1000000)
  (hS : PV h es.length = true → ∀ q, q ∈ sgs c c.length → Ht q P) (hX : PV h es.length = true → ∀ m, m ≤ c.length → ∀ q, q ∈ prc (sgs c c.length) m → Ht q Q) : PC Tryz.prog 91 [.p (.int .i64 h), .sl es] (serE (prodR h c)) := by
 rw [serE_eq]
 unfold prodR
 rw [← hle]
 by_cases a0 : -100 ≤ h
 case neg =>
  have e : PV h es.length = false := by unfold PV; simp [a0]
  rw [e]
  have hb : decide (h < -100) = true := by simp; omega
  refine pc_body2 true Tryz.func91 rfl rfl rfl (Nat.le_of_ble_eq_true rfl) (CellT.agg agg_ser) CellT.tmp ?_
  refine goA ?_
  exact rfl
 have hb0 : decide (h < -100) = false := by simp; omega
 by_cases a1 : h ≤ 1000
 case neg =>
  have e : PV h es.length = false := by unfold PV; simp [a1]
  rw [e]
  have hb : decide (h > 1000) = true := by simp; omega
  refine pc_body2 true Tryz.func91 rfl rfl rfl (Nat.le_of_ble_eq_true rfl) (CellT.agg agg_ser) CellT.tmp ?_
  refine goA ?_
  exact rfl
 have hb1 : decide (h > 1000) = false := by simp; omega
 by_cases a2 : (es.length : Int) ≤ 1000 - h - 1
 case neg =>
  have e : PV h es.length = false := by unfold PV; simp [a2]
  rw [e]
  have hb : decide ((es.length : Int) > 1000 - h - 1) = true := by simp; omega
  refine pc_body2 true Tryz.func91 rfl rfl rfl (Nat.le_of_ble_eq_true rfl) (CellT.agg agg_ser) CellT.tmp ?_
  refine goA ?_
  exact rfl
 have hb2 : decide ((es.length : Int) > 1000 - h - 1) = false := by simp; omega
 have e : PV h es.length = true := by unfold PV; simp [a0, a1, a2]
 obtain ⟨hL, hl14⟩ := hL0 e
 have hS := hS e
 have hX := hX e
 rw [e]
 simp only [if_true]
 clear hL0 e
 rw [hle]
 have hcl := isL_ht hL hK.1
 generalize hN : c.length = N at *
 have hgd : ∀ i, i < N → (sgs c N).getD i 0 = dsg c i N := fun i hi => by
  unfold sgs tk
  rw [sg_far c i N (by omega)]
  simp [List.getD_eq_getElem?_getD, hi]
 have hsl := sgs_len c N
 have hone : Ht (1 : Rat) 1 := ht_int (c := 1) (by decide)
 have c1 := rof_p 1 (by decide) (by decide)
 rw [show ((1 : Int) : Rat) = 1 from rfl] at c1
 have cz := rof_p 0 (by decide) (by decide)
 rw [show ((0 : Int) : Rat) = 0 from rfl] at cz
 have hsgh : ∀ i d, d ≤ N → Ht (dsg c i d) 200000000000 := fun i d hd => (ht_sg hK.1 hcl d (by omega)).mono (by
  have : d * (K + 2) ≤ 160 * (K + 2) := Nat.mul_le_mul_right _ (by omega)
  omega)
 have hproV : ∀ d cur k, d ≤ N → 1 ≤ k → cur ≤ k → IsV (proG c d cur k) 200000000000 (dsg c (k - 1) d) := fun d cur k hd hk hc => proG_V hk hc (hsgh _ _ hd)
 have hp0 : ∀ k, k < N + 1 → proG c 0 0 k = rz := fun k _ => by unfold proG; split; rfl; rw [if_neg (Nat.not_lt_zero k), if_pos rfl]
 have hp1 : ∀ d, d < N → (List.range (N + 1)).map (proG c d (d + 1)) = (List.range (N + 1)).map (proG c d 0) := fun d hd => range_congr' _ fun k _ => by
  rcases d with _ | d
  ·unfold proG
   by_cases h0 : k = 0
   ·rw [if_pos h0, if_pos h0]
   ·rw [if_neg h0, if_neg h0, if_neg (show ¬ k < 0 + 1 by omega), if_neg (Nat.not_lt_zero k)]
  ·exact pro_start c d k
 have hp2 : ∀ d cur, N < cur → (List.range (N + 1)).map (proG c d cur) = (List.range (N + 1)).map (proG c (d + 1) 0) := fun d cur hc => range_congr' _ fun k hk => pro_next c d N k hk cur hc
 have hp3 : ∀ d cur, cur % (d + 1) = 0 → 1 ≤ cur → cur ≤ N → ((List.range (N + 1)).map (proG c d cur)).set cur (encQ (dsg c (cur - 1) (d + 1))) = (List.range (N + 1)).map (proG c d (cur + (d + 1))) := fun d cur hm hc hcN => range_set' _ _ _ (by
   unfold proG
   rw [if_neg (by omega), if_pos (by omega)]) fun k _ hk => pro_step c hm hk
 have hpN : ∀ i, i < N → ((List.range (N + 1)).map (proG c N 0))[i + 1]? = some (encQ (dsg c i N)) := fun i hi => by
  rw [List.getElem?_map, List.getElem?_range (by omega)]
  show some (proG c N 0 (i + 1)) = _
  unfold proG
  rw [if_neg (by omega), if_neg (by omega), if_neg (by omega), Nat.add_sub_cancel]
 have hget : ∀ d cur k, k ≤ N → ((List.range (N + 1)).map (proG c d cur))[k]? = some (proG c d cur k) := fun d cur k hk => by
  rw [List.getElem?_map, List.getElem?_range (by omega)]; rfl
 have hGl : ∀ d cur, ((List.range (N + 1)).map (proG c d cur)).length = N + 1 := fun d cur => by simp
 have hsgs : ∀ d i, (i + 1) % (d + 1) = 0 → dsg c i (d + 1) = dsg c i d + (((d : Int) + 1 : Int) : Rat) * c.getD d 0 := fun d i hm => by rw [dsg, if_pos hm]
 generalize proG c = G at *
 generalize dsg c = SG at *
 generalize hLL : sgs c N = L at *
 refine pc_body2 true Tryz.func91 rfl rfl rfl (Nat.le_of_ble_eq_true rfl) (CellT.agg agg_ser) CellT.tmp ?_
 refine r1A ?_
 refine T.seqI (fun s1 => s1 = mkS [(0, .v (.p (.int .i64 h))), (1, .v (.sl es)), (4, .ptr 4 0)] [(4, var0)] 109 true) ?_ ?_
 ·refine goA ?_
  exact midQ_intro (by exact entA) rfl
 rintro _ rfl
 have hw : (es.length : Int) + 1 = ((N + 1 : Nat) : Int) := by omega
 refine T.seqI (fun s1 => s1 = mkS [(0, .v (.p (.int .i64 h))), (1, .v (.sl es)), (4, .ptr 4 0), (6, .own 30 (N + 1))] [(4, var0), (30, .lst 4 56 ((List.range (N + 1)).map (G 0 0)))] 109 true) ?_ ?_
 ·refine goA ?_
  refine evG ggA (ss_make 30 (e0 := rz) (InB_of rfl) (make_tab rfl) rfl rfl rfl (by omega) (by omega) (by omega) (by omega) rfl rfl rfl) ?_
  refine goA ?_
  have e2 : ((es.length : Int) + 1).toNat = N + 1 := by omega
  have hrep : List.replicate ((es.length : Int) + 1).toNat rz = (List.range (N + 1)).map (G 0 0) := by rw [e2]; exact rep_range' (N + 1) rz hp0
  exact midQ_intro (s' := mkS [(0, .v (.p (.int .i64 h))), (1, .v (.sl es)), (4, .ptr 4 0), (6, .own 30 ((es.length : Int) + 1).toNat)] [(4, var0), (30, .lst 4 56 (List.replicate ((es.length : Int) + 1).toNat rz))] 109 true) (by exact entA) (by rw [hrep, e2])
 rintro _ rfl
 refine T.seqI (fun s1 => s1 = mkS [(0, .v (.p (.int .i64 h))), (1, .v (.sl es)), (4, .ptr 4 0), (6, .own 30 (N + 1))] [(4, var0), (30, .lst 4 56 ((List.range (N + 1)).map (G N 0)))] 109 true) ?_ ?_
 ·refine r1A ?_
  refine T.block ?_
  refine T.loop (fun n s1 => ∃ d : Nat, n = N - d ∧ d ≤ N ∧ s1 = mkS [(0, .v (.p (.int .i64 h))), (1, .v (.sl es)), (4, .ptr 4 0), (6, .own 30 (N + 1)), (7, .v (.p (.int .i64 ((d : Int) + 1))))] [(4, var0), (30, .lst 4 56 ((List.range (N + 1)).map (G d 0)))] 109 true) N
   (s' := mkS [(0, .v (.p (.int .i64 h))), (1, .v (.sl es)), (4, .ptr 4 0), (6, .own 30 (N + 1)), (7, .v (.p (.int .i64 1)))] [(4, var0), (30, .lst 4 56 ((List.range (N + 1)).map (G 0 0)))] 109 true) (by exact entA) ⟨0, rfl, Nat.zero_le _, rfl⟩ ?_
  rintro n _ ⟨d, rfl, hd, rfl⟩
  by_cases hlt : d < N
  ·have hb : decide ((d : Int) + 1 ≤ (es.length : Int)) = true := by simp; omega
   obtain ⟨y, ys, y', ys', q1, n0, hq1, v1⟩ := hL.at (i := d) (by omega)
   have g1 : c.getD d 0 = q1 := by rw [List.getD_eq_getElem?_getD, hq1]; rfl
   have n1 : es[((d : Int) + 1 - 1).toNat]? = some (.agg [.p (.bool y), .sl ys, .p (.bool y'), .sl ys']) := by rw [show ((d : Int) + 1 - 1).toNat = d by omega]; exact n0
   have cd := rof_p ((d : Int) + 1) (by omega) (by omega)
   have htd := ht_n d (by omega)
   have t1 := hcl q1 (List.mem_of_getElem? hq1)
   have cm := rmul_p (isV_encQ htd) (by omega) v1 (by omega)
   have htp := ht_mul htd t1 (Nat.le_refl 1)
   have hsgd := hsgs d
   rw [g1] at hsgd
   generalize (((d : Int) + 1 : Int) : Rat) * q1 = pt at *
   refine T.seqI (fun s1 => s1 = mkS [(0, .v (.p (.int .i64 h))), (1, .v (.sl es)), (4, .ptr 4 0), (6, .own 30 (N + 1)), (7, .v (.p (.int .i64 ((d : Int) + 1))))] [(4, var0), (30, .lst 4 56 ((List.range (N + 1)).map (G d 0)))] 109 true) ?_ ?_
   ·refine goA ?_
    exact midQ_intro (by exact entA) rfl
   rintro _ rfl
   refine T.seq ?_
   refine T.block ?_
   refine T.seqI (fun s1 => s1 = mkS [(0, .v (.p (.int .i64 h))), (1, .v (.sl es)), (4, .ptr 4 0), (6, .own 30 (N + 1)), (7, .v (.p (.int .i64 ((d : Int) + 1)))), (8, .ptr 8 0)] [(4, var0), (8, qvar pt), (30, .lst 4 56 ((List.range (N + 1)).map (G d (d + 1))))] 109 true) ?_ ?_
   ·refine goA ?_
    refine evG ggA (ss_call (InB_of rfl) rfl rfl cd) ?_
    refine goA ?_
    refine evG ggA (ss_index_sl (InB_of rfl) (elem_tab rfl) rfl rfl (by omega) n1 rfl) ?_
    refine goA ?_
    refine evG ggA (ss_call (InB_of rfl) rfl rfl cm) ?_
    refine goA ?_
    exact midQ_intro (s' := mkS [(0, .v (.p (.int .i64 h))), (1, .v (.sl es)), (4, .ptr 4 0), (6, .own 30 (N + 1)), (7, .v (.p (.int .i64 ((d : Int) + 1)))), (8, .ptr 8 0)] [(4, var0), (8, qvar pt), (30, .lst 4 56 ((List.range (N + 1)).map (G d 0)))] 109 true) (by exact entA) (by rw [hp1 d hlt])
   rintro _ rfl
   refine r1A ?_
   refine T.block ?_
   refine T.loop (fun n s1 => ∃ cur : Nat, n = N + 1 - cur ∧ 1 ≤ cur ∧ cur ≤ N + N ∧ cur % (d + 1) = 0 ∧ s1 = mkS [(0, .v (.p (.int .i64 h))), (1, .v (.sl es)), (4, .ptr 4 0), (6, .own 30 (N + 1)), (7, .v (.p (.int .i64 ((d : Int) + 1)))), (8, .ptr 8 0), (9, .v (.p (.int .i64 (cur : Int))))] [(4, var0), (8, qvar pt), (30, .lst 4 56 ((List.range (N + 1)).map (G d cur)))] 109 true) (N + 1 - (d + 1))
    (s' := mkS [(0, .v (.p (.int .i64 h))), (1, .v (.sl es)), (4, .ptr 4 0), (6, .own 30 (N + 1)), (7, .v (.p (.int .i64 ((d : Int) + 1)))), (8, .ptr 8 0), (9, .v (.p (.int .i64 ((d : Int) + 1))))] [(4, var0), (8, qvar pt), (30, .lst 4 56 ((List.range (N + 1)).map (G d (d + 1))))] 109 true) (by exact entA) ⟨d + 1, rfl, by omega, by omega, Nat.mod_self _, rfl⟩ ?_
   rintro n _ ⟨cur, rfl, hc0, hc1, hcm, rfl⟩
   by_cases hcu : cur ≤ N
   ·have hb3 : decide ((cur : Int) ≤ (es.length : Int)) = true := by simp; omega
    have hV := hproV d cur cur hd hc0 (Nat.le_refl _)
    have ca := radd_p hV (by omega) (isV_encQ htp) (by omega)
    rw [← hsgd (cur - 1) (by rw [show cur - 1 + 1 = cur by omega]; exact hcm)] at ca
    have hse := hget d cur cur hcu
    obtain ⟨g, xs, g', xs', hx⟩ := isV_cells hV
    rw [hx] at ca hse
    have hse' : ((List.range (N + 1)).map (G d cur))[((cur : Nat) : Int).toNat]? = some (.agg [.p (.bool g), .sl xs, .p (.bool g'), .sl xs']) := by rw [Int.toNat_natCast]; exact hse
    have hset := hp3 d cur hcm hc0 hcu
    have hgl := hGl d cur
    clear hS hX hgd hsgh hproV hp0 hp1 hp2 hp3 hpN hget hGl hsgs hsgd hcl
    refine goA ?_
    refine evG ggA (ss_index_own (InB_of rfl) (elem_tab rfl) rfl rfl hgl rfl (by omega) (by omega)) ?_
    refine evG ggA (ss_load_opagg (InB_of rfl) (agg_tab rfl) rfl rfl hgl hse') ?_
    refine goA ?_
    refine evG ggA (ss_call (InB_of rfl) rfl rfl ca) ?_
    refine goA ?_
    refine evG ggA (ss_index_own (InB_of rfl) (elem_tab rfl) rfl rfl hgl rfl (by omega) (by omega)) ?_
    refine evG ggA (ss_store_own rfl (size_tab rfl) rfl rfl hgl (by omega) rfl rfl (fun l e => by cases e) (List.all_eq_true.2 (encQ_nu _))) ?_
    refine goA ?_
    exact loopQ_intro (k := N + 1 - (cur + (d + 1))) (s' := mkS [(0, .v (.p (.int .i64 h))), (1, .v (.sl es)), (4, .ptr 4 0), (6, .own 30 (N + 1)), (7, .v (.p (.int .i64 ((d : Int) + 1)))), (8, .ptr 8 0), (9, .v (.p (.int .i64 ((cur : Int) + ((d : Int) + 1)))))] [(4, var0), (8, qvar pt), (30, .lst 4 56 (((List.range (N + 1)).map (G d cur)).set ((cur : Nat) : Int).toNat (encQ (SG (cur - 1) (d + 1)))))] 109 true) (by omega) (by exact entA) ⟨cur + (d + 1), rfl, by omega, by omega, by rw [Nat.add_mod_right]; exact hcm, by rw [Int.toNat_natCast, hset]; rfl⟩
   ·have hb3 : decide ((cur : Int) ≤ (es.length : Int)) = false := by simp; omega
    have hnx := hp2 d cur (by omega)
    clear hS hX hgd hsgh hproV hp0 hp1 hp2 hp3 hpN hget hGl hsgs hsgd hcl
    refine goA ?_
    exact loopQ_intro (k := N - (d + 1)) (s' := mkS [(0, .v (.p (.int .i64 h))), (1, .v (.sl es)), (4, .ptr 4 0), (6, .own 30 (N + 1)), (7, .v (.p (.int .i64 ((d : Int) + 1 + 1))))] [(4, var0), (30, .lst 4 56 ((List.range (N + 1)).map (G d cur)))] 109 true) (by omega) (by exact entA) ⟨d + 1, rfl, hlt, by rw [hnx]; rfl⟩
  ·obtain rfl : d = N := by omega
   have hb : decide ((d : Int) + 1 ≤ (es.length : Int)) = false := by simp; omega
   refine goA ?_
   exact midQ_intro (by exact entA) rfl
 rintro _ rfl
 have hGN := hGl N 0
 have hpN' : ∀ i, i < N → ((List.range (N + 1)).map (G N 0))[i + 1]? = some (encQ (L.getD i 0)) := fun i hi => by rw [hpN i hi, hgd i hi]
 clear hpN hgd hsgh hproV hp0 hp1 hp2 hp3 hget hGl hsgs hcl
 generalize (List.range (N + 1)).map (G N 0) = ES at *
 refine T.weak (s' := mkS [(0, .v (.p (.int .i64 h))), (1, .v (.sl es)), (4, .ptr 4 0), (6, .v (.sl ES))] [(4, var0)] 109 true) (by exact entA) ?_
 refine T.seq ?_
 refine regA ?_
 refine runA ?_
 refine evG ggA (ss_call (InB_of rfl) rfl rfl c1) ?_
 refine runA ?_
 refine evG ggA (ss_bslice_own 31 (InB_of rfl) rfl (make_tab rfl) rfl rfl rfl rfl (one_ok rfl rfl) (Nat.le_of_ble_eq_true rfl) (by decide) (fun _ a ha => by rw [List.mem_singleton] at ha; subst ha; exact encQ_nu 1)) ?_
 refine runA ?_
 refine ev_nil ?_
 refine seqQ_n ?_
 have hL0 : ∀ q, q ∈ (0 :: L) → Ht q P := fun q hq => by
  rcases List.mem_cons.1 hq with rfl | hq
  ·exact ht0 hP.1
  ·exact hS q hq
 refine T.seqI (fun s1 => s1 = mkS [(0, .v (.p (.int .i64 h))), (4, .ptr 4 0), (10, .own 31 (N + 1))] [(4, var0), (31, .lst 4 56 ((prc L N).map encQ))] 109 true) ?_ ?_
 ·refine r1A ?_
  refine T.block ?_
  refine T.loop (fun n s1 => ∃ m : Nat, n = N - m ∧ m ≤ N ∧ s1 = mkS [(0, .v (.p (.int .i64 h))), (1, .v (.sl es)), (4, .ptr 4 0), (6, .v (.sl ES)), (10, .own 31 (m + 1)), (11, .v (.p (.int .i64 ((m : Int) + 1))))] [(4, var0), (31, .lst 4 56 ((prc L m).map encQ))] 109 true) N
   (s' := mkS [(0, .v (.p (.int .i64 h))), (1, .v (.sl es)), (4, .ptr 4 0), (6, .v (.sl ES)), (10, .own 31 1), (11, .v (.p (.int .i64 1)))] [(4, var0), (31, .lst 4 56 (([1] : List Rat).map encQ))] 109 true) (by exact entA) ⟨0, rfl, Nat.zero_le _, rfl⟩ ?_
  rintro n _ ⟨m, rfl, hm, rfl⟩
  by_cases hlt : m < N
  ·have hb : decide ((m : Int) + 1 ≤ (es.length : Int)) = true := by simp; omega
   have hXm := hX m hm
   have hpl := prc_len L m
   have hpn : prc L (m + 1) = prc L m ++ [-(iss (0 :: L) (prc L m) (m + 1) (m + 1)) / (((m : Int) + 1 : Int) : Rat)] := rfl
   generalize hXX : prc L m = X at *
   have hih := ht_iss2 hP.1 hQ.1 hL0 hXm (m + 1)
   have hihb : ∀ j, j ≤ m + 1 → Ht (-(iss (0 :: L) X (m + 1) j)) 300000000000 := fun j hj => ht_neg ((hih j).mono (by
    have : j * (P + Q + 1) ≤ 160 * (P + Q + 1) := Nat.mul_le_mul_right _ (by omega)
    omega))
   have hse : ∀ j, -(iss (0 :: L) X (m + 1) (j + 1)) = -(iss (0 :: L) X (m + 1) j) - L.getD j 0 * X.getD (m - j) 0 := fun j => by
    show -(iss (0 :: L) X (m + 1) j + L.getD j 0 * X.getD (m + 1 - (j + 1)) 0) = _
    rw [Rat.neg_add, Rat.sub_eq_add_neg, show m + 1 - (j + 1) = m - j by omega]
   have hs0 : -(iss (0 :: L) X (m + 1) 0) = 0 := Rat.neg_zero
   clear hih
   obtain ⟨S, hSd⟩ : ∃ S : Nat → Rat, S = fun j => -(iss (0 :: L) X (m + 1) j) := ⟨_, rfl⟩
   have hSj : ∀ j, -(iss (0 :: L) X (m + 1) j) = S j := fun j => by rw [hSd]
   simp only [hSj] at hpn hihb hse hs0
   clear hSd hSj
   refine T.seqI (fun s1 => s1 = mkS [(0, .v (.p (.int .i64 h))), (1, .v (.sl es)), (4, .ptr 4 0), (6, .v (.sl ES)), (10, .own 31 (m + 1)), (11, .v (.p (.int .i64 ((m : Int) + 1))))] [(4, var0), (31, .lst 4 56 (X.map encQ))] 109 true) ?_ ?_
   ·refine goA ?_
    exact midQ_intro (by exact entA) rfl
   rintro _ rfl
   refine T.seq ?_
   refine T.block ?_
   refine T.seqI (fun s1 => s1 = mkS [(0, .v (.p (.int .i64 h))), (1, .v (.sl es)), (4, .ptr 4 0), (6, .v (.sl ES)), (10, .own 31 (m + 1)), (11, .v (.p (.int .i64 ((m : Int) + 1)))), (12, .ptr 12 0)] [(4, var0), (12, qvar (S 0)), (31, .lst 4 56 (X.map encQ))] 109 true) ?_ ?_
   ·refine goA ?_
    refine evG ggA (ss_call (InB_of rfl) rfl rfl cz) ?_
    refine goA ?_
    exact midQ_intro (s' := mkS [(0, .v (.p (.int .i64 h))), (1, .v (.sl es)), (4, .ptr 4 0), (6, .v (.sl ES)), (10, .own 31 (m + 1)), (11, .v (.p (.int .i64 ((m : Int) + 1)))), (12, .ptr 12 0)] [(4, var0), (12, qvar 0), (31, .lst 4 56 (X.map encQ))] 109 true) (by exact entA) (by rw [hs0])
   rintro _ rfl
   refine T.seqI (fun s1 => s1 = mkS [(0, .v (.p (.int .i64 h))), (1, .v (.sl es)), (4, .ptr 4 0), (6, .v (.sl ES)), (10, .own 31 (m + 1)), (11, .v (.p (.int .i64 ((m : Int) + 1)))), (12, .ptr 12 0)] [(4, var0), (12, qvar (S (m + 1))), (31, .lst 4 56 (X.map encQ))] 109 true) ?_ ?_
   ·refine r1A ?_
    refine T.block ?_
    refine T.loop (fun n s1 => ∃ j : Nat, n = m + 1 - j ∧ j ≤ m + 1 ∧ s1 = mkS [(0, .v (.p (.int .i64 h))), (1, .v (.sl es)), (4, .ptr 4 0), (6, .v (.sl ES)), (10, .own 31 (m + 1)), (11, .v (.p (.int .i64 ((m : Int) + 1)))), (12, .ptr 12 0), (13, .v (.p (.int .i64 ((j : Int) + 1))))] [(4, var0), (12, qvar (S j)), (31, .lst 4 56 (X.map encQ))] 109 true) (m + 1)
     (s' := mkS [(0, .v (.p (.int .i64 h))), (1, .v (.sl es)), (4, .ptr 4 0), (6, .v (.sl ES)), (10, .own 31 (m + 1)), (11, .v (.p (.int .i64 ((m : Int) + 1)))), (12, .ptr 12 0), (13, .v (.p (.int .i64 1)))] [(4, var0), (12, qvar (S 0)), (31, .lst 4 56 (X.map encQ))] 109 true) (by exact entA) ⟨0, rfl, Nat.zero_le _, rfl⟩ ?_
    rintro n _ ⟨j, rfl, hj, rfl⟩
    by_cases hjm : j < m + 1
    ·have hb3 : decide ((j : Int) + 1 ≤ (m : Int) + 1) = true := by simp; omega
     have n1 : ES[((j : Int) + 1).toNat]? = some (encQ (L.getD j 0)) := by rw [show ((j : Int) + 1).toNat = j + 1 by omega]; exact hpN' j (by omega)
     obtain ⟨q2, hq2⟩ : ∃ q, X[m - j]? = some q := ⟨_, List.getElem?_eq_getElem (by omega)⟩
     have g2 : X.getD (m - j) 0 = q2 := by rw [List.getD_eq_getElem?_getD, hq2]; rfl
     have n2 : (X.map encQ)[((m : Int) + 1 - ((j : Int) + 1)).toNat]? = some (encQ q2) := by rw [show ((m : Int) + 1 - ((j : Int) + 1)).toNat = m - j by omega]; exact enc_at hq2
     have t1 : Ht (L.getD j 0) P := getD_ht hP.1 hS j
     have t2 := hXm q2 (List.mem_of_getElem? hq2)
     have hx0 : (X.map encQ).length = m + 1 := by rw [List.length_map, hpl]
     have c3 := rmul_p (isV_encQ t1) (by omega) (isV_encQ t2) (by omega)
     have c4 := rsub_p (isV_encQ (hihb j hj)) (by omega) (isV_encQ (ht_mul t1 t2 hP.1)) (by omega)
     rw [← g2, ← hse j, g2] at c4
     generalize L.getD j 0 = q1 at *
     clear hS hX hXm hihb hse hL0 hpN'
     refine goA ?_
     refine evG ggA (ss_index_sl (InB_of rfl) (elem_tab rfl) rfl rfl (by omega) n1 rfl) ?_
     refine goA ?_
     refine evG ggA (ss_index_own (InB_of rfl) (elem_tab rfl) rfl rfl hx0 rfl (by omega) (by omega)) ?_
     refine evG ggA (ss_load_opagg (InB_of rfl) (agg_tab rfl) rfl rfl hx0 n2) ?_
     refine evG ggA (ss_call (InB_of rfl) rfl rfl c3) ?_
     refine evG ggA (ss_call (InB_of rfl) rfl rfl c4) ?_
     refine goA ?_
     exact loopQ_intro (k := m + 1 - (j + 1)) (s' := mkS [(0, .v (.p (.int .i64 h))), (1, .v (.sl es)), (4, .ptr 4 0), (6, .v (.sl ES)), (10, .own 31 (m + 1)), (11, .v (.p (.int .i64 ((m : Int) + 1)))), (12, .ptr 12 0), (13, .v (.p (.int .i64 ((j : Int) + 1 + 1))))] [(4, var0), (12, qvar (S (j + 1))), (31, .lst 4 56 (X.map encQ))] 109 true) (by omega) (by exact entA) ⟨j + 1, rfl, by omega, rfl⟩
    ·obtain rfl : j = m + 1 := by omega
     have hb3 : decide (((m + 1 : Nat) : Int) + 1 ≤ (m : Int) + 1) = false := by simp; omega
     clear hS hX hXm hihb hse hL0 hpN'
     refine goA ?_
     exact midQ_intro (by exact entA) rfl
   rintro _ rfl
   have htn := ht_n m (by omega)
   have cn := rof_p ((m : Int) + 1) (by omega) (by omega)
   have c6 := rquo_p (isV_encQ (hihb (m + 1) (Nat.le_refl _))) (by omega) (isV_encQ htn) (by omega) (by
    intro e
    have := Rat.intCast_eq_zero_iff.1 e
    omega)
   have hx0 : (X.map encQ).length = m + 1 := by rw [List.length_map, hpl]
   clear hS hX hXm hihb hse hL0 hpN'
   refine goA ?_
   refine evG ggA (ss_call (InB_of rfl) rfl rfl cn) ?_
   refine goA ?_
   refine evG ggA (ss_call (InB_of rfl) rfl rfl c6) ?_
   refine goA ?_
   (refine evG ggA (ss_bslice (InB_of rfl) (make_tab rfl) rfl rfl rfl rfl (one_ok rfl rfl) (Nat.le_of_ble_eq_true rfl)) ?_; refine evG ggA (ss_snoc (InB_of rfl) (make_tab rfl) rfl rfl (by first | rfl | assumption | (simp; done) | (simp; omega)) rfl (by omega) (Nat.le_of_ble_eq_true rfl) rfl) ?_)
   refine goA ?_
   exact loopQ_intro (k := N - (m + 1)) (s' := mkS [(0, .v (.p (.int .i64 h))), (1, .v (.sl es)), (4, .ptr 4 0), (6, .v (.sl ES)), (10, .own 31 (m + 1 + 1)), (11, .v (.p (.int .i64 ((m : Int) + 1 + 1))))] [(4, var0), (31, .lst 4 56 ((X ++ [S (m + 1) / (((m : Int) + 1 : Int) : Rat)]).map encQ))] 109 true) (by omega) (by exact entA) ⟨m + 1, rfl, hlt, by rw [hpn]; rfl⟩
  ·obtain rfl : m = N := by omega
   have hb : decide ((m : Int) + 1 ≤ (es.length : Int)) = false := by simp; omega
   refine goA ?_
   exact midQ_intro (by exact entA) rfl
 rintro _ rfl
 have hl2 := prc_len L N
 have hXN := hX N (Nat.le_refl N)
 generalize prc L N = X at *
 have hbuild := build_p (s := h) (isL_enc hXN) (by omega) (by omega) (by omega) (by omega)
 rw [serE_eq] at hbuild
 have hx0 : (X.map encQ).length = N + 1 := by rw [List.length_map, hl2]
 refine T.weak (s' := mkS [(0, .v (.p (.int .i64 h))), (4, .ptr 4 0), (10, .v (.sl (X.map encQ)))] [(4, var0)] 109 true) (by exact entA) ?_
 refine goA ?_
 refine evG ggA (ss_call (InB_of rfl) rfl rfl hbuild) ?_
 refine goA ?_
 exact rfl
set_option maxHeartbeats 4000000 in
theorem sums33_p {es : List AV} {c : List Rat} {K : Nat} (hL : IsL es K c) (hl : c.length ≤ 160) (hK : 1 ≤ K ∧ K ≤ 1000000) : PC Tryz.prog 170 [.sl es] (.sl ((sgs c c.length).map encQ)) := by
 have hle := hL.get.1
 have hcl := isL_ht hL hK.1
 generalize hN : c.length = N at *
 have cz := q_p 0 (by decide) (by decide)
 rw [show ((0 : Int) : Rat) = 0 from rfl] at cz
 have hsgh : ∀ i d, d ≤ N → Ht (dsg c i d) 200000000000 := fun i d hd => (ht_sg hK.1 hcl d (by omega)).mono (by
  have : d * (K + 2) ≤ 160 * (K + 2) := Nat.mul_le_mul_right _ (by omega)
  omega)
 have hsgs : ∀ i d, dsg c i (d + 1) = if (i + 1) % (d + 1) = 0 then dsg c i d + (((d : Int) + 1 : Int) : Rat) * c.getD d 0 else dsg c i d := fun i d => rfl
 have hsg0 : ∀ i, dsg c i 0 = 0 := fun i => rfl
 have hss : ∀ m, sgs c (m + 1) = sgs c m ++ [dsg c m (m + 1)] := fun m => tk_succ _ m
 have hsl : ∀ m, (sgs c m).length = m := sgs_len c
 have hs0 : sgs c 0 = [] := rfl
 generalize dsg c = SG at *
 generalize sgs c = SS at *
 refine pc_body1 true Tryz.func170 rfl rfl rfl (Nat.le_of_ble_eq_true rfl) CellT.tmp ?_
 refine r1A ?_
 refine T.seq ?_
 refine regA ?_
 refine runA ?_
 refine ev_nil ?_
 refine seqQ_n ?_
 refine T.seqI (fun s1 => s1 = mkS [(3, .own 100 N)] [(100, .lst 4 56 ((SS N).map encQ))] 38 true) ?_ ?_
 ·refine r1A ?_
  refine T.block ?_
  refine T.loop (fun n s1 => ∃ m : Nat, n = N - m ∧ m ≤ N ∧ s1 = mkS [(0, .v (.sl es)), (3, .own 100 m), (4, .v (.p (.int .i64 ((m : Int) + 1))))] [(100, .lst 4 56 ((SS m).map encQ))] 38 true) N
   (s' := mkS [(0, .v (.sl es)), (3, .own 100 0), (4, .v (.p (.int .i64 1)))] [(100, .lst 4 56 [])] 38 true) (by exact entA) ⟨0, rfl, Nat.zero_le _, by rw [hs0]; rfl⟩ ?_
  rintro n _ ⟨m, rfl, hm, rfl⟩
  by_cases hlt : m < N
  ·have hb : decide ((m : Int) + 1 ≤ (es.length : Int)) = true := by simp; omega
   refine T.seqI (fun s1 => s1 = mkS [(0, .v (.sl es)), (3, .own 100 m), (4, .v (.p (.int .i64 ((m : Int) + 1))))] [(100, .lst 4 56 ((SS m).map encQ))] 38 true) ?_ ?_
   ·refine goA ?_
    exact midQ_intro (by exact entA) rfl
   rintro _ rfl
   refine T.seq ?_
   refine T.block ?_
   refine T.seqI (fun s1 => s1 = mkS [(0, .v (.sl es)), (3, .own 100 m), (4, .v (.p (.int .i64 ((m : Int) + 1)))), (5, .ptr 5 0)] [(5, qvar (SG m 0)), (100, .lst 4 56 ((SS m).map encQ))] 38 true) ?_ ?_
   ·refine goA ?_
    refine evG ggA (ss_call (InB_of rfl) rfl rfl cz) ?_
    refine goA ?_
    exact midQ_intro (s' := mkS [(0, .v (.sl es)), (3, .own 100 m), (4, .v (.p (.int .i64 ((m : Int) + 1)))), (5, .ptr 5 0)] [(5, qvar 0), (100, .lst 4 56 ((SS m).map encQ))] 38 true) (by exact entA) (by rw [hsg0])
   rintro _ rfl
   refine T.seqI (fun s1 => s1 = mkS [(0, .v (.sl es)), (3, .own 100 m), (4, .v (.p (.int .i64 ((m : Int) + 1)))), (5, .ptr 5 0)] [(5, qvar (SG m (m + 1))), (100, .lst 4 56 ((SS m).map encQ))] 38 true) ?_ ?_
   ·refine r1A ?_
    refine T.block ?_
    refine T.loop (fun n s1 => ∃ j : Nat, n = m + 1 - j ∧ j ≤ m + 1 ∧ s1 = mkS [(0, .v (.sl es)), (3, .own 100 m), (4, .v (.p (.int .i64 ((m : Int) + 1)))), (5, .ptr 5 0), (6, .v (.p (.int .i64 ((j : Int) + 1))))] [(5, qvar (SG m j)), (100, .lst 4 56 ((SS m).map encQ))] 38 true) (m + 1)
     (s' := mkS [(0, .v (.sl es)), (3, .own 100 m), (4, .v (.p (.int .i64 ((m : Int) + 1)))), (5, .ptr 5 0), (6, .v (.p (.int .i64 1)))] [(5, qvar (SG m 0)), (100, .lst 4 56 ((SS m).map encQ))] 38 true) (by exact entA) ⟨0, rfl, Nat.zero_le _, rfl⟩ ?_
    rintro n _ ⟨j, rfl, hj, rfl⟩
    by_cases hjm : j < m + 1
    ·have hb2 : decide ((j : Int) + 1 ≤ (m : Int) + 1) = true := by simp; omega
     have hrb := rem_b m j
     have hcej := hsgs m j
     by_cases hd : (m + 1) % (j + 1) = 0
     ·rw [decide_eq_true hd] at hrb
      rw [if_pos hd] at hcej
      obtain ⟨y, ys, y', ys', q1, n0, hq1, v1⟩ := hL.at (i := j) (by omega)
      have g1 : c.getD j 0 = q1 := by rw [List.getD_eq_getElem?_getD, hq1]; rfl
      have n1 : es[((j : Int) + 1 - 1).toNat]? = some (.agg [.p (.bool y), .sl ys, .p (.bool y'), .sl ys']) := by rw [show ((j : Int) + 1 - 1).toNat = j by omega]; exact n0
      have t1 := hcl q1 (List.mem_of_getElem? hq1)
      have cj := q_p ((j : Int) + 1) (by omega) (by omega)
      have htj := ht_n j (by omega)
      have c3 : PC Tryz.prog 42 _ _ := (refmul2_p (isV_encQ htj) v1 (by omega)).up
      have c4 : PC Tryz.prog 171 _ _ := (refadd2_p (isV_encQ (hsgh m j (by omega))) (isV_encQ (ht_mul htj t1 (Nat.le_refl 1))) (by omega) (by omega) (by omega)).up
      rw [← g1, ← hcej, g1] at c4
      clear hsgh hsgs hsg0 hss hsl hs0 hcl
      refine goA ?_
      refine evG ggA (ss_div (InB_of rfl) rfl rfl (by omega) rfl) ?_
      refine goA ?_
      refine evG ggA (ss_call (InB_of rfl) rfl rfl cj) ?_
      refine goA ?_
      refine evG ggA (ss_index_sl (InB_of rfl) (elem_tab rfl) rfl rfl (by omega) n1 rfl) ?_
      refine goA ?_
      refine evG ggA (ss_call (InB_of rfl) rfl rfl c3) ?_
      refine evG ggA (ss_call (InB_of rfl) rfl rfl c4) ?_
      refine goA ?_
      exact loopQ_intro (k := m + 1 - (j + 1)) (s' := mkS [(0, .v (.sl es)), (3, .own 100 m), (4, .v (.p (.int .i64 ((m : Int) + 1)))), (5, .ptr 5 0), (6, .v (.p (.int .i64 ((j : Int) + 1 + 1))))] [(5, qvar (SG m (j + 1))), (100, .lst 4 56 ((SS m).map encQ))] 38 true) (by omega) (by exact entA) ⟨j + 1, rfl, by omega, rfl⟩
     ·rw [decide_eq_false hd] at hrb
      rw [if_neg hd] at hcej
      clear hsgh hsgs hsg0 hss hsl hs0 hcl
      refine goA ?_
      refine evG ggA (ss_div (InB_of rfl) rfl rfl (by omega) rfl) ?_
      refine goA ?_
      exact loopQ_intro (k := m + 1 - (j + 1)) (s' := mkS [(0, .v (.sl es)), (3, .own 100 m), (4, .v (.p (.int .i64 ((m : Int) + 1)))), (5, .ptr 5 0), (6, .v (.p (.int .i64 ((j : Int) + 1 + 1))))] [(5, qvar (SG m j)), (100, .lst 4 56 ((SS m).map encQ))] 38 true) (by omega) (by exact entA) ⟨j + 1, rfl, by omega, by rw [hcej]; rfl⟩
    ·obtain rfl : j = m + 1 := by omega
     have hb2 : decide (((m + 1 : Nat) : Int) + 1 ≤ (m : Int) + 1) = false := by simp; omega
     clear hsgh hsgs hsg0 hss hsl hs0 hcl
     refine goA ?_
     exact midQ_intro (by exact entA) rfl
   rintro _ rfl
   have hx1 := hsl m
   have hsm := hss m
   clear hsgh hsgs hsg0 hss hsl hs0 hcl
   refine goA ?_
   (refine evG ggA (ss_bslice (InB_of rfl) (make_tab rfl) rfl rfl rfl rfl (one_ok rfl rfl) (Nat.le_of_ble_eq_true rfl)) ?_; refine evG ggA (ss_snoc (InB_of rfl) (make_tab rfl) rfl rfl (by first | rfl | assumption | (simp; done) | (simp; omega)) rfl (by omega) (Nat.le_of_ble_eq_true rfl) rfl) ?_)
   refine goA ?_
   exact loopQ_intro (k := N - (m + 1)) (s' := mkS [(0, .v (.sl es)), (3, .own 100 (m + 1)), (4, .v (.p (.int .i64 ((m : Int) + 1 + 1))))] [(100, .lst 4 56 ((SS m ++ [SG m (m + 1)]).map encQ))] 38 true) (by omega) (by exact entA) ⟨m + 1, rfl, hlt, by rw [hsm]; rfl⟩
  ·obtain rfl : m = N := by omega
   have hb : decide ((m : Int) + 1 ≤ (es.length : Int)) = false := by simp; omega
   refine goA ?_
   exact midQ_intro (by exact entA) rfl
 rintro _ rfl
 have hx0 : ((SS N).map encQ).length = N := by rw [List.length_map, hsl]
 refine T.weak (s' := mkS [(3, .v (.sl ((SS N).map encQ)))] [] 38 true) (by exact entA) ?_
 refine goA ?_
 exact rfl
set_option maxHeartbeats 8000000 in
theorem rprod_p {h : Int} {es : List AV} {c : List Rat} {K P Q : Nat} (hL0 : PV h es.length = true → IsL es K c ∧ c.length ≤ 160) (hle : es.length = c.length) (h0 : -9223372036854775808 ≤ h) (h1 : h ≤ 9223372036854775807) (hn : es.length ≤ 9223372036854775807) (hK : 1 ≤ K ∧ K ≤ 1000000) (hP : 1 ≤ P ∧ P ≤ 1000000) (hQ : 1 ≤ Q ∧ Q ≤ 1000000)
  (hS : PV h es.length = true → ∀ q, q ∈ sgs c c.length → Ht q P) (hX : PV h es.length = true → ∀ m, m ≤ c.length → ∀ q, q ∈ prc (sgs c c.length) m → Ht q Q) : PC Tryz.prog 93 [.p (.int .i64 h), .sl es] (serE (prodR h c)) := by
 rw [serE_eq]
 unfold prodR
 rw [← hle]
 by_cases a0 : -100 ≤ h
 case neg =>
  have e : PV h es.length = false := by unfold PV; simp [a0]
  rw [e]
  have hb : decide (h < -100) = true := by simp; omega
  refine pc_body2 true Tryz.func93 rfl rfl rfl (Nat.le_of_ble_eq_true rfl) (CellT.agg agg_ser) CellT.tmp ?_
  refine goA ?_
  exact rfl
 have hb0 : decide (h < -100) = false := by simp; omega
 by_cases a1 : h ≤ 1000
 case neg =>
  have e : PV h es.length = false := by unfold PV; simp [a1]
  rw [e]
  have hb : decide (h > 1000) = true := by simp; omega
  refine pc_body2 true Tryz.func93 rfl rfl rfl (Nat.le_of_ble_eq_true rfl) (CellT.agg agg_ser) CellT.tmp ?_
  refine goA ?_
  exact rfl
 have hb1 : decide (h > 1000) = false := by simp; omega
 by_cases a2 : (es.length : Int) ≤ 1000 - h - 1
 case neg =>
  have e : PV h es.length = false := by unfold PV; simp [a2]
  rw [e]
  have hb : decide ((es.length : Int) > 1000 - h - 1) = true := by simp; omega
  refine pc_body2 true Tryz.func93 rfl rfl rfl (Nat.le_of_ble_eq_true rfl) (CellT.agg agg_ser) CellT.tmp ?_
  refine goA ?_
  exact rfl
 have hb2 : decide ((es.length : Int) > 1000 - h - 1) = false := by simp; omega
 have e : PV h es.length = true := by unfold PV; simp [a0, a1, a2]
 obtain ⟨hL, hl14⟩ := hL0 e
 have hS := hS e
 have hX := hX e
 rw [e]
 simp only [if_true]
 clear hL0 e
 rw [hle]
 have csu := sums33_p hL hl14 hK
 generalize hN : c.length = N at *
 have hsl := sgs_len c N
 have c1 := q_p 1 (by decide) (by decide)
 rw [show ((1 : Int) : Rat) = 1 from rfl] at c1
 have cz := q_p 0 (by decide) (by decide)
 rw [show ((0 : Int) : Rat) = 0 from rfl] at cz
 generalize hLL : sgs c N = L at *
 refine pc_body2 true Tryz.func93 rfl rfl rfl (Nat.le_of_ble_eq_true rfl) (CellT.agg agg_ser) CellT.tmp ?_
 refine r1A ?_
 refine T.seqI (fun s1 => s1 = mkS [(0, .v (.p (.int .i64 h))), (1, .v (.sl es)), (4, .ptr 4 0)] [(4, var0)] 68 true) ?_ ?_
 ·refine goA ?_
  exact midQ_intro (by exact entA) rfl
 rintro _ rfl
 refine T.seqI (fun s1 => s1 = mkS [(0, .v (.p (.int .i64 h))), (1, .v (.sl es)), (4, .ptr 4 0), (6, .v (.sl (L.map encQ)))] [(4, var0)] 68 true) ?_ ?_
 ·refine goA ?_
  refine evG ggA (ss_call (InB_of rfl) rfl rfl csu) ?_
  refine goA ?_
  exact midQ_intro (by exact entA) rfl
 rintro _ rfl
 refine T.seq ?_
 refine regA ?_
 refine runA ?_
 refine evG ggA (ss_call (InB_of rfl) rfl rfl c1) ?_
 refine runA ?_
 refine evG ggA (ss_bslice_own 31 (InB_of rfl) rfl (make_tab rfl) rfl rfl rfl rfl (one_ok rfl rfl) (Nat.le_of_ble_eq_true rfl) (by decide) (fun _ a ha => by rw [List.mem_singleton] at ha; subst ha; exact encQ_nu 1)) ?_
 refine runA ?_
 refine ev_nil ?_
 refine seqQ_n ?_
 have hL0 : ∀ q, q ∈ (0 :: L) → Ht q P := fun q hq => by
  rcases List.mem_cons.1 hq with rfl | hq
  ·exact ht0 hP.1
  ·exact hS q hq
 refine T.seqI (fun s1 => s1 = mkS [(0, .v (.p (.int .i64 h))), (4, .ptr 4 0), (7, .own 31 (N + 1))] [(4, var0), (31, .lst 4 56 ((prc L N).map encQ))] 68 true) ?_ ?_
 ·refine r1A ?_
  refine T.block ?_
  refine T.loop (fun n s1 => ∃ m : Nat, n = N - m ∧ m ≤ N ∧ s1 = mkS [(0, .v (.p (.int .i64 h))), (1, .v (.sl es)), (4, .ptr 4 0), (6, .v (.sl (L.map encQ))), (7, .own 31 (m + 1)), (8, .v (.p (.int .i64 ((m : Int) + 1))))] [(4, var0), (31, .lst 4 56 ((prc L m).map encQ))] 68 true) N
   (s' := mkS [(0, .v (.p (.int .i64 h))), (1, .v (.sl es)), (4, .ptr 4 0), (6, .v (.sl (L.map encQ))), (7, .own 31 1), (8, .v (.p (.int .i64 1)))] [(4, var0), (31, .lst 4 56 (([1] : List Rat).map encQ))] 68 true) (by exact entA) ⟨0, rfl, Nat.zero_le _, rfl⟩ ?_
  rintro n _ ⟨m, rfl, hm, rfl⟩
  by_cases hlt : m < N
  ·have hb : decide ((m : Int) + 1 ≤ (es.length : Int)) = true := by simp; omega
   have hXm := hX m hm
   have hpl := prc_len L m
   have hpn : prc L (m + 1) = prc L m ++ [-(iss (0 :: L) (prc L m) (m + 1) (m + 1)) / (((m : Int) + 1 : Int) : Rat)] := rfl
   generalize hXX : prc L m = X at *
   have hih := ht_iss2 hP.1 hQ.1 hL0 hXm (m + 1)
   have hihb : ∀ j, j ≤ m + 1 → Ht (iss (0 :: L) X (m + 1) j) 240000000000 := fun j hj => (hih j).mono (by
    have : j * (P + Q + 1) ≤ 160 * (P + Q + 1) := Nat.mul_le_mul_right _ (by omega)
    omega)
   have hse : ∀ j, iss (0 :: L) X (m + 1) (j + 1) = iss (0 :: L) X (m + 1) j + L.getD j 0 * X.getD (m - j) 0 := fun j => by
    show iss (0 :: L) X (m + 1) j + L.getD j 0 * X.getD (m + 1 - (j + 1)) 0 = _
    rw [show m + 1 - (j + 1) = m - j by omega]
   have hs0 : iss (0 :: L) X (m + 1) 0 = 0 := rfl
   clear hih
   generalize iss (0 :: L) X (m + 1) = S at *
   refine T.seqI (fun s1 => s1 = mkS [(0, .v (.p (.int .i64 h))), (1, .v (.sl es)), (4, .ptr 4 0), (6, .v (.sl (L.map encQ))), (7, .own 31 (m + 1)), (8, .v (.p (.int .i64 ((m : Int) + 1))))] [(4, var0), (31, .lst 4 56 (X.map encQ))] 68 true) ?_ ?_
   ·refine goA ?_
    exact midQ_intro (by exact entA) rfl
   rintro _ rfl
   refine T.seq ?_
   refine T.block ?_
   refine T.seqI (fun s1 => s1 = mkS [(0, .v (.p (.int .i64 h))), (1, .v (.sl es)), (4, .ptr 4 0), (6, .v (.sl (L.map encQ))), (7, .own 31 (m + 1)), (8, .v (.p (.int .i64 ((m : Int) + 1)))), (9, .ptr 9 0)] [(4, var0), (9, qvar (S 0)), (31, .lst 4 56 (X.map encQ))] 68 true) ?_ ?_
   ·refine goA ?_
    refine evG ggA (ss_call (InB_of rfl) rfl rfl cz) ?_
    refine goA ?_
    exact midQ_intro (s' := mkS [(0, .v (.p (.int .i64 h))), (1, .v (.sl es)), (4, .ptr 4 0), (6, .v (.sl (L.map encQ))), (7, .own 31 (m + 1)), (8, .v (.p (.int .i64 ((m : Int) + 1)))), (9, .ptr 9 0)] [(4, var0), (9, qvar 0), (31, .lst 4 56 (X.map encQ))] 68 true) (by exact entA) (by rw [hs0])
   rintro _ rfl
   refine T.seqI (fun s1 => s1 = mkS [(0, .v (.p (.int .i64 h))), (1, .v (.sl es)), (4, .ptr 4 0), (6, .v (.sl (L.map encQ))), (7, .own 31 (m + 1)), (8, .v (.p (.int .i64 ((m : Int) + 1)))), (9, .ptr 9 0)] [(4, var0), (9, qvar (S (m + 1))), (31, .lst 4 56 (X.map encQ))] 68 true) ?_ ?_
   ·refine r1A ?_
    refine T.block ?_
    refine T.loop (fun n s1 => ∃ j : Nat, n = m + 1 - j ∧ j ≤ m + 1 ∧ s1 = mkS [(0, .v (.p (.int .i64 h))), (1, .v (.sl es)), (4, .ptr 4 0), (6, .v (.sl (L.map encQ))), (7, .own 31 (m + 1)), (8, .v (.p (.int .i64 ((m : Int) + 1)))), (9, .ptr 9 0), (10, .v (.p (.int .i64 ((j : Int) + 1))))] [(4, var0), (9, qvar (S j)), (31, .lst 4 56 (X.map encQ))] 68 true) (m + 1)
     (s' := mkS [(0, .v (.p (.int .i64 h))), (1, .v (.sl es)), (4, .ptr 4 0), (6, .v (.sl (L.map encQ))), (7, .own 31 (m + 1)), (8, .v (.p (.int .i64 ((m : Int) + 1)))), (9, .ptr 9 0), (10, .v (.p (.int .i64 1)))] [(4, var0), (9, qvar (S 0)), (31, .lst 4 56 (X.map encQ))] 68 true) (by exact entA) ⟨0, rfl, Nat.zero_le _, rfl⟩ ?_
    rintro n _ ⟨j, rfl, hj, rfl⟩
    by_cases hjm : j < m + 1
    ·have hb3 : decide ((j : Int) + 1 ≤ (m : Int) + 1) = true := by simp; omega
     obtain ⟨q1, hq1⟩ : ∃ q, L[j]? = some q := ⟨_, List.getElem?_eq_getElem (by omega)⟩
     have g1 : L.getD j 0 = q1 := by rw [List.getD_eq_getElem?_getD, hq1]; rfl
     have n1 : (L.map encQ)[((j : Int) + 1 - 1).toNat]? = some (encQ q1) := by rw [show ((j : Int) + 1 - 1).toNat = j by omega]; exact enc_at hq1
     obtain ⟨q2, hq2⟩ : ∃ q, X[m - j]? = some q := ⟨_, List.getElem?_eq_getElem (by omega)⟩
     have g2 : X.getD (m - j) 0 = q2 := by rw [List.getD_eq_getElem?_getD, hq2]; rfl
     have n2 : (X.map encQ)[((m : Int) + 1 - ((j : Int) + 1)).toNat]? = some (encQ q2) := by rw [show ((m : Int) + 1 - ((j : Int) + 1)).toNat = m - j by omega]; exact enc_at hq2
     have t1 := hS q1 (List.mem_of_getElem? hq1)
     have t2 := hXm q2 (List.mem_of_getElem? hq2)
     have hx0 : (X.map encQ).length = m + 1 := by rw [List.length_map, hpl]
     have c3 : PC Tryz.prog 42 _ _ := (refmul2_p (isV_encQ t1) (isV_encQ t2) (by omega)).up
     have c4 : PC Tryz.prog 171 _ _ := (refadd2_p (isV_encQ (hihb j hj)) (isV_encQ (ht_mul t1 t2 hP.1)) (by omega) (by omega) (by omega)).up
     rw [← g1, ← g2, ← hse j, g1, g2] at c4
     clear hS hX hXm hihb hse hL0
     refine goA ?_
     refine evG ggA (ss_index_sl (InB_of rfl) (elem_tab rfl) rfl rfl (by omega) n1 rfl) ?_
     refine goA ?_
     refine evG ggA (ss_index_own (InB_of rfl) (elem_tab rfl) rfl rfl hx0 rfl (by omega) (by omega)) ?_
     refine evG ggA (ss_load_opagg (InB_of rfl) (agg_tab rfl) rfl rfl hx0 n2) ?_
     refine evG ggA (ss_call (InB_of rfl) rfl rfl c3) ?_
     refine evG ggA (ss_call (InB_of rfl) rfl rfl c4) ?_
     refine goA ?_
     exact loopQ_intro (k := m + 1 - (j + 1)) (s' := mkS [(0, .v (.p (.int .i64 h))), (1, .v (.sl es)), (4, .ptr 4 0), (6, .v (.sl (L.map encQ))), (7, .own 31 (m + 1)), (8, .v (.p (.int .i64 ((m : Int) + 1)))), (9, .ptr 9 0), (10, .v (.p (.int .i64 ((j : Int) + 1 + 1))))] [(4, var0), (9, qvar (S (j + 1))), (31, .lst 4 56 (X.map encQ))] 68 true) (by omega) (by exact entA) ⟨j + 1, rfl, by omega, rfl⟩
    ·obtain rfl : j = m + 1 := by omega
     have hb3 : decide (((m + 1 : Nat) : Int) + 1 ≤ (m : Int) + 1) = false := by simp; omega
     clear hS hX hXm hihb hse hL0
     refine goA ?_
     exact midQ_intro (by exact entA) rfl
   rintro _ rfl
   have htn := ht_n m (by omega)
   have cfr := vfrac_p (-1) (.inr rfl) m (by omega)
   have tfr : Ht (((-1 : Int) : Rat) / (((m : Int) + 1 : Int) : Rat)) 2 := ht_dv (k := 1) (l := 1) (ht_int (c := -1) (by decide)) htn (Nat.le_refl 1) (Nat.le_refl 1)
   have c6 : PC Tryz.prog 42 _ _ := (refmul2_p (isV_encQ tfr) (isV_encQ (hihb (m + 1) (Nat.le_refl _))) (by omega)).up
   have hdv : ((-1 : Int) : Rat) / (((m : Int) + 1 : Int) : Rat) * S (m + 1) = -(S (m + 1)) / (((m : Int) + 1 : Int) : Rat) := by
    rw [show ((-1 : Int) : Rat) = -1 from rfl, Rat.div_def, Rat.div_def, Rat.neg_mul, Rat.one_mul, Rat.neg_mul, Rat.neg_mul, Rat.mul_comm]
   rw [hdv] at c6
   have hx0 : (X.map encQ).length = m + 1 := by rw [List.length_map, hpl]
   clear hS hX hXm hihb hse hL0
   refine goA ?_
   refine evG ggA (ss_call (InB_of rfl) rfl rfl cfr) ?_
   refine goA ?_
   refine evG ggA (ss_call (InB_of rfl) rfl rfl c6) ?_
   (refine evG ggA (ss_bslice (InB_of rfl) (make_tab rfl) rfl rfl rfl rfl (one_ok rfl rfl) (Nat.le_of_ble_eq_true rfl)) ?_; refine evG ggA (ss_snoc (InB_of rfl) (make_tab rfl) rfl rfl (by first | rfl | assumption | (simp; done) | (simp; omega)) rfl (by omega) (Nat.le_of_ble_eq_true rfl) rfl) ?_)
   refine goA ?_
   exact loopQ_intro (k := N - (m + 1)) (s' := mkS [(0, .v (.p (.int .i64 h))), (1, .v (.sl es)), (4, .ptr 4 0), (6, .v (.sl (L.map encQ))), (7, .own 31 (m + 1 + 1)), (8, .v (.p (.int .i64 ((m : Int) + 1 + 1))))] [(4, var0), (31, .lst 4 56 ((X ++ [-(S (m + 1)) / (((m : Int) + 1 : Int) : Rat)]).map encQ))] 68 true) (by omega) (by exact entA) ⟨m + 1, rfl, hlt, by rw [hpn]; rfl⟩
  ·obtain rfl : m = N := by omega
   have hb : decide ((m : Int) + 1 ≤ (es.length : Int)) = false := by simp; omega
   refine goA ?_
   exact midQ_intro (by exact entA) rfl
 rintro _ rfl
 have hl2 := prc_len L N
 have hXN := hX N (Nat.le_refl N)
 generalize prc L N = X at *
 have hbuild := result_p (s := h) (isL_enc hXN) (by omega) (by omega) (by omega) (by omega)
 rw [serE_eq] at hbuild
 have hx0 : (X.map encQ).length = N + 1 := by rw [List.length_map, hl2]
 refine T.weak (s' := mkS [(0, .v (.p (.int .i64 h))), (4, .ptr 4 0), (7, .v (.sl (X.map encQ)))] [(4, var0)] 68 true) (by exact entA) ?_
 refine goA ?_
 refine evG ggA (ss_call (InB_of rfl) rfl rfl hbuild) ?_
 refine goA ?_
 exact rfl
end Ab
