/- The product of two Hecke operators, as plain arithmetic. -/
import Derived.Test.YtajhaoapcapgeaaGreatDoorHjD
set_option linter.all false
namespace Ab
open Go Go.RowKit Go.Proofs Hp
set_option maxRecDepth 100000

/-- sums over lists -/
def rs (F : Nat → Rat) : List Nat → Rat
  | [] => 0
  | e :: l => F e + rs F l
theorem rs_app (F : Nat → Rat) : ∀ l m : List Nat, rs F (l ++ m) = rs F l + rs F m
  | [], m => by rw [List.nil_append]; exact (Rat.zero_add _).symm
  | e :: l, m => by
    show F e + rs F (l ++ m) = F e + rs F l + rs F m
    rw [rs_app F l m, Rat.add_assoc]
theorem rs_perm {F : Nat → Rat} {l m : List Nat} (h : l.Perm m) : rs F l = rs F m := by
  induction h with
  | nil => rfl
  | cons x _ ih => show F x + _ = F x + _; rw [ih]
  | swap x y l =>
    show F y + (F x + rs F l) = F x + (F y + rs F l)
    rw [← Rat.add_assoc, Rat.add_comm (F y), Rat.add_assoc]
  | trans _ _ h1 h2 => rw [h1, h2]
theorem rs_congr {F G : Nat → Rat} : ∀ {l : List Nat}, (∀ e, e ∈ l → F e = G e) → rs F l = rs G l
  | [], _ => rfl
  | e :: l, h => by
    show F e + rs F l = G e + rs G l
    rw [h e (by simp), rs_congr fun x hx => h x (by simp [hx])]
theorem rs_mul (c : Rat) (F : Nat → Rat) : ∀ l : List Nat, rs (fun e => c * F e) l = c * rs F l
  | [] => (Rat.mul_zero c).symm
  | e :: l => by
    show c * F e + rs (fun e => c * F e) l = c * (F e + rs F l)
    rw [rs_mul c F l, Rat.mul_add]
theorem rs_map (F : Nat → Rat) (g : Nat → Nat) : ∀ l : List Nat, rs F (l.map g) = rs (fun e => F (g e)) l
  | [] => rfl
  | e :: l => by
    show F (g e) + rs F (l.map g) = F (g e) + rs _ l
    rw [rs_map F g l]
theorem rs_flat (F : Nat → Rat) (g : Nat → List Nat) : ∀ l : List Nat, rs F (l.flatMap g) = rs (fun e => rs F (g e)) l
  | [] => rfl
  | e :: l => by
    rw [List.flatMap_cons, rs_app, rs_flat F g l]
    rfl
theorem rs_filter (F : Nat → Rat) (p : Nat → Bool) : ∀ l : List Nat, rs F (l.filter p) = rs (fun e => if p e then F e else 0) l
  | [] => rfl
  | e :: l => by
    rw [List.filter_cons]
    show _ = (if p e then F e else 0) + rs _ l
    rw [← rs_filter F p l]
    cases p e with
    | true => rfl
    | false => exact (Rat.zero_add _).symm
/-- 1 to k -/
def upto : Nat → List Nat
  | 0 => []
  | k + 1 => upto k ++ [k + 1]
theorem mem_upto {x : Nat} : ∀ {k : Nat}, x ∈ upto k ↔ 1 ≤ x ∧ x ≤ k
  | 0 => by simp [upto]; omega
  | k + 1 => by
    simp only [upto, List.mem_append, List.mem_singleton, mem_upto (k := k)]
    omega
theorem hkS_rs {N k d A : Int} {L : List Rat} {n m : Int} : ∀ j : Nat, hkS N k d A L n m j = rs (fun t => hkT N k d A L n m t) (upto j)
  | 0 => rfl
  | j + 1 => by
    show hkS N k d A L n m j + hkT N k d A L n m ((j : Int) + 1) = rs _ (upto j ++ [j + 1])
    rw [rs_app, hkS_rs j]
    show _ = _ + (hkT N k d A L n m ((j + 1 : Nat) : Int) + 0)
    rw [Rat.add_zero]
    rfl
theorem rs_more {F : Nat → Rat} {j : Nat} : ∀ i : Nat, (∀ t, j < t → F t = 0) → rs F (upto (j + i)) = rs F (upto j)
  | 0, _ => rfl
  | i + 1, h => by
    show rs F (upto (j + i) ++ [j + i + 1]) = _
    rw [rs_app, rs_more i h]
    show _ + (F (j + i + 1) + 0) = _
    rw [h _ (by omega), Rat.add_zero, Rat.add_zero]
/-- the common divisors, of 36 at most -/
def dl (n : Nat) (M : Int) : List Nat := (upto 36).filter fun t => n % t == 0 && M % (t : Int) == 0
theorem mem_dl {n t : Nat} {M : Int} : t ∈ dl n M ↔ (1 ≤ t ∧ t ≤ 36) ∧ t ∣ n ∧ (t : Int) ∣ M := by
  unfold dl
  rw [List.mem_filter, mem_upto, Bool.and_eq_true, beq_iff_eq, beq_iff_eq, Nat.dvd_iff_mod_eq_zero, Int.dvd_iff_emod_eq_zero]
theorem hkC_rs {N k d A : Int} {L : List Rat} {n : Nat} {M : Int} (h0 : 1 ≤ n) (h1 : n ≤ 36) : hkC N k d A L n M = rs (fun t => facQ N k d t * cf A L (M / t * ((n / t : Nat) : Int))) (dl n M) := by
  have hg := gI_bd (m := M) (n := n) (by omega)
  have hd := gI_dvd (m := M) (n := n)
  have hgz : ∀ t : Nat, (gI M n).tmod t = 0 ↔ (t ∣ n ∧ (t : Int) ∣ M) := fun t => by
    constructor
    · intro h
      have := Int.dvd_of_tmod_eq_zero h
      exact ⟨Int.natCast_dvd_natCast.1 (Int.dvd_trans this hd.2), Int.dvd_trans this hd.1⟩
    · rintro ⟨a, b⟩
      refine Int.tmod_eq_zero_of_dvd ?_
      unfold gI
      refine Int.natCast_dvd_natCast.2 (Nat.dvd_gcd (Int.ofNat_dvd_left.1 b) ?_)
      rw [Int.natAbs_natCast]; exact a
  have hT : ∀ t : Nat, 1 ≤ t → hkT N k d A L n M t = if (n % t == 0 && M % (t : Int) == 0) = true then facQ N k d t * cf A L (M / t * ((n / t : Nat) : Int)) else 0 := fun t ht => by
    have e : (n % t == 0 && M % (t : Int) == 0) = true ↔ (t ∣ n ∧ (t : Int) ∣ M) := by
      rw [Bool.and_eq_true, beq_iff_eq, beq_iff_eq, Nat.dvd_iff_mod_eq_zero, Int.dvd_iff_emod_eq_zero]
    by_cases c : t ∣ n ∧ (t : Int) ∣ M
    · rw [if_pos (e.2 c)]
      unfold hkT
      have e1 : M.tdiv t = M / t := by
        obtain ⟨x, hx⟩ := c.2
        rw [hx, Int.mul_tdiv_cancel_left _ (by omega), Int.mul_ediv_cancel_left _ (by omega)]
      have e2 : (n : Int).tdiv t = ((n / t : Nat) : Int) := by
        obtain ⟨x, hx⟩ := c.1
        rw [hx, Nat.mul_div_cancel_left _ (by omega), Int.natCast_mul, Int.mul_tdiv_cancel_left _ (by omega)]
      rw [e1, e2]
      by_cases c2 : A ≤ M / t * ((n / t : Nat) : Int)
      · rw [if_pos ⟨(hgz t).2 c, c2⟩]
      · rw [if_neg (fun h => c2 h.2), cf_lt (by omega), Rat.mul_zero]
    · rw [if_neg (fun h => c (e.1 h))]
      unfold hkT
      rw [if_neg (fun h => c ((hgz t).1 h.1))]
  unfold hkC dl
  rw [hkS_rs, rs_filter, ← rs_more (j := (gI M n).toNat) (36 - (gI M n).toNat), show (gI M n).toNat + (36 - (gI M n).toNat) = 36 by omega]
  · exact rs_congr fun t ht => hT t (mem_upto.1 ht).1
  · intro t ht
    unfold hkT
    rw [if_neg]
    rintro ⟨c, -⟩
    have := Int.le_of_dvd (by omega) (Int.dvd_of_tmod_eq_zero c)
    omega
/-- the factors of a number, one by one -/
def pfl (n : Nat) : List Nat := (Kr.facB 40 2 n).flatMap fun p => List.replicate p.2 p.1
def lp (d : Int) : List Nat → Int
  | [] => 1
  | p :: l => Kr.leg d p * lp d l
theorem lp_app (d : Int) : ∀ l m, lp d (l ++ m) = lp d l * lp d m
  | [], m => (Int.one_mul _).symm
  | p :: l, m => by
    show Kr.leg d p * lp d (l ++ m) = Kr.leg d p * lp d l * lp d m
    rw [lp_app d l m, Int.mul_assoc]
theorem lp_perm {d : Int} {l m : List Nat} (h : l.Perm m) : lp d l = lp d m := by
  induction h with
  | nil => rfl
  | cons x _ ih => show Kr.leg d x * _ = Kr.leg d x * _; rw [ih]
  | swap x y l =>
    show Kr.leg d y * (Kr.leg d x * lp d l) = Kr.leg d x * (Kr.leg d y * lp d l)
    rw [← Int.mul_assoc, Int.mul_comm (Kr.leg d y), Int.mul_assoc]
  | trans _ _ h1 h2 => rw [h1, h2]
theorem lp_rep (d : Int) (p : Nat) : ∀ e, lp d (List.replicate e p) = Kr.leg d p ^ e
  | 0 => (Int.pow_zero _).symm
  | e + 1 => by
    show Kr.leg d p * lp d (List.replicate e p) = _
    rw [lp_rep d p e, Int.pow_succ, Int.mul_comm]
theorem kBf_lp (d : Int) : ∀ l : List (Nat × Nat), Kr.kBf l d 1 = lp d (l.flatMap fun p => List.replicate p.2 p.1)
  | [] => rfl
  | (p, e) :: l => by
    rw [Kr.kBf, Kr.kBf_mul, kBf_lp d l, List.flatMap_cons, lp_app, lp_rep, Int.one_mul]
theorem kron_lp (d : Int) {n : Nat} (h : 1 ≤ n) : Kr.kron d n = lp d (pfl n) := by
  unfold Kr.kron pfl
  rw [if_neg (by omega), Int.natAbs_natCast, if_neg (by omega), kBf_lp]
theorem pfl_mul' : ∀ t, t < 37 → ∀ u, u < 37 → 1 ≤ t → 1 ≤ u → t * u ≤ 36 → (pfl (t * u)).isPerm (pfl t ++ pfl u) = true := by decide +kernel
theorem pfl_mul (t : Nat) (h1 : t < 37) (u : Nat) (h2 : u < 37) (h3 : 1 ≤ t) (h4 : 1 ≤ u) (h5 : t * u ≤ 36) : (pfl (t * u)).Perm (pfl t ++ pfl u) := List.isPerm_iff.1 (pfl_mul' t h1 u h2 h3 h4 h5)
theorem chiV_mul {N d : Int} {t u : Nat} (ht : 1 ≤ t) (hu : 1 ≤ u) (h : t * u ≤ 36) : chiV N d ((t * u : Nat) : Int) = chiV N d t * chiV N d u := by
  have h1 : t < 37 := by
    have : t * 1 ≤ t * u := Nat.mul_le_mul_left _ hu
    omega
  have h2 : u < 37 := by
    have : 1 * u ≤ t * u := Nat.mul_le_mul_right _ ht
    omega
  have h3 : 1 ≤ t * u := Nat.mul_le_mul ht hu
  have ek : Kr.kron d ((t * u : Nat) : Int) = Kr.kron d t * Kr.kron d u := by
    rw [kron_lp d h3, kron_lp d ht, kron_lp d hu, lp_perm (pfl_mul t h1 u h2 ht hu h), lp_app]
  have hg : ∀ x : Nat, gI x N = 1 ↔ Nat.Coprime x N.natAbs := fun x => by
    unfold gI
    rw [Int.natAbs_natCast]
    unfold Nat.Coprime
    omega
  unfold chiV
  by_cases c1 : Nat.Coprime t N.natAbs
  · by_cases c2 : Nat.Coprime u N.natAbs
    · rw [if_pos ((hg t).2 c1), if_pos ((hg u).2 c2), if_pos ((hg (t * u)).2 (Nat.Coprime.mul_left c1 c2)), ek]
    · rw [if_neg (fun h => c2 ((hg u).1 h)), if_neg (fun h => c2 ?_), Int.mul_zero]
      exact Nat.Coprime.coprime_mul_left ((hg (t * u)).1 h)
  · rw [if_neg (fun h => c1 ((hg t).1 h)), if_neg (fun h => c1 ?_), Int.zero_mul]
    exact Nat.Coprime.coprime_mul_right ((hg (t * u)).1 h)
theorem facQ_mul {N k d : Int} {t u : Nat} (ht : 1 ≤ t) (hu : 1 ≤ u) (h : t * u ≤ 36) : facQ N k d ((t * u : Nat) : Int) = facQ N k d t * facQ N k d u := by
  unfold facQ
  rw [chiV_mul ht hu h, Int.toNat_natCast, Int.toNat_natCast, Int.toNat_natCast, Nat.mul_pow, Int.natCast_mul, Rat.intCast_mul, Rat.intCast_mul]
  generalize ((chiV N d t : Int) : Rat) = a
  generalize ((chiV N d u : Int) : Rat) = b
  generalize (((t ^ (k - 1).toNat : Nat) : Int) : Rat) = x
  generalize (((u ^ (k - 1).toNat : Nat) : Int) : Rat) = y
  grind
/-- the two lists of indices, with the numbers of M replaced by its remainder -/
def dn (n r : Nat) : List Nat := (upto 36).filter fun t => n % t == 0 && r % t == 0
def l1 (m n r : Nat) : List Nat := (dn m r).flatMap fun u => (dn n (r / u * (m / u))).map (u * ·)
def l2 (m n r : Nat) : List Nat := (dn m n).flatMap fun d => (dn (m * n / d / d) r).map (d * ·)
theorem l12' : ∀ m, m < 7 → ∀ n, n < 7 → 1 ≤ m → 1 ≤ n → ∀ r, r < m * n → (l1 m n r).isPerm (l2 m n r) = true := by decide +kernel
/-- a Hecke operator on a family of coefficients -/
def Tn (f : Nat → Rat) (a : Int → Rat) (n : Nat) (M : Int) : Rat := rs (fun t => f t * a (M / t * ((n / t : Nat) : Int))) (dl n M)
theorem ix_eq {M x y : Int} {e : Nat} (he : 1 ≤ e) (h : x * y * ((e : Int) * e) = M) : M / ((e : Int) * e) = x * y := by
  have : (e : Int) * e ≠ 0 := by
    have : 0 < (e : Int) * e := Int.mul_pos (by omega) (by omega)
    omega
  rw [← h, Int.mul_ediv_cancel _ this]
theorem mod_red {M : Int} {w t : Nat} (hw : 0 < w) (h : t ∣ w) : M % (t : Int) = 0 ↔ (M % (w : Int)).toNat % t = 0 := by
  have e1 : ((M % (w : Int)).toNat : Int) = M % (w : Int) := Int.toNat_of_nonneg (Int.emod_nonneg _ (by omega))
  have e2 := Int.emod_emod_of_dvd M (Int.natCast_dvd_natCast.2 h)
  rw [← e1, ← Int.natCast_emod] at e2
  omega
theorem dl_dn {n w : Nat} {M : Int} (hw : 0 < w) (h : n ∣ w) : dl n M = dn n (M % (w : Int)).toNat := by
  unfold dl dn
  refine List.filter_congr fun t _ => ?_
  cases hc : n % t == 0 with
  | false => rw [Bool.false_and, Bool.false_and]
  | true =>
    rw [Bool.true_and, Bool.true_and]
    have := mod_red (M := M) (t := t) hw (Nat.dvd_trans (Nat.dvd_of_mod_eq_zero (by simpa using hc)) h)
    rw [Bool.eq_iff_iff, beq_iff_eq, beq_iff_eq]
    exact this
theorem mem_dn {n r t : Nat} : t ∈ dn n r ↔ (1 ≤ t ∧ t ≤ 36) ∧ t ∣ n ∧ t ∣ r := by
  unfold dn
  rw [List.mem_filter, mem_upto, Bool.and_eq_true, beq_iff_eq, beq_iff_eq, Nat.dvd_iff_mod_eq_zero, Nat.dvd_iff_mod_eq_zero]
theorem T_law {f : Nat → Rat} {a : Int → Rat} (hf : ∀ t u, 1 ≤ t → 1 ≤ u → t * u ≤ 36 → f (t * u) = f t * f u) {m n : Nat} (hm : 1 ≤ m ∧ m ≤ 6) (hn : 1 ≤ n ∧ n ≤ 6) (M : Int) : Tn f (Tn f a n) m M = rs (fun d => f d * Tn f a (m * n / d / d) M) (dn m n) := by
  obtain ⟨r, hr⟩ : ∃ r : Nat, r = (M % ((m * n : Nat) : Int)).toNat := ⟨_, rfl⟩
  have hmn : 0 < m * n := Nat.mul_pos (by omega) (by omega)
  have hmn36 : m * n ≤ 36 := Nat.mul_le_mul hm.2 hn.2
  have hrI : (r : Int) = M % ((m * n : Nat) : Int) := by rw [hr, Int.toNat_of_nonneg (Int.emod_nonneg _ (by omega))]
  have hrl : r < m * n := by
    have := Int.emod_lt_of_pos M (show (0 : Int) < ((m * n : Nat) : Int) by omega)
    omega
  have hq := Int.emod_add_mul_ediv M ((m * n : Nat) : Int)
  rw [← hrI] at hq
  generalize M / ((m * n : Nat) : Int) = q at hq
  have hP := List.isPerm_iff.1 (l12' m (by omega) n (by omega) hm.1 hn.1 r hrl)
  obtain ⟨F, hF⟩ : ∃ F : Nat → Rat, F = fun e => f e * a (M * ((m * n : Nat) : Int) / ((e : Int) * e)) := ⟨_, rfl⟩
  have h1 : Tn f (Tn f a n) m M = rs F (l1 m n r) := by
    unfold l1 Tn
    rw [rs_flat, dl_dn (n := m) hmn (Nat.dvd_mul_right m n), ← hr]
    refine rs_congr fun u hu => ?_
    obtain ⟨⟨u0, -⟩, u1, u2⟩ := mem_dn.1 hu
    have hule : u ≤ m := Nat.le_of_dvd (by omega) u1
    rw [rs_map, ← rs_mul]
    obtain ⟨m', rfl⟩ := u1
    obtain ⟨r', rfl⟩ := u2
    have hM : M = u * ((r' : Int) + m' * n * q) := by
      rw [← hq]
      push_cast
      grind
    have hMu : M / (u : Int) = (r' : Int) + m' * n * q := by rw [hM, Int.mul_ediv_cancel_left _ (by omega)]
    rw [hMu, Nat.mul_div_cancel_left _ (by omega), Nat.mul_div_cancel_left _ (by omega)]
    have hdl : dl n (((r' : Int) + m' * n * q) * (m' : Int)) = dn n (r' * m') := by
      unfold dl dn
      refine List.filter_congr fun t _ => ?_
      cases hc : n % t == 0 with
      | false => rw [Bool.false_and, Bool.false_and]
      | true =>
        rw [Bool.true_and, Bool.true_and, Bool.eq_iff_iff, beq_iff_eq, beq_iff_eq]
        obtain ⟨n', rfl⟩ := Nat.dvd_of_mod_eq_zero (show n % t = 0 by simpa using hc)
        have e : ((r' : Int) + m' * ((t * n' : Nat) : Int) * q) * (m' : Int) = ((r' * m' : Nat) : Int) + (t : Int) * (m' * n' * q * m') := by
          push_cast
          grind
        rw [e, Int.add_mul_emod_self_left]
        omega
    rw [hdl]
    refine rs_congr fun t ht => ?_
    obtain ⟨⟨t0, -⟩, t1, t2⟩ := mem_dn.1 ht
    have htle : t ≤ n := Nat.le_of_dvd (by omega) t1
    have hut : u * t ≤ 36 := Nat.le_trans (Nat.mul_le_mul hule htle) hmn36
    obtain ⟨n', rfl⟩ := t1
    rw [hF]
    simp only
    rw [hf u t u0 t0 hut, Nat.mul_div_cancel_left _ (by omega)]
    obtain ⟨k', hk⟩ : (t : Int) ∣ ((r' : Int) + m' * ((t * n' : Nat) : Int) * q) * (m' : Int) := by
      obtain ⟨z, hz⟩ := t2
      refine ⟨(z : Int) + m' * n' * q * m', ?_⟩
      have hz : (r' : Int) * m' = t * z := by rw [← Int.natCast_mul, hz, Int.natCast_mul]
      push_cast
      grind
    rw [hk, Int.mul_ediv_cancel_left _ (by omega)]
    rw [ix_eq (x := k') (y := n') (Nat.mul_pos u0 t0) ?_]
    · grind
    · rw [hM]
      push_cast at hk ⊢
      grind
  have h2 : rs (fun d => f d * Tn f a (m * n / d / d) M) (dn m n) = rs F (l2 m n r) := by
    unfold l2 Tn
    rw [rs_flat]
    refine rs_congr fun d hd => ?_
    obtain ⟨⟨d0, -⟩, d1, d2⟩ := mem_dn.1 hd
    obtain ⟨w, hw⟩ : ∃ w, m * n = d * d * w := by
      obtain ⟨x, rfl⟩ := d1
      obtain ⟨y, rfl⟩ := d2
      exact ⟨x * y, by grind⟩
    have hdd : m * n / d / d = w := by
      rw [hw, Nat.mul_assoc, Nat.mul_div_cancel_left _ (by omega), Nat.mul_div_cancel_left _ (by omega)]
    rw [hdd, rs_map, ← rs_mul, dl_dn (n := w) hmn ⟨d * d, by rw [hw]; exact Nat.mul_comm _ _⟩, ← hr]
    refine rs_congr fun v hv => ?_
    obtain ⟨⟨v0, -⟩, v1, v2⟩ := mem_dn.1 hv
    obtain ⟨w', rfl⟩ := v1
    have hw0 : 1 ≤ w' := by
      rcases Nat.eq_zero_or_pos w' with e | e
      · subst e; simp at hw; omega
      · exact e
    have hdv : d * v ≤ 36 := by
      have h3 : d * v * 1 ≤ d * v * (d * w') := Nat.mul_le_mul_left _ (Nat.mul_pos d0 hw0)
      have h4 : d * v * (d * w') = m * n := by rw [hw]; grind
      omega
    rw [hF]
    simp only
    rw [hf d v d0 v0 hdv, Nat.mul_div_cancel_left _ (by omega)]
    obtain ⟨M', rfl⟩ : (v : Int) ∣ M := by
      rw [← hq, hw]
      obtain ⟨z, rfl⟩ := v2
      refine ⟨(z : Int) + d * d * w' * q, ?_⟩
      push_cast
      grind
    rw [Int.mul_ediv_cancel_left _ (by omega), ix_eq (x := M') (y := w') (Nat.mul_pos d0 v0) ?_]
    · grind
    · rw [hw]
      push_cast
      grind
  rw [h1, h2, rs_perm hP]
end Ab
