/- Expansions as functions of the coefficients: sums, products, and Ramanujan's equations. Plain arithmetic. -/
import Derived.Test.YtgkhcpppdadicaaGreatDoorQmE
import Derived.Test.YtgkhcpppdadicaaGreatDoorQD
set_option linter.all false
namespace Ab
open Go Go.RowKit Go.Proofs Hp
set_option maxRecDepth 100000
theorem nc_as (f g h : Nat → Rat) : nc (nc f g) h = nc f (nc g h) := funext fun k => nc_assoc f g h k
theorem nc_cm (f g : Nat → Rat) : nc f g = nc g f := funext fun k => nc_comm f g k
theorem nc_rt (f g h : Nat → Rat) : nc (nc f g) h = nc (nc f h) g := by rw [nc_as, nc_cm g h, ← nc_as]
theorem nc_o (f : Nat → Rat) : nc f one' = f := funext fun k => by
 show su (fun j => f j * one' (k - j)) (k + 1) = f k
 rw [su, su_zero (fun j hj => by unfold one'; rw [if_neg (by omega), Rat.mul_zero])]
 unfold one'
 rw [if_pos (Nat.sub_self k), Rat.mul_one, Rat.zero_add]
theorem nc_ol (f : Nat → Rat) : nc one' f = f := by rw [nc_cm, nc_o]
theorem nc_cg {f f' g g' : Nat → Rat} {n : Nat} (h : ∀ i, i ≤ n → f i = f' i) (k : ∀ i, i ≤ n → g i = g' i) : nc f g n = nc f' g' n :=
 su_congr fun j hj => by rw [h j (by omega), k (n - j) (by omega)]
theorem nc_al (f g h : Nat → Rat) (n : Nat) : nc (fun i => f i + g i) h n = nc f h n + nc g h n := by
 unfold nc
 rw [← su_add]
 exact su_congr fun j _ => Rat.add_mul ..
theorem nc_ar (f g h : Nat → Rat) (n : Nat) : nc f (fun i => g i + h i) n = nc f g n + nc f h n := by
 rw [nc_cm, nc_al, nc_cm g, nc_cm h]
theorem nc_sr (c : Rat) (f g : Nat → Rat) (n : Nat) : nc f (fun i => c * g i) n = c * nc f g n := by
 rw [nc_cm, nc_scl, nc_cm g]
theorem nc_zl (f : Nat → Rat) (n : Nat) : nc (fun _ => 0) f n = 0 := su_zero fun j _ => Rat.zero_mul _
theorem qE_app : ∀ l m : List Nat, qE (l ++ m) = nc (qE l) (qE m)
  | [], m => (nc_ol (qE m)).symm
  | k :: l, m => by
    show nc (qE (l ++ m)) (eiV k) = nc (nc (qE l) (eiV k)) (qE m)
    rw [qE_app l m, nc_rt]
theorem qE_perm {l m : List Nat} (h : l.Perm m) : qE l = qE m := by
 induction h with
 | nil => rfl
 | cons x _ ih => exact congrArg (fun f => nc f (eiV x)) ih
 | swap x y l => exact nc_rt (qE l) (eiV x) (eiV y)
 | trans _ _ h1 h2 => exact h1.trans h2
def qK (k : Ky) : List Nat := List.replicate k.2.2.toNat 6 ++ (List.replicate k.2.1.toNat 4 ++ List.replicate k.1.toNat 2)
def xP (n : Nat) (k : Ky) : Rat := qE (qK k) n
def Nn (t : QT) : Prop := 0 ≤ t.a ∧ 0 ≤ t.b ∧ 0 ≤ t.c
theorem qK_add {s t : QT} (hs : Nn s) (ht : Nn t) : qE (qK (qpr s t).k) = nc (qE (qK s.k)) (qE (qK t.k)) := by
 rw [← qE_app]
 obtain ⟨h1, h2, h3⟩ := hs
 obtain ⟨k1, k2, k3⟩ := ht
 refine qE_perm (List.perm_iff_count.2 fun k => ?_)
 unfold qK qpr QT.k
 simp only [List.count_append, List.count_replicate]
 have e1 : (s.a + t.a).toNat = s.a.toNat + t.a.toNat := by omega
 have e2 : (s.b + t.b).toNat = s.b.toNat + t.b.toNat := by omega
 have e3 : (s.c + t.c).toNat = s.c.toNat + t.c.toNat := by omega
 rw [e1, e2, e3]
 split <;> split <;> split <;> omega
theorem lf_pr (n : Nat) {s : QT} (hs : Nn s) : ∀ r : List QT, (∀ t, t ∈ r → Nn t) → qlf (xP n) (r.map (qpr s)) = s.q * nc (qE (qK s.k)) (fun i => qlf (xP i) r) n
  | [], _ => by
    show (0 : Rat) = s.q * nc _ (fun _ => 0) n
    rw [nc_cm, nc_zl, Rat.mul_zero]
  | t :: r, h => by
    have ih := lf_pr n hs r fun u hu => h u (List.mem_cons_of_mem _ hu)
    have ht := h t (List.mem_cons_self ..)
    show (s.q * t.q) * qE (qK (qpr s t).k) n + qlf (xP n) (r.map (qpr s)) = s.q * nc (qE (qK s.k)) (fun i => t.q * qE (qK t.k) i + qlf (xP i) r) n
    rw [ih, qK_add hs ht, nc_ar, nc_sr, Rat.mul_add, Rat.mul_assoc]
theorem lf_ml (n : Nat) {r : List QT} (hr : ∀ t, t ∈ r → Nn t) : ∀ p : List QT, (∀ t, t ∈ p → Nn t) → qlf (xP n) (qml p r) = nc (fun i => qlf (xP i) p) (fun i => qlf (xP i) r) n
  | [], _ => by
    show (0 : Rat) = nc (fun _ => 0) _ n
    rw [nc_zl]
  | t :: p, h => by
    have ih := lf_ml n hr p fun u hu => h u (List.mem_cons_of_mem _ hu)
    have ht := h t (List.mem_cons_self ..)
    have e : qml (t :: p) r = r.map (qpr t) ++ qml p r := by unfold qml; rw [List.flatMap_cons]
    rw [e, qlf_app, ih, lf_pr n ht r hr]
    show _ = nc (fun i => t.q * qE (qK t.k) i + qlf (xP i) p) (fun i => qlf (xP i) r) n
    rw [nc_al, nc_scl]
def thF (f : Nat → Rat) (n : Nat) : Rat := (n : Rat) * f n
theorem thF_nc (f g : Nat → Rat) (n : Nat) : thF (nc f g) n = nc (thF f) g n + nc f (thF g) n := by
 unfold thF nc
 rw [← su_add, ← su_mul]
 refine su_congr fun j hj => ?_
 have e : (n : Rat) = (j : Rat) + ((n - j : Nat) : Rat) := by rw [← Rat.natCast_add]; congr 1; omega
 rw [e]
 show ((j : Rat) + ((n - j : Nat) : Rat)) * (f j * g (n - j)) = ((j : Rat) * f j) * g (n - j) + f j * (((n - j : Nat) : Rat) * g (n - j))
 clear e
 generalize (j : Rat) = x
 generalize ((n - j : Nat) : Rat) = y
 grind
theorem thF_rep (k : Nat) : ∀ a n, thF (qE (List.replicate (a + 1) k)) n = ((a + 1 : Nat) : Rat) * nc (qE (List.replicate a k)) (thF (eiV k)) n
  | 0, n => by
    show thF (nc one' (eiV k)) n = ((1 : Nat) : Rat) * nc one' (thF (eiV k)) n
    rw [nc_ol, nc_ol]
    exact (Rat.one_mul _).symm
  | a + 1, n => by
    show thF (nc (qE (List.replicate (a + 1) k)) (eiV k)) n = _
    have e : thF (qE (List.replicate (a + 1) k)) = fun i => ((a + 1 : Nat) : Rat) * nc (qE (List.replicate a k)) (thF (eiV k)) i := funext (thF_rep k a)
    have e2 : nc (nc (qE (List.replicate a k)) (eiV k)) (thF (eiV k)) = nc (qE (List.replicate (a + 1) k)) (thF (eiV k)) := rfl
    have e3 : ((a + 1 + 1 : Nat) : Rat) = ((a + 1 : Nat) : Rat) + 1 := Rat.natCast_add ..
    rw [thF_nc, e, nc_scl, nc_rt, e2, e3, Rat.add_mul, Rat.one_mul]
def rD (k : Nat) : Nat := if k = 2 then 12 else if k = 4 then 3 else 2
def rP (k : Nat) : List Nat := if k = 2 then [2, 2] else if k = 4 then [2, 4] else [2, 6]
def rM (k : Nat) : List Nat := if k = 2 then [4] else if k = 4 then [6] else [4, 4]
theorem rP_all {k : Nat} (h : w246 k) : all246 (rP k) := by rcases h with rfl | rfl | rfl <;> (intro x hx; simp [rP] at hx; unfold w246; omega)
theorem rM_all {k : Nat} (h : w246 k) : all246 (rM k) := by rcases h with rfl | rfl | rfl <;> (intro x hx; simp [rM] at hx; unfold w246; omega)
def ramZ : Bool := [2, 4, 6].all fun k => (List.range 13).all fun n => decide ((rD k : Int) * (n * eiZ k n) = zE (rP k) n - zE (rM k) n)
theorem ramZ_ok : ramZ = true := by decide +kernel
theorem ram {k n : Nat} (hk : w246 k) (hn : n ≤ 12) : thF (eiV k) n = 1 / (rD k : Rat) * (qE (rP k) n - qE (rM k) n) := by
 have h := List.all_eq_true.1 ramZ_ok k (by rcases hk with rfl | rfl | rfl <;> decide)
 have h := of_decide_eq_true (List.all_eq_true.1 h n (List.mem_range.2 (by omega)))
 have h := congrArg (fun z : Int => (z : Rat)) h
 simp only [Rat.intCast_mul, Rat.intCast_sub] at h
 rw [← eiV_Z hk, ← qE_Z _ (rP_all hk), ← qE_Z _ (rM_all hk)] at h
 unfold thF
 have e : ((n : Int) : Rat) = (n : Rat) := rfl
 have e2 : (((rD k : Nat) : Int) : Rat) = (rD k : Rat) := rfl
 rw [e, e2] at h
 generalize (n : Rat) * eiV k n = x at *
 rw [← h]
 rcases hk with rfl | rfl | rfl
 ·show x = 1 / (12 : Rat) * ((12 : Rat) * x)
  grind
 ·show x = 1 / (3 : Rat) * ((3 : Rat) * x)
  grind
 ·show x = 1 / (2 : Rat) * ((2 : Rat) * x)
  grind
theorem thF_one (n : Nat) : thF one' n = 0 := by
 unfold thF one'
 by_cases h : n = 0
 ·subst h
  exact Rat.zero_mul _
 ·rw [if_neg h, Rat.mul_zero]
theorem thF_pw {k a i : Nat} (hk : w246 k) (hi : i ≤ 12) : thF (qE (List.replicate a k)) i = (a : Rat) * (1 / (rD k : Rat)) * (qE (List.replicate (a - 1) k ++ rP k) i - qE (List.replicate (a - 1) k ++ rM k) i) := by
 rcases a with _ | a
 ·show thF one' i = ((0 : Nat) : Rat) * _ * _
  rw [thF_one, show ((0 : Nat) : Rat) = 0 from rfl, Rat.zero_mul, Rat.zero_mul]
 ·have e : nc (qE (List.replicate a k)) (thF (eiV k)) i = nc (qE (List.replicate a k)) (fun j => 1 / (rD k : Rat) * (qE (rP k) j + -1 * qE (rM k) j)) i := nc_cg (fun _ _ => rfl) fun j hj => by
   rw [ram hk (by omega)]
   congr 1
   grind
  rw [thF_rep, e, nc_sr, nc_ar, nc_sr, ← qE_app, ← qE_app, show a + 1 - 1 = a from rfl, Rat.mul_assoc]
  congr 2
  grind
theorem thF_pm {k a n : Nat} (hk : w246 k) (hn : n ≤ 12) (m : List Nat) : nc (thF (qE (List.replicate a k))) (qE m) n = (a : Rat) * (1 / (rD k : Rat)) * (qE (List.replicate (a - 1) k ++ (rP k ++ m)) n - qE (List.replicate (a - 1) k ++ (rM k ++ m)) n) := by
 have e : nc (thF (qE (List.replicate a k))) (qE m) n = nc (fun i => (a : Rat) * (1 / (rD k : Rat)) * (qE (List.replicate (a - 1) k ++ rP k) i + -1 * qE (List.replicate (a - 1) k ++ rM k) i)) (qE m) n := nc_cg (fun i hi => by
  rw [thF_pw hk (by omega)]
  congr 1
  grind) fun _ _ => rfl
 rw [e, nc_scl, nc_al, nc_scl, ← qE_app, ← qE_app, List.append_assoc, List.append_assoc]
 congr 1
 grind
theorem K_eq {l : List Nat} {k : Ky} (h : ∀ x, l.count x = (qK k).count x) (n : Nat) : qE l n = xP n k := by
 unfold xP
 rw [qE_perm (List.perm_iff_count.2 h)]
theorem thF_key {a b c n : Nat} (hn : n ≤ 12) : (n : Rat) * xP n ((a : Int), (b : Int), (c : Int)) =
  (a : Rat) * (1 / 12) * (xP n ((a : Int) + 1, (b : Int), (c : Int)) - xP n ((a : Int) - 1, (b : Int) + 1, (c : Int))) +
  (b : Rat) * (1 / 3) * (xP n ((a : Int) + 1, (b : Int), (c : Int)) - xP n ((a : Int), (b : Int) - 1, (c : Int) + 1)) +
  (c : Rat) * (1 / 2) * (xP n ((a : Int) + 1, (b : Int), (c : Int)) - xP n ((a : Int), (b : Int) + 2, (c : Int) - 1)) := by
 have h0 : (n : Rat) * xP n ((a : Int), (b : Int), (c : Int)) = thF (nc (qE (List.replicate c 6)) (nc (qE (List.replicate b 4)) (qE (List.replicate a 2)))) n := by
  rw [← qE_app, ← qE_app]
  rfl
 have h1 : nc (qE (List.replicate c 6)) (thF (nc (qE (List.replicate b 4)) (qE (List.replicate a 2)))) n = nc (qE (List.replicate c 6)) (fun i => nc (thF (qE (List.replicate b 4))) (qE (List.replicate a 2)) i + nc (qE (List.replicate b 4)) (thF (qE (List.replicate a 2))) i) n := nc_cg (fun _ _ => rfl) fun i _ => thF_nc _ _ i
 rw [h0, thF_nc, h1, nc_ar]
 have h2 : nc (qE (List.replicate c 6)) (nc (thF (qE (List.replicate b 4))) (qE (List.replicate a 2))) n = nc (thF (qE (List.replicate b 4))) (qE (List.replicate c 6 ++ List.replicate a 2)) n := by
  rw [qE_app, ← nc_as, ← nc_as, nc_cm (qE (List.replicate c 6))]
 have h3 : nc (qE (List.replicate c 6)) (nc (qE (List.replicate b 4)) (thF (qE (List.replicate a 2)))) n = nc (thF (qE (List.replicate a 2))) (qE (List.replicate c 6 ++ List.replicate b 4)) n := by
  rw [qE_app, ← nc_as, nc_cm]
 rw [h2, h3, ← qE_app, thF_pm (.inr (.inr rfl)) hn, thF_pm (.inr (.inl rfl)) hn, thF_pm (.inl rfl) hn]
 have z : ∀ x y : Rat, ((0 : Nat) : Rat) * x * y = 0 := fun x y => by rw [show ((0 : Nat) : Rat) = 0 from rfl, Rat.zero_mul, Rat.zero_mul]
 have ec : (c : Rat) * (1 / (rD 6 : Rat)) * (qE (List.replicate (c - 1) 6 ++ (rP 6 ++ (List.replicate b 4 ++ List.replicate a 2))) n - qE (List.replicate (c - 1) 6 ++ (rM 6 ++ (List.replicate b 4 ++ List.replicate a 2))) n) = (c : Rat) * (1 / 2) * (xP n ((a : Int) + 1, (b : Int), (c : Int)) - xP n ((a : Int), (b : Int) + 2, (c : Int) - 1)) := by
  rcases c with _ | c
  ·rw [z, z]
  ·rw [K_eq (k := ((a : Int) + 1, (b : Int), ((c + 1 : Nat) : Int))) (fun x => ?_), K_eq (k := ((a : Int), (b : Int) + 2, ((c + 1 : Nat) : Int) - 1)) (fun x => ?_)]
   ·rfl
   all_goals
    unfold qK
    try unfold rP
    try unfold rM
    simp only [List.count_append, List.count_replicate, List.count_cons, List.count_nil, show (6 : Nat) ≠ 2 by decide, show (6 : Nat) ≠ 4 by decide, if_false, show ((a : Int) + 1).toNat = a + 1 by omega, Int.toNat_natCast, show ((b : Int) + 2).toNat = b + 2 by omega, show (((c + 1 : Nat) : Int) - 1).toNat = c by omega, Nat.add_sub_cancel]
    repeat' split
    all_goals simp_all
    all_goals omega
 have eb : (b : Rat) * (1 / (rD 4 : Rat)) * (qE (List.replicate (b - 1) 4 ++ (rP 4 ++ (List.replicate c 6 ++ List.replicate a 2))) n - qE (List.replicate (b - 1) 4 ++ (rM 4 ++ (List.replicate c 6 ++ List.replicate a 2))) n) = (b : Rat) * (1 / 3) * (xP n ((a : Int) + 1, (b : Int), (c : Int)) - xP n ((a : Int), (b : Int) - 1, (c : Int) + 1)) := by
  rcases b with _ | b
  ·rw [z, z]
  ·rw [K_eq (k := ((a : Int) + 1, ((b + 1 : Nat) : Int), (c : Int))) (fun x => ?_), K_eq (k := ((a : Int), ((b + 1 : Nat) : Int) - 1, (c : Int) + 1)) (fun x => ?_)]
   ·rfl
   all_goals
    unfold qK
    try unfold rP
    try unfold rM
    simp only [List.count_append, List.count_replicate, List.count_cons, List.count_nil, show (4 : Nat) ≠ 2 by decide, if_false, if_true, show ((a : Int) + 1).toNat = a + 1 by omega, Int.toNat_natCast, show ((c : Int) + 1).toNat = c + 1 by omega, show (((b + 1 : Nat) : Int) - 1).toNat = b by omega, Nat.add_sub_cancel]
    repeat' split
    all_goals simp_all
    all_goals omega
 have ea : (a : Rat) * (1 / (rD 2 : Rat)) * (qE (List.replicate (a - 1) 2 ++ (rP 2 ++ (List.replicate c 6 ++ List.replicate b 4))) n - qE (List.replicate (a - 1) 2 ++ (rM 2 ++ (List.replicate c 6 ++ List.replicate b 4))) n) = (a : Rat) * (1 / 12) * (xP n ((a : Int) + 1, (b : Int), (c : Int)) - xP n ((a : Int) - 1, (b : Int) + 1, (c : Int))) := by
  rcases a with _ | a
  ·rw [z, z]
  ·rw [K_eq (k := (((a + 1 : Nat) : Int) + 1, (b : Int), (c : Int))) (fun x => ?_), K_eq (k := (((a + 1 : Nat) : Int) - 1, (b : Int) + 1, (c : Int))) (fun x => ?_)]
   ·rfl
   all_goals
    unfold qK
    try unfold rP
    try unfold rM
    simp only [List.count_append, List.count_replicate, List.count_cons, List.count_nil, if_true, show (((a + 1 : Nat) : Int) + 1).toNat = a + 2 by omega, Int.toNat_natCast, show ((b : Int) + 1).toNat = b + 1 by omega, show (((a + 1 : Nat) : Int) - 1).toNat = a by omega, Nat.add_sub_cancel]
    repeat' split
    all_goals simp_all
    all_goals omega
 rw [ec, eb, ea]
 generalize (a : Rat) * (1 / 12) * _ = x
 generalize (b : Rat) * (1 / 3) * _ = y
 generalize (c : Rat) * (1 / 2) * _ = w
 grind
theorem lf_ad (n : Nat) (t : QT) (m d a b c : Int) : qlf (xP n) (qad t m d a b c) = t.q * ((m : Rat) / (d : Rat)) * xP n (t.a + a, t.b + b, t.c + c) := by
 unfold qad
 split
 ·rename_i h
  rw [h]
  show (0 : Rat) = _
  rw [show ((0 : Int) : Rat) = 0 from rfl]
  grind
 ·show t.q * ((m : Rat) / (d : Rat)) * xP n _ + 0 = _
  rw [Rat.add_zero]
  rfl
theorem lf_d1 {n : Nat} (hn : n ≤ 12) {t : QT} (h : Nn t) : qlf (xP n) (qd1 t) = (n : Rat) * (t.q * xP n t.k) := by
 obtain ⟨ta, tb, tc, q⟩ := t
 obtain ⟨h1, h2, h3⟩ := h
 simp only at h1 h2 h3
 obtain ⟨a, rfl⟩ : ∃ a : Nat, ta = a := ⟨ta.toNat, by omega⟩
 obtain ⟨b, rfl⟩ : ∃ a : Nat, tb = a := ⟨tb.toNat, by omega⟩
 obtain ⟨c, rfl⟩ : ∃ a : Nat, tc = a := ⟨tc.toNat, by omega⟩
 have h := thF_key (a := a) (b := b) (c := c) hn
 unfold qd1
 simp only [qlf_app, lf_ad]
 show _ = (n : Rat) * (q * xP n ((a : Int), (b : Int), (c : Int)))
 have e : (n : Rat) * (q * xP n ((a : Int), (b : Int), (c : Int))) = q * ((n : Rat) * xP n ((a : Int), (b : Int), (c : Int))) := by grind
 rw [e, h]
 have i : ∀ x : Nat, ((x : Int) : Rat) = (x : Rat) := fun _ => rfl
 have j : ∀ x : Nat, ((-(x : Int) : Int) : Rat) = -(x : Rat) := fun x => by rw [Rat.intCast_neg]; rfl
 have k12 : ((12 : Int) : Rat) = 12 := rfl
 have k3 : ((3 : Int) : Rat) = 3 := rfl
 have k2 : ((2 : Int) : Rat) = 2 := rfl
 simp only [Int.add_zero, i, j, k12, k3, k2, ← Int.sub_eq_add_neg, show ∀ x : Int, x + -1 = x - 1 from fun _ => rfl]
 generalize xP n ((a : Int) + 1, (b : Int), (c : Int)) = X
 generalize xP n ((a : Int) - 1, (b : Int) + 1, (c : Int)) = Y
 generalize xP n ((a : Int), (b : Int) - 1, (c : Int) + 1) = Z
 generalize xP n ((a : Int), (b : Int) + 2, (c : Int) - 1) = W
 generalize (a : Rat) = a'
 generalize (b : Rat) = b'
 generalize (c : Rat) = c'
 grind
theorem lf_dv {n : Nat} (hn : n ≤ 12) : ∀ p : List QT, (∀ t, t ∈ p → Nn t) → qlf (xP n) (qdv p) = (n : Rat) * qlf (xP n) p
  | [], _ => (Rat.mul_zero _).symm
  | t :: p, h => by
    have e : qdv (t :: p) = qd1 t ++ qdv p := by unfold qdv; rw [List.flatMap_cons]
    rw [e, qlf_app, lf_d1 hn (h t (List.mem_cons_self ..)), lf_dv hn p fun u hu => h u (List.mem_cons_of_mem _ hu), qlf, Rat.mul_add]
end Ab
