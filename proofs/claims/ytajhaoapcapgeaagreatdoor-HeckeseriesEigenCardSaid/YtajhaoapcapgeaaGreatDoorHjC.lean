/- The coefficients that a list of numbers at the primes determines: plain. The coefficients that a list of numbers at the primes determines, in the program, walked. The series that a list of numbers at the primes determines, in the program, walked. -/
import Derived.Test.YtajhaoapcapgeaaGreatDoorHjB
import Derived.Test.YtajhaoapcapgeaaGreatDoorMaps
set_option linter.all false
namespace Ab
open Go Go.RowKit Go.Proofs Hp
set_option maxRecDepth 100000

def eVal (N k d : Int) (ap : Nat → Rat) (n : Nat) (prev : List Rat) : Rat :=
  if n = 1 then 1 else match Kr.facA 40 2 n with
  | [] => 0
  | (p, e) :: _ => if p ^ e < n then prev.getD (p ^ e) 0 * prev.getD (n / p ^ e) 0 else if p ^ e = p then ap p else ap p * prev.getD (n / p) 0 - facQ N k d p * prev.getD (n / p / p) 0
def eL (N k d : Int) (ap : Nat → Rat) : Nat → List Rat
  | 0 => []
  | n + 1 => eL N k d ap n ++ [if n = 0 then 0 else eVal N k d ap n (eL N k d ap n)]
/-- the n-th coefficient -/
def eV (N k d : Int) (ap : Nat → Rat) (n : Nat) : Rat := if n = 0 then 0 else eVal N k d ap n (eL N k d ap n)
theorem eL_eq (N k d : Int) (ap : Nat → Rat) : ∀ m, eL N k d ap m = (List.range m).map (eV N k d ap)
  | 0 => rfl
  | m + 1 => by
    rw [List.range_succ, List.map_append, ← eL_eq N k d ap m]
    rfl
theorem eL_get {N k d : Int} {ap : Nat → Rat} {m i : Nat} (h : i < m) : (eL N k d ap m).getD i 0 = eV N k d ap i := by
  rw [eL_eq, List.getD_eq_getElem?_getD, List.getElem?_map, List.getElem?_range h]
  rfl
def chkE (n : Nat) : Bool := Kr.okA 40 2 (n + 2) && (match Kr.facA 40 2 (n + 2) with
  | [] => false
  | (p, e) :: l => Nat.ble 2 p && Nat.ble p (n + 2) && Nat.ble 1 e && Nat.ble e 10 && Nat.beq ((n + 2) % p ^ e) 0 && Nat.ble (p ^ e) (n + 2) && Nat.ble 2 (p ^ e) && Nat.ble l.length 100 && (Nat.blt (p ^ e) (n + 2) || Nat.beq (p ^ e) p || (Nat.ble 1 ((n + 2) / p / p) && Nat.beq (p ^ e) (n + 2))))
theorem chkE_all : Kr.allB 900 chkE = true := by decide +kernel
theorem facE {n : Nat} (h2 : 2 ≤ n) (h : n ≤ 900) : ∃ p e l, Kr.okA 40 2 n = true ∧ Kr.facA 40 2 n = (p, e) :: l ∧ 2 ≤ p ∧ p ≤ n ∧ 1 ≤ e ∧ e ≤ 10 ∧ n % p ^ e = 0 ∧ p ^ e ≤ n ∧ 2 ≤ p ^ e ∧ l.length ≤ 100 ∧ (p ^ e < n ∨ p ^ e = p ∨ 1 ≤ n / p / p ∧ p ^ e = n) := by
  have hc := Kr.allB_at chkE_all (i := n - 2) (by omega)
  unfold chkE at hc
  rw [show n - 2 + 2 = n by omega] at hc
  cases hf : Kr.facA 40 2 n with
  | nil => rw [hf] at hc; simp at hc
  | cons q l =>
    obtain ⟨p, e⟩ := q
    rw [hf] at hc
    simp only [Bool.and_eq_true, Bool.or_eq_true] at hc
    obtain ⟨h0, ⟨⟨⟨⟨⟨⟨⟨c1, c2⟩, c3⟩, c4⟩, c5⟩, c6⟩, c7⟩, c8⟩, c9⟩ := hc
    refine ⟨p, e, l, h0, rfl, Nat.le_of_ble_eq_true c1, Nat.le_of_ble_eq_true c2, Nat.le_of_ble_eq_true c3, Nat.le_of_ble_eq_true c4, Nat.eq_of_beq_eq_true c5, Nat.le_of_ble_eq_true c6, Nat.le_of_ble_eq_true c7, Nat.le_of_ble_eq_true c8, ?_⟩
    rcases c9 with (c | c) | ⟨c, c'⟩
    · exact .inl (Nat.le_of_ble_eq_true c)
    · exact .inr (.inl (Nat.eq_of_beq_eq_true c))
    · exact .inr (.inr ⟨Nat.le_of_ble_eq_true c, Nat.eq_of_beq_eq_true c'⟩)
/-- the list that is filled -/
def eA (V : Nat → Rat) (P j : Nat) : List AV := (List.range P).map fun i => if 1 ≤ i ∧ i < j then encQ (V i) else rz
theorem eA_get {V : Nat → Rat} {P j i : Nat} (h1 : 1 ≤ i) (h2 : i < j) (h3 : i < P) : (eA V P j)[i]? = some (encQ (V i)) := by
  unfold eA
  rw [List.getElem?_map, List.getElem?_range h3]
  simp [h1, h2]
theorem eA_set {V : Nat → Rat} {P j : Nat} (h1 : 1 ≤ j) : (eA V P j).set j (encQ (V j)) = eA V P (j + 1) := by
  unfold eA
  refine range_set P j _ ?_ fun i hi hne => ?_
  · show (if 1 ≤ j ∧ j < j + 1 then encQ (V j) else rz) = _
    rw [if_pos ⟨h1, by omega⟩]
  · show (if 1 ≤ i ∧ i < j + 1 then encQ (V i) else rz) = (if 1 ≤ i ∧ i < j then encQ (V i) else rz)
    by_cases c : 1 ≤ i ∧ i < j
    · rw [if_pos c, if_pos ⟨c.1, by omega⟩]
    · rw [if_neg c, if_neg (fun h => c ⟨h.1, by omega⟩)]
theorem eA_len {V : Nat → Rat} {P j : Nat} : (eA V P j).length = P := by unfold eA; simp
theorem eA_one {V : Nat → Rat} {P : Nat} : List.replicate P rz = eA V P 1 := by
  unfold eA
  refine rep_range P rz fun i hi => ?_
  rw [if_neg (by omega)]
end Ab
namespace Ab
open Go Go.RowKit Go.Proofs Hp
set_option maxRecDepth 100000

theorem eV_cases {N k d : Int} {ap : Nat → Rat} {n p e : Nat} {l : List (Nat × Nat)} (h2 : 2 ≤ n) (hf : Kr.facA 40 2 n = (p, e) :: l) (hp : 2 ≤ p) (hq2 : 2 ≤ p ^ e) :
    eV N k d ap n = if p ^ e < n then eV N k d ap (p ^ e) * eV N k d ap (n / p ^ e) else if p ^ e = p then ap p else ap p * eV N k d ap (n / p) - facQ N k d p * eV N k d ap (n / p / p) := by
  have h0 : eV N k d ap n = eVal N k d ap n (eL N k d ap n) := by unfold eV; rw [if_neg (by omega)]
  rw [h0]
  unfold eVal
  rw [if_neg (by omega), hf]
  have hd1 : n / p ^ e < n := Nat.div_lt_self (by omega) (by omega)
  have hd2 : n / p < n := Nat.div_lt_self (by omega) (by omega)
  have hd3 : n / p / p < n := Nat.lt_of_le_of_lt (Nat.div_le_self _ _) hd2
  by_cases c : p ^ e < n
  · simp only [if_pos c]
    rw [eL_get c, eL_get hd1]
  · simp only [if_neg c]
    by_cases c2 : p ^ e = p
    · rw [if_pos c2, if_pos c2]
    · rw [if_neg c2, if_neg c2, eL_get hd2, eL_get hd3]
theorem eA_ge {V : Nat → Rat} {P j : Nat} (h : P ≤ j) : eA V P j = eA V P P := by
  unfold eA
  refine range_congr P fun i hi => ?_
  by_cases c : 1 ≤ i
  · rw [if_pos ⟨c, by omega⟩, if_pos ⟨c, hi⟩]
  · rw [if_neg (fun h => c h.1), if_neg (fun h => c h.1)]
theorem zero_rep (w : World) (M : Nat → Prop) : ∃ zv, (zeroValue 49).run Tryz.prog w = .ok zv w ∧ Rep w M rz zv := by
  refine ⟨.agg #[.bool false, .slice none 0 0, .bool false, .slice none 0 0], by kernel_rfl, ?_⟩
  refine .agg _ _ rfl (fun e he => ?_) (fun i e u hi hu => ?_)
  · simp at he
    rcases he with rfl | rfl | rfl | rfl <;> rfl
  · rcases i with _ | _ | _ | _ | i
    · simp at hi hu; subst hi hu; exact .p _ rfl
    · simp at hi hu; subst hi hu; exact .emp _ _
    · simp at hi hu; subst hi hu; exact .p _ rfl
    · simp at hi hu; subst hi hu; exact .emp _ _
    · simp at hi
set_option maxHeartbeats 8000000 in
theorem euler_p {N k d : Int} {l : List (Int × AV)} {ap : Nat → Rat} {K H P : Nat} (hN : Bn 4000000000000000000 N) (hk : 1 ≤ k ∧ k ≤ 60) (hd : Bn 4000000000000000000 d) (hap : ∀ p : Nat, IsV ((mlook l (p : Int)).getD rz) K (ap p)) (hK : 1 ≤ K ∧ K ≤ 100000000) (hV : ∀ i, i < P → Ht (eV N k d ap i) H) (hH : H ≤ 100000000) (hP : P ≤ 900) :
    PCM true Tryz.prog 94 [.v (specA N k d), .mp 0, .v (iV P)] [(0, .mp (mkE l))] true (.v (.sl (eA (eV N k d ap) P P))) [(0, .mp (mkE l))] := by
  have hcase := fun n p e (l : List (Nat × Nat)) => eV_cases (N := N) (k := k) (d := d) (ap := ap) (n := n) (p := p) (e := e) (l := l)
  have hV1 : eV N k d ap 1 = 1 := rfl
  have hmt : Tryz.prog.underlying 110 = some (.map 3 49) := by kernel_rfl
  generalize eV N k d ap = V at *
  unfold specA
  refine pc_bodyM Tryz.func94 rfl rfl rfl (Nat.le_of_ble_eq_true rfl) ?_
  refine goA ?_
  refine evG ggA (ss_make 14 (e0 := rz) (InB_of rfl) (make_tab rfl) rfl rfl rfl (by omega) (by omega) (by omega) (by omega) rfl rfl rfl) ?_
  refine goA ?_
  refine T.loop (fun x s1 => ∃ j : Nat, x = P + 1 - j ∧ 1 ≤ j ∧ (j ≤ P ∨ j = 1) ∧ s1 = mkP [(1, .mp 0), (2, .v (iV P)), (3, .ptr 3 0), (7, .own 14 P), (8, .v (iV j))] [(0, .mp (mkE l)), (3, .var [.v (iV N), .v (iV k), .v (iV d)]), (14, .lst 4 49 (eA V P j))] 101 true [0]) P
    (s' := mkP [(1, .mp 0), (2, .v (iV P)), (3, .ptr 3 0), (7, .own 14 P), (8, .v (iV 1))] [(0, .mp (mkE l)), (3, .var [.v (iV N), .v (iV k), .v (iV d)]), (14, .lst 4 49 (List.replicate P rz))] 101 true [0]) (by (refine Ent.mkP rfl rfl rfl rfl ?_ ?_ <;> (repeat (first | exact trivial | exact ⟨_, rfl, .inl ⟨rfl, ⟨_, rfl⟩, ⟨_, rfl⟩, trivial⟩⟩ | exact ⟨_, rfl, .inl ⟨rfl, ⟨_, rfl⟩, trivial⟩⟩ | refine And.intro ?_ ?_ | exact ⟨_, rfl, .inl ⟨rfl, trivial⟩⟩ | exact ⟨_, rfl, .inl ⟨rfl, _, rfl⟩⟩ | exact .inl ⟨rfl, trivial⟩ | exact .inl ⟨rfl, _, rfl⟩ | exact ⟨_, rfl, .inr (.inl ⟨rfl, rfl⟩)⟩ | exact .inr (.inl ⟨rfl, rfl⟩) | exact ⟨_, rfl, .inr (.inr (.inl ⟨_, _, _, _, _, rfl, rfl, by first | rfl | assumption | simp, rfl, rfl⟩))⟩ | exact .inr (.inr (.inl ⟨_, _, _, _, _, rfl, rfl, by first | rfl | assumption | simp, rfl, rfl⟩)) | exact ⟨_, rfl, .inr (.inr (.inr ⟨_, _, _, rfl, rfl, rfl, rfl⟩))⟩ | exact .inr (.inr (.inr ⟨_, _, _, rfl, rfl, rfl, rfl⟩)) | rfl)))) ⟨1, rfl, Nat.le_refl _, .inr rfl, by rw [eA_one]; rfl⟩ ?_
  rintro x _ ⟨j, rfl, j1, j2, rfl⟩
  have hel : (eA V P j).length = P := eA_len
  by_cases hjP : j < P
  · have kj : decide ((j : Int) < (P : Int)) = true := decide_eq_true (by omega)
    have hset : eA V P (j + 1) = (eA V P j).set ((j : Nat) : Int).toNat (encQ (V j)) := by rw [Int.toNat_natCast]; exact (eA_set j1).symm
    by_cases hj1 : j = 1
    · subst hj1
      have k1 : (((1 : Nat) : Int) == 1) = true := rfl
      have c1 := rof_p 1 (by decide) (by decide)
      have c1 : PC Tryz.prog 56 [.p (.int .i64 1)] (encQ (V 1)) := by rw [hV1]; exact c1
      refine goA ?_
      refine evG ggA (ss_call (InB_of rfl) rfl rfl c1) ?_
      refine evG ggA (ss_index_own (InB_of rfl) (elem_tab rfl) rfl rfl hel rfl (by omega) (by omega)) ?_
      refine evG ggA (ss_store_own (x := encQ (V 1)) rfl (size_tab rfl) rfl rfl hel (by omega) rfl rfl (fun l e => by cases e) rfl) ?_
      refine goA ?_
      exact loopQ_intro (k := P + 1 - (1 + 1)) (s' := mkP [(1, .mp 0), (2, .v (iV P)), (3, .ptr 3 0), (7, .own 14 P), (8, .v (iV ((2 : Nat) : Int)))] [(0, .mp (mkE l)), (3, .var [.v (iV N), .v (iV k), .v (iV d)]), (14, .lst 4 49 ((eA V P 1).set ((1 : Nat) : Int).toNat (encQ (V 1))))] 101 true [0]) (by omega) (by (refine Ent.mkP rfl rfl rfl rfl ?_ ?_ <;> (repeat (first | exact trivial | exact ⟨_, rfl, .inl ⟨rfl, ⟨_, rfl⟩, ⟨_, rfl⟩, trivial⟩⟩ | exact ⟨_, rfl, .inl ⟨rfl, ⟨_, rfl⟩, trivial⟩⟩ | refine And.intro ?_ ?_ | exact ⟨_, rfl, .inl ⟨rfl, trivial⟩⟩ | exact ⟨_, rfl, .inl ⟨rfl, _, rfl⟩⟩ | exact .inl ⟨rfl, trivial⟩ | exact .inl ⟨rfl, _, rfl⟩ | exact ⟨_, rfl, .inr (.inl ⟨rfl, rfl⟩)⟩ | exact .inr (.inl ⟨rfl, rfl⟩) | exact ⟨_, rfl, .inr (.inr (.inl ⟨_, _, _, _, _, rfl, rfl, by first | rfl | assumption | simp, rfl, rfl⟩))⟩ | exact .inr (.inr (.inl ⟨_, _, _, _, _, rfl, rfl, by first | rfl | assumption | simp, rfl, rfl⟩)) | exact ⟨_, rfl, .inr (.inr (.inr ⟨_, _, _, rfl, rfl, rfl, rfl⟩))⟩ | exact .inr (.inr (.inr ⟨_, _, _, rfl, rfl, rfl, rfl⟩)) | rfl)))) ⟨1 + 1, rfl, by omega, .inl (by omega), by rw [hset]⟩
    · have k1 : ((j : Int) == 1) = false := by rw [beq_eq_false_iff_ne]; omega
      obtain ⟨p, e, fl, hok, hf, f1, f2, f3, f4, f5, f6, f7, f8, f9⟩ := facE (n := j) (by omega) (by omega)
      have cfa := factorP_p hok (by omega) (by omega) (by rw [hf]; simp; omega)
      rw [hf] at cfa
      have cfa : PC Tryz.prog 133 [iV j] (.tup [.sl (.agg [iV (p : Int), iV (e : Int)] :: fl.map fP), iV 0]) := cfa
      have hVj := hcase j p e fl (by omega) hf f1 f7
      clear hok hf hcase
      generalize fl.map fP = FL at *
      have e0 : (.agg [iV (p : Int), iV (e : Int)] :: FL)[(0 : Int).toNat]? = some (.agg [iV (p : Int), iV (e : Int)]) := rfl
      have hq900 : p ^ e ≤ 900 := by omega
      refine goA ?_
      refine evG ggA (ss_call (InB_of rfl) rfl rfl cfa) ?_
      refine goA ?_
      refine evG ggA (ss_index_sl (x := .agg [iV (p : Int), iV (e : Int)]) (i := 0) (InB_of rfl) (elem_tab rfl) rfl rfl (by decide) e0 rfl) ?_
      refine goA ?_
      refine evG ggA (ss_index_sl (x := .agg [iV (p : Int), iV (e : Int)]) (i := 0) (InB_of rfl) (elem_tab rfl) rfl rfl (by decide) e0 rfl) ?_
      refine goA ?_
      refine T.loop (fun y s1 => ∃ i : Nat, y = e - i ∧ i ≤ e ∧ s1 = mkP [(1, .mp 0), (2, .v (iV P)), (3, .ptr 3 0), (7, .own 14 P), (8, .v (iV j)), (11, .v (iV p)), (12, .v (iV ((p ^ i : Nat) : Int))), (38, .v (iV e)), (39, .v (iV i))] [(0, .mp (mkE l)), (3, .var [.v (iV N), .v (iV k), .v (iV d)]), (14, .lst 4 49 (eA V P j))] 101 true [0]) e
        (s' := mkP [(1, .mp 0), (2, .v (iV P)), (3, .ptr 3 0), (7, .own 14 P), (8, .v (iV j)), (11, .v (iV p)), (12, .v (iV ((p ^ 0 : Nat) : Int))), (38, .v (iV e)), (39, .v (iV (0 : Nat)))] [(0, .mp (mkE l)), (3, .var [.v (iV N), .v (iV k), .v (iV d)]), (14, .lst 4 49 (eA V P j))] 101 true [0]) (by (refine Ent.mkP rfl rfl rfl rfl ?_ ?_ <;> (repeat (first | exact trivial | exact ⟨_, rfl, .inl ⟨rfl, ⟨_, rfl⟩, ⟨_, rfl⟩, trivial⟩⟩ | exact ⟨_, rfl, .inl ⟨rfl, ⟨_, rfl⟩, trivial⟩⟩ | refine And.intro ?_ ?_ | exact ⟨_, rfl, .inl ⟨rfl, trivial⟩⟩ | exact ⟨_, rfl, .inl ⟨rfl, _, rfl⟩⟩ | exact .inl ⟨rfl, trivial⟩ | exact .inl ⟨rfl, _, rfl⟩ | exact ⟨_, rfl, .inr (.inl ⟨rfl, rfl⟩)⟩ | exact .inr (.inl ⟨rfl, rfl⟩) | exact ⟨_, rfl, .inr (.inr (.inl ⟨_, _, _, _, _, rfl, rfl, by first | rfl | assumption | simp, rfl, rfl⟩))⟩ | exact .inr (.inr (.inl ⟨_, _, _, _, _, rfl, rfl, by first | rfl | assumption | simp, rfl, rfl⟩)) | exact ⟨_, rfl, .inr (.inr (.inr ⟨_, _, _, rfl, rfl, rfl, rfl⟩))⟩ | exact .inr (.inr (.inr ⟨_, _, _, rfl, rfl, rfl, rfl⟩)) | rfl)))) ⟨0, rfl, Nat.zero_le _, rfl⟩ ?_
      rintro y _ ⟨i, rfl, hi, rfl⟩
      by_cases hie : i < e
      · have ki : decide ((i : Int) < (e : Int)) = true := decide_eq_true (by omega)
        have hle : p ^ (i + 1) ≤ p ^ e := Nat.pow_le_pow_right (by omega) (by omega)
        have hm : ((p ^ i : Nat) : Int) * (p : Int) = ((p ^ (i + 1) : Nat) : Int) := by rw [Nat.pow_succ]; push_cast; rfl
        refine goA ?_
        exact loopQ_intro (k := e - (i + 1)) (s' := mkP [(1, .mp 0), (2, .v (iV P)), (3, .ptr 3 0), (7, .own 14 P), (8, .v (iV j)), (11, .v (iV p)), (12, .v (iV ((p ^ (i + 1) : Nat) : Int))), (38, .v (iV e)), (39, .v (iV ((i + 1 : Nat) : Int)))] [(0, .mp (mkE l)), (3, .var [.v (iV N), .v (iV k), .v (iV d)]), (14, .lst 4 49 (eA V P j))] 101 true [0]) (by omega) (by (refine Ent.mkP rfl rfl rfl rfl ?_ ?_ <;> (repeat (first | exact trivial | exact ⟨_, rfl, .inl ⟨rfl, ⟨_, rfl⟩, ⟨_, rfl⟩, trivial⟩⟩ | exact ⟨_, rfl, .inl ⟨rfl, ⟨_, rfl⟩, trivial⟩⟩ | refine And.intro ?_ ?_ | exact ⟨_, rfl, .inl ⟨rfl, trivial⟩⟩ | exact ⟨_, rfl, .inl ⟨rfl, _, rfl⟩⟩ | exact .inl ⟨rfl, trivial⟩ | exact .inl ⟨rfl, _, rfl⟩ | exact ⟨_, rfl, .inr (.inl ⟨rfl, rfl⟩)⟩ | exact .inr (.inl ⟨rfl, rfl⟩) | exact ⟨_, rfl, .inr (.inr (.inl ⟨_, _, _, _, _, rfl, rfl, by first | rfl | assumption | simp, rfl, rfl⟩))⟩ | exact .inr (.inr (.inl ⟨_, _, _, _, _, rfl, rfl, by first | rfl | assumption | simp, rfl, rfl⟩)) | exact ⟨_, rfl, .inr (.inr (.inr ⟨_, _, _, rfl, rfl, rfl, rfl⟩))⟩ | exact .inr (.inr (.inr ⟨_, _, _, rfl, rfl, rfl, rfl⟩)) | rfl)))) ⟨i + 1, rfl, by omega, rfl⟩
      · obtain rfl : i = e := by omega
        have ki : decide ((i : Int) < (i : Int)) = false := by simp
        generalize hq : p ^ i = q at *
        have hcp := hap p
        obtain ⟨cs, hcs, hc4, hcp4⟩ := isV_lit hcp
        by_cases c1 : q < j
        · have k2 : decide ((q : Int) < (j : Int)) = true := decide_eq_true (by omega)
          rw [if_pos c1] at hVj
          have hd1 : 1 ≤ j / q := (Nat.le_div_iff_mul_le (by omega)).2 (by omega)
          have hd2 : j / q < j := Nat.div_lt_self (by omega) (by omega)
          have cm := rmul_p (isV_encQ (hV q (by omega))) (by omega) (isV_encQ (hV (j / q) (by omega))) (by omega)
          rw [← hVj] at cm
          have g1 : (eA V P j)[((q : Nat) : Int).toNat]? = some (encQ (V q)) := by rw [Int.toNat_natCast]; exact eA_get (by omega) c1 (by omega)
          have g2 : (eA V P j)[(((j / q : Nat) : Nat) : Int).toNat]? = some (encQ (V (j / q))) := by rw [Int.toNat_natCast]; exact eA_get hd1 hd2 (by omega)
          have e3 : (j : Int).tdiv q = ((j / q : Nat) : Int) := rfl
          refine goA ?_
          refine evG ggA (ss_index_own (InB_of rfl) (elem_tab rfl) rfl rfl hel rfl (by omega) (by omega)) ?_
          refine evG ggA (ss_load_opagg (InB_of rfl) (agg_tab rfl) rfl rfl hel g1) ?_
          refine goA ?_
          refine evG ggA (ss_div (InB_of rfl) rfl rfl (by omega) (w64 (by omega) (by omega))) ?_
          refine goA ?_
          refine evG ggA (ss_index_own (InB_of rfl) (elem_tab rfl) rfl rfl hel rfl (by omega) (by omega)) ?_
          refine evG ggA (ss_load_opagg (InB_of rfl) (agg_tab rfl) rfl rfl hel g2) ?_
          refine goA ?_
          refine evG ggA (ss_call (InB_of rfl) rfl rfl cm) ?_
          refine goA ?_
          refine evG ggA (ss_index_own (InB_of rfl) (elem_tab rfl) rfl rfl hel rfl (by omega) (by omega)) ?_
          refine evG ggA (ss_store_own (x := encQ (V j)) rfl (size_tab rfl) rfl rfl hel (by omega) rfl rfl (fun l e => by cases e) rfl) ?_
          refine goA ?_
          exact loopQ_intro (k := P + 1 - (j + 1)) (s' := mkP [(1, .mp 0), (2, .v (iV P)), (3, .ptr 3 0), (7, .own 14 P), (8, .v (iV ((j + 1 : Nat) : Int)))] [(0, .mp (mkE l)), (3, .var [.v (iV N), .v (iV k), .v (iV d)]), (14, .lst 4 49 ((eA V P j).set ((j : Nat) : Int).toNat (encQ (V j))))] 101 true [0]) (by omega) (by (refine Ent.mkP rfl rfl rfl rfl ?_ ?_ <;> (repeat (first | exact trivial | exact ⟨_, rfl, .inl ⟨rfl, ⟨_, rfl⟩, ⟨_, rfl⟩, trivial⟩⟩ | exact ⟨_, rfl, .inl ⟨rfl, ⟨_, rfl⟩, trivial⟩⟩ | refine And.intro ?_ ?_ | exact ⟨_, rfl, .inl ⟨rfl, trivial⟩⟩ | exact ⟨_, rfl, .inl ⟨rfl, _, rfl⟩⟩ | exact .inl ⟨rfl, trivial⟩ | exact .inl ⟨rfl, _, rfl⟩ | exact ⟨_, rfl, .inr (.inl ⟨rfl, rfl⟩)⟩ | exact .inr (.inl ⟨rfl, rfl⟩) | exact ⟨_, rfl, .inr (.inr (.inl ⟨_, _, _, _, _, rfl, rfl, by first | rfl | assumption | simp, rfl, rfl⟩))⟩ | exact .inr (.inr (.inl ⟨_, _, _, _, _, rfl, rfl, by first | rfl | assumption | simp, rfl, rfl⟩)) | exact ⟨_, rfl, .inr (.inr (.inr ⟨_, _, _, rfl, rfl, rfl, rfl⟩))⟩ | exact .inr (.inr (.inr ⟨_, _, _, rfl, rfl, rfl, rfl⟩)) | rfl)))) ⟨j + 1, rfl, by omega, .inl (by omega), by rw [hset]⟩
        · have k2 : decide ((q : Int) < (j : Int)) = false := decide_eq_false (by omega)
          rw [if_neg c1] at hVj
          by_cases c2 : q = p
          · have k3 : ((q : Int) == (p : Int)) = true := by rw [beq_iff_eq]; omega
            rw [if_pos c2] at hVj
            have cn := rnormal_p hcp (by omega)
            rw [← hVj] at cn
            rw [hcs] at cn
            refine goA ?_
            refine evG ggA (ss_lookup (r := rz) (n := (p : Int)) (InB_of rfl) hmt und_int zero_rep rfl rfl rfl) ?_
            rw [hcs]
            refine goA ?_
            refine evG ggA (ss_call (InB_of rfl) rfl rfl cn) ?_
            refine goA ?_
            refine evG ggA (ss_index_own (InB_of rfl) (elem_tab rfl) rfl rfl hel rfl (by omega) (by omega)) ?_
            refine evG ggA (ss_store_own (x := encQ (V j)) rfl (size_tab rfl) rfl rfl hel (by omega) rfl rfl (fun l e => by cases e) rfl) ?_
            refine goA ?_
            exact loopQ_intro (k := P + 1 - (j + 1)) (s' := mkP [(1, .mp 0), (2, .v (iV P)), (3, .ptr 3 0), (7, .own 14 P), (8, .v (iV ((j + 1 : Nat) : Int)))] [(0, .mp (mkE l)), (3, .var [.v (iV N), .v (iV k), .v (iV d)]), (14, .lst 4 49 ((eA V P j).set ((j : Nat) : Int).toNat (encQ (V j))))] 101 true [0]) (by omega) (by (refine Ent.mkP rfl rfl rfl rfl ?_ ?_ <;> (repeat (first | exact trivial | exact ⟨_, rfl, .inl ⟨rfl, ⟨_, rfl⟩, ⟨_, rfl⟩, trivial⟩⟩ | exact ⟨_, rfl, .inl ⟨rfl, ⟨_, rfl⟩, trivial⟩⟩ | refine And.intro ?_ ?_ | exact ⟨_, rfl, .inl ⟨rfl, trivial⟩⟩ | exact ⟨_, rfl, .inl ⟨rfl, _, rfl⟩⟩ | exact .inl ⟨rfl, trivial⟩ | exact .inl ⟨rfl, _, rfl⟩ | exact ⟨_, rfl, .inr (.inl ⟨rfl, rfl⟩)⟩ | exact .inr (.inl ⟨rfl, rfl⟩) | exact ⟨_, rfl, .inr (.inr (.inl ⟨_, _, _, _, _, rfl, rfl, by first | rfl | assumption | simp, rfl, rfl⟩))⟩ | exact .inr (.inr (.inl ⟨_, _, _, _, _, rfl, rfl, by first | rfl | assumption | simp, rfl, rfl⟩)) | exact ⟨_, rfl, .inr (.inr (.inr ⟨_, _, _, rfl, rfl, rfl, rfl⟩))⟩ | exact .inr (.inr (.inr ⟨_, _, _, rfl, rfl, rfl, rfl⟩)) | rfl)))) ⟨j + 1, rfl, by omega, .inl (by omega), by rw [hset]⟩
          · have k3 : ((q : Int) == (p : Int)) = false := by rw [beq_eq_false_iff_ne]; omega
            rw [if_neg c2] at hVj
            have h9 : 1 ≤ j / p / p ∧ q = j := by rcases f9 with h | h | h <;> omega
            have hd1 : 1 ≤ j / p := Nat.le_trans h9.1 (Nat.div_le_self _ _)
            have hd2 : j / p < j := Nat.div_lt_self (by omega) (by omega)
            have hd3 : j / p / p < j := Nat.lt_of_le_of_lt (Nat.div_le_self _ _) hd2
            have cm1 := rmul_p hcp (by omega) (isV_encQ (hV (j / p) (by omega))) (by omega)
            have cfq := factor_p (N := N) (k := k) (d := d) (n := (p : Int)) hN hk hd (by omega)
            have hfq := facQ_ht (N := N) (d := d) hk (n := (p : Int)) (by omega)
            have cm2 := rmul_p (isV_encQ hfq) (by omega) (isV_encQ (hV (j / p / p) (by omega))) (by omega)
            have csb := rsub_p (isV_encQ (ht_mul (isV_ht hcp hK.1) (hV (j / p) (by omega)) hK.1)) (by omega) (isV_encQ (ht_mul hfq (hV (j / p / p) (by omega)) (by omega))) (by omega)
            rw [← hVj] at csb
            rw [hcs] at cm1
            have g1 : (eA V P j)[(((j / p : Nat) : Nat) : Int).toNat]? = some (encQ (V (j / p))) := by rw [Int.toNat_natCast]; exact eA_get hd1 hd2 (by omega)
            have g2 : (eA V P j)[(((j / p / p : Nat) : Nat) : Int).toNat]? = some (encQ (V (j / p / p))) := by rw [Int.toNat_natCast]; exact eA_get h9.1 hd3 (by omega)
            have e3 : (j : Int).tdiv p = ((j / p : Nat) : Int) := rfl
            have e4 : ((j : Int).tdiv p).tdiv p = ((j / p / p : Nat) : Int) := rfl
            unfold specA at cfq
            generalize facQ N k d (p : Int) = fq at *
            refine goA ?_
            refine evG ggA (ss_lookup (r := rz) (n := (p : Int)) (InB_of rfl) hmt und_int zero_rep rfl rfl rfl) ?_
            rw [hcs]
            refine goA ?_
            refine evG ggA (ss_div (InB_of rfl) rfl rfl (by omega) (w64 (by omega) (by omega))) ?_
            refine goA ?_
            refine evG ggA (ss_index_own (InB_of rfl) (elem_tab rfl) rfl rfl hel rfl (by omega) (by omega)) ?_
            refine evG ggA (ss_load_opagg (InB_of rfl) (agg_tab rfl) rfl rfl hel g1) ?_
            refine goA ?_
            refine evG ggA (ss_call (InB_of rfl) rfl rfl cm1) ?_
            refine goA ?_
            refine evG ggA (ss_call (InB_of rfl) rfl rfl cfq) ?_
            refine goA ?_
            refine evG ggA (ss_div (InB_of rfl) rfl rfl (by omega) (w64 (by omega) (by omega))) ?_
            refine goA ?_
            refine evG ggA (ss_div (InB_of rfl) rfl rfl (by omega) (w64 (by omega) (by omega))) ?_
            refine goA ?_
            refine evG ggA (ss_index_own (InB_of rfl) (elem_tab rfl) rfl rfl hel rfl (by omega) (by omega)) ?_
            refine evG ggA (ss_load_opagg (InB_of rfl) (agg_tab rfl) rfl rfl hel g2) ?_
            refine goA ?_
            refine evG ggA (ss_call (InB_of rfl) rfl rfl cm2) ?_
            refine goA ?_
            refine evG ggA (ss_call (InB_of rfl) rfl rfl csb) ?_
            refine goA ?_
            refine evG ggA (ss_index_own (InB_of rfl) (elem_tab rfl) rfl rfl hel rfl (by omega) (by omega)) ?_
            refine evG ggA (ss_store_own (x := encQ (V j)) rfl (size_tab rfl) rfl rfl hel (by omega) rfl rfl (fun l e => by cases e) rfl) ?_
            refine goA ?_
            exact loopQ_intro (k := P + 1 - (j + 1)) (s' := mkP [(1, .mp 0), (2, .v (iV P)), (3, .ptr 3 0), (7, .own 14 P), (8, .v (iV ((j + 1 : Nat) : Int)))] [(0, .mp (mkE l)), (3, .var [.v (iV N), .v (iV k), .v (iV d)]), (14, .lst 4 49 ((eA V P j).set ((j : Nat) : Int).toNat (encQ (V j))))] 101 true [0]) (by omega) (by (refine Ent.mkP rfl rfl rfl rfl ?_ ?_ <;> (repeat (first | exact trivial | exact ⟨_, rfl, .inl ⟨rfl, ⟨_, rfl⟩, ⟨_, rfl⟩, trivial⟩⟩ | exact ⟨_, rfl, .inl ⟨rfl, ⟨_, rfl⟩, trivial⟩⟩ | refine And.intro ?_ ?_ | exact ⟨_, rfl, .inl ⟨rfl, trivial⟩⟩ | exact ⟨_, rfl, .inl ⟨rfl, _, rfl⟩⟩ | exact .inl ⟨rfl, trivial⟩ | exact .inl ⟨rfl, _, rfl⟩ | exact ⟨_, rfl, .inr (.inl ⟨rfl, rfl⟩)⟩ | exact .inr (.inl ⟨rfl, rfl⟩) | exact ⟨_, rfl, .inr (.inr (.inl ⟨_, _, _, _, _, rfl, rfl, by first | rfl | assumption | simp, rfl, rfl⟩))⟩ | exact .inr (.inr (.inl ⟨_, _, _, _, _, rfl, rfl, by first | rfl | assumption | simp, rfl, rfl⟩)) | exact ⟨_, rfl, .inr (.inr (.inr ⟨_, _, _, rfl, rfl, rfl, rfl⟩))⟩ | exact .inr (.inr (.inr ⟨_, _, _, rfl, rfl, rfl, rfl⟩)) | rfl)))) ⟨j + 1, rfl, by omega, .inl (by omega), by rw [hset]⟩
  · have kj : decide ((j : Int) < (P : Int)) = false := decide_eq_false (by omega)
    rw [eA_ge (by omega : P ≤ j)]
    have hel2 : (eA V P P).length = P := eA_len
    refine goA ?_
    exact ⟨.inr rfl, by (refine Ent.mkP rfl rfl rfl rfl ?_ ?_ <;> (repeat (first | exact trivial | exact ⟨_, rfl, .inl ⟨rfl, ⟨_, rfl⟩, ⟨_, rfl⟩, trivial⟩⟩ | exact ⟨_, rfl, .inl ⟨rfl, ⟨_, rfl⟩, trivial⟩⟩ | refine And.intro ?_ ?_ | exact ⟨_, rfl, .inl ⟨rfl, trivial⟩⟩ | exact ⟨_, rfl, .inl ⟨rfl, _, rfl⟩⟩ | exact .inl ⟨rfl, trivial⟩ | exact .inl ⟨rfl, _, rfl⟩ | exact ⟨_, rfl, .inr (.inl ⟨rfl, rfl⟩)⟩ | exact .inr (.inl ⟨rfl, rfl⟩) | exact ⟨_, rfl, .inr (.inr (.inl ⟨_, _, _, _, _, rfl, rfl, by first | rfl | assumption | simp, rfl, rfl⟩))⟩ | exact .inr (.inr (.inl ⟨_, _, _, _, _, rfl, rfl, by first | rfl | assumption | simp, rfl, rfl⟩)) | exact ⟨_, rfl, .inr (.inr (.inr ⟨_, _, _, rfl, rfl, rfl, rfl⟩))⟩ | exact .inr (.inr (.inr ⟨_, _, _, rfl, rfl, rfl, rfl⟩)) | rfl)))⟩
end Ab
namespace Ab
open Go Go.RowKit Go.Proofs Hp
set_option maxRecDepth 100000

def lookQ : List (Int × Rat) → Int → Option Rat
  | [], _ => none
  | (k, a) :: l, n => if k = n then some a else lookQ l n
def putQ : List (Int × Rat) → Int → Rat → List (Int × Rat)
  | [], n, x => [(n, x)]
  | (k, a) :: l, n, x => if k = n then (n, x) :: l else (k, a) :: putQ l n x
def RelM (K : Nat) : List (Int × AV) → List (Int × Rat) → Prop
  | [], [] => True
  | (a, x) :: l, (b, q) :: m => a = b ∧ IsV x K q ∧ RelM K l m
  | _, _ => False
theorem relM_put {K : Nat} {n : Int} {x : AV} {q : Rat} (hx : IsV x K q) : ∀ {l : List (Int × AV)} {m : List (Int × Rat)}, RelM K l m → RelM K (mput l n x) (putQ m n q)
  | [], [], _ => ⟨rfl, hx, trivial⟩
  | (a, y) :: l, (b, r) :: m, h => by
    obtain ⟨rfl, h2, h3⟩ := h
    unfold mput putQ
    by_cases c : a = n
    · rw [if_pos c, if_pos c]; exact ⟨rfl, hx, h3⟩
    · rw [if_neg c, if_neg c]; exact ⟨rfl, h2, relM_put hx h3⟩
  | [], _ :: _, h => h.elim
  | _ :: _, [], h => h.elim
theorem relM_look {K : Nat} {n : Int} : ∀ {l : List (Int × AV)} {m : List (Int × Rat)}, RelM K l m → IsV ((mlook l n).getD rz) K ((lookQ m n).getD 0)
  | [], [], _ => isV_rz K
  | (a, y) :: l, (b, r) :: m, h => by
    obtain ⟨rfl, h2, h3⟩ := h
    unfold mlook lookQ
    by_cases c : a = n
    · rw [if_pos c, if_pos c]; exact h2
    · rw [if_neg c, if_neg c]; exact relM_look h3
  | [], _ :: _, h => h.elim
  | _ :: _, [], h => h.elim
/-- the map after i primes -/
def mapB (R : List Nat) (es : List AV) : Nat → List (Int × AV)
  | 0 => []
  | i + 1 => mput (mapB R es i) (R.getD i 0 : Nat) (es.getD i rz)
def mapQ (R : List Nat) (la : List Rat) : Nat → List (Int × Rat)
  | 0 => []
  | i + 1 => putQ (mapQ R la i) (R.getD i 0 : Nat) (la.getD i 0)
theorem mapB_rel {R : List Nat} {es : List AV} {la : List Rat} {K : Nat} (h : IsL es K la) : ∀ i, RelM K (mapB R es i) (mapQ R la i)
  | 0 => trivial
  | i + 1 => by
    refine relM_put ?_ (mapB_rel h i)
    obtain ⟨h1, h2⟩ := h.get
    by_cases hi : i < la.length
    · obtain ⟨e, h3, h4⟩ := h2 i la[i] (List.getElem?_eq_getElem hi)
      rw [List.getD_eq_getElem?_getD, List.getD_eq_getElem?_getD, h3, List.getElem?_eq_getElem hi]
      exact h4
    · rw [List.getD_eq_getElem?_getD, List.getD_eq_getElem?_getD, List.getElem?_eq_none (by omega), List.getElem?_eq_none (by omega)]
      exact isV_rz K
/-- the number at a prime -/
def apF (P : Nat) (la : List Rat) (p : Nat) : Rat := (lookQ (mapQ (primesP (P - 1)) la (primesP (P - 1)).length) (p : Int)).getD 0
set_option maxHeartbeats 8000000 in
theorem eulerS_p {N k d : Int} {es : List AV} {la : List Rat} {K H P : Nat} (hs : SpecOK N k d) (hes : IsL es K la) (hK : 1 ≤ K ∧ K ≤ 100000000) (hV : ∀ i, i < P → Ht (eV N k d (apF P la) i) H) (hH : 1 ≤ H ∧ H ≤ 100000000) (hP3 : 3 ≤ P) (hP : P ≤ 900) (hl : (primesP (P - 1)).length ≤ es.length) (hel : es.length ≤ 1000000) :
    PC Tryz.prog 34 [specA N k d, .sl es, iV P] (serE (norR 0 (tk (eV N k d (apF P la)) P))) := by
  have cch := hcheck_p hs
  have cpr := primes_p (n := P - 1) (by omega)
  rw [show ((P - 1 : Nat) : Int) = (P : Int) - 1 by omega] at cpr
  have ceu := euler_p (N := N) (k := k) (d := d) (l := mapB (primesP (P - 1)) es (primesP (P - 1)).length) (ap := apF P la) (K := K) (H := H) (P := P) (by unfold Bn; have := hs.n0; have := hs.n1; omega) ⟨hs.k0, hs.k1⟩ (by unfold Bn; have := hs.d0; have := hs.d1; omega) (fun p => relM_look (mapB_rel hes _)) hK hV hH.2 hP
  have hisl : IsL (eA (eV N k d (apF P la)) P P) H (tk (eV N k d (apF P la)) P) := by
    refine IsL.mk (by rw [eA_len, tk_len]) fun i e q he hq => ?_
    have hi : i < P := by have := (List.getElem?_eq_some_iff.1 he).1; rw [eA_len] at this; exact this
    have hq2 : eV N k d (apF P la) i = q := by simpa [tk, hi] using hq
    by_cases c : 1 ≤ i
    · rw [eA_get c hi hi] at he
      injection he with he
      subst he hq2
      exact isV_encQ (hV i hi)
    · obtain rfl : i = 0 := by omega
      have he2 : rz = e := by
        unfold eA at he
        rw [List.getElem?_map, List.getElem?_range hi] at he
        simpa using he
      subst he2 hq2
      have : eV N k d (apF P la) 0 = 0 := rfl
      rw [this]
      exact isV_rz H
  have cno := normal_p (s := 0) (es := eA (eV N k d (apF P la)) P P) (l := tk (eV N k d (apF P la)) P) (K := H) (fun _ => hisl) (by rw [eA_len, tk_len]) ⟨by decide, by decide, by rw [eA_len]; omega⟩ ⟨hH.1, by omega⟩
  rw [serE_eq] at cno ⊢
  generalize norR 0 (tk (eV N k d (apF P la)) P) = X at *
  clear hisl hV
  generalize eA (eV N k d (apF P la)) P P = EA at *
  have hmt : Tryz.prog.underlying 110 = some (.map 3 49) := by kernel_rfl
  generalize primesP (P - 1) = R at *
  have q1 : decide ((P : Int) < 0) = false := decide_eq_false (by omega)
  have q2 : decide ((P : Int) > 1000) = false := decide_eq_false (by omega)
  have q3 : decide ((P : Int) > 2) = true := decide_eq_true (by omega)
  have q4 : ((0 : Int) != 0) = false := rfl
  have q5 : decide ((es.length : Int) < ((R.map nV).length : Int)) = false := decide_eq_false (by rw [List.length_map]; omega)
  have hRl : (R.map nV).length = R.length := List.length_map ..
  unfold specA at *
  refine pc_body2 true Tryz.func34 rfl rfl rfl (Nat.le_of_ble_eq_true rfl) (CellT.agg agg_ser) CellT.tmp ?_
  refine goA ?_
  refine evG ggA (ss_call (InB_of rfl) rfl rfl cch) ?_
  refine goA ?_
  refine evG ggA (ss_makemap 27 (InB_of rfl) rfl) ?_
  refine goA ?_
  refine evG ggA (ss_call (InB_of rfl) rfl rfl cpr) ?_
  refine goA ?_
  refine T.loop (fun x s1 => ∃ i : Nat, x = R.length - i ∧ i ≤ R.length ∧ s1 = mkS [(1, .v (.sl es)), (2, .v (iV P)), (3, .ptr 3 0), (6, .ptr 6 0), (9, .mp 27), (42, .v (.sl (R.map nV))), (43, .v (iV ((R.map nV).length : Nat))), (44, .v (iV i))] [(3, .var [.v (iV N), .v (iV k), .v (iV d)]), (6, var0), (27, .mp (mkE (mapB R es i)))] 64 true) R.length
    (s' := mkS [(1, .v (.sl es)), (2, .v (iV P)), (3, .ptr 3 0), (6, .ptr 6 0), (9, .mp 27), (42, .v (.sl (R.map nV))), (43, .v (iV ((R.map nV).length : Nat))), (44, .v (iV (0 : Nat)))] [(3, .var [.v (iV N), .v (iV k), .v (iV d)]), (6, var0), (27, .mp (mkE []))] 64 true) (by exact entA) ⟨0, rfl, Nat.zero_le _, rfl⟩ ?_
  rintro x _ ⟨i, rfl, hi, rfl⟩
  by_cases hlt : i < R.length
  · have kb : decide ((i : Int) < ((R.map nV).length : Int)) = true := decide_eq_true (by omega)
    have g1 : (R.map nV)[((i : Nat) : Int).toNat]? = some (nV (R.getD i 0)) := by
      rw [Int.toNat_natCast, List.getElem?_map, List.getD_eq_getElem?_getD, List.getElem?_eq_getElem hlt]; rfl
    obtain ⟨y, ys, y', ys', q, e1, e2, e3⟩ := hes.at (i := i) (by omega)
    have e1' : es[((i : Nat) : Int).toNat]? = some (.agg [.p (.bool y), .sl ys, .p (.bool y'), .sl ys']) := by rw [Int.toNat_natCast]; exact e1
    have hmp : mapB R es (i + 1) = mput (mapB R es i) ((R.getD i 0 : Nat) : Int) (.agg [.p (.bool y), .sl ys, .p (.bool y'), .sl ys']) := by
      show mput (mapB R es i) (R.getD i 0 : Nat) (es.getD i rz) = _
      rw [List.getD_eq_getElem?_getD (l := es), e1]; rfl
    generalize hm1 : mapB R es i = m1 at *
    generalize R.getD i 0 = pr at *
    refine goA ?_
    refine evG ggA (ss_index_sl (x := nV pr) (InB_of rfl) (elem_tab rfl) rfl rfl (by omega) g1 rfl) ?_
    refine goA ?_
    refine evG ggA (ss_index_sl (InB_of rfl) (elem_tab rfl) rfl rfl (by omega) e1' rfl) ?_
    refine goA ?_
    refine evG ggA (ss_mapset (n := (pr : Int)) (l := m1) rfl hmt und_int rfl rfl rfl rfl) ?_
    refine goA ?_
    exact loopQ_intro (k := R.length - (i + 1)) (s' := mkS [(1, .v (.sl es)), (2, .v (iV P)), (3, .ptr 3 0), (6, .ptr 6 0), (9, .mp 27), (42, .v (.sl (R.map nV))), (43, .v (iV ((R.map nV).length : Nat))), (44, .v (iV ((i + 1 : Nat) : Int)))] [(3, .var [.v (iV N), .v (iV k), .v (iV d)]), (6, var0), (27, .mp (mkE (mput m1 (pr : Int) (.agg [.p (.bool y), .sl ys, .p (.bool y'), .sl ys']))))] 64 true) (by omega) (by exact entA) ⟨i + 1, rfl, by omega, by rw [hmp]⟩
  · obtain rfl : i = R.length := by omega
    have kb : decide ((R.length : Int) < ((R.map nV).length : Int)) = false := decide_eq_false (by omega)
    generalize mapB R es R.length = m1 at *
    refine goA ?_
    refine evM (ms_call [(0, 27)] ceu rfl rfl rfl rfl rfl rfl ⟨rfl, trivial⟩ ⟨.inl rfl, trivial⟩ ?_)
    refine goA ?_
    refine evG ggA (ss_call (InB_of rfl) rfl rfl cno) ?_
    refine goA ?_
    exact rfl
end Ab
