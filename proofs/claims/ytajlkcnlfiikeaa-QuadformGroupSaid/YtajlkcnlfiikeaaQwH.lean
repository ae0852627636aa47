/- The classes of a discriminant, walked. -/
import Derived.Test.YtajlkcnlfiikeaaQwG
set_option linter.all false
namespace Ab
open Go Go.RowKit Go.Proofs Qf
set_option maxRecDepth 100000

theorem ss_snoc {dm : Bool} {P : Program} {ops : Array Oper} {s : AS} {dst : Option Tmp} {ty : TypeId} {pos : String} {after : Array Edge} {g : Option (Nat × Bool)} {t e : TypeId} {bytes : Nat} {z : List Value} {y x : Operand} {id m : Nat} {l : List F} {q : F} (hin : InB s dst) (ht : MakeT P t e 3 bytes z) (hy : s.ev y = some (.own id m)) (hm : s.m id = some (.lst 3 e (l.map fA))) (hlen : l.length = m) (hx : s.ev x = some (.v (.sl [fA q])))
    (h63 : m + 1 ≤ 1000000) (hby : bytes ≤ 64) (hz : z.all nuV = true) :
    SStep dm P ops ⟨dst, .call ⟨.builtin .append, #[y, x], #[t, t]⟩, ty, pos, after, g⟩ s (.own id (m + 1)) (.set id (.lst 3 e ((l ++ [q]).map fA))) := by
  have := ss_append (dm := dm) (P := P) (ops := ops) (dst := dst) (ty := ty) (pos := pos) (after := after) (g := g) hin ht hy hm (by simp [hlen]) hx (fun a ha => by simp at ha; subst ha; rfl) (by omega) (by simp [maxLen]; omega) (by simp; have := Nat.mul_le_mul_left (m + 1) hby; omega) (by simp [hz]) (fun _ a ha => by
    simp at ha
    subst ha
    intro c hc
    simp [fA, AV.cells] at hc
    rcases hc with rfl | rfl | rfl <;> rfl)
  rw [List.map_append]
  exact this
def ctI (f : F) : Int := gI (gI f.a f.b) f.c
theorem ctI_eq (f : F) : ctI f = f.ct := by unfold ctI gI F.ct; rw [Int.natAbs_natCast]
theorem gI_bd {a b N : Int} (ha : Bd N a) (hb : Bd N b) : Bd N (gI a b) := by
  unfold gI Bd at *
  by_cases h : a = 0
  · subst h
    simp only [Int.natAbs_zero, Nat.gcd_zero_left]
    omega
  · have := Nat.gcd_le_left b.natAbs (show 0 < a.natAbs by omega)
    omega
theorem content_p {f : F} (h : FBd 4000000000000000000 f) : PC Try.prog 61 [fA f] (iV (ctI f)) := by
  have c1 := gcd_p h.a h.b
  have c2 := gcd_p (gI_bd h.a h.b) h.c
  unfold ctI
  refine pc_body1 true Try.func61 rfl rfl rfl (Nat.le_of_ble_eq_true rfl) CellT.tmp ?_
  refine goA ?_
  refine evG ggA (ss_call (InB_of rfl) rfl rfl c1) ?_
  refine goA ?_
  refine evG ggA (ss_call (InB_of rfl) rfl rfl c2) ?_
  refine goA ?_
  exact rfl
/-- is the form with a and b one of the list -/
def fOf (d a b : Int) : F := ⟨a, b, (b * b - d).tdiv (4 * a)⟩
def okF (d a b : Int) : Bool := decide ((b * b - d).tmod (4 * a) = 0) && (!(decide ((b * b - d).tdiv (4 * a) < a) || (decide ((b * b - d).tdiv (4 * a) = a) && decide (b < 0))) && !decide (1 < ctI (fOf d a b)))
def cB (d a : Int) : Nat → List F
  | 0 => []
  | j + 1 => cB d a j ++ if okF d a (1 - a + j) = true then [fOf d a (1 - a + j)] else []
def cA (d : Int) : Nat → List F
  | 0 => []
  | k + 1 => cA d k ++ if 3 * ((k : Int) + 1) * (k + 1) ≤ -d then cB d (k + 1) (2 * (k + 1)) else []
def cls (d : Int) : List F := cA d 36
theorem cB_len (d a : Int) : ∀ j, (cB d a j).length ≤ j
  | 0 => Nat.le_refl _
  | j + 1 => by
    have := cB_len d a j
    rw [cB, List.length_append]
    split <;> simp <;> omega
theorem cA_len (d : Int) : ∀ k, k ≤ 36 → (cA d k).length ≤ 74 * k
  | 0, _ => by simp [cA]
  | k + 1, h => by
    have := cA_len d k (by omega)
    rw [cA, List.length_append]
    split
    · have := cB_len d (k + 1) (2 * (k + 1)); omega
    · simp; omega
theorem sq_up {k m : Int} (h0 : 0 ≤ k) (h : k ≤ m) : 3 * k * k ≤ 3 * m * m := Int.mul_le_mul (by omega) h h0 (by omega)
theorem cA_stop {d : Int} {k : Nat} (h : ¬ 3 * ((k : Int) + 1) * (k + 1) ≤ -d) : ∀ m, cA d (k + m) = cA d k
  | 0 => rfl
  | m + 1 => by
    show cA d (k + m + 1) = _
    rw [cA, cA_stop h m, if_neg, List.append_nil]
    have := sq_up (k := (k : Int) + 1) (m := ((k + m : Nat) : Int) + 1) (by omega) (by omega)
    omega
set_option maxHeartbeats 4000000 in
theorem classes_p {d : Int} (h0 : -4000 ≤ d) (h1 : d < 0) : PC Try.prog 59 [iV d] (.sl ((cls d).map fA)) := by
  refine pc_body1 true Try.func59 rfl rfl rfl (Nat.le_of_ble_eq_true rfl) CellT.tmp ?_
  refine goA ?_
  refine T.loop (fun n s1 => ∃ k : Nat, k ≤ 36 ∧ n = 37 - k ∧ s1 = mkS [(0, .v (iV d)), (3, .own 100 ((cA d k).map fA).length), (4, .v (iV ((k : Int) + 1)))] [(100, .lst 3 23 ((cA d k).map fA))] 67 true) 37
    (s' := mkS [(0, .v (iV d)), (3, .own 100 0), (4, .v (iV 1))] [(100, .lst 3 23 [])] 67 true) (by exact entA) ⟨0, by omega, rfl, rfl⟩ ?_
  rintro _ _ ⟨k, hk, rfl, rfl⟩
  have hl := cA_len d k hk
  have q1 := bmul (show Bd 111 (3 * ((k : Int) + 1)) by unfold Bd; omega) (show Bd 37 ((k : Int) + 1) by unfold Bd; omega)
  have q1' := q1
  unfold Bd at q1
  by_cases c1 : 3 * ((k : Int) + 1) * ((k : Int) + 1) ≤ 0 - d
  case neg =>
    have b1 : decide (3 * ((k : Int) + 1) * ((k : Int) + 1) ≤ 0 - d) = false := by simpa using c1
    have e := cA_stop (d := d) (k := k) (by omega) (36 - k)
    rw [show k + (36 - k) = 36 by omega] at e
    have e2 : cls d = cA d k := e
    rw [e2]
    clear e e2
    generalize cA d k = L at *
    generalize hA : (k : Int) + 1 = a at *
    refine T.seq ?_
    refine r1A ?_
    refine T.condF rfl (by assumption) ?_
    refine T.exit ?_
    (repeat (first | with_reducible refine seqQ_n ?_ | with_reducible refine seqQ_e ?_ | with_reducible refine seqQ_r ?_ | with_reducible refine blockQ_n ?_ | with_reducible refine blockQ_r ?_ | with_reducible refine blockQ_e rfl ?_ | with_reducible refine blockQ_o rfl ?_ | with_reducible refine loopQ_e ?_ | with_reducible refine loopQ_r ?_ | with_reducible refine midQ_e ?_ | with_reducible refine midQ_r ?_ | with_reducible refine roundQ_n ?_ | with_reducible refine roundQ_e ?_ | with_reducible refine roundQ_r ?_))
    refine T.weak (s' := mkS [(3, .v (.sl (L.map fA)))] [] 67 true) (by exact entA) ?_
    refine goA ?_
    exact rfl
  have b1 : decide (3 * ((k : Int) + 1) * ((k : Int) + 1) ≤ 0 - d) = true := by simpa using c1
  have hk35 : k ≤ 35 := by
    refine Classical.byContradiction fun hn => ?_
    have := sq_up (k := 37) (m := (k : Int) + 1) (by decide) (by omega)
    omega
  have eA : cA d (k + 1) = cA d k ++ cB d (k + 1) (2 * (k + 1)) := by rw [cA, if_pos (by omega)]
  generalize cA d k = L at *
  have ea : (((k + 1 : Nat) : Int) + 1) = (k : Int) + 1 + 1 := by omega
  generalize hA : (k : Int) + 1 = a at *
  have ha0 : 1 ≤ a := by omega
  have ha1 : a ≤ 36 := by omega
  refine goA ?_
  refine T.loop (fun n s1 => ∃ j : Nat, j ≤ 2 * (k + 1) ∧ n = 2 * (k + 1) + 1 - j ∧ s1 = mkS [(0, .v (iV d)), (3, .own 100 ((L ++ cB d a j).map fA).length), (4, .v (iV a)), (5, .v (iV (1 - a + (j : Int))))] [(100, .lst 3 23 ((L ++ cB d a j).map fA))] 67 true) (2 * (k + 1) + 1)
    (s' := mkS [(0, .v (iV d)), (3, .own 100 (L.map fA).length), (4, .v (iV a)), (5, .v (iV (1 - a)))] [(100, .lst 3 23 (L.map fA))] 67 true) (by exact entA) ⟨0, by omega, rfl, by rw [cB, List.append_nil, show 1 - a + ((0 : Nat) : Int) = 1 - a by omega]⟩ ?_
  rintro _ _ ⟨j, hj, rfl, rfl⟩
  have hbl := cB_len d a j
  by_cases c2 : j = 2 * (k + 1)
  · subst c2
    have b2 : decide (1 - a + ((2 * (k + 1) : Nat) : Int) ≤ a) = false := by simp; omega
    refine goA ?_
    exact loopQ_intro (k := 37 - (k + 1)) (s' := mkS [(0, .v (iV d)), (3, .own 100 ((L ++ cB d a (2 * (k + 1))).map fA).length), (4, .v (iV (a + 1)))] [(100, .lst 3 23 ((L ++ cB d a (2 * (k + 1))).map fA))] 67 true) (by omega) (by exact entA) ⟨k + 1, by omega, rfl, by rw [eA, ea]⟩
  have b2 : decide (1 - a + (j : Int) ≤ a) = true := by simp; omega
  have eB : cB d a (j + 1) = cB d a j ++ if okF d a (1 - a + j) = true then [fOf d a (1 - a + j)] else [] := rfl
  have ej : 1 - a + ((j + 1 : Nat) : Int) = 1 - a + (j : Int) + 1 := by omega
  have hbb : Bd 36 (1 - a + (j : Int)) := by unfold Bd; omega
  generalize cB d a j = L2 at *
  have hll : ((L ++ L2).map fA).length ≤ 3000 := by rw [List.length_map, List.length_append]; omega
  have fin : ∀ (l : List F) (m' : Nat) (s2 : AS), (if okF d a (1 - a + j) = true then [fOf d a (1 - a + j)] else []) = l → m' = ((L ++ L2 ++ l).map fA).length → s2 = mkS [(0, .v (iV d)), (3, .own 100 m'), (4, .v (iV a)), (5, .v (iV (1 - a + (j : Int) + 1)))] [(100, .lst 3 23 ((L ++ L2 ++ l).map fA))] 67 true →
      ∃ j' : Nat, j' ≤ 2 * (k + 1) ∧ 2 * (k + 1) + 1 - (j + 1) = 2 * (k + 1) + 1 - j' ∧ s2 = mkS [(0, .v (iV d)), (3, .own 100 ((L ++ cB d a j').map fA).length), (4, .v (iV a)), (5, .v (iV (1 - a + (j' : Int))))] [(100, .lst 3 23 ((L ++ cB d a j').map fA))] 67 true :=
    fun l m' s2 e em e2 => ⟨j + 1, by omega, rfl, by rw [eB, e, e2, em, ej, List.append_assoc]⟩
  clear eA eB ej ea hA q1 q1'
  generalize 1 - a + (j : Int) = b at *
  have z1 := bmul hbb hbb
  have z2 := tdiv_bd (y := 4 * a) (N := 6000) (x := b * b - d) (by unfold Bd at *; omega)
  unfold Bd at z1 z2 hbb
  have cfd := content_p (f := fOf d a b) ⟨by unfold Bd fOf; simp only; omega, by unfold Bd fOf; simp only; omega, by unfold Bd fOf; simp only; omega⟩
  by_cases c3 : (b * b - d).tmod (4 * a) = 0
  case neg =>
    have b3 : ((b * b - d).tmod (4 * a) != 0) = true := by simpa using c3
    refine goA ?_
    refine evG ggA (ss_div (op := .rem) (InB_of rfl) rfl rfl (by omega) rfl) ?_
    refine goA ?_
    refine loopQ_intro (k := 2 * (k + 1) + 1 - (j + 1)) (s' := mkS [(0, .v (iV d)), (3, .own 100 ((L ++ L2).map fA).length), (4, .v (iV a)), (5, .v (iV (b + 1)))] [(100, .lst 3 23 ((L ++ L2).map fA))] 67 true) (by omega) (by exact entA) (fin [] _ _ (by unfold okF; rw [decide_eq_false c3]; rfl) (by rw [List.append_nil]) (by rw [List.append_nil]))
  have b3 : ((b * b - d).tmod (4 * a) != 0) = false := by simpa using c3
  have hok : okF d a b = (true && (!(decide ((b * b - d).tdiv (4 * a) < a) || (decide ((b * b - d).tdiv (4 * a) = a) && decide (b < 0))) && !decide (1 < ctI (fOf d a b)))) := by unfold okF; rw [decide_eq_true c3]
  have hfo : fA (fOf d a b) = .agg [iV a, iV b, iV ((b * b - d).tdiv (4 * a))] := rfl
  rw [hfo] at cfd
  refine goA ?_
  refine evG ggA (ss_div (op := .rem) (InB_of rfl) rfl rfl (by omega) rfl) ?_
  refine goA ?_
  refine evG ggA (ss_div (InB_of rfl) rfl rfl (by omega) (w64 (by omega) (by omega))) ?_
  refine goA ?_
  by_cases c4 : (b * b - d).tdiv (4 * a) < a
  case pos =>
    have b4 : decide ((b * b - d).tdiv (4 * a) < a) = true := by simpa using c4
    rw [b4] at hok
    refine goA ?_
    refine loopQ_intro (k := 2 * (k + 1) + 1 - (j + 1)) (s' := mkS [(0, .v (iV d)), (3, .own 100 ((L ++ L2).map fA).length), (4, .v (iV a)), (5, .v (iV (b + 1)))] [(100, .lst 3 23 ((L ++ L2).map fA))] 67 true) (by omega) (by exact entA) (fin [] _ _ (by rw [hok]; rfl) (by rw [List.append_nil]) (by rw [List.append_nil]))
  have b4 : decide ((b * b - d).tdiv (4 * a) < a) = false := by simpa using c4
  rw [b4] at hok
  have keep : ctI (fOf d a b) ≤ 1 → okF d a b = true → True := fun _ _ => trivial
  have hct : ∀ (x : Bool), okF d a b = (true && (!(false || x) && !decide (1 < ctI (fOf d a b)))) → x = false → okF d a b = !decide (1 < ctI (fOf d a b)) := fun x h e => by rw [h, e]; rfl
  by_cases c5 : (b * b - d).tdiv (4 * a) = a
  · have b5 : ((b * b - d).tdiv (4 * a) == a) = true := by simpa using c5
    by_cases c6 : b < 0
    case pos =>
      have b6 : decide (b < 0) = true := by simpa using c6
      refine goA ?_
      refine loopQ_intro (k := 2 * (k + 1) + 1 - (j + 1)) (s' := mkS [(0, .v (iV d)), (3, .own 100 ((L ++ L2).map fA).length), (4, .v (iV a)), (5, .v (iV (b + 1)))] [(100, .lst 3 23 ((L ++ L2).map fA))] 67 true) (by omega) (by exact entA) (fin [] _ _ (by rw [hok, decide_eq_true c5, b6]; rfl) (by rw [List.append_nil]) (by rw [List.append_nil]))
    have b6 : decide (b < 0) = false := by simpa using c6
    have hok2 := hct _ hok (by rw [b6]; simp)
    refine goA ?_
    refine evG ggA (ss_call (InB_of rfl) rfl rfl cfd) ?_
    refine runA ?_
    by_cases c7 : 1 < ctI (fOf d a b)
    case pos =>
      have b7 : decide (ctI (fOf d a b) > 1) = true := by simpa using c7
      refine goA ?_
      refine loopQ_intro (k := 2 * (k + 1) + 1 - (j + 1)) (s' := mkS [(0, .v (iV d)), (3, .own 100 ((L ++ L2).map fA).length), (4, .v (iV a)), (5, .v (iV (b + 1)))] [(100, .lst 3 23 ((L ++ L2).map fA))] 67 true) (by omega) (by exact entA) (fin [] _ _ (by rw [hok2, decide_eq_true c7]; rfl) (by rw [List.append_nil]) (by rw [List.append_nil]))
    have b7 : decide (ctI (fOf d a b) > 1) = false := by simpa using c7
    rw [decide_eq_false c7] at hok2
    refine goA ?_
    refine evG ggA (ss_bslice (InB_of rfl) (make_tab rfl) rfl rfl rfl rfl (one_ok rfl rfl) (Nat.le_of_ble_eq_true rfl)) ?_
    refine evG ggA (ss_snoc (q := fOf d a b) (InB_of rfl) (make_tab rfl) rfl rfl (by simp) rfl (by omega) (Nat.le_of_ble_eq_true rfl) rfl) ?_
    refine goA ?_
    exact loopQ_intro (k := 2 * (k + 1) + 1 - (j + 1)) (s' := mkS [(0, .v (iV d)), (3, .own 100 (((L ++ L2).map fA).length + 1)), (4, .v (iV a)), (5, .v (iV (b + 1)))] [(100, .lst 3 23 ((L ++ L2 ++ [fOf d a b]).map fA))] 67 true) (by omega) (by exact entA) (fin _ _ _ (by rw [hok2]; rfl) (by simp; omega) rfl)
  · have b5 : ((b * b - d).tdiv (4 * a) == a) = false := by simpa using c5
    have hok2 := hct _ hok (by rw [decide_eq_false c5]; rfl)
    refine goA ?_
    refine evG ggA (ss_call (InB_of rfl) rfl rfl cfd) ?_
    refine runA ?_
    by_cases c7 : 1 < ctI (fOf d a b)
    case pos =>
      have b7 : decide (ctI (fOf d a b) > 1) = true := by simpa using c7
      refine goA ?_
      refine loopQ_intro (k := 2 * (k + 1) + 1 - (j + 1)) (s' := mkS [(0, .v (iV d)), (3, .own 100 ((L ++ L2).map fA).length), (4, .v (iV a)), (5, .v (iV (b + 1)))] [(100, .lst 3 23 ((L ++ L2).map fA))] 67 true) (by omega) (by exact entA) (fin [] _ _ (by rw [hok2, decide_eq_true c7]; rfl) (by rw [List.append_nil]) (by rw [List.append_nil]))
    have b7 : decide (ctI (fOf d a b) > 1) = false := by simpa using c7
    rw [decide_eq_false c7] at hok2
    refine goA ?_
    refine evG ggA (ss_bslice (InB_of rfl) (make_tab rfl) rfl rfl rfl rfl (one_ok rfl rfl) (Nat.le_of_ble_eq_true rfl)) ?_
    refine evG ggA (ss_snoc (q := fOf d a b) (InB_of rfl) (make_tab rfl) rfl rfl (by simp) rfl (by omega) (Nat.le_of_ble_eq_true rfl) rfl) ?_
    refine goA ?_
    exact loopQ_intro (k := 2 * (k + 1) + 1 - (j + 1)) (s' := mkS [(0, .v (iV d)), (3, .own 100 (((L ++ L2).map fA).length + 1)), (4, .v (iV a)), (5, .v (iV (b + 1)))] [(100, .lst 3 23 ((L ++ L2 ++ [fOf d a b]).map fA))] 67 true) (by omega) (by exact entA) (fin _ _ _ (by rw [hok2]; rfl) (by simp; omega) rfl)
end Ab
