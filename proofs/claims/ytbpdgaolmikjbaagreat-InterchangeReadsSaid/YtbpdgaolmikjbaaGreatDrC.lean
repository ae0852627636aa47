/- Drawn regions some operations of which are calls that are handed the call's own memory: each operation says which slots it looks at and what it leaves in some; the order of the text serves every order. -/
import Derived.Test.YtbpdgaolmikjbaaGreatDrL
set_option linter.all false
namespace Ab
open Go Go.RowKit Go.Proofs
variable {dm : Bool}
structure OpD where
 x : TV
 F : Nat → Bool
 l : List (Nat × Blk)
def ovl (m : Nat → Option Blk) (l : List (Nat × Blk)) (j : Nat) : Option Blk := match Zaq l j with
 | some b => some b
 | none => m j
def AS.actd (s : AS) (dst : Option Tmp) (d : OpD) : AS := { s with t := updo s.t dst d.x, m := ovl s.m d.l }
structure AgC (ops : Array Oper) (o : Oper) (d : OpD) (s s' : AS) : Prop where
 t : ∀ x, x ∈ o.looksAt ops → s'.t x = s.t x
 nt : s'.nt = s.nt
 nd : s'.nd = s.nd
 m : ∀ j, d.F j = true → s'.m j = s.m j
theorem AgC.ev {ops : Array Oper} {o : Oper} {d : OpD} {s s' : AS} (h : AgC ops o d s s') {y : Operand} (hy : y ∈ o.op.operands) : s'.ev y = s.ev y := by
 cases y with
 | tmp t => exact h.t t (by unfold Oper.looksAt; simp only [List.mem_append]; exact .inl (by simpa [List.mem_filterMap] using ⟨_, hy, rfl⟩))
 | _ => rfl
def CStep (dm : Bool) (P : Program) (ops : Array Oper) (o : Oper) (s : AS) (d : OpD) : Prop :=
 (∀ j, (Zaq d.l j).isSome = true → d.F j = true) ∧
 ∀ s', AgC ops o d s s' → ∀ w0 M0 a w, OKC dm M0 w0 → Rel w0 M0 s' a w → ∀ (next : Act → World → Prop) (Q : Exit → Act → World → Prop), (∀ a' w', Rel w0 M0 (s'.actd o.dst d) a' w' → next a' w') →
  if Region.wanted o (yielded ops a.tmps) then o.wp P a w next Q else next (a.put o.dst undef) w
def runC (l : List Oper) (d : Nat → OpD) (D : Nat → Bool) (s : AS) : Nat → AS
  | 0 => s
  | k + 1 => match l[k]? with
    | some o => bif D k then (runC l d D s k).actd o.dst (d k) else runC l d D s k
    | none => runC l d D s k
def EvC (dm : Bool) (P : Program) (ops : Array Oper) : List Oper → AS → (List OpD → AS → Prop) → Prop
 | [], s, K => K [] s
 | o :: r, s, K => ∃ d, CStep dm P ops o s d ∧ EvC dm P ops r (s.actd o.dst d) (fun ds z => K (d :: ds) z)
section
variable {P : Program} {l : List Oper} {d : Nat → OpD} {s : AS}
theorem Zdn {D : Nat → Bool} {k : Nat} {o : Oper} (ho : l[k]? = some o) (hd : D k = true) : runC l d D s (k + 1) = (runC l d D s k).actd o.dst (d k) := by simp [runC, ho, hd]
theorem Zd1 {D : Nat → Bool} {k : Nat} (hd : D k = false) : runC l d D s (k + 1) = runC l d D s k := by
 simp only [runC]
 cases l[k]? <;> simp [hd]
theorem runC_nt {D : Nat → Bool} : ∀ k, (runC l d D s k).nt = s.nt ∧ (runC l d D s k).nd = s.nd
  | 0 => ⟨rfl, rfl⟩
  | k + 1 => by
    have ih := runC_nt (D := D) k
    simp only [runC]
    cases l[k]? with
    | none => exact ih
    | some o => cases D k <;> exact ih
theorem runC_shift {o : Oper} {l : List Oper} {d : Nat → OpD} {y : OpD} : ∀ k, runC (o :: l) (fun j => match j with | 0 => y | j + 1 => d j) allD s (k + 1) = runC l d allD (s.actd o.dst y) k
  | 0 => by simp [runC, allD]
  | k + 1 => by
    have ih := runC_shift (o := o) (l := l) (d := d) (y := y) k
    cases h : l[k]? with
    | none =>
      have h1 : (o :: l)[k + 1]? = none := by simpa using h
      rw [runC, h1, ih, runC, h]
    | some q =>
      have h1 : (o :: l)[k + 1]? = some q := by simpa using h
      rw [runC, h1, ih, runC, h]
      rfl
theorem evC_data {ops : Array Oper} : ∀ (l : List Oper) (s : AS) (K : List OpD → AS → Prop), EvC dm P ops l s K → ∃ d : Nat → OpD, (∀ j o, l[j]? = some o → CStep dm P ops o (runC l d allD s j) (d j)) ∧ K ((List.range l.length).map d) (runC l d allD s l.length)
  | [], s, K, h => ⟨fun _ => ⟨.v (.tup []), fun _ => false, []⟩, fun j o h => by simp at h, h⟩
  | o :: l, s, K, h => by
    obtain ⟨y, h1, h2⟩ := h
    obtain ⟨d, h3, h4⟩ := evC_data l _ _ h2
    refine ⟨fun j => match j with | 0 => y | j + 1 => d j, fun j q hj => ?_, ?_⟩
    · rcases j with _ | j
      · simp at hj; subst hj; exact h1
      · rw [runC_shift]
        exact h3 j q (by simpa using hj)
    · rw [List.length_cons, runC_shift, List.range_succ_eq_map, List.map_cons, List.map_map]
      exact h4
structure Sp (l : List Oper) (d : Nat → OpD) (i j : Nat) (p q : Oper) : Prop where
 ap : p.apart l.toArray q = true
 ij : ∀ id, (Zaq (d i).l id).isSome = true → (d j).F id = false
 ji : ∀ id, (Zaq (d j).l id).isSome = true → (d i).F id = false
structure OkC (l : List Oper) (d : Nat → OpD) (A : Array Nat) : Prop where
 edge : ∀ j o, l[j]? = some o → ∀ ed, ed ∈ o.after → Region.binds .any ed = true → ed.on < j
 anc : ∀ j o i p, l[j]? = some o → l[i]? = some p → i < j → bit A j i = true → ∃ ed, ed ∈ o.after ∧ Region.binds .any ed = true ∧ (ed.on = i ∨ (i < ed.on ∧ bit A ed.on i = true))
 sp : ∀ j o i p, l[j]? = some o → l[i]? = some p → i < j → bit A j i = false → Sp l d i j p o
def farD (a b : OpD) : Bool := (a.l.all fun p => !b.F p.1) && b.l.all fun p => !a.F p.1
def okC (ds : List OpD) (l : List Oper) (A : Array Nat) : Bool :=
  (List.range l.length).all fun j => match l[j]?, ds[j]? with
    | some o, some b => (o.after.all fun ed => !Region.binds .any ed || Nat.blt ed.on j) &&
      (List.range j).all fun i => match l[i]?, ds[i]? with
        | some p, some a => bif bit A j i then o.after.any (fun ed => Region.binds .any ed && (ed.on == i || (Nat.blt i ed.on && bit A ed.on i))) else p.apart l.toArray o && farD a b
        | _, _ => false
    | _, _ => false
theorem farD_spec {a b : OpD} (h : (a.l.all fun p => !b.F p.1) = true) (id : Nat) (hi : (Zaq a.l id).isSome = true) : b.F id = false := by
 obtain ⟨x, hx⟩ := Option.isSome_iff_exists.1 hi
 have := List.all_eq_true.1 h _ (Zbw hx)
 simpa using this
theorem okC_spec {A : Array Nat} (h : okC ((List.range l.length).map d) l A = true) : OkC l d A := by
 simp only [okC, List.all_eq_true, List.mem_range] at h
 have hd : ∀ {i p}, l[i]? = some p → ((List.range l.length).map d)[i]? = some (d i) := fun {i p} hi => by
  have hl := (List.getElem?_eq_some_iff.1 hi).1
  simp [hl]
 have key : ∀ j o, l[j]? = some o → _ := fun j o ho => h j (List.getElem?_eq_some_iff.1 ho).1
 refine ⟨fun j o ho ed hed hb => ?_, fun j o i p ho hi hij hb => ?_, fun j o i p ho hi hij hb => ?_⟩
 ·have := key j o ho
  rw [ho, hd ho] at this
  simp only [Bool.and_eq_true, List.all_eq_true, List.mem_range, Array.all_eq_true_iff_forall_mem] at this
  have h1 := this.1 ed hed
  rw [hb] at h1
  simp at h1
  exact h1
 ·have := key j o ho
  rw [ho, hd ho] at this
  simp only [Bool.and_eq_true, List.all_eq_true, List.mem_range] at this
  have h1 := this.2 i hij
  rw [hi, hd hi] at h1
  simp only [hb, cond_true] at h1
  obtain ⟨ed, h2, h3⟩ := Array.any_eq_true'.1 h1
  simp only [Bool.and_eq_true, Bool.or_eq_true, beq_iff_eq] at h3
  exact ⟨ed, h2, h3.1, h3.2.imp id fun h => ⟨by simpa using h.1, h.2⟩⟩
 ·have := key j o ho
  rw [ho, hd ho] at this
  simp only [Bool.and_eq_true, List.all_eq_true, List.mem_range] at this
  have h1 := this.2 i hij
  rw [hi, hd hi] at h1
  simp only [hb, cond_false, farD, Bool.and_eq_true] at h1
  exact ⟨h1.1, farD_spec h1.2.1, farD_spec h1.2.2⟩
theorem ancC_in {A : Array Nat} (hA : OkC l d A) {D : Nat → Bool} (hD : Zga l D) : ∀ j o, l[j]? = some o → (∀ ed, ed ∈ o.after → Region.binds .any ed = true → D ed.on = true) → ∀ i p, l[i]? = some p → i < j → bit A j i = true → D i = true := by
  intro j
  induction j using Nat.strongRecOn with
  | _ j ih =>
    intro o ho ha i p hi hij hb
    obtain ⟨ed, h1, h2, h3⟩ := hA.anc j o i p ho hi hij hb
    have h4 := ha ed h1 h2
    rcases h3 with rfl | ⟨hi2, h3⟩
    · exact h4
    · have h5 := hA.edge j o ho ed h1 h2
      have hl := (List.getElem?_eq_some_iff.1 ho).1
      have hp := List.getElem?_eq_getElem (l := l) (i := ed.on) (by omega)
      exact ih ed.on h5 _ hp (hD ed.on _ hp h4) i p hi hi2 h3
structure WalkC (dm : Bool) (P : Program) (l : List Oper) (d : Nat → OpD) (s : AS) (A : Array Nat) : Prop where
 step : ∀ j o, l[j]? = some o → CStep dm P l.toArray o (runC l d allD s j) (d j)
 ok : OkC l d A
theorem runC_t {D : Nat → Bool} {i t : Nat} (h : ∀ k p, l[k]? = some p → D k ≠ decide (k < i) → p.dst ≠ some t) : ∀ k, (runC l d D s k).t t = (runC l d allD s (min k i)).t t := by
  intro k
  induction k with
  | zero => simp [runC]
  | succ k ih =>
    cases hk : l[k]? with
    | none =>
      have e1 : runC l d D s (k + 1) = runC l d D s k := by simp [runC, hk]
      rw [e1, ih]
      by_cases hki : k < i
      · rw [Nat.min_eq_left (by omega), Nat.min_eq_left (by omega)]
        have : runC l d allD s (k + 1) = runC l d allD s k := by simp [runC, hk]
        rw [this]
      · rw [Nat.min_eq_right (by omega), Nat.min_eq_right (by omega)]
    | some o =>
      by_cases hki : k < i
      · have e2 : min (k + 1) i = k + 1 := by omega
        have e3 : min k i = k := by omega
        rw [e3] at ih
        rw [e2, Zdn (D := allD) hk rfl]
        cases hd : D k with
        | true =>
          rw [Zdn hk hd]
          show updo _ _ _ t = updo _ _ _ t
          cases hds : o.dst with
          | none => exact ih
          | some u =>
            by_cases hu : u = t
            · subst hu; simp only [updo]; rw [Za6, Za6]
            · simp only [updo]; rw [Za7 _ _ hu, Za7 _ _ hu]; exact ih
        | false =>
          rw [Zd1 hd]
          show _ = updo _ _ _ t
          rw [Zew (h k o hk (by rw [hd]; simp [hki]))]
          exact ih
      · have e2 : min (k + 1) i = i := by omega
        have e3 : min k i = i := by omega
        rw [e3] at ih
        rw [e2]
        cases hd : D k with
        | true =>
          rw [Zdn hk hd]
          show updo _ _ _ t = _
          rw [Zew (h k o hk (by rw [hd]; simp [hki]))]
          exact ih
        | false => rw [Zd1 hd]; exact ih
theorem runC_m {D : Nat → Bool} {i j : Nat} (h : ∀ k p, l[k]? = some p → D k ≠ decide (k < i) → Zaq (d k).l j = none) : ∀ k, (runC l d D s k).m j = (runC l d allD s (min k i)).m j := by
  intro k
  induction k with
  | zero => simp [runC]
  | succ k ih =>
    cases hk : l[k]? with
    | none =>
      have e1 : runC l d D s (k + 1) = runC l d D s k := by simp [runC, hk]
      rw [e1, ih]
      by_cases hki : k < i
      · rw [Nat.min_eq_left (by omega), Nat.min_eq_left (by omega)]
        have : runC l d allD s (k + 1) = runC l d allD s k := by simp [runC, hk]
        rw [this]
      · rw [Nat.min_eq_right (by omega), Nat.min_eq_right (by omega)]
    | some o =>
      have skip : ∀ m : Nat → Option Blk, Zaq (d k).l j = none → ovl m (d k).l j = m j := fun m e => by unfold ovl; rw [e]
      by_cases hki : k < i
      · have e2 : min (k + 1) i = k + 1 := by omega
        have e3 : min k i = k := by omega
        rw [e3] at ih
        rw [e2, Zdn (D := allD) hk rfl]
        cases hd : D k with
        | true =>
          rw [Zdn hk hd]
          show ovl _ _ j = ovl _ _ j
          unfold ovl
          cases Zaq (d k).l j with
          | some b => rfl
          | none => exact ih
        | false =>
          rw [Zd1 hd]
          show _ = ovl _ _ j
          rw [skip _ (h k o hk (by rw [hd]; simp [hki]))]
          exact ih
      · have e2 : min (k + 1) i = i := by omega
        have e3 : min k i = i := by omega
        rw [e3] at ih
        rw [e2]
        cases hd : D k with
        | true =>
          rw [Zdn hk hd]
          show ovl _ _ j = _
          rw [skip _ (h k o hk (by rw [hd]; simp [hki]))]
          exact ih
        | false => rw [Zd1 hd]; exact ih
theorem WalkC.sep {A : Array Nat} (h : WalkC dm P l d s A) {D : Nat → Bool} (hD : Zga l D) {i : Nat} {o : Oper} (ho : l[i]? = some o) (hi : D i = false) (ha : ∀ ed, ed ∈ o.after → Region.binds .any ed = true → D ed.on = true) {k : Nat} {p : Oper} (hp : l[k]? = some p) (hk : D k ≠ decide (k < i)) (hki : k ≠ i) :
  (k < i ∧ Sp l d k i p o) ∨ (i < k ∧ Sp l d i k o p) := by
 rcases Nat.lt_or_gt_of_ne hki with hlt | hlt
 ·have hd : D k = false := by simpa [hlt] using hk
  refine .inl ⟨hlt, h.ok.sp i o k p ho hp hlt ?_⟩
  cases hb : bit A i k with
  | false => rfl
  | true => rw [ancC_in h.ok hD i o ho ha k p hp hlt hb] at hd; cases hd
 ·have hd : D k = true := by
   have : decide (k < i) = false := decide_eq_false (by omega)
   rw [this] at hk
   simpa using hk
  refine .inr ⟨hlt, h.ok.sp k p i o hp ho hlt ?_⟩
  cases hb : bit A k i with
  | false => rfl
  | true => rw [ancC_in h.ok hD k p hp (hD k p hp hd) i o ho hlt hb] at hi; cases hi
theorem WalkC.agree {A : Array Nat} (h : WalkC dm P l d s A) {D : Nat → Bool} (hD : Zga l D) {i : Nat} {o : Oper} (ho : l[i]? = some o) (hi : D i = false) (ha : ∀ ed, ed ∈ o.after → Region.binds .any ed = true → D ed.on = true) :
    AgC l.toArray o (d i) (runC l d allD s i) (runC l d D s l.length) := by
  have hil := (List.getElem?_eq_some_iff.1 ho).1
  have e : min l.length i = i := by omega
  refine ⟨fun t ht => ?_, (runC_nt _).1.trans (runC_nt _).1.symm, (runC_nt _).2.trans (runC_nt _).2.symm, fun j hj => ?_⟩
  · have := runC_t (l := l) (d := d) (s := s) (D := D) (i := i) (t := t) (fun k p hp hk => by
      by_cases hki : k = i
      · subst hki; rw [hi] at hk; simp at hk
      · rcases h.sep hD ho hi ha hp hk hki with ⟨-, h1⟩ | ⟨-, h1⟩
        · exact fun e => (Oper.apart_spec h1.ap).1 t e ht
        · exact fun e => (Oper.apart_spec h1.ap).2.2 t e ht) l.length
    rw [e] at this
    exact this
  · have := runC_m (l := l) (d := d) (s := s) (D := D) (i := i) (j := j) (fun k p hp hk => by
      by_cases hki : k = i
      · subst hki; rw [hi] at hk; simp at hk
      · cases hb : Zaq (d k).l j with
        | none => rfl
        | some b =>
          rcases h.sep hD ho hi ha hp hk hki with ⟨-, h1⟩ | ⟨-, h1⟩
          · rw [h1.ij j (by rw [hb]; rfl)] at hj; cases hj
          · rw [h1.ji j (by rw [hb]; rfl)] at hj; cases hj) l.length
    rw [e] at this
    exact this
theorem ovl_comm {m : Nat → Option Blk} {a b : List (Nat × Blk)} (h : ∀ j, (Zaq a j).isSome = true → (Zaq b j).isSome = true → False) : ovl (ovl m a) b = ovl (ovl m b) a := by
  funext j
  have := h j
  unfold ovl
  cases ha : Zaq a j with
  | none => cases hb : Zaq b j <;> rfl
  | some x =>
    cases hb : Zaq b j with
    | none => rfl
    | some y => rw [ha, hb] at this; exact (this rfl rfl).elim
theorem actd_comm {s : AS} {u v : Option Tmp} {a b : OpD} (hd : ∀ t, u = some t → v ≠ some t) (h : ∀ j, (Zaq a.l j).isSome = true → (Zaq b.l j).isSome = true → False) : (s.actd u a).actd v b = (s.actd v b).actd u a := by
  unfold AS.actd
  congr 1
  · cases u with
    | none => rfl
    | some t =>
      cases v with
      | none => rfl
      | some t' => exact upd_comm _ _ _ (fun e => hd t rfl (by rw [e]))
  · exact ovl_comm h
theorem WalkC.insert {A : Array Nat} (h : WalkC dm P l d s A) {D D' : Nat → Bool} (hD : Zga l D) {i : Nat} {o : Oper} (ho : l[i]? = some o) (hi : D i = false) (ha : ∀ ed, ed ∈ o.after → Region.binds .any ed = true → D ed.on = true) (hD' : ∀ k, D' k = (D k || Nat.beq i k)) :
    runC l d D' s l.length = (runC l d D s l.length).actd o.dst (d i) := by
  have hil := (List.getElem?_eq_some_iff.1 ho).1
  have hne : ∀ k, k ≠ i → D' k = D k := fun k hk => by
    rw [hD', Ze5 (Ne.symm hk), Bool.or_false]
  have hself : D' i = true := by rw [hD']; simp
  have h1 : ∀ k, k ≤ i → runC l d D' s k = runC l d D s k := by
    intro k
    induction k with
    | zero => intro _; rfl
    | succ k ih =>
      intro hk
      have ih := ih (by omega)
      simp only [runC, ih, hne k (by omega)]
  have h2 : ∀ k, i < k → k ≤ l.length → runC l d D' s k = (runC l d D s k).actd o.dst (d i) := by
    intro k
    induction k with
    | zero => intro h _; omega
    | succ k ih =>
      intro h3 h4
      by_cases hk : i = k
      · subst hk
        rw [Zdn ho hself, Zd1 hi, h1 i (Nat.le_refl _)]
      · have ih := ih (by omega) (by omega)
        have hp : l[k]? = some l[k] := by simp
        cases hd : D k with
        | false => rw [Zd1 hd, Zd1 ((hne k (Ne.symm hk)).trans hd)]; exact ih
        | true =>
          rw [Zdn hp hd, Zdn hp ((hne k (Ne.symm hk)).trans hd), ih]
          have hsp : Sp l d i k o l[k] := by
            have hkd : D k ≠ decide (k < i) := by
              rw [hd, decide_eq_false (by omega)]; simp
            rcases h.sep hD ho hi ha hp hkd (Ne.symm hk) with ⟨g, -⟩ | ⟨-, g⟩
            · omega
            · exact g
          refine actd_comm (Oper.apart_spec hsp.ap).2.1 fun j t1 t2 => ?_
          have := (h.step k _ hp).1 j t2
          rw [hsp.ij j t1] at this
          cases this
  exact h2 _ hil (Nat.le_refl _)
theorem WalkC.any {A : Array Nat} (h : WalkC dm P l d s A) {w0 : World} {M0 : Cx} (hM : OKC dm M0 w0) {Q : Exit → Act → World → Prop} (hQ : ∀ a w, Rel w0 M0 (runC l d allD s l.length) a w → Q .normal a w) :
    ∀ (fuel : Nat) (listed : Array Bool) (a : Act) (w : World), listed.size = l.length → Zga l (fun i => listed.getD i false) → (List.range l.length).countP (fun i => !listed.getD i false) ≤ fuel → Rel w0 M0 (runC l d (fun i => listed.getD i false) s l.length) a w → wpAny P .any l.toArray Q fuel listed a w := by
  have all : ∀ (listed : Array Bool) (a : Act) (w : World), listed.size = l.length → Zga l (fun i => listed.getD i false) → Region.ready .any l.toArray listed = [] → Rel w0 M0 (runC l d (fun i => listed.getD i false) s l.length) a w → Q .normal a w := by
    intro listed a w hsz hcl hr hrel
    have key : ∀ i, i < l.length → listed.getD i false = true := by
      intro i
      induction i using Nat.strongRecOn with
      | _ i ih =>
        intro hi
        cases hb : listed.getD i false with
        | true => rfl
        | false =>
          exfalso
          have hp : l[i]? = some l[i] := by simp [hi]
          have : i ∈ Region.ready .any l.toArray listed := by
            rw [mem_ready]
            refine ⟨?_, l[i], by simp, fun ed hed hbd => ?_⟩
            · have : i < listed.size := by omega
              simp [this] at hb ⊢; exact hb
            · exact ih ed.on (h.ok.edge i _ hp ed hed hbd) (by have := h.ok.edge i _ hp ed hed hbd; omega)
          rw [hr] at this; cases this
    have hsame : ∀ k, k ≤ l.length → runC l d (fun i => listed.getD i false) s k = runC l d allD s k := by
      intro k
      induction k with
      | zero => intro _; rfl
      | succ k ih =>
        intro hk
        have ih := ih (by omega)
        simp only [runC, ih, key k (by omega), allD]
    rw [hsame _ (Nat.le_refl _)] at hrel
    exact hQ a w hrel
  intro fuel
  induction fuel with
  | zero =>
    intro listed a w hsz hcl hc hrel
    have hr : Region.ready .any l.toArray listed = [] := by
      cases hh : Region.ready .any l.toArray listed with
      | nil => rfl
      | cons i r =>
        exfalso
        have hi : i ∈ Region.ready .any l.toArray listed := by rw [hh]; simp
        obtain ⟨h1, o, h2, -⟩ := mem_ready.1 hi
        have hil : i < l.length := by simpa using (Array.getElem?_eq_some_iff.1 h2).1
        have h0 : (List.range l.length).countP (fun i => !listed.getD i false) = 0 := by omega
        rw [List.countP_eq_zero] at h0
        have := h0 i (by simp; exact hil)
        have hs : i < listed.size := by omega
        simp [hs] at h1 this
        rw [h1] at this; cases this
    exact ⟨hr, all listed a w hsz hcl hr hrel⟩
  | succ fuel ih =>
    intro listed a w hsz hcl hc hrel
    refine ⟨fun hr => all listed a w hsz hcl hr hrel, fun i hi => ?_⟩
    obtain ⟨h1, o, h2, h3⟩ := mem_ready.1 hi
    have ho : l[i]? = some o := by simpa using h2
    have hil := (List.getElem?_eq_some_iff.1 ho).1
    have hs : i < listed.size := by omega
    have hDi : listed.getD i false = false := by simp [hs] at h1 ⊢; exact h1
    have hag := h.agree hcl ho hDi h3
    have hset : ∀ k, (listed.setIfInBounds i true).getD k false = (listed.getD k false || Nat.beq i k) := by
      intro k
      by_cases hk : i = k
      · subst hk; simp [hs]
      · rw [getD_set_ne false hk, Ze5 hk, Bool.or_false]
    unfold wpOp
    simp only [h2]
    have := (h.step i o ho).2 _ hag w0 M0 a w hM hrel (wpAny P .any l.toArray Q fuel (listed.setIfInBounds i true)) Q (fun a' w' hr' => by
      refine ih _ a' w' (by simp [hsz]) (fun j q hq hj ed hed hb => ?_) ?_ ?_
      · show (listed.setIfInBounds i true).getD ed.on false = true
        have hj : (listed.setIfInBounds i true).getD j false = true := hj
        rw [hset] at hj ⊢
        simp only [Bool.or_eq_true] at hj ⊢
        rcases hj with hj | hj
        · exact .inl (hcl j q hq hj ed hed hb)
        · have := Nat.eq_of_beq_eq_true hj
          subst this
          rw [ho] at hq
          injection hq with hq
          subst hq
          exact .inl (h3 ed hed hb)
      · have hlt := countP_lt (p := fun i => !listed.getD i false) (q := fun k => !(listed.setIfInBounds i true).getD k false) (i := i) (l := List.range l.length) (fun k hk => by rw [hset] at hk; simp at hk ⊢; exact hk.1) (by simpa using hil) (by rw [hDi]; rfl) (by rw [hset]; simp)
        omega
      · rw [h.insert (D' := fun k => (listed.setIfInBounds i true).getD k false) hcl ho hDi h3 hset]
        exact hr')
    split
    · rename_i hw; rw [if_pos hw] at this; exact .inl this
    · rename_i hw; rw [if_neg hw] at this; exact this
theorem T.drawC {id : Nat} {Q : Exit → AS → Prop} (hm : P.follows .mixedOrders = true) (h : EvC dm P l.toArray l s (fun ds z => okC ds l (Region.before l.toArray) = true ∧ Q .normal z)) : T dm P (.region id l.toArray true) s Q := fun w0 M0 hM a w hr => by
 obtain ⟨d, h1, hA, h2⟩ := evC_data l s _ h
 have hw : WalkC dm P l d s (Region.before l.toArray) := ⟨h1, okC_spec hA⟩
 refine wp_region_any hm ?_
 have hf : ∀ i, (Array.replicate l.toArray.size false).getD i false = false := fun i => by
  rw [Array.getD_eq_getD_getElem?, Array.getElem?_replicate]; split <;> rfl
 refine hw.any hM (fun a' w' hr' => ⟨_, h2, hr'⟩) _ _ a _ (by simp) (fun j o _ hj => by have hj : (Array.replicate l.toArray.size false).getD j false = true := hj; rw [hf] at hj; cases hj) (Nat.le_trans List.countP_le_length (by simp)) ?_
 have hnone : ∀ k, runC l d (fun i => (Array.replicate l.toArray.size false).getD i false) s k = s := by
  intro k
  induction k with
  | zero => rfl
  | succ k ih => rw [Zd1 (hf k)]; exact ih
 rw [hnone]
 obtain ⟨ρ, hr⟩ := hr
 exact ⟨ρ, hr.ext ((Below.refl _ _).drew)⟩
end
section
variable {P : Program} {ops : Array Oper} {o : Oper} {r : List Oper} {s : AS} {x : TV} {K : List OpD → AS → Prop}
theorem agree_of {F : Nat → Bool} {l : List (Nat × Blk)} {s' : AS} (h : AgC ops o ⟨x, F, l⟩ s s') (h1 : Zd5 o.op = true → stB o.op = false → idxB o.op = false → Zdi s o.op = false → ∀ j, F j = true) (h2 : idxB o.op = true → Zdi s o.op = false → ∀ j, F j = true) (h3 : ∀ y, adOf o.op = some y → ∀ i, Zgj (s.ev y) i → F i = true) : Agree ops o s s' :=
 ⟨h.t, h.nt, h.nd, fun a b c d i z hz => (h.m i (h1 a b c d i)).trans hz, fun a b i z hz => ⟨z, (h.m i (h2 a b i)).trans hz, rfl⟩, fun y hy i hi z hz => (h.m i (h3 y hy i hi)).trans hz⟩
theorem ovl_one (m : Nat → Option Blk) (id : Nat) (b : Blk) : ovl m [(id, b)] = upd m id b := by
 funext j
 unfold ovl upd Zaq Zaq
 cases Nat.beq id j <;> rfl
theorem cs_none {F : Nat → Bool} (hg : o.guard = none) (h : Zbg dm P ops o s x .none) (h1 : Zd5 o.op = true → stB o.op = false → idxB o.op = false → Zdi s o.op = false → ∀ j, F j = true) (h2 : idxB o.op = true → Zdi s o.op = false → ∀ j, F j = true) (h3 : ∀ y, adOf o.op = some y → ∀ i, Zgj (s.ev y) i → F i = true) : CStep dm P ops o s ⟨x, F, []⟩ := by
 refine ⟨fun j hj => (by cases hj), fun s' hag w0 M0 a w hM hr next Q hn => ?_⟩
 rw [if_pos (by simp [Region.wanted, hg])]
 exact h.2.2 s' (agree_of hag h1 h2 h3) (fun id b e => by cases e) w0 M0 a w hM hr next Q hn
theorem cs_new {F : Nat → Bool} {id : Nat} {b : Blk} (hg : o.guard = none) (h : Zbg dm P ops o s x (.new id b)) (hF : F id = true) (h1 : Zd5 o.op = true → stB o.op = false → idxB o.op = false → Zdi s o.op = false → ∀ j, F j = true) (h2 : idxB o.op = true → Zdi s o.op = false → ∀ j, F j = true) (h3 : ∀ y, adOf o.op = some y → ∀ i, Zgj (s.ev y) i → F i = true) : CStep dm P ops o s ⟨x, F, [(id, b)]⟩ := by
 refine ⟨fun j hj => ?_, fun s' hag w0 M0 a w hM hr next Q hn => ?_⟩
 ·by_cases hi : id = j
  ·subst hi; exact hF
  ·simp [Zaq, Ze5 hi] at hj
 ·rw [if_pos (by simp [Region.wanted, hg])]
  refine h.2.2 s' (agree_of hag h1 h2 h3) (fun id' b' e => ?_) w0 M0 a w hM hr next Q (fun a' w' h' => hn a' w' ?_)
  ·injection e with e1 e2
   subst e1
   rw [hag.m id hF]
   exact (h.1 id b rfl).2
  ·have e : s'.actd o.dst ⟨x, F, [(id, b)]⟩ = s'.act o.dst x (.new id b) := by
    unfold AS.actd AS.act
    rw [ovl_one]; rfl
   rw [e]; exact h'
theorem cs_set {F : Nat → Bool} {id : Nat} {b : Blk} (hg : o.guard = none) (h : Zbg dm P ops o s x (.set id b)) (hF : F id = true) (h1 : Zd5 o.op = true → stB o.op = false → idxB o.op = false → Zdi s o.op = false → ∀ j, F j = true) (h2 : idxB o.op = true → Zdi s o.op = false → ∀ j, F j = true) (h3 : ∀ y, adOf o.op = some y → ∀ i, Zgj (s.ev y) i → F i = true) : CStep dm P ops o s ⟨x, F, [(id, b)]⟩ := by
 refine ⟨fun j hj => ?_, fun s' hag w0 M0 a w hM hr next Q hn => ?_⟩
 ·by_cases hi : id = j
  ·subst hi; exact hF
  ·simp [Zaq, Ze5 hi] at hj
 ·rw [if_pos (by simp [Region.wanted, hg])]
  refine h.2.2 s' (agree_of hag h1 h2 h3) (fun id' b' e => by cases e) w0 M0 a w hM hr next Q (fun a' w' h' => hn a' w' ?_)
  have e : s'.actd o.dst ⟨x, F, [(id, b)]⟩ = s'.act o.dst x (.set id b) := by
   unfold AS.actd AS.act
   rw [ovl_one]; rfl
  rw [e]; exact h'
theorem Zal (h : Zbg dm P ops o s x .none) (hg : o.guard = none) (hs : Zd5 o.op = false) (k : EvC dm P ops r (s.actd o.dst ⟨x, fun _ => false, []⟩) (fun ds z => K (⟨x, fun _ => false, []⟩ :: ds) z)) : EvC dm P ops (o :: r) s K := by
 refine ⟨_, cs_none hg h (fun e => by rw [hs] at e; cases e) (fun e => by rw [idxB_sees e] at hs; cases hs) (fun y hy => ?_), k⟩
 exfalso
 have hst : stB o.op = true := by unfold stB; rw [hy]; rfl
 have : Zd5 o.op = true := by
  cases ho : o.op <;> rw [ho] at hst <;> first | (cases hst; done) | rfl
 rw [hs] at this; cases this
theorem Zfg (h : Zbg dm P ops o s x .none) (hg : o.guard = none) (hq : Zdi s o.op = true) (hst : (adOf o.op).isSome = false) (k : EvC dm P ops r (s.actd o.dst ⟨x, fun _ => false, []⟩) (fun ds z => K (⟨x, fun _ => false, []⟩ :: ds) z)) : EvC dm P ops (o :: r) s K :=
 ⟨_, cs_none hg h (fun _ _ _ e => by rw [hq] at e; cases e) (fun _ e => by rw [hq] at e; cases e) (fun y hy => by rw [hy] at hst; cases hst), k⟩
theorem Zbc {y : Operand} {id off : Nat} {t : TypeId} {dst : Option Tmp} {ty : TypeId} {pos : String} {after : Array Edge} (h : Zbg dm P ops ⟨dst, .load t y, ty, pos, after, none⟩ s x .none) (hy : s.ev y = some (.ptr id off)) (k : EvC dm P ops r (s.actd dst ⟨x, Nat.beq id, []⟩) (fun ds z => K (⟨x, Nat.beq id, []⟩ :: ds) z)) : EvC dm P ops (⟨dst, .load t y, ty, pos, after, none⟩ :: r) s K :=
 ⟨_, cs_none rfl h (fun _ e => by cases e) (fun e => by cases e) (fun y' e i hi => by
  have e : some y = some y' := e
  injection e with e
  subst e
  rw [hy] at hi
  have hi : id = i := hi
  subst hi
  exact Nat.beq_refl id), k⟩
theorem ec_new {id : Nat} {b : Blk} (h : Zbg dm P ops o s x (.new id b)) (hg : o.guard = none) (hs : Zd5 o.op = false) (k : EvC dm P ops r (s.actd o.dst ⟨x, Nat.beq id, [(id, b)]⟩) (fun ds z => K (⟨x, Nat.beq id, [(id, b)]⟩ :: ds) z)) : EvC dm P ops (o :: r) s K := by
 refine ⟨_, cs_new hg h (Nat.beq_refl id) (fun e => by rw [hs] at e; cases e) (fun e => by rw [idxB_sees e] at hs; cases hs) (fun y hy => ?_), k⟩
 exfalso
 have hst : stB o.op = true := by unfold stB; rw [hy]; rfl
 have : Zd5 o.op = true := by
  cases ho : o.op <;> rw [ho] at hst <;> first | (cases hst; done) | rfl
 rw [hs] at this; cases this
theorem Ze2 {id : Nat} {b : Blk} {y : Operand} (h : Zbg dm P ops o s x (.set id b)) (hg : o.guard = none) (ha : adOf o.op = some y) (hi : idxB o.op = false) (hr : ∀ i, Zgj (s.ev y) i → id = i) (k : EvC dm P ops r (s.actd o.dst ⟨x, Nat.beq id, [(id, b)]⟩) (fun ds z => K (⟨x, Nat.beq id, [(id, b)]⟩ :: ds) z)) : EvC dm P ops (o :: r) s K :=
 ⟨_, cs_set hg h (Nat.beq_refl id) (fun _ e => by unfold stB at e; rw [ha] at e; cases e) (fun e => by rw [hi] at e; cases e) (fun y' e i hi' => by
  rw [ha] at e
  injection e with e
  subst e
  rw [← hr i hi']
  exact Nat.beq_refl id), k⟩
def bacS (S : List (Nat × Nat)) (L' : List (Nat × Blk)) : List (Nat × Blk) := L'.map fun p => (sg S p.1, renB (sg S) p.2)
theorem memR_ovl {S : List (Nat × Nat)} {L L' : List (Nat × Blk)} (hS : okS S L L' = true) (m : Nat → Option Blk) (hd : nodB (L'.map (·.1)) = true) : memR S L' m = ovl m (bacS S L') := by
  simp only [okS, Bool.and_eq_true, List.all_eq_true] at hS
  obtain ⟨⟨⟨⟨⟨n1, n2⟩, oL⟩, oL'⟩, oS⟩, cl⟩ := hS
  funext j
  unfold memR ovl
  cases hj : Zaq (ivS S) j with
  | none =>
    have : Zaq (bacS S L') j = none := by
      cases hb : Zaq (bacS S L') j with
      | none => rfl
      | some b =>
        obtain ⟨⟨i, c⟩, h1, h2⟩ := List.mem_map.1 (Zbw hb)
        injection h2 with h2 h3
        have h4 := oL' _ h1
        obtain ⟨k, hk⟩ := Option.isSome_iff_exists.1 h4
        have : sg S i = k := by unfold sg; rw [hk]; rfl
        rw [this] at h2
        subst h2
        rw [(sg_iff n1 n2).1 hk] at hj
        cases hj
    rw [this]
  | some i =>
    have hi := (sg_iff n1 n2).2 hj
    obtain ⟨c, hc⟩ := Option.isSome_iff_exists.1 (oS _ (Zbw hi))
    have hc : Zaq L' i = some c := hc
    have hsg : sg S i = j := by unfold sg; rw [hi]; rfl
    have : Zaq (bacS S L') j = some (renB (sg S) c) := by
      refine alook_of ?_ (List.mem_map.2 ⟨(i, c), Zbw hc, by rw [hsg]⟩)
      -- names are different
      have inj : ∀ a b, (Zaq S a).isSome = true → (Zaq S b).isSome = true → sg S a = sg S b → a = b := fun a b ha hb e => by
        obtain ⟨x, hx⟩ := Option.isSome_iff_exists.1 ha
        obtain ⟨y, hy⟩ := Option.isSome_iff_exists.1 hb
        have ex : sg S a = x := by unfold sg; rw [hx]; rfl
        have ey : sg S b = y := by unfold sg; rw [hy]; rfl
        rw [ex, ey] at e
        subst e
        have h1 := (sg_iff n1 n2).1 hx
        have h2 := (sg_iff n1 n2).1 hy
        rw [h1] at h2
        injection h2
      have key : ∀ Q : List (Nat × Blk), (∀ p, p ∈ Q → (Zaq S p.1).isSome = true) → nodB (Q.map (·.1)) = true → nodB ((bacS S Q).map (·.1)) = true := by
        intro Q
        induction Q with
        | nil => intro _ _; rfl
        | cons p Q ih =>
          intro h1 h2
          simp only [List.map_cons, nodB, Bool.and_eq_true, Bool.not_eq_true', List.any_eq_false] at h2
          show ((!((bacS S Q).map (·.1)).any fun y => Nat.beq (sg S p.1) y) && nodB ((bacS S Q).map (·.1))) = true
          rw [ih (fun q hq => h1 q (List.mem_cons_of_mem _ hq)) h2.2, Bool.and_true, Bool.not_eq_true', List.any_eq_false]
          intro y hy hb
          have e := Nat.eq_of_beq_eq_true hb
          subst e
          obtain ⟨q', hq', e1⟩ := List.mem_map.1 hy
          obtain ⟨q, hq, rfl⟩ := List.mem_map.1 hq'
          have e2 := inj p.1 q.1 (h1 p (List.mem_cons_self ..)) (h1 q (List.mem_cons_of_mem _ hq)) e1.symm
          exact h2.1 q.1 (List.mem_map.2 ⟨q, hq, rfl⟩) (by rw [e2]; exact Nat.beq_refl _)
      exact key L' oL' hd
    rw [this]
    show (Zaq L' i).map _ = some (renB (sg S) c)
    rw [hc]; rfl
def inS (S : List (Nat × Nat)) (j : Nat) : Bool := S.any fun p => Nat.beq p.2 j
theorem Zbm {f : FuncId} {args : List TV} {L L' : List (Nat × Blk)} {res : TV} {nd : Bool} {lo : List Operand} {dst : Option Tmp} {ts : Array TypeId} {ty : TypeId} {pos : String} {after : Array Edge} (S : List (Nat × Nat))
  (hc : PCM dm P f args L nd res L') (hS : okS S L L' = true) (hL' : nodB (L'.map (·.1)) = true) (hin : inbB s dst = true) (hnd : s.nd = nd) (hdm : (!dm || nd) = true) (ha : lo.map s.ev = args.map (fun x => some (Zdb (sg S) x))) (har : args.all (Zgy L) = true)
  (hL : AllP (fun p : Nat × Blk => s.m (sg S p.1) = some (renB (sg S) p.2)) L) (hnew : AllP (fun p : Nat × Nat => (Zaq L p.1).isSome = true ∨ s.m p.2 = none) S)
  (k : EvC dm P ops r (s.actd dst ⟨Zdb (sg S) res, inS S, bacS S L'⟩) (fun ds z => K (⟨Zdb (sg S) res, inS S, bacS S L'⟩ :: ds) z)) : EvC dm P ops (⟨dst, .call ⟨.value (.func f), lo.toArray, ts⟩, ty, pos, after, none⟩ :: r) s K := by
 have hS' := hS
 simp only [okS, Bool.and_eq_true, List.all_eq_true] at hS'
 obtain ⟨⟨⟨⟨⟨n1, n2⟩, oL⟩, oL'⟩, oS⟩, cl⟩ := hS'
 have hsg : ∀ i, (Zaq S i).isSome = true → inS S (sg S i) = true := fun i hi => by
  obtain ⟨j, hj⟩ := Option.isSome_iff_exists.1 hi
  have : sg S i = j := by unfold sg; rw [hj]; rfl
  rw [this]
  exact List.any_eq_true.2 ⟨(i, j), Zbw hj, Nat.beq_refl j⟩
 refine ⟨_, ⟨fun j hj => ?_, fun s' hag w0 M0 a w hM hr next Q hn => ?_⟩, k⟩
 ·obtain ⟨b, hb⟩ := Option.isSome_iff_exists.1 hj
  obtain ⟨p, h1, h2⟩ := List.mem_map.1 (Zbw hb)
  injection h2 with h2 h3
  subst h2
  exact hsg _ (oL' _ h1)
 ·have hev : ∀ y, y ∈ lo → s'.ev y = s.ev y := fun y hy => hag.ev (by simp only [Op.operands, Call.operands]; simp [hy])
  have ha' : lo.map s'.ev = args.map (fun x => some (Zdb (sg S) x)) := by
   rw [← ha]
   exact List.map_congr_left hev
  have hL2 : AllP (fun p : Nat × Blk => s'.m (sg S p.1) = some (renB (sg S) p.2)) L := by
   have : ∀ Q : List (Nat × Blk), (∀ p, p ∈ Q → (Zaq S p.1).isSome = true) → AllP (fun p : Nat × Blk => s.m (sg S p.1) = some (renB (sg S) p.2)) Q → AllP (fun p : Nat × Blk => s'.m (sg S p.1) = some (renB (sg S) p.2)) Q := by
    intro Q
    induction Q with
    | nil => exact fun _ h => h
    | cons p Q ih => exact fun h1 h2 => ⟨(hag.m _ (hsg _ (h1 p (List.mem_cons_self ..)))).trans h2.1, ih (fun q hq => h1 q (List.mem_cons_of_mem _ hq)) h2.2⟩
   exact this L oL hL
  have hnew2 : AllP (fun p : Nat × Nat => (Zaq L p.1).isSome = true ∨ s'.m p.2 = none) S := by
   have : ∀ Q : List (Nat × Nat), (∀ p, p ∈ Q → p ∈ S) → AllP (fun p : Nat × Nat => (Zaq L p.1).isSome = true ∨ s.m p.2 = none) Q → AllP (fun p : Nat × Nat => (Zaq L p.1).isSome = true ∨ s'.m p.2 = none) Q := by
    intro Q
    induction Q with
    | nil => exact fun _ h => h
    | cons p Q ih => exact fun h1 h2 => ⟨h2.1.imp_right fun e => (hag.m p.2 (List.any_eq_true.2 ⟨p, h1 p (List.mem_cons_self ..), Nat.beq_refl _⟩)).trans e, ih (fun q hq => h1 q (List.mem_cons_of_mem _ hq)) h2.2⟩
   exact this S (fun _ h => h) hnew
  have hin2 : inbB s' dst = true := by
   rw [← hin]
   unfold inbB
   cases dst with
   | none => rfl
   | some d => simp only [hag.nt]
  have := ms_call (ops := ops) (s := s') (lo := lo) (dst := dst) (ts := ts) (ty := ty) (pos := pos) (after := after) (K := fun z => z = { s' with t := updo s'.t dst (Zdb (sg S) res), m := memR S L' s'.m }) S hc hS hin2 (hag.nd.trans hnd) hdm ha' har hL2 hnew2 rfl
  refine this w0 M0 hM a w hr next Q (fun s'' a' w' hs hr' => hn a' w' ?_)
  subst hs
  rw [memR_ovl hS s'.m hL'] at hr'
  exact hr'
end
end Ab
