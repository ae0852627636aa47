/- A drawn region whose last operation waits for all others: the others in any order, then the last one, which may be a call that is handed the caller's own memory. -/
import Derived.Test.YtbpdgaolmikjbaaGreatWo
set_option linter.all false
namespace Ab
open Go Go.RowKit Go.Proofs
variable {dm : Bool}
theorem wp_exits {P : Program} {o : Oper} {a : Act} {w : World} {K : Act → World → Prop} {Q Q' : Exit → Act → World → Prop} (hp : ∀ c a w, Q' (.panic c) a w → Q (.panic c) a w) (ho : ∀ a w, Q' .outgrown a w → Q .outgrown a w) (h : o.wp P a w K Q') : o.wp P a w K Q := by
  unfold Oper.wp at *
  generalize (execOp a.eval o).run P w = r at *
  cases r with
  | ok n w' =>
    cases n <;> simp only [Oper.upon] at h ⊢ <;> first
      | exact h
      | exact Calls.mono h (fun e w'' he => by cases e <;> first | exact he | exact hp _ _ _ he | exact he.imp fun a h => h.imp fun w h => ho a w h)
  | halt x w' => cases x <;> simp only [Oper.upon] at h ⊢ <;> first | exact h | exact hp _ _ _ h
def waitsB (l : List Oper) (o : Oper) (A : Array Nat) : Bool :=
 (o.after.all fun ed => !Region.binds .any ed || Nat.blt ed.on l.length) && (List.range l.length).all fun i => o.after.any fun ed => Region.binds .any ed && (Nat.beq ed.on i || (Nat.blt i ed.on && (Nat.blt ed.on l.length && bit A ed.on i)))
def guardsB (l : List Oper) : Bool := l.all fun o => match o.guard with
 | none => true
 | some (j, _) => Nat.blt j l.length
def lastQ (P : Program) (ops : Array Oper) (n : Nat) (Q : Exit → Act → World → Prop) : Exit → Act → World → Prop
 | .normal, a, w => wpOp P ops Q n (Q .normal) a w
 | x, a, w => Q x a w
section
variable {P : Program} {l : List Oper} {o : Oper} {x : Nat → TV} {e : Nat → Eff} {s : AS} {A : Array Nat}
theorem getD_push {L : Array Bool} {i : Nat} (h : i < L.size) (d : Bool) : (L.push false).getD i d = L.getD i d := by
 rw [Array.getD_eq_getD_getElem?, Array.getD_eq_getD_getElem?, Array.getElem?_push, if_neg (by omega)]
theorem getD_push_ge {L : Array Bool} {i : Nat} (h : L.size ≤ i) : (L.push false).getD i false = false := by
 rw [Array.getD_eq_getD_getElem?, Array.getElem?_push]
 split
 ·rfl
 ·rw [Array.getElem?_eq_none h]; rfl
theorem ready_snoc {L : Array Bool} (hsz : L.size = l.length) {i : Nat} (hi : i < l.length) : i ∈ Region.ready .any (l ++ [o]).toArray (L.push false) ↔ i ∈ Region.ready .any l.toArray L := by
 rw [mem_ready, mem_ready, getD_push (by omega)]
 have e : (l ++ [o]).toArray[i]? = l.toArray[i]? := by simp [List.getElem?_append_left hi]
 rw [e]
 refine and_congr Iff.rfl (exists_congr fun p => and_congr Iff.rfl (forall_congr' fun ed => forall_congr' fun _ => forall_congr' fun _ => ?_))
 by_cases h : ed.on < L.size
 ·rw [getD_push h]
 ·rw [getD_push_ge (by omega), Array.getD_eq_getD_getElem?, Array.getElem?_eq_none (by omega)]; exact Iff.rfl
theorem yielded_snoc {a : Act} {j : Nat} (h : j < l.length) : yielded (l ++ [o]).toArray a.tmps j = yielded l.toArray a.tmps j := by
 unfold yielded
 have e : (l ++ [o]).toArray[j]? = l.toArray[j]? := by simp [List.getElem?_append_left h]
 rw [e]
theorem wpOp_snoc {Q : Exit → Act → World → Prop} {K : Act → World → Prop} (hg : guardsB l = true) {i : Nat} (hi : i < l.length) {a : Act} {w : World} (h : wpOp P l.toArray (lastQ P (l ++ [o]).toArray l.length Q) i K a w) : wpOp P (l ++ [o]).toArray Q i K a w := by
  unfold wpOp at *
  have e : (l ++ [o]).toArray[i]? = l.toArray[i]? := by simp [List.getElem?_append_left hi]
  rw [e]
  have ep : l.toArray[i]? = some l[i] := by simp
  rw [ep] at h ⊢
  simp only at h ⊢
  have ew : Region.wanted l[i] (yielded (l ++ [o]).toArray a.tmps) = Region.wanted l[i] (yielded l.toArray a.tmps) := by
    have h1 := List.all_eq_true.1 hg l[i] (List.getElem_mem hi)
    unfold Region.wanted
    cases hgd : l[i].guard with
    | none => rfl
    | some p =>
      rw [hgd] at h1
      have h2 : p.1 < l.length := by simpa using h1
      simp only [yielded_snoc h2]
  rw [ew]
  split
  · rename_i hw
    rw [if_pos hw] at h
    rcases h with h | ⟨h1, h2⟩
    · exact .inl (wp_exits (fun _ _ _ h => h) (fun _ _ h => h) h)
    · exact .inr ⟨h1, h2⟩
  · rename_i hw
    rw [if_neg hw] at h
    exact h
theorem waits_all (hA : OkS l x e s A) (hw : waitsB l o A = true) {D : Nat → Bool} (hD : Closed l D) (ha : ∀ ed, ed ∈ o.after → Region.binds .any ed = true → D ed.on = true) (i : Nat) (hi : i < l.length) : D i = true := by
 unfold waitsB at hw
 rw [Bool.and_eq_true] at hw
 have h1 := List.all_eq_true.1 hw.2 i (List.mem_range.2 hi)
 obtain ⟨ed, h2, h3⟩ := Array.any_eq_true'.1 h1
 simp only [Bool.and_eq_true, Bool.or_eq_true] at h3
 obtain ⟨h3, h4⟩ := h3
 have h5 := ha ed h2 h3
 rcases h4 with h4 | ⟨h4, h6, h7⟩
 ·rw [← Nat.eq_of_beq_eq_true h4]; exact h5
 ·have h4 : i < ed.on := by simpa using h4
  have h6 : ed.on < l.length := by simpa using h6
  exact anc_in hA hD ed.on l[ed.on] (by simp) (fun e' h8 h9 => hD ed.on l[ed.on] (by simp) h5 e' h8 h9) i l[i] (by simp) h4 h7
theorem wpAny_snoc {Q : Exit → Act → World → Prop} (hA : OkS l x e s A) (hw : waitsB l o A = true) (hg : guardsB l = true) : ∀ (fuel : Nat) (L : Array Bool) (a : Act) (w : World), L.size = l.length → Closed l (fun i => L.getD i false) →
    wpAny P .any l.toArray (lastQ P (l ++ [o]).toArray l.length Q) fuel L a w → wpAny P .any (l ++ [o]).toArray Q (fuel + 1) (L.push false) a w := by
  intro fuel
  have last : ∀ (L : Array Bool), L.size = l.length → Closed l (fun i => L.getD i false) → l.length ∈ Region.ready .any (l ++ [o]).toArray (L.push false) → ∀ i, i < l.length → L.getD i false = true := by
    intro L hsz hcl hm i hi
    obtain ⟨-, p, h2, h3⟩ := mem_ready.1 hm
    have hp : p = o := by simpa using h2.symm
    subst hp
    refine waits_all hA hw hcl (fun ed h4 h5 => ?_) i hi
    have h6 := h3 ed h4 h5
    by_cases h : ed.on < L.size
    · rw [getD_push h] at h6; exact h6
    · rw [getD_push_ge (by omega)] at h6; cases h6
  have none : ∀ (L : Array Bool), L.size = l.length → (∀ i, i < l.length → L.getD i false = true) → Region.ready .any l.toArray L = [] := by
    intro L hsz h
    refine List.eq_nil_iff_forall_not_mem.2 fun i hi => ?_
    obtain ⟨h1, p, h2, -⟩ := mem_ready.1 hi
    have hil : i < l.length := by simpa using (Array.getElem?_eq_some_iff.1 h2).1
    have := h i hil
    have hs : i < L.size := by omega
    simp [hs] at h1 this
    rw [h1] at this; cases this
  have all : ∀ (L : Array Bool), L.size = l.length → (∀ i, i < l.length → L.getD i false = true) → Region.ready .any (l ++ [o]).toArray ((L.push false).setIfInBounds l.length true) = [] := by
    intro L hsz h
    refine List.eq_nil_iff_forall_not_mem.2 fun i hi => ?_
    obtain ⟨h1, p, h2, -⟩ := mem_ready.1 hi
    have hil : i < l.length + 1 := by simpa using (Array.getElem?_eq_some_iff.1 h2).1
    by_cases hn : l.length = i
    · subst hn
      have hs : l.length < (L.push false).size := by simp [hsz]
      simp [hsz] at h1
    · rw [getD_set_ne true hn, getD_push (by omega)] at h1
      have := h i (by omega)
      have hs : i < L.size := by omega
      simp [hs] at h1 this
      rw [h1] at this; cases this
  have fin : ∀ (f : Nat) (L : Array Bool), L.size = l.length → Closed l (fun i => L.getD i false) → l.length ∈ Region.ready .any (l ++ [o]).toArray (L.push false) → ∀ a w, Q .normal a w → wpAny P .any (l ++ [o]).toArray Q f ((L.push false).setIfInBounds l.length true) a w := by
    intro f L hsz hcl hm a w hq
    have hr := all L hsz (last L hsz hcl hm)
    cases f with
    | zero => exact ⟨hr, hq⟩
    | succ f => exact ⟨fun _ => hq, fun i hi => by rw [hr] at hi; cases hi⟩
  have empty : ∀ (L : Array Bool), L.size = l.length → Closed l (fun i => L.getD i false) → Region.ready .any (l ++ [o]).toArray (L.push false) = [] → False := by
    intro L hsz hcl hr
    have h1 : Region.ready .any l.toArray L = [] := by
      refine List.eq_nil_iff_forall_not_mem.2 fun i hi => ?_
      have hil : i < l.length := by
        obtain ⟨-, p, h2, -⟩ := mem_ready.1 hi
        simpa using (Array.getElem?_eq_some_iff.1 h2).1
      have := (ready_snoc (o := o) hsz hil).2 hi
      rw [hr] at this; cases this
    have key : ∀ i, i < l.length → L.getD i false = true := by
      intro i
      induction i using Nat.strongRecOn with
      | _ i ih =>
        intro hi
        cases hb : L.getD i false with
        | true => rfl
        | false =>
          exfalso
          have hp : l[i]? = some l[i] := by simp [hi]
          have : i ∈ Region.ready .any l.toArray L := by
            rw [mem_ready]
            refine ⟨?_, l[i], by simp, fun ed hed hbd => ?_⟩
            · have : i < L.size := by omega
              simp [this] at hb ⊢; exact hb
            · exact ih ed.on (hA.edge i _ hp ed hed hbd) (by have := hA.edge i _ hp ed hed hbd; omega)
          rw [h1] at this; cases this
    have ho : ∀ ed, ed ∈ o.after → Region.binds .any ed = true → ed.on < l.length := fun ed hed hb => by
      unfold waitsB at hw
      rw [Bool.and_eq_true] at hw
      have h2 := Array.all_eq_true_iff_forall_mem.1 hw.1 ed hed
      rw [hb] at h2
      simpa using h2
    have : l.length ∈ Region.ready .any (l ++ [o]).toArray (L.push false) := by
      rw [mem_ready]
      refine ⟨?_, o, by simp, fun ed hed hb => ?_⟩
      · rw [Array.getD_eq_getD_getElem?, Array.getElem?_push, if_pos hsz.symm]; rfl
      · have := ho ed hed hb
        rw [getD_push (by omega)]; exact key _ this
    rw [hr] at this; cases this
  have lt : ∀ (L : Array Bool) (i : Nat), i ∈ Region.ready .any (l ++ [o]).toArray (L.push false) → i < l.length ∨ i = l.length := fun L i hi => by
    obtain ⟨-, p, h2, -⟩ := mem_ready.1 hi
    have : i < l.length + 1 := by simpa using (Array.getElem?_eq_some_iff.1 h2).1
    omega
  induction fuel with
  | zero =>
    intro L a w hsz hcl h
    refine ⟨fun hr => (empty L hsz hcl hr).elim, fun i hi => ?_⟩
    rcases lt L i hi with h1 | rfl
    · have := (ready_snoc hsz h1).1 hi
      rw [h.1] at this; cases this
    · exact wpOp_mono (fun a w hq => fin 0 L hsz hcl hi a w hq) h.2
  | succ f ih =>
    intro L a w hsz hcl h
    refine ⟨fun hr => (empty L hsz hcl hr).elim, fun i hi => ?_⟩
    rcases lt L i hi with h1 | rfl
    · have hi' := (ready_snoc hsz h1).1 hi
      refine wpOp_mono (fun a w hk => ?_) (wpOp_snoc hg h1 (h.2 i hi'))
      have e : (L.push false).setIfInBounds i true = (L.setIfInBounds i true).push false := by
        refine Array.ext_getElem? fun k => ?_
        rw [Array.getElem?_setIfInBounds, Array.getElem?_push, Array.getElem?_push, Array.getElem?_setIfInBounds, Array.size_setIfInBounds]
        simp only [Array.size_push]
        by_cases hk : i = k
        · subst hk
          rw [if_pos rfl, if_pos (by omega), if_neg (by omega), if_pos rfl, if_pos (by omega)]
        · rw [if_neg hk, if_neg hk]
      rw [e]
      refine ih (L.setIfInBounds i true) a w (by simp [hsz]) (fun j q hq hj ed hed hb => ?_) hk
      have hset : ∀ k, (L.setIfInBounds i true).getD k false = (L.getD k false || Nat.beq i k) := by
        intro k
        by_cases hk : i = k
        · subst hk
          have hs : i < L.size := by omega
          simp [hs]
        · have : Nat.beq i k = false := by
            cases hb : Nat.beq i k with
            | false => rfl
            | true => exact absurd (Nat.eq_of_beq_eq_true hb) hk
          rw [getD_set_ne false hk, this, Bool.or_false]
      show (L.setIfInBounds i true).getD ed.on false = true
      have hj : (L.setIfInBounds i true).getD j false = true := hj
      rw [hset] at hj ⊢
      simp only [Bool.or_eq_true] at hj ⊢
      rcases hj with hj | hj
      · exact .inl (hcl j q hq hj ed hed hb)
      · have := Nat.eq_of_beq_eq_true hj
        subst this
        obtain ⟨-, p, h2, h3⟩ := mem_ready.1 hi'
        have hp : l[i]? = some p := by simpa using h2
        rw [hp] at hq
        injection hq with hq
        subst hq
        exact .inl (h3 ed hed hb)
    · exact wpOp_mono (fun a w hq => fin (f + 1) L hsz hcl hi a w hq) (h.1 (none L hsz (last L hsz hcl hi)))
end
theorem T.drawLast {P : Program} {L l : List Oper} {o : Oper} {s : AS} {id : Nat} {Q : Exit → AS → Prop} (hL : L = l ++ [o]) (hm : P.follows .mixedOrders = true)
  (h : EvX dm false P l.toArray l s (fun z => (okE z l (Region.before l.toArray) && (waitsB l o (Region.before l.toArray) && guardsB l)) = true ∧ MStep dm P L.toArray o z (Q .normal))) : T dm P (.region id L.toArray true) s Q := fun w0 M0 hM a w hr => by
 subst hL
 obtain ⟨x, e, h1, hA, h2⟩ := evL_data l s h
 rw [Bool.and_eq_true, Bool.and_eq_true] at hA
 obtain ⟨hA, hw, hg⟩ := hA
 have hW : Walk dm P l x e s (Region.before l.toArray) := ⟨h1, okE_sem hA⟩
 refine wp_region_any hm ?_
 have hf : ∀ i, (Array.replicate l.toArray.size false).getD i false = false := fun i => by
  rw [Array.getD_eq_getD_getElem?, Array.getElem?_replicate]; split <;> rfl
 have e1 : Array.replicate (l ++ [o]).toArray.size false = (Array.replicate l.toArray.size false).push false := by
  rw [← Array.replicate_succ]; simp
 have e2 : (l ++ [o]).toArray.size = l.length + 1 := by simp
 rw [e1, e2]
 refine wpAny_snoc hW.ok hw hg l.length _ a _ (by simp) (fun j o _ hj => by have hj : (Array.replicate l.toArray.size false).getD j false = true := hj; rw [hf] at hj; cases hj) ?_
 refine hW.any hM (fun a' w' hr' => ?_) _ _ a _ (by simp) (fun j o _ hj => by have hj : (Array.replicate l.toArray.size false).getD j false = true := hj; rw [hf] at hj; cases hj) (fun k o id b _ hk => by have hk : (Array.replicate l.toArray.size false).getD k false = true := hk; rw [hf] at hk; cases hk) (Nat.le_trans List.countP_le_length (by simp)) ?_
 ·unfold lastQ wpOp
  have ho : (l ++ [o]).toArray[l.length]? = some o := by simp
  rw [ho]
  simp only
  have := h2 w0 M0 hM a' w' hr' (fun a w => ∃ s', Q .normal s' ∧ Rel w0 M0 s' a w) (fun x a' w' => ∃ s', Q x s' ∧ Rel w0 M0 s' a' w') (fun s' a' w' hs hr => ⟨s', hs, hr⟩)
  split
  ·rename_i hw; rw [if_pos hw] at this; exact .inl this
  ·rename_i hw; rw [if_neg hw] at this; exact this
 ·have hnone : ∀ k, runD l x e (fun i => (Array.replicate l.toArray.size false).getD i false) s k = s := by
   intro k
   induction k with
   | zero => rfl
   | succ k ih => rw [runD_skip (hf k)]; exact ih
  rw [hnone]
  obtain ⟨ρ, hr⟩ := hr
  exact ⟨ρ, hr.ext ((Below.refl _ _).drew)⟩
theorem T.drawF {P : Program} {l : List Oper} {s : AS} {id : Nat} {Q : Exit → AS → Prop} (hm : P.follows .mixedOrders = true) (h : EvX dm false P l.toArray l s (fun z => okE z l (Region.before l.toArray) = true ∧ Q .normal z)) : T dm P (.region id l.toArray true) s Q := T.draw2 hm h
end Ab
