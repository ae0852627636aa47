/- Maps of the call's own with int keys; no condition. -/
import Derived.Test.YtajhaoapcapgeaaGreatDoorPass
import Derived.Test.YtajhaoapcapgeaaGreatDoorFn
import Derived.MapKept
import Derived.ChangeMaps4
set_option linter.all false
namespace Ab
open Go Go.RowKit Go.Proofs Go.MapKept
section
variable {dm : Bool} {P : Program} {ops : Array Oper} {s : AS} {dst : Option Tmp} {ty : TypeId} {pos : String} {after : Array Edge} {g : Option (Nat × Bool)}
def mkE (l : List (Int × AV)) : List (AV × AV) := l.map fun p => (iV p.1, p.2)
def mlook : List (Int × AV) → Int → Option AV
  | [], _ => none
  | (k, a) :: l, n => if k = n then some a else mlook l n
def mput : List (Int × AV) → Int → AV → List (Int × AV)
  | [], n, x => [(n, x)]
  | (k, a) :: l, n, x => if k = n then (n, x) :: l else (k, a) :: mput l n x
/-- the entries of a map -/
def EntsOK (w : World) (M : Nat → Prop) (l : List (Int × AV)) (es : List MapEntry) : Prop := es.length = l.length ∧ ∀ (j : Nat) p, l[j]? = some p → ∃ en, es[j]? = some en ∧ en.key = .int .i64 p.1 ∧ Rep w M p.2 en.val
theorem find_first {w : World} {M : Nat → Prop} {n : Int} {x : AV} : ∀ (l : List (Int × AV)) (es : List MapEntry) (i : Nat), EntsOK w M l es →
    (Instr.findNow (.int .i64) (.int .i64 n) es i = some none ∧ mlook l n = none ∧ mput l n x = l ++ [(n, x)]) ∨
    ∃ j en a, Instr.findNow (.int .i64) (.int .i64 n) es i = some (some (i + j, en.val)) ∧ es[j]? = some en ∧ en.key = .int .i64 n ∧ j < l.length ∧ mlook l n = some a ∧ Rep w M a en.val ∧ mput l n x = l.set j (n, x)
  | [], es, i, h => by
    have : es = [] := List.eq_nil_of_length_eq_zero h.1
    subst this
    exact .inl ⟨rfl, rfl, rfl⟩
  | (k, a) :: l, es, i, h => by
    obtain ⟨h1, h2⟩ := h
    cases es with
    | nil => simp at h1
    | cons en es =>
      obtain ⟨en', e1, e2, e3⟩ := h2 0 (k, a) rfl
      simp at e1
      subst e1
      by_cases hk : k = n
      · subst hk
        exact .inr ⟨0, en, a, by simp [Instr.findNow, Instr.sameNow, e2], rfl, e2, by simp, by simp [mlook], e3, by simp [mput]⟩
      · have hf : Instr.findNow (.int .i64) (.int .i64 n) (en :: es) i = Instr.findNow (.int .i64) (.int .i64 n) es (i + 1) := by
          have : (n == k) = false := by simpa using fun e => hk e.symm
          simp [Instr.findNow, Instr.sameNow, e2, this]
        rw [hf]
        rcases find_first (x := x) l es (i + 1) ⟨by simpa using h1, fun j p hj => by simpa using h2 (j + 1) p (by simpa using hj)⟩ with ⟨g1, g2, g3⟩ | ⟨j, en', b, g1, g2, g3, g4, g5, g6, g7⟩
        · exact .inl ⟨g1, by simp [mlook, hk, g2], by simp [mput, hk, g3]⟩
        · exact .inr ⟨j + 1, en', b, by rw [g1, show i + 1 + j = i + (j + 1) by omega], by simpa using g2, g3, by simp; omega, by simp [mlook, hk, g5], g6, by simp [mput, hk, g7]⟩
theorem ents_of {w : World} {M : Nat → Prop} {l : List (Int × AV)} {arr : Array MapEntry} (h1 : arr.size = (mkE l).length) (h2 : ∀ (j : Nat) p, (mkE l)[j]? = some p → ∃ en, arr[j]? = some en ∧ Rep w M p.1 en.key ∧ Rep w M p.2 en.val) : EntsOK w M l arr.toList := by
  refine ⟨by simpa [mkE] using h1, fun j p hj => ?_⟩
  obtain ⟨en, g1, g2, g3⟩ := h2 j (iV p.1, p.2) (by simp [mkE, hj])
  exact ⟨en, by simpa using g1, Rep.p_inv g2, g3⟩
theorem ents_to {w : World} {M : Nat → Prop} {l : List (Int × AV)} {arr : Array MapEntry} (h : EntsOK w M l arr.toList) : arr.size = (mkE l).length ∧ ∀ (j : Nat) p, (mkE l)[j]? = some p → ∃ en, arr[j]? = some en ∧ Rep w M p.1 en.key ∧ Rep w M p.2 en.val := by
  refine ⟨by simpa [mkE] using h.1, fun j p hj => ?_⟩
  unfold mkE at hj
  rw [List.getElem?_map, Option.map_eq_some_iff] at hj
  obtain ⟨q, hq, rfl⟩ := hj
  obtain ⟨en, g1, g2, g3⟩ := h.2 j q hq
  exact ⟨en, by simpa using g1, by rw [g2]; exact .p _ rfl, g3⟩
theorem ss_makemap (id : Nat) {t : TypeId} (hin : InB s dst) (hid : s.m id = none) : SStep dm P ops ⟨dst, .makeMap t none, ty, pos, after, g⟩ s (.mp id) (.new id (.mp (mkE []))) :=
  ss_new hin rfl hid fun s' hag hid' w0 M0 ρ a w _ hr => by
    have hrun : (execOp a.eval ⟨dst, .makeMap t none, ty, pos, after, g⟩).run P w = .ok (.value (.map (some w.heap.size))) (w.alloc (.map #[] 0)) := by
      simp [execOp, Instr.makeMap]
    have hb : Below w.heap.size w (w.alloc (.map #[] 0)) := (Below.refl _ _).alloc (Nat.le_refl _) _
    refine ⟨_, _, some (w.heap.size, 0), hrun, hb, ?_, fun M' m' hm hM' => ?_, fun M' => ?_⟩
    · rintro b k e; injection e with e; injection e with e1 e2; subst e1; exact ⟨Nat.le_refl _, by simp⟩
    · exact ⟨w.heap.size, 0, 0, #[], beq_ite, heap_alloc_new w _, rfl, fun j p hj => by simp [mkE] at hj⟩
    · exact ⟨⟨_, upd_same _ _ _⟩, w.heap.size, 0, beq_ite, rfl⟩
theorem ss_lookup {t kt et : TypeId} {y z : Operand} {id : Nat} {l : List (Int × AV)} {n : Int} {r : AV} (hin : InB s dst) (ht : P.underlying t = some (.map kt et)) (hk : P.underlying kt = some (.int .i64)) (hz0 : ∀ (w : World) (M : Nat → Prop), ∃ zv, (zeroValue et).run P w = .ok zv w ∧ Rep w M r zv)
    (hy : s.ev y = some (.mp id)) (hm : s.m id = some (.mp (mkE l))) (hz : s.ev z = some (.v (iV n))) : SStep dm P ops ⟨dst, .lookup t y z false, ty, pos, after, g⟩ s (.v ((mlook l n).getD r)) .none :=
  ss_pure hin fun s' hag w0 M0 ρ a w _ hr => by
    have hm' := hag.m rfl rfl rfl id _ hm
    obtain ⟨-, b, k, h1, h2⟩ := hr.ev ((hag.ev (by simp [Op.operands])).trans hy)
    have h3 := Rep.p_inv (hr.ev ((hag.ev (by simp [Op.operands])).trans hz))
    obtain ⟨b', k', clock, arr, g1, g2, g3, g4⟩ := hr.slots id _ hm'
    rw [h1] at g1
    injection g1 with g1
    injection g1 with e1 e2
    subst e1 e2
    rcases find_first (n := n) (x := .tup []) l arr.toList 0 (ents_of g3 g4) with ⟨f1, f2, -⟩ | ⟨j, en, v, f1, f2, -, -, f5, f6, -⟩
    · obtain ⟨zv, z1, z2⟩ := hz0 w (MM M0 ρ s'.m)
      refine ⟨zv, ?_, by rw [f2]; exact z2⟩
      simp [execOp, h2, h3, Instr.lookup, run_underlying ht, MapKept.run_getObj_map g2, run_checkKey hk (show IsKey (.int .i64) (.int .i64 n) from rfl), run_findKey hk f1, z1, Result.andThen]
    · refine ⟨en.val, ?_, by rw [f5]; exact f6⟩
      simp [execOp, h2, h3, Instr.lookup, run_underlying ht, MapKept.run_getObj_map g2, run_checkKey hk (show IsKey (.int .i64) (.int .i64 n) from rfl), run_findKey hk f1, Result.andThen]
theorem ss_mapset {t kt et : TypeId} {y z u : Operand} {id : Nat} {l : List (Int × AV)} {n : Int} {x : AV} (hd : dst = none) (ht : P.underlying t = some (.map kt et)) (hk : P.underlying kt = some (.int .i64)) (hy : s.ev y = some (.mp id)) (hm : s.m id = some (.mp (mkE l))) (hz : s.ev z = some (.v (iV n))) (hu : s.ev u = some (.v x)) :
    SStep dm P ops ⟨dst, .mapUpdate t y z u, ty, pos, after, g⟩ s (.v (.tup [])) (.set id (.mp (mkE (mput l n x)))) := by
  subst hd
  refine ⟨fun id b h => (by cases h), fun i b h => (by injection h with h1 _; subst h1; exact ⟨rfl, ⟨_, hm⟩, fun y h => by cases h⟩), fun s' hag _ w0 M0 a w hM hr next Q hnx => ?_⟩
  obtain ⟨ρ, hr⟩ := hr
  have hm' := hag.m rfl rfl rfl id _ hm
  obtain ⟨-, b, k, h1, h2⟩ := hr.ev ((hag.ev (by simp [Op.operands])).trans hy)
  have h3 := Rep.p_inv (hr.ev ((hag.ev (by simp [Op.operands])).trans hz))
  have h4 : Rep w (MM M0 ρ s'.m) x (a.eval u) := hr.ev ((hag.ev (by simp [Op.operands])).trans hu)
  obtain ⟨b', k', clock, arr, g1, g2, g3, g4⟩ := hr.slots id _ hm'
  rw [h1] at g1
  injection g1 with g1
  injection g1 with e1 e2
  subst e1 e2
  have hE := ents_of g3 g4
  have hkey : IsKey (.int .i64) (.int .i64 n) := rfl
  have fin : ∀ (arr' : Array MapEntry) (clock' : Nat), (execOp a.eval ⟨none, .mapUpdate t y z u, ty, pos, after, g⟩).run P w = .ok .skip { w with heap := w.heap.setIfInBounds b (.map arr' clock') } →
      (∀ w' M', Keeps (MM M0 ρ s'.m) w w' → (∀ b, b < w.heap.size → M' b → MM M0 ρ s'.m b) → EntsOK w' M' (mput l n x) arr'.toList) → Oper.wp P ⟨none, .mapUpdate t y z u, ty, pos, after, g⟩ a w next Q := fun arr' clock' hexec hents => by
    unfold Oper.wp
    rw [hexec]
    refine hnx _ _ ⟨_, hr.set (y := .mp (mkE (mput l n x))) (r := some (b, k)) hM hm' (by simp) (fun c hc hne => (heap_set g2).2 c fun e => hne k (by rw [h1, e])) rfl rfl rfl (fun c l e => ?_) (fun cs e => by cases e) (fun sz ty es e => by cases e) (fun M' m' hkp hmv hM' => ?_) (fun es _ => ⟨⟨_, rfl⟩, h1.symm⟩)⟩
    · injection e with e
      injection e with e1 e2
      subst e1
      exact .inl ⟨k, h1⟩
    · obtain ⟨q1, q2⟩ := ents_to (hents _ M' hkp hM')
      exact ⟨b, k, clock', arr', beq_ite, (heap_set g2).1, q1, q2⟩
  rcases find_first (n := n) (x := x) l arr.toList 0 hE with ⟨f1, f2, f3⟩ | ⟨j, en, v, f1, f2, f3, f4, f5, f6, f7⟩
  · refine fin (arr.push { key := .int .i64 n, val := a.eval u, born := clock }) (clock + 1) ?_ fun w' M' hkp hM' => ?_
    · simp [execOp, h2, h3, Instr.mapUpdate, run_underlying ht, MapKept.run_getObj_map g2, run_checkKey hk hkey, run_findKey hk f1, MapKept.run_setObj_map _ g2, Result.andThen]
    · rw [f3]
      refine ⟨by simp [hE.1], fun i p hi => ?_⟩
      by_cases hil : i < l.length
      · rw [List.getElem?_append_left hil] at hi
        obtain ⟨e0, k1, k2, k3⟩ := hE.2 i p hi
        refine ⟨e0, ?_, k2, Rep.mono hkp hM' k3⟩
        rw [Array.toList_push, List.getElem?_append_left (by rw [hE.1]; exact hil)]
        exact k1
      · rw [List.getElem?_append_right (by omega)] at hi
        have hi0 : i = l.length := by
          rcases Nat.lt_or_ge (i - l.length) 1 with h | h
          · omega
          · rw [List.getElem?_eq_none (by simpa using h)] at hi; cases hi
        subst hi0
        simp at hi
        subst hi
        refine ⟨{ key := .int .i64 n, val := a.eval u, born := clock }, ?_, rfl, Rep.mono hkp hM' h4⟩
        rw [Array.toList_push, List.getElem?_append_right (by rw [hE.1]; exact Nat.le_refl _), hE.1, Nat.sub_self]
        rfl
  · have f2' : arr[j]? = some en := by simpa using f2
    refine fin (arr.modify j fun e => { e with key := .int .i64 n, val := a.eval u }) clock ?_ fun w' M' hkp hM' => ?_
    · simp [execOp, h2, h3, Instr.mapUpdate, run_underlying ht, MapKept.run_getObj_map g2, run_checkKey hk hkey, run_findKey hk f1, f2', f3, run_keyThatStays hkey, MapKept.run_setObj_map _ g2, Result.andThen]
    · rw [f7]
      refine ⟨by simp [hE.1], fun i p hi => ?_⟩
      by_cases hij : j = i
      · subst hij
        rw [List.getElem?_set_self f4] at hi
        injection hi with hi
        subst hi
        exact ⟨{ en with key := .int .i64 n, val := a.eval u }, by rw [Array.getElem?_toList, Array.getElem?_modify, if_pos rfl, f2']; rfl, rfl, Rep.mono hkp hM' h4⟩
      · rw [List.getElem?_set_ne hij] at hi
        obtain ⟨e0, k1, k2, k3⟩ := hE.2 i p hi
        refine ⟨e0, ?_, k2, Rep.mono hkp hM' k3⟩
        rw [Array.getElem?_toList, Array.getElem?_modify, if_neg hij, ← Array.getElem?_toList]
        exact k1
end
end Ab
