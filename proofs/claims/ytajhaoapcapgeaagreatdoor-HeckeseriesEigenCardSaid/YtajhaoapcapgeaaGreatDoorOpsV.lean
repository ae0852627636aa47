/- Steps: elements of arrays by value, structs of integers compared, operations whose guard was passed over. -/
import Derived.Test.YtajhaoapcapgeaaGreatDoorPass
import Derived.Laws.StructEq
set_option linter.all false
namespace Ab
open Go Go.RowKit Go.Proofs
variable {dm : Bool}
section
variable {P : Program} {ops : Array Oper} {s : AS} {dst : Option Tmp} {ty : TypeId} {pos : String} {after : Array Edge} {g : Option (Nat × Bool)}
theorem ss_index_val {t e : TypeId} {len : Nat} {y z : Operand} {k : IntKind} {i : Int} {cs : List AV} {c : AV} (hin : InB s dst) (ht : P.underlying t = some (.array len e)) (he : OneT P e) (hy : s.ev y = some (.v (.agg cs))) (hz : s.ev z = some (.v (.p (.int k i)))) (h0 : 0 ≤ i) (hi : i < len) (hc : cs[i.toNat]? = some c) :
    SStep dm P ops ⟨dst, .index t y z, ty, pos, after, g⟩ s (.v c) .none :=
  ss_pure hin fun s' hag w0 M0 ρ a w _ hr => by
    have h1 := hr.ev ((hag.ev (by simp [Op.operands])).trans hy)
    have h2 := Rep.p_inv (hr.ev ((hag.ev (by simp [Op.operands])).trans hz))
    obtain ⟨vs, e1, h3, -, h4⟩ := agg_inv h1
    have hlt : i.toNat < vs.size := by rw [h3]; exact (List.getElem?_eq_some_iff.1 hc).1
    obtain ⟨u, h9, h10⟩ := h4 _ c hc
    obtain rfl : vs[i.toNat] = u := by simpa [hlt] using h9
    refine ⟨vs[i.toNat], ?_, h10⟩
    have hag1 := isAgg_one (w := w) he
    obtain ⟨d, ei, h5, h6, h7, h8⟩ := he
    have hi' : 0 ≤ i ∧ i < (len : Int) := ⟨h0, hi⟩
    simp [execOp, e1, h2, Instr.index, asIntOf, run_underlying ht, hi', Go.sizeOf, typeInfo, h7, h8, part, hag1, hlt]
/-- arrays written out -/
def BuildA (P : Program) (t : TypeId) (zs : List Value) (len sz : Nat) : Prop := ∃ e i v ei, P.underlying t = some (.array len e) ∧ P.info? t = some i ∧ i.zero = some v ∧ v.cells.toList = zs ∧ P.info? e = some ei ∧ ei.size = sz
theorem buildA_of {P : Program} {t e : TypeId} {zs : List Value} {len sz : Nat} {v : Value} (hu : P.underlying t = some (.array len e)) (h : (P.info? t).map (·.zero) = some (some v)) (hz : v.cells.toList = zs) (he : (P.info? e).map (·.size) = some sz) : BuildA P t zs len sz := by
  obtain ⟨i, h1, h2⟩ := Option.map_eq_some_iff.1 h
  obtain ⟨j, h3, h4⟩ := Option.map_eq_some_iff.1 he
  exact ⟨e, i, v, j, hu, h1, h2, hz, h3, h4⟩
theorem fill_congr {p q : Nat → Option (Nat × Nat)} : ∀ (parts : List (Nat × Value)) (cells : Array Value), (∀ x, x ∈ parts → p x.1 = q x.1) → Instr.fill p cells parts = Instr.fill q cells parts
  | [], _, _ => rfl
  | (i, v) :: r, cells, h => by
    have h1 := h (i, v) (by simp)
    simp only at h1
    simp only [Instr.fill, h1]
    cases q i with
    | none => rfl
    | some os =>
      simp only
      split
      · rfl
      · exact fill_congr r _ (fun x hx => h x (by simp [hx]))
theorem ss_build_arr {t : TypeId} {zs : List Value} {len sz : Nat} {parts : List (Nat × Operand)} {l : List (Nat × AV)} {r : List AV} (hin : InB s dst) (ht : BuildA P t zs len sz) (hz : zs.all (·.oneCell') = true) (hix : (parts.all fun x => Nat.blt x.1 len) = true) (hp : evParts s parts = some l)
    (hf : afill ((List.range len).map fun i => (i * sz, sz)) (zs.map fun u => (AV.p u).dn) l = some r) : SStep dm P ops ⟨dst, .build t parts.toArray, ty, pos, after, g⟩ s (.v (.agg r)) .none :=
  ss_pure hin fun s' hag w0 M0 ρ a w _ hr => by
    obtain ⟨e, i, v, ei, h1, h2, h3, h4, h5, h5'⟩ := ht
    subst h4
    obtain ⟨row, h6, h7⟩ := fill_rep (s := s) (places := (List.range len).map fun i => (i * sz, sz)) hr parts _ v.cells (fun x hx => hag.ev (by
      simp only [Op.operands, List.mem_toArray, List.mem_map]
      exact ⟨x, hx, rfl⟩)) (crep_zero hz) l r hp hf
    rw [fill_congr (q := fun i => some (i * sz, sz)) _ _ (fun x hx => by
      simp only [List.mem_map] at hx
      obtain ⟨y, hy, rfl⟩ := hx
      have := List.all_eq_true.1 hix y hy
      have hlt : y.1 < len := by simpa using this
      simp [hlt])] at h6
    refine ⟨.agg row, ?_, .agg _ _ h7.1 (fun c hc => ?_) (fun i c u hi hu => ?_)⟩
    · have hmap : ((parts.toArray.map fun x => (x.1, a.eval x.2)).toList) = parts.map fun x => (x.1, a.eval x.2) := by simp
      have hrun : (Instr.build t (parts.toArray.map fun x => (x.1, a.eval x.2))).run P w = .ok (.agg row) w := by
        simp only [Instr.build, Sem.run_bind, zeroValue, typeInfo, run_program, Result.andThen_ok, h2, h3, Sem.run_pure, run_underlying h1, Go.sizeOf, h5, h5', hmap]
        rw [h6]
        rfl
      simp only [execOp]
      rw [Sem.run_bind]
      have : (fun (x : Nat × Operand) => match x with | (i, x) => (i, a.eval x)) = fun x => (x.1, a.eval x.2) := by funext x; rfl
      rw [this, hrun]
      rfl
    · obtain ⟨j, hj⟩ := List.getElem?_of_mem hc
      exact (h7.2 j c hj).1
    · obtain ⟨-, u', h8, h9⟩ := h7.2 i c hi
      rw [hu] at h8
      injection h8 with h8
      subst h8
      exact h9
/-- a struct of integers -/
def EqF (P : Program) : List Field → Nat → Prop
  | [], _ => True
  | f :: fs, j => f.name ≠ "_" ∧ f.offset = j ∧ OneT P f.type ∧ (∃ k, P.underlying f.type = some (.int k)) ∧ EqF P fs (j + 1)
def EqT (P : Program) (t : TypeId) (n : Nat) : Prop := P.underlying t = some (.struct (P.fieldsOf t)) ∧ P.stoodInHeld t = false ∧ P.eqGuardType P.depth t = false ∧ (P.fieldsOf t).toList.length = n ∧ EqF P (P.fieldsOf t).toList 0
def iV (n : Int) : AV := .p (.int .i64 n)
theorem run_eqF {w : World} {d : Nat} {us vs2 : List Int} {xs ys : Array Value} (hx : ∀ (i : Nat) n, us[i]? = some n → xs[i]? = some (.int .i64 n)) (hy : ∀ (i : Nat) n, vs2[i]? = some n → ys[i]? = some (.int .i64 n)) :
    ∀ (fs : List Field) (j : Nat), EqF P fs j → us.length = j + fs.length → vs2.length = j + fs.length → (Op.eqFields (d + 1) xs ys fs).run P w = .ok (decide (us.drop j = vs2.drop j)) w
  | [], j, _, ha, hb => by
    have e1 : us.drop j = [] := List.drop_eq_nil_of_le (by simp at ha; omega)
    have e2 : vs2.drop j = [] := List.drop_eq_nil_of_le (by simp at hb; omega)
    simp [Op.eqFields, e1, e2]
  | f :: fs, j, hf, ha, hb => by
    obtain ⟨h1, h2, h3, ⟨k, h4⟩, h5⟩ := hf
    simp only [List.length_cons] at ha hb
    have hja : j < us.length := by omega
    have hjb : j < vs2.length := by omega
    have ih := run_eqF (w := w) (d := d) hx hy fs (j + 1) h5 (by omega) (by omega)
    have hag1 := isAgg_one (w := w) h3
    have px : (part f.type xs f.offset).run P w = .ok (.int .i64 us[j]) w := by
      rw [h2]; simp [part, hag1, hx j us[j] (by simp [hja])]
    have py : (part f.type ys f.offset).run P w = .ok (.int .i64 vs2[j]) w := by
      rw [h2]; simp [part, hag1, hy j vs2[j] (by simp [hjb])]
    simp only [Op.eqFields]
    rw [if_pos h1, Sem.run_bind, px, Result.andThen_ok, Sem.run_bind, py, Result.andThen_ok, Sem.run_bind, run_equalIn_int w d f.type .i64 k _ _ h4, Result.andThen_ok]
    have e1 : us.drop j = us[j] :: us.drop (j + 1) := List.drop_eq_getElem_cons hja
    have e2 : vs2.drop j = vs2[j] :: vs2.drop (j + 1) := List.drop_eq_getElem_cons hjb
    have key : (us.drop j = vs2.drop j) ↔ (us[j] = vs2[j] ∧ us.drop (j + 1) = vs2.drop (j + 1)) := by
      rw [e1, e2]
      exact ⟨fun e => by injection e with a b; exact ⟨a, b⟩, fun ⟨a, b⟩ => by rw [a, b]⟩
    have kd : decide (us.drop j = vs2.drop j) = decide (us[j] = vs2[j] ∧ us.drop (j + 1) = vs2.drop (j + 1)) := decide_eq_decide.2 key
    rw [kd]
    by_cases h : us[j] = vs2[j]
    · have hb : (us[j] == vs2[j]) = true := by simp [h]
      rw [hb]
      simp only [Bool.not_true, Bool.false_eq_true, if_false]
      rw [ih]
      simp [h]
    · have hb : (us[j] == vs2[j]) = false := by simp [h]
      rw [hb]
      simp [h]
theorem ss_eq_st {op : BinOp} {t yt : TypeId} {y z : Operand} {n : Nat} {us vs2 : List Int} {c : Bool} (hin : InB s dst) (ht : EqT P t n) (hy : s.ev y = some (.v (.agg (us.map iV)))) (hz : s.ev z = some (.v (.agg (vs2.map iV)))) (ha : us.length = n) (hb : vs2.length = n)
    (hc : (match op with | .eql => some (decide (us = vs2)) | .neq => some (!decide (us = vs2)) | _ => none) = some c) : SStep dm P ops ⟨dst, .binOp op t y z yt, ty, pos, after, g⟩ s (.v (.p (.bool c))) .none :=
  ss_pure hin fun s' hag w0 M0 ρ a w _ hr => by
    obtain ⟨t1, t2, t3, t4, t5⟩ := ht
    have h1 := hr.ev ((hag.ev (by simp [Op.operands])).trans hy)
    have h2 := hr.ev ((hag.ev (by simp [Op.operands])).trans hz)
    obtain ⟨xs, e1, h3, -, h4⟩ := agg_inv h1
    obtain ⟨ys, e2, h5, -, h6⟩ := agg_inv h2
    have get : ∀ {us : List Int} {xs : Array Value}, xs.size = (us.map iV).length → (∀ (i : Nat) (c : AV), (us.map iV)[i]? = some c → ∃ v, xs[i]? = some v ∧ Rep w (MM M0 ρ s'.m) c v) → ∀ (i : Nat) n, us[i]? = some n → xs[i]? = some (.int .i64 n) := by
      intro us xs hl hh i n hi
      obtain ⟨v, k1, k2⟩ := hh i (iV n) (by rw [List.getElem?_map, hi]; rfl)
      rw [k1, Rep.p_inv k2]
    have hrun := run_eqF (P := P) (w := w) (d := 9998) (get h3 h4) (get h5 h6) (P.fieldsOf t).toList 0 t5 (by omega) (by omega)
    simp only [List.drop_zero] at hrun
    refine ⟨.bool c, ?_, .p _ rfl⟩
    simp only [execOp, e1, e2]
    rw [Sem.run_bind, Sem.run_bind, run_eqGuard_agg w op t y z xs ys t3]
    simp only [Result.andThen_ok]
    cases op <;> simp only [Option.some.injEq, reduceCtorEq] at hc <;> subst hc
    · rw [run_eql_struct, run_equalIn_struct w 9999 t xs ys t1 t2, hrun]
      simp
    · rw [run_neq_struct, run_equalIn_struct w 9999 t xs ys t1 t2, hrun]
      simp
end
theorem eqT_of {P : Program} {t : TypeId} {n : Nat} (h1 : P.underlying t = some (.struct (P.fieldsOf t))) (h2 : P.stoodInHeld t = false) (h3 : P.eqGuardType P.depth t = false) (h4 : (P.fieldsOf t).toList.length = n)
    (h5 : ∀ fs, (P.fieldsOf t).toList = fs → EqF P fs 0) : EqT P t n := ⟨h1, h2, h3, h4, h5 _ rfl⟩
end Ab
