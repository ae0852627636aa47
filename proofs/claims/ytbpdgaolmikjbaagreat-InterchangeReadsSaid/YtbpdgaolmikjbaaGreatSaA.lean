/- Structs of integers and bools compared with themselves. -/
import Derived.Test.YtbpdgaolmikjbaaGreatEnP
set_option linter.all false
namespace Ab
open Go Go.RowKit Go.Proofs Hp
set_option maxRecDepth 100000
def EqR (P : Program) : List Field → List Value → Nat → Prop
 | [], _, _ => True
 | _ :: _, [], _ => False
 | f :: fs, v :: vs, j => f.name ≠ "_" ∧ f.offset = j ∧ OneT P f.type ∧ ((∃ k n, v = .int .i64 n ∧ P.underlying f.type = some (.int k)) ∨ ∃ b, v = .bool b ∧ P.underlying f.type = some .bool) ∧ EqR P fs vs (j + 1)
theorem run_eqR {P : Program} {w : World} {d : Nat} {xs : Array Value} : ∀ (fs : List Field) (us : List Value) (j : Nat), EqR P fs us j → (∀ (i : Nat) v, us[i]? = some v → xs[j + i]? = some v) → (Op.eqFields (d + 1) xs xs fs).run P w = .ok true w
  | [], _, _, _, _ => by simp [Op.eqFields]
  | f :: fs, [], _, h, _ => by cases h
  | f :: fs, v :: vs, j, h, hx => by
    obtain ⟨h1, h2, h3, h4, h5⟩ := h
    have ih := run_eqR (P := P) (w := w) (d := d) (xs := xs) fs vs (j + 1) h5 (fun i u hi => by
      have := hx (i + 1) u (by simpa using hi)
      rw [show j + 1 + i = j + (i + 1) by omega]; exact this)
    have hag1 := isAgg_one (w := w) h3
    have hv : xs[j]? = some v := hx 0 v rfl
    have px : (part f.type xs f.offset).run P w = .ok v w := by rw [h2]; simp [part, hag1, hv]
    simp only [Op.eqFields]
    rw [if_pos h1, Sem.run_bind, px, Result.andThen_ok, Sem.run_bind, px, Result.andThen_ok, Sem.run_bind]
    rcases h4 with ⟨k, n, rfl, h4⟩ | ⟨b, rfl, h4⟩
    · rw [run_equalIn_int w d f.type .i64 k _ _ h4, Result.andThen_ok]
      have : (n == n) = true := by simp
      rw [this]
      simp only [Bool.not_true, Bool.false_eq_true, if_false]
      exact ih
    · rw [run_equalIn_bool' w d f.type _ _ h4, Result.andThen_ok]
      have : (b == b) = true := by simp
      rw [this]
      simp only [Bool.not_true, Bool.false_eq_true, if_false]
      exact ih
structure EqS (P : Program) (t : TypeId) (us : List Value) : Prop where
 u : P.underlying t = some (.struct (P.fieldsOf t))
 s : P.stoodInHeld t = false
 g : P.eqGuardType P.depth t = false
 f : EqR P (P.fieldsOf t).toList us 0
section
variable {dm : Bool} {P : Program} {ops : Array Oper} {s : AS} {dst : Option Tmp} {ty : TypeId} {pos : String} {after : Array Edge} {g : Option (Nat × Bool)}
theorem ss_neq_self {t yt : TypeId} {y z : Operand} {us : List Value} {cs : List AV} (hin : InB s dst) (ht : EqS P t us) (hy : s.ev y = some (.v (.agg cs))) (hz : s.ev z = some (.v (.agg cs))) (hcs : cs = us.map .p) : Zbg dm P ops ⟨dst, .binOp .neq t y z yt, ty, pos, after, g⟩ s (.v (.p (.bool false))) .none :=
 Zbn hin fun s' hag w0 M0 ρ a w _ hr => by
  subst hcs
  obtain ⟨t1, t2, t3, t5⟩ := ht
  have h1 := hr.ev ((hag.ev (by simp [Op.operands])).trans hy)
  have h2 := hr.ev ((hag.ev (by simp [Op.operands])).trans hz)
  obtain ⟨xs, e1, h3, -, h4⟩ := agg_inv h1
  obtain ⟨ys, e2, h5, -, h6⟩ := agg_inv h2
  have get : ∀ {xs : Array Value}, (∀ (i : Nat) (c : AV), (us.map AV.p)[i]? = some c → ∃ v, xs[i]? = some v ∧ Rep w (MM M0 ρ s'.m) c v) → ∀ (i : Nat) v, us[i]? = some v → xs[i]? = some v := by
   intro xs hh i n hi
   obtain ⟨v, k1, k2⟩ := hh i (.p n) (by rw [List.getElem?_map, hi]; rfl)
   rw [k1, Rep.p_inv k2]
  have hxy : xs = ys := by
   apply Array.ext (by rw [h3, h5])
   intro i hi1 hi2
   have hl : i < us.length := by rw [h3, List.length_map] at hi1; exact hi1
   have g1 := get h4 i us[i] (List.getElem?_eq_getElem hl)
   have g2 := get h6 i us[i] (List.getElem?_eq_getElem hl)
   rw [Array.getElem?_eq_getElem hi1] at g1
   rw [Array.getElem?_eq_getElem hi2] at g2
   injection g1 with g1
   injection g2 with g2
   rw [g1, g2]
  subst hxy
  have hrun := run_eqR (P := P) (w := w) (d := 9998) (xs := xs) (P.fieldsOf t).toList us 0 t5 (fun i v hi => by rw [Nat.zero_add]; exact get h4 i v hi)
  refine ⟨.bool false, ?_, .p _ rfl⟩
  simp only [execOp, e1, e2]
  rw [Sem.run_bind, Sem.run_bind, run_eqGuard_agg w .neq t y z xs xs t3]
  simp only [Result.andThen_ok]
  rw [run_neq_struct, run_equalIn_struct w 9999 t xs xs t1 t2, hrun]
  simp
end
theorem eqS_kind (a b c d : Int) (e : Bool) : EqS Tryz.prog 73 [.int .i64 a, .int .i64 b, .int .i64 c, .int .i64 d, .bool e] := by
 refine ⟨by kernel_rfl, by kernel_rfl, by kernel_rfl, ?_⟩
 unfold Program.fieldsOf
 rw [Tryz.underlying73]
 exact ⟨by decide, rfl, one_int, .inl ⟨_, _, rfl, und_int⟩, by decide, rfl, one_int, .inl ⟨_, _, rfl, und_int⟩, by decide, rfl, one_int, .inl ⟨_, _, rfl, und_int⟩, by decide, rfl, one_int, .inl ⟨_, _, rfl, und_int⟩, by decide, rfl, one_bool, .inr ⟨_, rfl, und_bool⟩, trivial⟩
theorem eqS_spec (a b c : Int) : EqS Tryz.prog 69 [.int .i64 a, .int .i64 b, .int .i64 c] := by
 refine ⟨by kernel_rfl, by kernel_rfl, by kernel_rfl, ?_⟩
 unfold Program.fieldsOf
 rw [Tryz.underlying69]
 exact ⟨by decide, rfl, one_int, .inl ⟨_, _, rfl, und_int⟩, by decide, rfl, one_int, .inl ⟨_, _, rfl, und_int⟩, by decide, rfl, one_int, .inl ⟨_, _, rfl, und_int⟩, trivial⟩
end Ab
