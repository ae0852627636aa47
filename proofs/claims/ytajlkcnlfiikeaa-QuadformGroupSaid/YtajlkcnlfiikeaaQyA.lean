/- The statement QuadformProducts: walked. -/
import Derived.Test.YtajlkcnlfiikeaaQwY
import Derived.Test.YtajlkcnlfiikeaaQwT
set_option linter.all false
namespace Ab
open Go Go.RowKit Go.Proofs Qf
set_option maxRecDepth 100000

section
variable {dm : Bool} {P : Program} {ops : Array Oper} {s : AS} {dst : Option Tmp} {ty : TypeId} {pos : String} {after : Array Edge} {g : Option (Nat × Bool)}
def ArrT (P : Program) (t : TypeId) (len n : Nat) : Prop := ∃ e i, P.underlying t = some (.array len e) ∧ P.info? e = some i ∧ i.size = n
/-- an element of an array that is the call's own variable -/
theorem ss_index_arr {t : TypeId} {len n : Nat} {y z : Operand} {k : IntKind} {i : Int} {id o : Nat} (hin : InB s dst) (ht : ArrT P t len n) (hy : s.ev y = some (.ptr id o)) (hz : s.ev z = some (.v (.p (.int k i)))) (h0 : 0 ≤ i) (hi : i < len) : SStep dm P ops ⟨dst, .indexAddr t y z, ty, pos, after, g⟩ s (.ptr id (o + i.toNat * n)) .none :=
  ss_pure hin fun s' hag w0 M0 ρ a w _ hr => by
    obtain ⟨e, ei, h1, h2, h3⟩ := ht
    obtain ⟨h6, b, kk, h7, h8⟩ := hr.ev ((hag.ev (by simp [Op.operands])).trans hy)
    have h9 := Rep.p_inv (hr.ev ((hag.ev (by simp [Op.operands])).trans hz))
    refine ⟨.pointer (some ⟨b, o + i.toNat * n, none⟩), ?_, h6, b, kk, h7, rfl⟩
    have hi' : 0 ≤ i ∧ i < (len : Int) := ⟨h0, hi⟩
    simp [execOp, h8, h9, Instr.indexAt, asIntOf, run_underlying h1, hi', Go.sizeOf, typeInfo, h2, h3, addr_add, Instr.sureAddr]
end
theorem arrT_of {P : Program} {t : TypeId} {len n : Nat} (h : (match P.underlying t with | some (.array l e) => (match P.info? e with | some i => l == len && i.size == n | none => false) | _ => false) = true) : ArrT P t len n := by
  cases hu : P.underlying t with
  | none => rw [hu] at h; cases h
  | some d =>
    rw [hu] at h
    cases d <;> first | cases h | skip
    rename_i l e
    simp only at h
    cases hi : P.info? e with
    | none => rw [hi] at h; cases h
    | some i =>
      rw [hi] at h
      simp only [Bool.and_eq_true, beq_iff_eq] at h
      obtain ⟨rfl, rfl⟩ := h
      exact ⟨e, i, hu, hi, rfl⟩
theorem arr_i8 : ArrT Try.prog 37 4 1 := arrT_of (by kernel_rfl)
theorem arr_u16 : ArrT Try.prog 42 3 1 := arrT_of (by kernel_rfl)
theorem und_i8 : Try.prog.underlying 36 = some (.int .i8) := Try.underlying36
theorem und_u16 : Try.prog.underlying 41 = some (.int .u16) := Try.underlying41
theorem s2_nonneg {h : Int → Int} (h0 : ∀ v, 0 ≤ h v) (k : Nat) : 0 ≤ s2 h k := by
  unfold s2
  have := h0 k
  have := h0 (-k)
  have := h0 0
  split <;> omega
theorem s2_ge {h : Int → Int} (h0 : ∀ v, 0 ≤ h v) {v : Int} {k : Nat} (e : v.natAbs = k) : h v ≤ s2 h k := by
  unfold s2
  split
  · rw [show v = 0 by omega]
    exact Int.le_refl _
  · have := h0 k
    have := h0 (-k)
    rcases Int.le_total 0 v with c | c
    · rw [show v = (k : Int) by omega]
      omega
    · rw [show v = -(k : Int) by omega]
      omega
theorem sx_nonneg {h : Int → Int} (h0 : ∀ v, 0 ≤ h v) : ∀ k, 0 ≤ sx h k
  | 0 => Int.le_refl _
  | k + 1 => by
    have := sx_nonneg h0 k
    have := s2_nonneg h0 k
    unfold sx
    omega
theorem sx_ge {h : Int → Int} (h0 : ∀ v, 0 ≤ h v) {v : Int} : ∀ k : Nat, v.natAbs < k → h v ≤ sx h k
  | k + 1, e => by
    unfold sx
    have h1 := sx_nonneg h0 k
    have h2 := s2_nonneg h0 k
    by_cases c : v.natAbs = k
    · have := s2_ge h0 c
      omega
    · have := sx_ge h0 (v := v) k (by omega)
      omega
theorem rt_abs {q r x : Int} (h : Rt q r) (hx : x * x ≤ q) : x.natAbs < r.toNat + 1 := by
  have habs : (x.natAbs : Int) * x.natAbs ≤ q := by
    rcases Int.le_total 0 x with hp | hp
    · rw [show (x.natAbs : Int) = x by omega]; exact hx
    · rw [show (x.natAbs : Int) = -x by omega]
      have e : -x * -x = x * x := by grind
      omega
  have h3 := h.le (x := x.natAbs) (by omega) habs
  omega
/-- a number that is represented -/
theorem rep_pos {g : F} (h : Sm g) {n : Int} (n0 : 0 ≤ n) (n1 : n ≤ 4000) {u v : Int} (e : g.val u v = n) : 1 ≤ rep g n := by
  rw [rep_eq h n0 n1]
  obtain ⟨y0, -, hy⟩ := repY_spec h n0 n1
  obtain ⟨x0, -, hx⟩ := repX_spec h n0 n1
  have ha := h.r.pos.a
  have hc := h.r.pos.c
  have hd := h.d
  have q1 : 0 ≤ 4 * g.c * n := Int.mul_nonneg (by omega) n0
  have q2 : 0 ≤ 4 * g.a * n := Int.mul_nonneg (by omega) n0
  have r1 := isq_rt (n := (4 * g.c * n).tdiv (0 - g.disc)) (by rw [Int.tdiv_eq_ediv_of_nonneg q1]; exact Int.ediv_nonneg q1 (by omega))
  have r2 := isq_rt (n := (4 * g.a * n).tdiv (0 - g.disc)) (by rw [Int.tdiv_eq_ediv_of_nonneg q2]; exact Int.ediv_nonneg q2 (by omega))
  have t : ∀ u v, 0 ≤ rg g n u v := fun u v => (ind_bd _).1
  have h1 : u.natAbs < (repX g n).toNat + 1 := rt_abs r1 ((hx u).1 (by
    have e4 := four_val_c g u v
    rw [e] at e4
    have := sq_nonneg (2 * g.c * v + g.b * u)
    omega))
  have h2 : v.natAbs < (repY g n).toNat + 1 := rt_abs r2 ((hy v).1 (by
    have e4 := four_val g u v
    rw [e] at e4
    have := sq_nonneg (2 * g.a * u + g.b * v)
    omega))
  have s1 := sx_ge (h := fun v => sx (fun u => rg g n u v) ((repX g n).toNat + 1)) (fun v => sx_nonneg (fun u => t u v) _) _ h2
  have s2 := sx_ge (h := fun u => rg g n u v) (fun u => t u v) _ h1
  have s3 := rg_one e
  omega
theorem val_nonneg {f : F} (p : f.Pos) (x y : Int) : 0 ≤ f.val x y := by
  have h := four_val f x y
  have ha := p.a
  have hd := p.d
  have q1 := sq_nonneg (2 * f.a * x + f.b * y)
  have q2 := Int.mul_nonneg (show 0 ≤ -f.disc by omega) (sq_nonneg y)
  refine Classical.byContradiction fun hn => ?_
  have := Int.mul_le_mul_of_nonneg_left (show f.val x y ≤ -1 by omega) (show 0 ≤ 4 * f.a by omega)
  omega
def i8 (x : Int) : AV := .p (.int .i8 x)
def B8 (x : Int) : Prop := -128 ≤ x ∧ x ≤ 127
set_option maxHeartbeats 4000000 in
theorem products_p (f g : F) {x y z w : Int} (hx : B8 x) (hy : B8 y) (hz : B8 z) (hw : B8 w) : PC Try.prog 5 [fA f, fA g, .agg [i8 x, i8 y, i8 z, i8 w]] (bV true) := by
  have ca := awake_p
  by_cases h : compC f g = 0
  case neg =>
    have c1 := (Compose_p f g).2 h
    have k : (compC f g != 0) = true := by simpa using h
    generalize compC f g = c at *
    refine pc_body1 true Try.func5 rfl rfl rfl (Nat.le_of_ble_eq_true rfl) CellT.tmp ?_
    refine goA ?_
    refine evG ggA (ss_call (InB_of rfl) rfl rfl ca) ?_
    refine goA ?_
    refine evG ggA (ss_call (InB_of rfl) rfl rfl c1) ?_
    refine goA ?_
    exact rfl
  obtain ⟨hc, c1⟩ := Compose_c h
  have can := compC_zero h
  have cv1 := rvalue_p (vb_of (X := 128) can.bf (x := x) (y := y) (by unfold Bd B8 at *; omega) (by unfold Bd B8 at *; omega) (by decide) (by decide))
  have cv2 := rvalue_p (vb_of (X := 128) can.bg (x := z) (y := w) (by unfold Bd B8 at *; omega) (by unfold Bd B8 at *; omega) (by decide) (by decide))
  have p1 := val_nonneg can.pf x y
  have p2 := val_nonneg can.pg z w
  have cl : Cl f.disc (cmpF f.rd g.rd) := by
    obtain ⟨-, -, p3, -, p5⟩ := hc.pos
    exact ⟨p3, p5, hc.ct can.cf can.cg⟩
  obtain ⟨u, v, e⟩ := hc.val x y z w
  have bR := cl.bd can.d4
  have pR := cl.r.pos
  have ct := cl.ct
  have rr := red_rd cl.r
  have sm := sm_rd pR bR
  rw [rr] at sm
  clear cl hc can
  unfold B8 at hx hy hz hw
  generalize cmpF f.rd g.rd = R at *
  generalize f.val x y = a at *
  generalize g.val z w = b at *
  by_cases h1 : 4000 < a
  · have k1 : decide (a > 4000) = true := by simpa using h1
    refine pc_body1 true Try.func5 rfl rfl rfl (Nat.le_of_ble_eq_true rfl) CellT.tmp ?_
    refine goA ?_
    refine evG ggA (ss_call (InB_of rfl) rfl rfl ca) ?_
    refine goA ?_
    refine evG ggA (ss_call (InB_of rfl) rfl rfl c1) ?_
    refine goA ?_
    refine evG ggA (ss_index_arr (InB_of rfl) arr_i8 rfl rfl (by decide) (by decide)) ?_
    refine goA ?_
    refine evG ggA (ss_conv (InB_of rfl) und_i8 und_int rfl (w64 (by omega) (by omega))) ?_
    refine goA ?_
    refine evG ggA (ss_index_arr (InB_of rfl) arr_i8 rfl rfl (by decide) (by decide)) ?_
    refine goA ?_
    refine evG ggA (ss_conv (InB_of rfl) und_i8 und_int rfl (w64 (by omega) (by omega))) ?_
    refine goA ?_
    refine evG ggA (ss_call (InB_of rfl) rfl rfl cv1) ?_
    refine goA ?_
    refine evG ggA (ss_index_arr (InB_of rfl) arr_i8 rfl rfl (by decide) (by decide)) ?_
    refine goA ?_
    refine evG ggA (ss_conv (InB_of rfl) und_i8 und_int rfl (w64 (by omega) (by omega))) ?_
    refine goA ?_
    refine evG ggA (ss_index_arr (InB_of rfl) arr_i8 rfl rfl (by decide) (by decide)) ?_
    refine goA ?_
    refine evG ggA (ss_conv (InB_of rfl) und_i8 und_int rfl (w64 (by omega) (by omega))) ?_
    refine goA ?_
    refine evG ggA (ss_call (InB_of rfl) rfl rfl cv2) ?_
    refine runA ?_
    refine goA ?_
    exact rfl
  have k1 : decide (a > 4000) = false := by simpa using h1
  by_cases h2 : 4000 < b
  · have k2 : decide (b > 4000) = true := by simpa using h2
    refine pc_body1 true Try.func5 rfl rfl rfl (Nat.le_of_ble_eq_true rfl) CellT.tmp ?_
    refine goA ?_
    refine evG ggA (ss_call (InB_of rfl) rfl rfl ca) ?_
    refine goA ?_
    refine evG ggA (ss_call (InB_of rfl) rfl rfl c1) ?_
    refine goA ?_
    refine evG ggA (ss_index_arr (InB_of rfl) arr_i8 rfl rfl (by decide) (by decide)) ?_
    refine goA ?_
    refine evG ggA (ss_conv (InB_of rfl) und_i8 und_int rfl (w64 (by omega) (by omega))) ?_
    refine goA ?_
    refine evG ggA (ss_index_arr (InB_of rfl) arr_i8 rfl rfl (by decide) (by decide)) ?_
    refine goA ?_
    refine evG ggA (ss_conv (InB_of rfl) und_i8 und_int rfl (w64 (by omega) (by omega))) ?_
    refine goA ?_
    refine evG ggA (ss_call (InB_of rfl) rfl rfl cv1) ?_
    refine goA ?_
    refine evG ggA (ss_index_arr (InB_of rfl) arr_i8 rfl rfl (by decide) (by decide)) ?_
    refine goA ?_
    refine evG ggA (ss_conv (InB_of rfl) und_i8 und_int rfl (w64 (by omega) (by omega))) ?_
    refine goA ?_
    refine evG ggA (ss_index_arr (InB_of rfl) arr_i8 rfl rfl (by decide) (by decide)) ?_
    refine goA ?_
    refine evG ggA (ss_conv (InB_of rfl) und_i8 und_int rfl (w64 (by omega) (by omega))) ?_
    refine goA ?_
    refine evG ggA (ss_call (InB_of rfl) rfl rfl cv2) ?_
    refine runA ?_
    refine goA ?_
    exact rfl
  have k2 : decide (b > 4000) = false := by simpa using h2
  have hab := bmul (show Bd 4000 a by unfold Bd; omega) (show Bd 4000 b by unfold Bd; omega)
  have hab0 := Int.mul_nonneg p1 p2
  unfold Bd at hab
  by_cases h3 : 4000 < a * b
  · have k3 : decide (a * b > 4000) = true := by simpa using h3
    refine pc_body1 true Try.func5 rfl rfl rfl (Nat.le_of_ble_eq_true rfl) CellT.tmp ?_
    refine goA ?_
    refine evG ggA (ss_call (InB_of rfl) rfl rfl ca) ?_
    refine goA ?_
    refine evG ggA (ss_call (InB_of rfl) rfl rfl c1) ?_
    refine goA ?_
    refine evG ggA (ss_index_arr (InB_of rfl) arr_i8 rfl rfl (by decide) (by decide)) ?_
    refine goA ?_
    refine evG ggA (ss_conv (InB_of rfl) und_i8 und_int rfl (w64 (by omega) (by omega))) ?_
    refine goA ?_
    refine evG ggA (ss_index_arr (InB_of rfl) arr_i8 rfl rfl (by decide) (by decide)) ?_
    refine goA ?_
    refine evG ggA (ss_conv (InB_of rfl) und_i8 und_int rfl (w64 (by omega) (by omega))) ?_
    refine goA ?_
    refine evG ggA (ss_call (InB_of rfl) rfl rfl cv1) ?_
    refine goA ?_
    refine evG ggA (ss_index_arr (InB_of rfl) arr_i8 rfl rfl (by decide) (by decide)) ?_
    refine goA ?_
    refine evG ggA (ss_conv (InB_of rfl) und_i8 und_int rfl (w64 (by omega) (by omega))) ?_
    refine goA ?_
    refine evG ggA (ss_index_arr (InB_of rfl) arr_i8 rfl rfl (by decide) (by decide)) ?_
    refine goA ?_
    refine evG ggA (ss_conv (InB_of rfl) und_i8 und_int rfl (w64 (by omega) (by omega))) ?_
    refine goA ?_
    refine evG ggA (ss_call (InB_of rfl) rfl rfl cv2) ?_
    refine runA ?_
    refine goA ?_
    exact rfl
  have k3 : decide (a * b > 4000) = false := by simpa using h3
  have cr := represent_p (f := R) (n := a * b) (by omega) (by omega)
  rw [if_pos (chk_of pR bR), if_pos ⟨hab0, by omega⟩, rr] at cr
  have rp := rep_pos sm hab0 (by omega) e
  have k4 : decide (rep R (a * b) > 0) = true := by simp; omega
  have g1 := rgcd_p (a := R.b) (b := R.c) (bR.b.mono (by decide)) (bR.c.mono (by decide))
  have g2 := rgcd_p (a := R.a) (b := gI R.b R.c) (bR.a.mono (by decide)) ((gI_bd bR.b bR.c).mono (by decide))
  have g3 : gI R.a (gI R.b R.c) = 1 := by
    have e1 : ctI R = 1 := by rw [ctI_eq, ct]; rfl
    rw [← e1]
    unfold ctI gI
    rw [Int.natAbs_natCast, Int.natAbs_natCast, Nat.gcd_assoc]
  rw [g3] at g2
  clear g3 rp e sm bR pR ct rr
  generalize gI R.b R.c = q at *
  generalize rep R (a * b) = m at *
  refine pc_body1 true Try.func5 rfl rfl rfl (Nat.le_of_ble_eq_true rfl) CellT.tmp ?_
  refine goA ?_
  refine evG ggA (ss_call (InB_of rfl) rfl rfl ca) ?_
  refine goA ?_
  refine evG ggA (ss_call (InB_of rfl) rfl rfl c1) ?_
  refine goA ?_
  refine evG ggA (ss_index_arr (InB_of rfl) arr_i8 rfl rfl (by decide) (by decide)) ?_
  refine goA ?_
  refine evG ggA (ss_conv (InB_of rfl) und_i8 und_int rfl (w64 (by omega) (by omega))) ?_
  refine goA ?_
  refine evG ggA (ss_index_arr (InB_of rfl) arr_i8 rfl rfl (by decide) (by decide)) ?_
  refine goA ?_
  refine evG ggA (ss_conv (InB_of rfl) und_i8 und_int rfl (w64 (by omega) (by omega))) ?_
  refine goA ?_
  refine evG ggA (ss_call (InB_of rfl) rfl rfl cv1) ?_
  refine goA ?_
  refine evG ggA (ss_index_arr (InB_of rfl) arr_i8 rfl rfl (by decide) (by decide)) ?_
  refine goA ?_
  refine evG ggA (ss_conv (InB_of rfl) und_i8 und_int rfl (w64 (by omega) (by omega))) ?_
  refine goA ?_
  refine evG ggA (ss_index_arr (InB_of rfl) arr_i8 rfl rfl (by decide) (by decide)) ?_
  refine goA ?_
  refine evG ggA (ss_conv (InB_of rfl) und_i8 und_int rfl (w64 (by omega) (by omega))) ?_
  refine goA ?_
  refine evG ggA (ss_call (InB_of rfl) rfl rfl cv2) ?_
  refine runA ?_
  refine goA ?_
  refine evG ggA (ss_call (InB_of rfl) rfl rfl cr) ?_
  refine goA ?_
  refine evG ggA (ss_call (InB_of rfl) rfl rfl g1) ?_
  refine goA ?_
  refine evG ggA (ss_call (InB_of rfl) rfl rfl g2) ?_
  refine goA ?_
  exact rfl
end Ab
