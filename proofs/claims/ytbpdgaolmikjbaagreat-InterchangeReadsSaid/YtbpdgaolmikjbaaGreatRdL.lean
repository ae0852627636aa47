/- Structs read (printed by tools/gen_rd.py). -/
import Derived.Test.YtbpdgaolmikjbaaGreatRdK
set_option linter.all false
namespace Ab
open Go Go.RowKit Go.Proofs Hp
set_option maxRecDepth 100000
set_option maxHeartbeats 4000000
theorem Zgz (lv : Int) : ∀ l, By l → l.length ≤ 1000000000 → ∀ b, ∃ (n : Nat) (l' : List Nat) (b' : Bool), RC 106 [] (fun n : Nat => iV n) lv l b n l' b' ∧ n ≤ l'.length ∧ (∃ j, l' = l.drop j) ∧ (b = true → b' = true) ∧ (b' = false → l'.length < l.length) ∧ ∀ m tail, m ≤ tail.length → b = false → l = eN m ++ tail → n = m ∧ l' = tail ∧ b' = false :=
 fun l hl hn b => r_length l hl hn b lv
theorem rd_lRat (lv : Int) : Rd (RC 108 [.bm 109 100 0] (fun vs : List BR => .sl (vs.map BR.av)) lv) (fun vs => (∀ v, v ∈ vs → BR.ok v) ∧ vs.length ≤ 1000000000) (eL eR) (fun vs => vs.map BR.can) (fun vs => ∀ v, v ∈ vs → (fun _ => True) v) :=
 Zfb (rd_rat lv) (Zgz lv) fun g hg l b n l1 b1 hN hn hb hl => l_Rat hg l b n l1 b1 hN hn hb hl
theorem rd_lInt (lv : Int) : Rd (RC 110 [.bm 107 100 0] (fun vs : List Int => .sl (vs.map iV)) lv) (fun vs => (∀ v, v ∈ vs → I64 v) ∧ vs.length ≤ 1000000000) (eL eI) (fun vs => vs.map id) (fun vs => ∀ v, v ∈ vs → (fun _ => True) v) :=
 Zfb (Zeh lv) (Zgz lv) fun g hg l b n l1 b1 hN hn hb hl => l_Int hg l b n l1 b1 hN hn hb hl
theorem series_w {lv : Int} {l l1 l2 : List Nat} {b b1 b2 : Bool} {f : Int} {cs : List BR} (c1 : PCM false Tryz.prog 107 [.ptr 100 0] (RR l b lv) true (.v (iV f)) (RR l1 b1 lv)) (c2 : PCM false Tryz.prog 108 [.ptr 100 0, .bm 109 100 0] (RR l1 b1 lv) true (.v (.sl (cs.map BR.av))) (RR l2 b2 lv)) : PCM false Tryz.prog 67 [.ptr 100 0] (RR l b lv) true (.v (.agg (PS.cs ⟨f, cs⟩))) (RR l2 b2 lv) := by
 refine Zbz Tryz.func67 rfl rfl rfl (Nat.le_of_ble_eq_true rfl) (Za1 rfl) ?_
 refine goI ?_
 refine mcA c1 ?_
 refine goI ?_
 refine mcA c2 ?_
 refine goI ?_
 exact ⟨.inr rfl, rfl, rfl, by exact Zak⟩
theorem eta_w {lv : Int} {l l1 l2 : List Nat} {b b1 b2 : Bool} {f : Int} {cs : List Int} (c1 : PCM false Tryz.prog 107 [.ptr 100 0] (RR l b lv) true (.v (iV f)) (RR l1 b1 lv)) (c2 : PCM false Tryz.prog 110 [.ptr 100 0, .bm 107 100 0] (RR l1 b1 lv) true (.v (.sl (cs.map iV))) (RR l2 b2 lv)) : PCM false Tryz.prog 69 [.ptr 100 0] (RR l b lv) true (.v (.agg (PE.cs ⟨f, cs⟩))) (RR l2 b2 lv) := by
 refine Zbz Tryz.func69 rfl rfl rfl (Nat.le_of_ble_eq_true rfl) (Za1 rfl) ?_
 refine goI ?_
 refine mcA c1 ?_
 refine goI ?_
 refine mcA c2 ?_
 refine goI ?_
 exact ⟨.inr rfl, rfl, rfl, by exact Zak⟩
theorem matrix_w {lv : Int} {l l1 l2 l3 : List Nat} {b b1 b2 b3 : Bool} {f : Int} {g : Int} {cs : List BR} (c1 : PCM false Tryz.prog 107 [.ptr 100 0] (RR l b lv) true (.v (iV f)) (RR l1 b1 lv)) (c2 : PCM false Tryz.prog 107 [.ptr 100 0] (RR l1 b1 lv) true (.v (iV g)) (RR l2 b2 lv)) (c3 : PCM false Tryz.prog 108 [.ptr 100 0, .bm 109 100 0] (RR l2 b2 lv) true (.v (.sl (cs.map BR.av))) (RR l3 b3 lv)) : PCM false Tryz.prog 77 [.ptr 100 0] (RR l b lv) true (.v (.agg (PM.cs ⟨f, g, cs⟩))) (RR l3 b3 lv) := by
 refine Zbz Tryz.func77 rfl rfl rfl (Nat.le_of_ble_eq_true rfl) (Za1 rfl) ?_
 refine goI ?_
 refine mcA c1 ?_
 refine goI ?_
 refine mcA c2 ?_
 refine goI ?_
 refine mcA c3 ?_
 refine goI ?_
 exact ⟨.inr rfl, rfl, rfl, by exact Zak⟩
theorem kind_w {lv : Int} {l l1 l2 l3 l4 l5 : List Nat} {b b1 b2 b3 b4 b5 : Bool} {f : Int} {g : Int} {h : Int} {k : Int} {n : Nat} (c1 : PCM false Tryz.prog 107 [.ptr 100 0] (RR l b lv) true (.v (iV f)) (RR l1 b1 lv)) (c2 : PCM false Tryz.prog 107 [.ptr 100 0] (RR l1 b1 lv) true (.v (iV g)) (RR l2 b2 lv)) (c3 : PCM false Tryz.prog 107 [.ptr 100 0] (RR l2 b2 lv) true (.v (iV h)) (RR l3 b3 lv)) (c4 : PCM false Tryz.prog 107 [.ptr 100 0] (RR l3 b3 lv) true (.v (iV k)) (RR l4 b4 lv)) (c5 : PCM false Tryz.prog 129 [.ptr 100 0] (RR l4 b4 lv) true (.v (qV' n)) (RR l5 b5 lv)) : PCM false Tryz.prog 113 [.ptr 100 0] (RR l b lv) true (.v (.agg (PK.cs ⟨f, g, h, k, n == 1⟩))) (RR l5 b5 lv) := by
 have hq : (((n : Nat) : Int) == 1) = (n == 1) := by
  by_cases h : n = 1
  ·subst h; rfl
  ·rw [beq_false_of_ne h, beq_false_of_ne (by omega)]
 refine Zbz Tryz.func113 rfl rfl rfl (Nat.le_of_ble_eq_true rfl) (Za1 rfl) ?_
 refine goI ?_
 refine mcA c1 ?_
 refine goI ?_
 refine mcA c2 ?_
 refine goI ?_
 refine mcA c3 ?_
 refine goI ?_
 refine mcA c4 ?_
 refine goI ?_
 refine mcA c5 ?_
 refine evG ggA (Zfu (Zaa rfl) rfl rfl (congrArg some hq)) ?_
 generalize (n == 1) = cu at *
 refine goI ?_
 exact ⟨.inr rfl, rfl, rfl, by exact Zak⟩
theorem rd_series (lv : Int) : Rd (RC 67 [] PS.av lv) PS.ok eS PS.can (fun _ => True) :=
 Zfl (Zax (Zeh lv) (rd_lRat lv)) (fun p => ⟨p.1, p.2⟩) (fun w => (w.f, w.c)) (fun w => by cases w; rfl) (fun v h => h) (fun w h => h) (fun w h => ⟨trivial, fun _ _ => trivial⟩) (fun w => rfl) (fun v _ => Nat.le_refl _) (fun l b v l' b' _ _ _ _ _ h => by obtain ⟨_, _, c1, c2⟩ := h; exact series_w c1 c2)
theorem rd_eta (lv : Int) : Rd (RC 69 [] PE.av lv) PE.ok eE id (fun _ => True) :=
 Zfl (Zax (Zeh lv) (rd_lInt lv)) (fun p => ⟨p.1, p.2⟩) (fun w => (w.l, w.e)) (fun w => by cases w; rfl) (fun v h => h) (fun w h => h) (fun w h => ⟨trivial, fun _ _ => trivial⟩) (fun w => rfl) (fun v _ => by rw [List.map_id]; exact Nat.le_refl _) (fun l b v l' b' _ _ _ _ _ h => by obtain ⟨_, _, c1, c2⟩ := h; exact eta_w c1 c2)
theorem rd_matrix (lv : Int) : Rd (RC 77 [] PM.av lv) PM.ok eM PM.can (fun _ => True) :=
 Zfl (Zax (Zeh lv) (Zax (Zeh lv) (rd_lRat lv))) (fun p => ⟨p.1, p.2.1, p.2.2⟩) (fun w => (w.r, w.c, w.a)) (fun w => by cases w; rfl) (fun v h => h) (fun w h => h) (fun w h => ⟨trivial, trivial, fun _ _ => trivial⟩) (fun w => rfl) (fun v _ => Nat.le_refl _) (fun l b v l' b' _ _ _ _ _ h => by obtain ⟨_, _, c1, ⟨_, _, c2, c3⟩⟩ := h; exact matrix_w c1 c2 c3)
theorem rd_kind (lv : Int) : Rd (RC 113 [] PK.av lv) PK.ok eK id (fun _ => True) :=
 Zfl (Zax (Zeh lv) (Zax (Zeh lv) (Zax (Zeh lv) (Zax (Zeh lv) (rd_number lv))))) (fun p => ⟨p.1, p.2.1, p.2.2.1, p.2.2.2.1, p.2.2.2.2 == 1⟩) (fun w => (w.w, w.l, w.d, w.p, if w.cu then 1 else 0)) (fun w => by obtain ⟨a, b, c, d, cu⟩ := w; cases cu <;> rfl) (fun v h => ⟨h.1, h.2.1, h.2.2.1, h.2.2.2.1⟩) (fun w h => ⟨h.1, h.2.1, h.2.2.1, h.2.2.2, by show (if w.cu then 1 else 0) < _; split <;> omega⟩) (fun w h => ⟨trivial, trivial, trivial, trivial, trivial⟩) (fun w => rfl) (fun v _ => by
  have : (eN (if (v.2.2.2.2 == 1) = true then 1 else 0)).length ≤ (eN v.2.2.2.2).length := by
   have := Zcu v.2.2.2.2
   split <;> (rw [eN_lt (by omega)]; exact this)
  show (eI v.1 ++ (eI v.2.1 ++ (eI v.2.2.1 ++ (eI v.2.2.2.1 ++ eN (if (v.2.2.2.2 == 1) = true then 1 else 0))))).length ≤ (eI v.1 ++ (eI v.2.1 ++ (eI v.2.2.1 ++ (eI v.2.2.2.1 ++ eN v.2.2.2.2)))).length
  simp only [List.length_append]
  omega) (fun l b v l' b' _ _ _ _ _ h => by obtain ⟨_, _, c1, ⟨_, _, c2, ⟨_, _, c3, ⟨_, _, c4, c5⟩⟩⟩⟩ := h; exact kind_w c1 c2 c3 c4 c5)
end Ab
