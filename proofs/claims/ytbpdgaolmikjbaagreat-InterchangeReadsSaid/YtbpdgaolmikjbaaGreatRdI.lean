/- Fractions read. -/
import Derived.Test.YtbpdgaolmikjbaaGreatRdH
set_option linter.all false
namespace Ab
open Go Go.RowKit Go.Proofs Hp
set_option maxRecDepth 100000
set_option maxHeartbeats 4000000
theorem rat_w {l l1 l2 : List Nat} {b b1 b2 : Bool} {lv : Int} {x y : BI} (c1 : PCM false Tryz.prog 130 [.ptr 100 0] (RR l b lv) true (.v (.agg x.cs)) (RR l1 b1 lv)) (c2 : PCM false Tryz.prog 130 [.ptr 100 0] (RR l1 b1 lv) true (.v (.agg y.cs)) (RR l2 b2 lv)) : PCM false Tryz.prog 109 [.ptr 100 0] (RR l b lv) true (.v (.agg (BR.cs ⟨x, y⟩))) (RR l2 b2 lv) := by
 obtain ⟨xg, xd⟩ := x
 obtain ⟨yg, yd⟩ := y
 refine Zbz Tryz.func109 rfl rfl rfl (Nat.le_of_ble_eq_true rfl) (Za1 rfl) ?_
 refine goI ?_
 refine mcA c1 ?_
 refine evG ggA (Zcv (Zaa rfl) (Zd7 rfl) rfl rfl rfl) ?_
 refine evG ggA (Zbi rfl (Zcg rfl) rfl rfl rfl rfl rfl (Nat.le_of_ble_eq_true rfl) rfl) ?_
 refine Zbs ?_
 refine Zbr ?_
 refine T.seq ?_
 refine T.drawC mixed ?_
 refine Zbc (Zba (Zaa rfl) (Za1 rfl) rfl rfl rfl rfl) rfl ?_
 refine Zal (Zbj (Zaa rfl) rfl) rfl rfl ?_
 refine Zbm [(100, 100)] c2 rfl rfl rfl rfl rfl rfl rfl ⟨rfl, trivial⟩ ⟨.inl rfl, trivial⟩ ?_
 refine Zal (Zdv (Zaa rfl) (Zb0 rfl) rfl rfl rfl) rfl rfl ?_
 refine Ze2 (Zbi rfl (Zcg rfl) rfl rfl rfl rfl rfl (Nat.le_of_ble_eq_true rfl) rfl) rfl rfl rfl (fun i h => h) ?_
 refine ⟨by kernel_rfl, ?_⟩
 refine goI ?_
 exact ⟨.inr rfl, rfl, rfl, by exact Zak⟩
theorem r_rat (l : List Nat) (hl : By l) (hn : l.length ≤ 1000000000) (b : Bool) (lv : Int) : ∃ (v : BR) (l' : List Nat) (b' : Bool), PCM false Tryz.prog 109 [.ptr 100 0] (RR l b lv) true (.v v.av) (RR l' b' lv) ∧ v.ok ∧ (∃ j, l' = l.drop j) ∧ (b = true → b' = true) ∧ (b' = false → 2 + 4 * v.n.ds.length + 4 * v.d.ds.length + l'.length ≤ l.length) ∧
  ∀ w tail, w.ok → b = false → l = eR w ++ tail → v = w ∧ l' = tail ∧ b' = false := by
 obtain ⟨x, l1, b1, c1, h1, h2, h3, h4, h5⟩ := r_big l hl hn b lv
 have hl1 := Zaw h2
 have hb1 : By l1 := by
  obtain ⟨j, rfl⟩ := h2
  exact hl.drop j
 obtain ⟨y, l2, b2, c2, k1, k2, k3, k4, k5⟩ := r_big l1 hb1 (by omega) b1 lv
 refine ⟨⟨x, y⟩, l2, b2, rat_w c1 c2, ⟨h1, k1⟩, ?_, fun h => k3 (h3 h), fun h => ?_, fun w tail hw hb e => ?_⟩
 ·obtain ⟨j, rfl⟩ := h2
  obtain ⟨i, rfl⟩ := k2
  exact ⟨j + i, by rw [List.drop_drop]⟩
 ·have hf : b1 = false := by
   cases b1 with
   | false => rfl
   | true => rw [k3 rfl] at h; cases h
  have := h4 hf
  have := k4 h
  show 2 + 4 * x.ds.length + 4 * y.ds.length + _ ≤ _
  omega
 ·obtain ⟨p, q⟩ := w
  have e : l = eB p ++ (eB q ++ tail) := by rw [e]; show eB p ++ eB q ++ tail = _; rw [List.append_assoc]
  obtain ⟨g1, g2, g3⟩ := h5 p _ hw.1 hb e
  obtain ⟨m1, m2, m3⟩ := k5 q tail hw.2 g3 g2
  exact ⟨by rw [g1, m1], m2, m3⟩
end Ab
