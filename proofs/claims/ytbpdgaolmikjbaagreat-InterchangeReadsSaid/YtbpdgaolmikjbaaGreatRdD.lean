/- Texts read. -/
import Derived.Test.YtbpdgaolmikjbaaGreatRdC
set_option linter.all false
namespace Ab
open Go Go.RowKit Go.Proofs Hp
set_option maxRecDepth 100000
set_option maxHeartbeats 4000000
theorem Zel : Tryz.prog.underlying 9 = some .string := by kernel_rfl
theorem Zem : Tryz.prog.underlying 32 = some (.slice 5) := by kernel_rfl
def txB (l : List Nat) : ByteArray := strB (l.map fun n : Nat => (n : Int))
theorem txB_size (l : List Nat) : (txB l).size = l.length := by unfold txB strB; rw [strOfNums_size, List.length_map]
theorem txB_of (s : ByteArray) : txB (s.data.toList.map (·.toNat)) = s := by
 unfold txB strB strOfNums
 rw [List.map_map, List.map_map]
 have : s.data.toList.map ((fun n : Int => UInt8.ofNat n.toNat) ∘ (fun n : Nat => (n : Int)) ∘ fun x : UInt8 => x.toNat) = s.data.toList := by
  conv => rhs; rw [← List.map_id s.data.toList]
  refine List.map_congr_left fun b _ => ?_
  show UInt8.ofNat ((b.toNat : Int)).toNat = b
  rw [Int.toNat_natCast, UInt8.ofNat_toNat]
 exact congrArg (fun l : List UInt8 => (⟨l.toArray⟩ : ByteArray)) this
theorem take_nV (l : List Nat) (n : Nat) : (l.map nV).take n = ((l.take n).map fun n : Nat => (n : Int)).map bV := by
 rw [← List.map_take, List.map_map]; rfl
theorem r_text (l : List Nat) (hl : By l) (hn : l.length ≤ 1000000000) (b : Bool) (lv : Int) : ∃ (s : ByteArray) (l' : List Nat) (b' : Bool), PCM false Tryz.prog 111 [.ptr 100 0] (RR l b lv) true (.v (tV s)) (RR l' b' lv) ∧ s.size + l'.length ≤ l.length ∧ (∃ j, l' = l.drop j) ∧ (b = true → b' = true) ∧ (b' = false → s.size + l'.length < l.length) ∧
    ∀ w tail, b = false → l = eT w ++ tail → s = w ∧ l' = tail ∧ b' = false := by
  obtain ⟨n, l', b1, c, h1, h2, h3, h4, h5⟩ := r_length l hl hn b lv
  have hl' := Zaw h2
  cases b1 with
  | true =>
    refine ⟨ByteArray.empty, l', true, ?_, by show 0 + _ ≤ _; omega, h2, fun _ => rfl, fun h => (by cases h), fun w tail hb e => ?_⟩
    · refine Zay Tryz.func111 rfl rfl rfl (Nat.le_of_ble_eq_true rfl) ?_
      refine goI ?_
      refine mcA c ?_
      refine goI ?_
      exact ⟨.inr rfl, by exact Zak⟩
    · unfold eT at e
      rw [List.append_assoc] at e
      obtain ⟨-, -, g⟩ := h5 w.size _ (by rw [List.length_append, List.length_map, Array.length_toList]; show w.size ≤ w.size + _; omega) hb e
      cases g
  | false =>
    have h4 := h4 rfl
    have eh := take_nV l' n
    have ed : (l'.map nV).drop n = (l'.drop n).map nV := List.map_drop.symm
    have eml : (l'.map nV).length = l'.length := List.length_map ..
    have en : ((n : Nat) : Int).toNat = n := by omega
    refine ⟨txB (l'.take n), l'.drop n, false, ?_, by rw [txB_size, List.length_take, List.length_drop]; omega, ?_, h3, fun _ => by rw [txB_size, List.length_take, List.length_drop]; omega, fun w tail hb e => ?_⟩
    · refine Zay Tryz.func111 rfl rfl rfl (Nat.le_of_ble_eq_true rfl) ?_
      refine goI ?_
      refine mcA c ?_
      refine goI ?_
      refine evG ggA (Zde (Zaa rfl) (Zac rfl) rfl (Zdw l') rfl (by omega) (by omega)) ?_
      rw [en, eh]
      refine evG ggA (Zdg (Zaa rfl) Zem Za3 Zel rfl) ?_
      refine goI ?_
      refine evG ggA (ss_slice_l (Zaa rfl) (Zac rfl) rfl (Zdw l') rfl (by omega) (by omega)) ?_
      rw [en, ed]
      refine goI ?_
      exact ⟨.inr rfl, by exact Zak⟩
    · obtain ⟨j, rfl⟩ := h2
      exact ⟨j + n, by rw [List.drop_drop]⟩
    · unfold eT at e
      rw [List.append_assoc] at e
      have hw : (w.data.toList.map (·.toNat)).length = w.size := by rw [List.length_map, Array.length_toList]; rfl
      obtain ⟨g1, g2, -⟩ := h5 w.size _ (by rw [List.length_append, hw]; omega) hb e
      subst g1 g2
      rw [← hw, List.take_left, List.drop_left]
      exact ⟨txB_of w, rfl, rfl⟩
end Ab
