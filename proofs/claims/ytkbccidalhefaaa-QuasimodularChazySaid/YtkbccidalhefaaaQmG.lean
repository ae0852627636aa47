/- The library's Grow of nothing, Clone and Concat at lists of terms: by the kit's contract, and walked; no condition. -/
import Derived.Test.YtkbccidalhefaaaQmT
import Derived.Shelf.Spec.SlicesGrow
set_option linter.all false
namespace Ab
open Go Go.RowKit Go.Proofs Hp
set_option maxRecDepth 100000

def rnG : Go.Shelf.Ren := ⟨fun _ => 40, fun k => match k with | 0 => 0 | 3 => 3 | 4 => 4 | 9 => 9 | 20 => 20 | 22 => 29 | 25 => 40 | _ => 0, fun _ => 0⟩
theorem layG : Lays8.n4 Try.prog rnG := by
  constructor
  case f4 => exact ⟨Try.f40.name, by kernel_rfl, by kernel_rfl⟩
  all_goals first
    | kernel_rfl
    | (intro w; kernel_rfl)
theorem grow_p {n : Nat} (hn : n ≤ 1000000) : PCO Try.prog 40 [.p nilV, iV n] 7 40 [] := by
  refine ⟨callOK Try.func40 rfl rfl, fun w M hM vs hvs => ?_⟩
  obtain ⟨v, u, rfl, hv, hu⟩ := reps2 hvs
  rw [Rep.p_inv hv, Rep.p_inv hu]
  rcases Nat.eq_zero_or_pos n with h0 | h0
  · subst h0
    refine (Any8.slices_Grow_room layG none 0 0 0 w (Nat.le_refl _) (by decide) (by decide) (Nat.le_refl _)).mono ?_
    rintro e w' ⟨rfl, rfl⟩
    exact ⟨_, rfl, Below.refl _ _, .inl ⟨rfl, rfl⟩⟩
  · obtain ⟨-, i0, z, hi0, hs, hb, hz, hzl, -⟩ := make_QuasiPoly
    refine (Any8.slices_Grow_grow layG i0 z hi0 hz (by rw [hs]; decide) none 0 0 n [] w (Nat.le_refl _) (by omega) (by rw [hb]; omega) (by omega) (by simp) (fun _ => rfl) (fun a h => by cases h)).mono ?_
    rintro e w' ⟨rfl, rfl⟩
    have hzs : z.cells.size = 7 := by rw [← Array.length_toList, hzl]; rfl
    have hge := grownCap_ge w (0 + n) 0 (rnG.t 25)
    refine ⟨_, rfl, (Below.refl _ _).drew.alloc (Nat.le_refl _) _, .inr ⟨w.heap.size, grownCap w (0 + n) 0 (rnG.t 25), _, Nat.le_refl _, by simp, heap_alloc_new w.drew _, Nat.zero_le _, grownCap_le_maxLen w (0 + n) 0 _ (by unfold maxLen; omega), ?_, rfl, noDg_of fun u hu => ?_, fun i e he => by cases he⟩⟩
    · simp only [Array.size_append, size_zeroCells, hzs]
      simp only [List.size_toArray, List.length_nil]
      omega
    · simp only [Array.toList_append, List.mem_append] at hu
      have hzn : z.cells.toList.all nuV = true := by rw [hzl]; rfl
      rcases hu with (hu | hu) | hu
      · cases hu
      · exact zero_nu hzn (by omega) u hu
      · exact zero_nu hzn (by omega) u hu
set_option maxHeartbeats 4000000 in
theorem clone_p (U : List QE) (hU : U.length ≤ 100000) : PCO Try.prog 32 [.sl (U.map QE.av)] 7 40 (U.map QE.av) := by
  have hc7 : ∀ a, a ∈ U.map QE.av → a.cells.length = 7 := fun a ha => by obtain ⟨e, -, rfl⟩ := List.mem_map.1 ha; rfl
  have hnu : ∀ a, a ∈ U.map QE.av → ∀ c, c ∈ a.cells → c.nu = true := fun a ha => by
    obtain ⟨e, -, rfl⟩ := List.mem_map.1 ha
    exact List.all_eq_true.1 (show (QE.av e).cells.all AV.nu = true from rfl)
  have hl : (U.map QE.av).length ≤ 100000 := by simpa using hU
  generalize U.map QE.av = xs at *
  refine pc_bodyO (t := 2) (id := 100) Try.func32 rfl rfl rfl (Nat.le_of_ble_eq_true rfl) ?_
  refine goA ?_
  refine evM (ms_eqnil rfl sl_QuasiPoly rfl fun b hb => ?_)
  refine goA ?_
  refine T.cond rfl (fun hbt => ?_) (fun hbf => ?_)
  · have hx : xs = [] := by
      cases xs with
      | nil => rfl
      | cons x xs => have := hb (fun e => by cases e); rw [this] at hbt; cases hbt
    subst hx
    refine T.weak (s' := mkS [(0, .v (.sl [])), (2, .v (.p nilV))] [] 8 true) (by exact entA) ?_
    refine T.seq ?_
    refine regA ?_
    refine runA ?_
    refine ev_nil ?_
    refine seqQ_n ?_
    refine T.weak (s' := mkS [(2, .own 100 0)] [(100, .lst 7 40 [])] 8 true) (by exact entA) ?_
    refine goA ?_
    exact ⟨.inr rfl, rfl, rfl, rfl⟩
  · refine goA ?_
    refine evG ggA (ss_bslice_own 100 (xs := []) (InB_of rfl) rfl (make_tab rfl) rfl rfl rfl rfl (fun x hx => by cases hx) (Nat.le_of_ble_eq_true rfl) (by decide) (fun _ a ha => by cases ha)) ?_
    refine goA ?_
    refine evG ggA (ss_append (InB_of rfl) (make_tab rfl) rfl rfl rfl rfl hc7 (by decide) (by unfold maxLen; simp; omega) (by simp; omega) rfl (fun _ => hnu)) ?_
    refine goA ?_
    exact ⟨.inr rfl, rfl, by simp [AS.act, AS.put, updo, upd], by simp [AS.act, mact, upd]⟩
end Ab
