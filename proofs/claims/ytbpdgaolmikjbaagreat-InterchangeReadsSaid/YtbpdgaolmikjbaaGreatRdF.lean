/- Back to blocks without digits, once the list of digits has been frozen. -/
import Derived.Test.YtbpdgaolmikjbaaGreatRdE
set_option linter.all false
namespace Ab
open Go Go.RowKit Go.Proofs Hp
theorem Ent.nd {s : AS} (h : ∀ i b, s.m i = some b → ∃ cs, b = .var cs ∧ cs.all TV.nu = true) : Ent s { s with nd := true } := by
 rintro w0 M0 a w hM ⟨ρ, hr⟩
 refine ⟨ρ, hr.below, hr.defers, hr.nt, hr.base, hr.inj, fun i x hx => ?_, hr.tmps, hr.pas, hr.kid⟩
 obtain ⟨cs, rfl, hc⟩ := h i x hx
 obtain ⟨b, k, t, row, h1, h2, h3, h4, h5⟩ := hr.slots i _ hx
 refine ⟨b, k, t, row, h1, h2, h3, h4, fun _ j d hj => ?_⟩
 have hjl := (Array.getElem?_eq_some_iff.1 hj).1
 have hg : cs[j]? = some cs[j] := List.getElem?_eq_getElem (by omega)
 obtain ⟨v, g1, g2, g3⟩ := h4 j _ hg
 rw [g1] at hj
 injection hj with hj
 exact TRep.nu g3 (List.all_eq_true.1 hc _ (List.getElem_mem _)) d hj
theorem Ent.ndP {L : List (Nat × TV)} {Lm : List (Nat × Blk)} {nt : Nat} {k : List Nat} (h : (Lm.all fun p => match p.2 with | .var cs => cs.all TV.nu | _ => false) = true) : Ent (Ab.mkP L Lm nt false k) (Ab.mkP L Lm nt true k) :=
 Ent.nd fun i b hb => by
  have := List.all_eq_true.1 h _ (Zbw hb)
  cases b with
  | var cs => exact ⟨cs, rfl, this⟩
  | lst => cases this
  | mp => cases this
  | tl => cases this
theorem Zbz {dm : Bool} {P : Program} {f : FuncId} {fn : Func} {c : Code} {args : List TV} {L L' : List (Nat × Blk)} {nd : Bool} {ad : Nat} {ty : TypeId} {l : List AV} (hf : P.funcs[f]? = some fn) (hname : (fn.name == "runtime.NumGoroutine") = false) (hb : fn.body = some c) (hres : fn.results = #[.cell ad ty]) (hn : args.length ≤ fn.ntmps) (hA : AggT P ty l.length)
  (hT : T dm P c { t := fun i => args[i]?, m := Zaq L, nt := fn.ntmps, nd := nd, k := L.map (·.1) } (fun x s => (x = .normal ∨ x = .ret) ∧ s.nt = fn.ntmps ∧ resV s (.cell ad ty) = some (.agg l) ∧ Ent { s with t := upd s.t fn.ntmps (.v (.agg l)), nt := fn.ntmps + 1 } (mkP [(fn.ntmps, .v (.agg l))] L' (fn.ntmps + 1) nd (L.map (·.1))))) : PCM dm P f args L nd (.v (.agg l)) L' := by
 refine ⟨⟨fn, hf, hname, by rw [hb]; rfl⟩, fun w M0 hM hm0 vs hr => ?_⟩
 refine calls_of_wp hf hb (Code.wp_mono (fun x a' w' hx => ?_) (hT w M0 hM _ w ⟨_, Zg0 hn hr⟩))
 obtain ⟨s', ⟨hxx, hnt, hrv, hE⟩, ρ2, h2⟩ := hx
 obtain ⟨v, h3, h4⟩ := Zgw (P := P) h2 hrv (fun ad' t' e => by cases e; exact ⟨l, rfl, hA⟩)
 have hsz : a'.tmps.size = fn.ntmps := h2.nt.trans hnt
 have h5 : RelR w M0 ρ2 { s' with t := upd s'.t fn.ntmps (.v (.agg l)), nt := fn.ntmps + 1 } { a' with tmps := a'.tmps.push v } w' := by
  refine ⟨h2.below, h2.defers, by simp [hsz], h2.base, h2.inj, h2.slots, fun i y hi => ?_, h2.pas, h2.kid⟩
  by_cases h : fn.ntmps = i
  ·subst h
   have hi : upd s'.t fn.ntmps (.v (.agg l)) fn.ntmps = some y := hi
   rw [Za6] at hi
   injection hi with hi
   subst hi
   exact ⟨v, by rw [← hsz]; simp, h4⟩
  ·have hi : upd s'.t fn.ntmps (.v (.agg l)) i = some y := hi
   rw [Za7 _ _ h] at hi
   obtain ⟨u, g1, g2⟩ := h2.tmps i y hi
   refine ⟨u, ?_, g2⟩
   have := (Array.getElem?_eq_some_iff.1 g1).1
   rw [Array.getElem?_push, if_neg (by omega)]
   exact g1
 obtain ⟨ρ', h6⟩ := hE w M0 _ w' hM.weak ⟨ρ2, h5⟩
 obtain ⟨u, g1, g2⟩ := h6.tmps fn.ntmps (.v (.agg l)) (by simp [mkP, Zaq])
 have hu : u = v := by
  have g1 : (a'.tmps.push v)[fn.ntmps]? = some u := g1
  rw [Array.getElem?_push, if_pos hsz.symm] at g1
  injection g1 with g1
  exact g1.symm
 subst hu
 have key : a'.defers = [] ∧ ∃ v, (results fn a'.tmps).run P w' = .ok v w' ∧ ∃ v' ρ', Ending.returned v = .returned v' ∧ RelR w M0 ρ' { t := fun i => bif Nat.beq i 0 then some (.v (.agg l)) else none, m := Zaq L', nt := 1, nd := nd, k := L.map (·.1) } { tmps := #[v'], defers := [] } w' := by
  refine ⟨h2.defers.trans hr.defers.symm, u, ?_, u, ρ', rfl, pcm_end hr.defers h6 g2 rfl rfl⟩
  simp only [results, hres]
  simp at h3 ⊢
  rw [h3]
 rcases hxx with rfl | rfl
 ·exact key
 ·exact key
end Ab
