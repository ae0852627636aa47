/- Arguments of the statements on series, opened. -/
import Derived.Test.YtalcdpjpapojeaaGreatDoorAJ
import Derived.ProofKit
import Derived.Deep.Slices
import Derived.Lib.SmallJoins
import Derived.Test.YtalcdpjpapojeaaGreatDoorIB
set_option linter.all false
namespace Ab
open Go Go.RowKit Go.Proofs Hp Go.ChangeShapes Go.WideShapes
set_option maxRecDepth 100000
def NoM : Nat → Prop := fun _ => False
theorem okNo {dm : Bool} {w : World} (h : TabOK NoM w) : OKM dm NoM w := ⟨fun b h => h.elim, h⟩
section
variable {H : Type} {enc : TypeId × Value → H} {w : World} {base : Nat} {spare : Nat → Bool} {held : Bool} {fuel : Nat} {cs : List Value} {x : DataW H × List MemPlace}
end
end Ab
namespace Ab
open Hp
theorem lz {l : List Rat} {i : Nat} (h : i < lead l) : l.getD i 0 = 0 := by rw [List.getD_eq_getElem?_getD, Zfn l i h]; rfl
theorem cf_drop (s : Int) (l : List Rat) (k : Nat) (hk : k ≤ lead l) (n : Int) : cf (s + k) (l.drop k) n = cf s l n := by
 unfold cf
 by_cases h1 : n < s
 ·rw [if_pos oM, if_pos h1]
 ·rw [if_neg h1]
  by_cases h2 : n < s + k
  ·rw [if_pos h2, lz oM]
  ·rw [if_neg h2, List.getD_eq_getElem?_getD, List.getD_eq_getElem?_getD, List.getElem?_drop]
   congr 2
   omega
theorem cf_ge {s : Int} {l : List Rat} {n : Int} (h : s + l.length ≤ n) : cf s l n = 0 := by
 unfold cf
 rw [if_neg oM, List.getD_eq_getElem?_getD, List.getElem?_eq_none oM]
 rfl
theorem Zg1 {s : Int} {l : List Rat} {n : Int} (h : n < s) : cf s l n = 0 := by unfold cf; rw [if_pos h]
theorem cf_tk {s : Int} {f : Nat → Rat} {N : Nat} {n : Int} (h0 : s ≤ n) (h1 : n < s + N) : cf s (tk f N) n = f (n - s).toNat := by
 unfold cf tk
 rw [if_neg oM, List.getD_eq_getElem?_getD, List.getElem?_map, List.getElem?_range oM]
 rfl
def Out (x : Option (Int × List Rat)) (p : Int) (f : Int → Rat) (b : Int) (K : Nat) : Prop :=
 ∃ s l, x = some (s, l) ∧ -100 ≤ s ∧ s + l.length = p ∧ p ≤ 1000 ∧ b ≤ s ∧ (∀ n, n < p → cf s l n = f n) ∧ (∀ q, q ∈ l → Ht q K) ∧ lead l = 0
theorem lead_drop (l : List Rat) : lead (l.drop (lead l)) = 0 := by
  cases h : l.drop (lead l) with
  | nil => rfl
  | cons q r =>
    have hq : q ≠ 0 := Zga l q (by rw [show l[lead l]? = (l.drop (lead l))[0]? by simp, h]; rfl)
    unfold lead
    rw [if_neg hq]
theorem nrm_out {s : Int} {l : List Rat} {K : Nat} (h0 : -100 ≤ s) (h1 : s + l.length ≤ 1000) (hK : ∀ q, q ∈ l → Ht q K) : Out (nrm s l) (s + l.length) (cf s l) s K := by
 have a := Zc2 l
 refine ⟨_, _, Zeo h0 oM oM, oM, by simp; omega, h1, oM, fun n _ => cf_drop s l _ (Nat.le_refl _) n, fun q hq => hK q (List.mem_of_mem_drop hq), lead_drop l⟩
theorem Out.congr {x : Option (Int × List Rat)} {p p' : Int} {f f' : Int → Rat} {b b' : Int} {K K' : Nat} (h : Out x p f b K) (hp : p = p') (hf : ∀ n, n < p' → f n = f' n) (hb : b' ≤ b) (hK : K ≤ K') : Out x p' f' b' K' := by
 subst hp
 obtain ⟨s, l, h1, h2, h3, h4, h5, h6, h7, h8⟩ := h
 exact ⟨s, l, h1, h2, h3, h4, oM, fun n hn => by rw [h6 n hn, hf n hn], fun q hq => (h7 q hq).mono hK, h8⟩
def su (f : Nat → Rat) : Nat → Rat
 | 0 => 0
 | j + 1 => su f j + f j
theorem Zbk {f g : Nat → Rat} : ∀ {n : Nat}, (∀ j, j < n → f j = g j) → su f n = su g n
 | 0, _ => rfl
 | n + 1, h => by rw [su, su, Zbk (fun j hj => h j oM), h n oM]
theorem su_zero {f : Nat → Rat} : ∀ {n : Nat}, (∀ j, j < n → f j = 0) → su f n = 0
 | 0, _ => rfl
 | n + 1, h => by rw [su, su_zero (fun j hj => h j oM), h n oM, Rat.add_zero]
theorem su_add (f g : Nat → Rat) : ∀ n : Nat, su (fun j => f j + g j) n = su f n + su g n
 | 0 => by simp [su, Rat.add_zero]
 | n + 1 => by rw [su, su, su, su_add f g n]; grind
theorem Zf0 (c : Rat) (f : Nat → Rat) : ∀ n : Nat, su (fun j => c * f j) n = c * su f n
 | 0 => by simp [su]
 | n + 1 => by rw [su, su, Zf0 c f n, Rat.mul_add]
theorem su_split (f : Nat → Rat) (a : Nat) : ∀ k : Nat, su f (a + k) = su f a + su (fun i => f (a + i)) k
 | 0 => by simp [su, Rat.add_zero]
 | k + 1 => by rw [← Nat.add_assoc, su, su_split f a k, su, Rat.add_assoc]
theorem cs_su (l m : List Rat) (k : Nat) : ∀ j, cs l m k j = su (fun i => l.getD i 0 * m.getD (k - i) 0) j
 | 0 => rfl
 | j + 1 => by rw [cs, su, cs_su l m k j]
theorem comb_out {s t c : Int} {l m : List Rat} {K : Nat} (hv : Zap s l.length = true) (hw : Zap t m.length = true) (hc : c.natAbs < 4294967296) (hK : 1 ≤ K) (hl : ∀ q, q ∈ l → Ht q K) (hm : ∀ q, q ∈ m → Ht q K) :
  Out (Zgf s l t m c) (min (s + l.length) (t + m.length)) (fun n => cf s l n + c * cf t m n) (min s t) (2 * K + 2) := by
 obtain ⟨a0, a1, a2⟩ := Za2.1 hv
 obtain ⟨b0, b1, b2⟩ := Za2.1 hw
 have e : Zgf s l t m c = nrm (cfr s l.length t m.length) (tk (comb s l t m c) (cp s l.length t m.length - cfr s l.length t m.length).toNat) := by unfold Zgf; rw [hv, hw]; rfl
 rw [e]
 obtain ⟨F, hF⟩ : ∃ F, F = cfr s l.length t m.length := ⟨_, rfl⟩
 obtain ⟨G, hG⟩ : ∃ G, G = cp s l.length t m.length := ⟨_, rfl⟩
 have hcomb : comb s l t m c = fun (i : Nat) => cf s l (F + i) + c * cf t m (F + i) := by rw [hF]; rfl
 have hht : ∀ i, Ht (comb s l t m c i) (2 * K + 2) := ht_comb hK hl hm hc
 rw [← hF, ← hG]
 unfold cp at hG
 unfold cfr cp at hF
 have := nrm_out (s := F) (l := tk (comb s l t m c) (G - F).toNat) (K := 2 * K + 2) oM (by rw [tk_len]; omega) (fun q hq => by
  obtain ⟨i, hi, rfl⟩ := Zfb hq
  exact hht i)
 refine this.congr (by rw [tk_len]; omega) (fun n hn => ?_) oM (Nat.le_refl _)
 by_cases h : n < F
 ·rw [Zg1 h, Zg1 (s := s) oM, Zg1 (s := t) oM, Rat.mul_zero, Rat.add_zero]
 ·rw [cf_tk oM oM, hcomb]
  simp only [show F + ((n - F).toNat : Int) = n by omega]
end Ab
namespace Ab
open Go Go.RowKit Go.Proofs Hp
set_option maxRecDepth 100000
theorem both_mk {s t : Int} {es fs : List AV} {l m : List Rat} {K : Nat} (h1 : IsL es K l) (h2 : IsL fs K m) (h3 : InR s es.length) (h4 : InR t fs.length) : Both s es t fs K l m := ⟨fun _ _ => ⟨h1, h2⟩, h1.get.1, h2.get.1, h3, h4⟩
theorem inR_enc {s : Int} {l : List Rat} (hv : Zap s l.length = true) : InR s (l.map encQ).length := by
 obtain ⟨a0, a1, a2⟩ := Za2.1 hv
 rw [List.length_map]
 exact ⟨oM, oM, oM⟩
end Ab
