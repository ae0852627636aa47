/- The peeling of a series by powers of j, in the document: the contracts of what it calls, step by step. -/
import Derived.Test.YtockbmflgmnbaaaGreatDoorLiE
set_option linter.all false
namespace Ab
open Go Go.RowKit Go.Proofs Hp
set_option maxRecDepth 100000
def rS (s : Int) (x : Nat → Option (Int × List Rat)) : Nat → Int
 | 0 => s
 | k + 1 => sF (x (k + 1))
def rL (es : List AV) (x : Nat → Option (Int × List Rat)) : Nat → List AV
 | 0 => es
 | k + 1 => (sL (x (k + 1))).map encQ
def rQ (l : List Rat) (x : Nat → Option (Int × List Rat)) : Nat → List Rat
 | 0 => l
 | k + 1 => sL (x (k + 1))
structure RP (α : Int → Rat) (m N : Nat) (p s : Int) (es : List AV) (l : List Rat) : Prop where
 hm : m ≤ 20
 hp : p + m ≤ 38
 hp0 : 1 ≤ p
 hN0 : p + m ≤ N
 hN1 : N ≤ 39
 hα : ∀ n, n < p → Ht (α n) 12
 h0 : ∀ n, n < -(m : Int) → α n = 0
 hL : IsL es 12 l
 h2 : -100 ≤ s
 h3 : s + l.length = p
 h6 : ∀ n, n < p → cf s l n = α n
section
variable {α : Int → Rat} {m N : Nat} {p s : Int} {es : List AV} {l : List Rat}
theorem RP.at (h : RP α m N p s es l) {k : Nat} (hk : k ≤ m + 1) : IsL (rL es (xk α m p) k) (rkH k) (rQ l (xk α m p) k) ∧ -100 ≤ rS s (xk α m p) k ∧ rS s (xk α m p) k + (rQ l (xk α m p) k).length = p ∧ (∀ n, n < p → cf (rS s (xk α m p) k) (rQ l (xk α m p) k) n = rk α m k n) := by
  have hpos := Zc8 k
  cases k with
  | zero => exact ⟨h.hL.mono hpos, h.h2, h.h3, h.h6⟩
  | succ k =>
    obtain ⟨f2, f3, f4, f5, f6, f7, f8, f9⟩ := Zge (xk_out h.hm (by have := h.hp; omega) h.hp0 h.hα h.h0 (k := k + 1) hk)
    exact ⟨Zau f7, f2, f3, f6⟩
theorem RP.len (h : RP α m N p s es l) {k : Nat} (hk : k ≤ m + 1) : ((rL es (xk α m p) k).length : Int) = p - rS s (xk α m p) k := by
 obtain ⟨f1, f2, f3, f4⟩ := h.at hk
 have := f1.get.1
 omega
theorem RP.inR (h : RP α m N p s es l) {k : Nat} (hk : k ≤ m + 1) : InR (rS s (xk α m p) k) (rL es (xk α m p) k).length := by
 obtain ⟨f1, f2, f3, f4⟩ := h.at hk
 have := h.len hk
 have := h.hp
 exact ⟨by omega, by omega, by omega⟩
theorem RP.c (h : RP α m N p s es l) {k : Nat} (hk : k ≤ m) : Ht (ck α m k) (rkH k) := ck_ht h.hm (by have := h.hp; omega) h.hp0 h.hα hk
theorem RP.coef (h : RP α m N p s es l) {k : Nat} (hk : k ≤ m) : PC Tryz.prog 27 [serA (rS s (xk α m p) k) (rL es (xk α m p) k), iV (0 - ((m : Int) - k))] (encQ (ck α m k)) := by
 obtain ⟨f1, f2, f3, f4⟩ := h.at (k := k) (by omega)
 have hl := h.len (k := k) (by omega)
 have hm := h.hm
 have hp := h.hp
 have hp0 := h.hp0
 have c := coef_p (s := rS s (xk α m p) k) (n := 0 - ((m : Int) - k)) f1 (by have := rkH_20 (k := k) (by omega); omega) f2 (by omega) (by omega) (by omega) (by omega)
 rw [f4 _ (by omega), show 0 - ((m : Int) - k) = -((m : Int) - k) by omega] at c
 rw [show 0 - ((m : Int) - k) = -((m : Int) - k) by omega]
 exact c
def tmk (α : Int → Rat) (m N k : Nat) : Option (Int × List Rat) := sclR (ck α m k) (-((m - k : Nat) : Int)) (tk (pq jV (m - k)) N)
theorem RP.tm (h : RP α m N p s es l) {k : Nat} (hk : k ≤ m) : ∃ f, Out (tmk α m N k) ((N : Int) - (m - k : Nat)) f (-((m - k : Nat) : Int)) (rkH k + 32) := by
 have hpos := Zc8 k
 have hm := h.hm
 have hN1 := h.hN1
 have o := scl_out (c := ck α m k) (s := -((m - k : Nat) : Int)) (l := tk (pq jV (m - k)) N) (k := rkH k) (K := 32) (Zci (by omega) (by omega)) (h.c hk) (by omega) (by decide) (Zee fun i hi => jp_ht (by omega) (by omega))
 exact ⟨_, o.congr (by rw [tk_len]; omega) (fun _ _ => rfl) (Int.le_refl _) (Nat.le_refl _)⟩
theorem RP.scl (h : RP α m N p s es l) {k : Nat} (hk : k ≤ m) : PC Tryz.prog 28 [encQ (ck α m k), serA (-((m - k : Nat) : Int)) ((tk (pq jV (m - k)) N).map encQ)] (.tup [serA (sF (tmk α m N k)) ((sL (tmk α m N k)).map encQ), iV 0]) := by
 have hpos := Zc8 k
 have hm := h.hm
 have hN1 := h.hN1
 obtain ⟨f, o⟩ := h.tm hk
 have c := rscale_p (a := encQ (ck α m k)) (c := ck α m k) (k := rkH k) (s := -((m - k : Nat) : Int)) (es := (tk (pq jV (m - k)) N).map encQ) (l := tk (pq jV (m - k)) N) (K := 32) (Zad (h.c hk)) (fun _ => Zau (Zee fun i hi => jp_ht (by omega) (by omega))) (by simp) (Zeb (by omega) (by omega) (by omega)) (by omega) (by decide) (by have := rkH_20 (k := k) (by omega); omega)
 have e := Zfm o
 unfold tmk at e ⊢
 rw [e] at c
 exact c
theorem RP.sub (h : RP α m N p s es l) {k : Nat} (hk : k ≤ m) : PC Tryz.prog 29 [serA (rS s (xk α m p) k) (rL es (xk α m p) k), serA (sF (tmk α m N k)) ((sL (tmk α m N k)).map encQ)] (.tup [serA (rS s (xk α m p) (k + 1)) (rL es (xk α m p) (k + 1)), iV 0]) := by
 have hpos := Zc8 k
 have hm := h.hm
 have hp := h.hp
 obtain ⟨f1, f2, f3, f4⟩ := h.at (k := k) (by omega)
 obtain ⟨f, o⟩ := h.tm hk
 obtain ⟨g2, g3, g4, g5, g6, g7, g8, g9⟩ := Zge o
 have e2 : sclR (ck α m k) (-((m : Int) - k)) (tk (pq jV (m - k)) N) = some (sF (tmk α m N k), sL (tmk α m N k)) := by
  rw [← g9]
  unfold tmk
  rw [show ((m - k : Nat) : Int) = (m : Int) - k by omega]
 obtain ⟨k1, k2, k3, k4, k5⟩ := xk_go hm hp h.hp0 h.h0 hk h.hN0 h.hN1 f2 f3 f4 (Zb2 f1 (by omega)) (h.c hk) e2
 have c := rsub33_p (s := rS s (xk α m p) k) (es := rL es (xk α m p) k) (t := sF (tmk α m N k)) (fs := (sL (tmk α m N k)).map encQ) (l := rQ l (xk α m p) k) (m := sL (tmk α m N k)) (K := rkH k + 32)
  ⟨fun _ _ => ⟨f1.mono (by omega), Zau k2⟩, f1.get.1, by simp, h.inR (by omega), (Zc0 o).2⟩ ⟨by omega, by have := rkH_20 (k := k) (by omega); omega⟩
 rw [k1, Zfm (xk_out hm (by omega) h.hp0 h.hα h.h0 (k := k + 1) (by omega))] at c
 exact c
end
def jpA (n N : Nat) : List AV := (List.range (n + 1)).map fun (i : Nat) => serA (-(i : Int)) ((tk (pq jV i) N).map encQ)
theorem jpA_at {n N i : Nat} (h : i ≤ n) : (jpA n N)[i]? = some (serA (-(i : Int)) ((tk (pq jV i) N).map encQ)) := by
 unfold jpA
 rw [List.getElem?_map, List.getElem?_range (by omega)]
 rfl
end Ab
