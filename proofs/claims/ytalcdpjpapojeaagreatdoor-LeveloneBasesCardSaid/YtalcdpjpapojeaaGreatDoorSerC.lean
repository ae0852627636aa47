/- Small functions on fractions and series, in abstract values. -/
import Derived.Test.YtalcdpjpapojeaaGreatDoorEnc
set_option linter.all false
namespace Ab
open Go Go.RowKit Go.Proofs Hp
set_option maxRecDepth 100000
def IsL : List AV → Nat → List Rat → Prop
 | [], _, [] => True
 | e :: es, k, q :: l => IsV e k q ∧ IsL es k l
 | _, _, _ => False
theorem IsL.get {k : Nat} : ∀ {es : List AV} {l : List Rat}, IsL es k l → es.length = l.length ∧ ∀ (i : Nat) q, l[i]? = some q → ∃ e, es[i]? = some e ∧ IsV e k q
  | [], [], _ => ⟨rfl, fun i q h => by simp at h⟩
  | e :: es, q :: l, h => by
    obtain ⟨h1, h2⟩ := IsL.get h.2
    refine ⟨by simp [h1], fun i q' hi => ?_⟩
    rcases i with _ | i
    · simp at hi; subst hi; exact ⟨e, rfl, h.1⟩
    · simpa using h2 i q' (by simpa using hi)
  | [], _ :: _, h => h.elim
  | _ :: _, [], h => h.elim
theorem IsL.mk {k : Nat} : ∀ {es : List AV} {l : List Rat}, es.length = l.length → (∀ (i : Nat) e q, es[i]? = some e → l[i]? = some q → IsV e k q) → IsL es k l
 | [], [], _, _ => trivial
 | e :: es, q :: l, h, hi => ⟨hi 0 e q rfl rfl, IsL.mk (by simpa using h) fun i e' q' h1 h2 => hi (i + 1) e' q' (by simpa using h1) (by simpa using h2)⟩
theorem Zbb {k : Nat} : ∀ {l : List Rat}, (∀ q, q ∈ l → Ht q k) → IsL (l.map encQ) k l
 | [], _ => trivial
 | q :: l, h => ⟨Zad (h q (by simp)), Zbb fun q' hq => h q' (by simp [hq])⟩
theorem IsL.mono {k k' : Nat} (hk : k ≤ k') : ∀ {es : List AV} {l : List Rat}, IsL es k l → IsL es k' l
 | [], [], _ => trivial
 | e :: es, q :: l, h => ⟨isV_mono h.1 hk, IsL.mono hk h.2⟩
def serA (s : Int) (es : List AV) : AV := .agg [.p (.int .i64 s), .sl es]
theorem isign_p {a : AV} {k : Nat} {z : Int} (h : IsI a k z) (hk : k ≤ 17592186044416) : PC Tryz.prog 125 [a] (.p (.int .i64 (sgn z))) := by
 refine ⟨Zdg Tryz.func125 rfl rfl, fun w M hM vs hvs => ?_⟩
 obtain ⟨v, rfl, hv⟩ := reps1 hvs
 refine (isign_c (Zei h hv) hk).mono ?_
 rintro e w' ⟨v, rfl, hb, hr⟩
 exact ⟨v, rfl, hb, by rw [hr]; exact .p _ rfl⟩
theorem rsign_p {a : AV} {k : Nat} {q : Rat} (h : IsV a k q) (hk : k ≤ 17592186044416) : ∃ sg : Int, -1 ≤ sg ∧ sg ≤ 1 ∧ (sg = 0 ↔ q = 0) ∧ PC Tryz.prog 90 [a] (.p (.int .i64 sg)) := by
 obtain ⟨cs, ds, p, d, rfl, ⟨g, l, rfl, h1, h2, h3⟩, ⟨g', l', rfl, h4, h5, h6⟩, h7⟩ := h
 have hp := Zew p d
 rw [← h7] at hp
 refine ⟨sgn p * sgn d, hp.1, hp.2.1, hp.2.2, ?_⟩
 have hI1 : IsI (.agg [.p (.bool g), .sl (l.map u32)]) k p := ⟨_, rfl, g, l, rfl, h1, h2, h3⟩
 have hI2 : IsI (.agg [.p (.bool g'), .sl (l'.map u32)]) k d := ⟨_, rfl, g', l', rfl, h4, h5, h6⟩
 have hr : -1 ≤ sgn p * sgn d ∧ sgn p * sgn d ≤ 1 := ⟨hp.1, hp.2.1⟩
 refine pb1 Tryz.func90 Zac.tmp ?_
 refine goA ?_
 refine clG (isign_p hI1 hk) ?_
 refine clA (isign_p hI2 hk) ?_
 refine evG ggA (Zb3 (Zaa rfl) rfl rfl (w64 oM oM)) ?_
 refine goA ?_
 exact rfl
def Zap (s : Int) (n : Nat) : Bool := decide (-100 ≤ s) && decide (s ≤ 1000) && decide ((n : Int) ≤ 1000 - s)
theorem Zdt {s : Int} {es : List AV} (hs0 : -9223372036854775808 ≤ s) (hs1 : s ≤ 9223372036854775807) (hn : es.length ≤ 9223372036854775807) : PC Tryz.prog 53 [serA s es] (.p (.bool (Zap s es.length))) := by
 by_cases h1 : -100 ≤ s
 ·have hb1 : decide (s ≥ -100) = true := by simp [h1]
  by_cases h2 : s ≤ 1000
  ·have hb2 : decide (s ≤ 1000) = true := by simp [h2]
   have e : Zap s es.length = decide ((es.length : Int) ≤ 1000 - s) := by unfold Zap; simp [h1, h2]
   rw [e]
   refine pb1 Tryz.func53 Zac.tmp ?_
   refine goA ?_
   exact rfl
  ·have hb2 : decide (s ≤ 1000) = false := by simp; omega
   have e : Zap s es.length = decide (s ≤ 1000) := by unfold Zap; simp [h1, h2]
   rw [e]
   refine pb1 Tryz.func53 Zac.tmp ?_
   refine goA ?_
   rw [hb2]; exact rfl
 ·have hb1 : decide (s ≥ -100) = false := by simp; omega
  have e : Zap s es.length = false := by unfold Zap; simp [h1]
  rw [e]
  refine pb1 Tryz.func53 Zac.tmp ?_
  refine goA ?_
  exact rfl
theorem prec_p {s : Int} {es : List AV} (h0 : -100 ≤ s) (h1 : s ≤ 1000) (h2 : (es.length : Int) ≤ 1000 - s) : PC Tryz.prog 54 [serA s es] (.p (.int .i64 (s + es.length))) := by
 refine pb1 Tryz.func54 Zac.tmp ?_
 refine goA ?_
 exact rfl
def lead : List Rat → Nat
 | [] => 0
 | q :: r => if q = 0 then lead r + 1 else 0
theorem Zc2 : ∀ l, lead l ≤ l.length
 | [] => Nat.le_refl _
 | q :: r => by have := Zc2 r; unfold lead; split <;> simp <;> omega
theorem Zfn : ∀ (l : List Rat) (i : Nat), i < lead l → l[i]? = some 0
  | [], i, h => by simp [lead] at h
  | q :: r, i, h => by
    unfold lead at h
    split at h
    · rename_i hq
      rcases i with _ | i
      · simp [hq]
      · simpa using Zfn r i oM
    · omega
theorem Zga : ∀ (l : List Rat) (q : Rat), l[lead l]? = some q → q ≠ 0
  | [], q, h => by simp at h
  | p :: r, q, h => by
    unfold lead at h
    split at h
    · exact Zga r q (by simpa using h)
    · rename_i hp
      simp at h; subst h; exact hp
theorem lead_eq {l : List Rat} {k : Nat} (h0 : ∀ i, i < k → l[i]? = some 0) (h1 : ∀ q, l[k]? = some q → q ≠ 0) (hk : k ≤ l.length) : lead l = k := by
 have a := Zc2 l
 rcases Nat.lt_trichotomy (lead l) k with h | h | h
 ·exact absurd rfl (Zga l 0 (h0 _ h))
 ·exact h
 ·exact absurd rfl (h1 0 (Zfn l k h))
def Zdq (s : Int) : Int := if s > 1000 then 1000 else s
def ncut (s : Int) (l : List Rat) : List Rat := if s > 1000 then [] else l.take (1000 - s).toNat
def nrm (s : Int) (l : List Rat) : Option (Int × List Rat) := if Zdq s + lead (ncut s l) < -100 then none else some (Zdq s + lead (ncut s l), (ncut s l).drop (lead (ncut s l)))
def serE : Option (Int × List Rat) → AV
 | none => .tup [serA 0 [], .p (.int .i64 2)]
 | some (s, l) => .tup [serA s (l.map encQ), .p (.int .i64 0)]
theorem IsL.take {k : Nat} (n : Nat) : ∀ {es : List AV} {l : List Rat}, IsL es k l → IsL (es.take n) k (l.take n) := fun {es l} h => by
 obtain ⟨h1, h2⟩ := h.get
 refine IsL.mk (by simp [h1]) fun i e q he hq => ?_
 have hi : i < n := by have := (List.getElem?_eq_some_iff.1 hq).1; simp at this; omega
 rw [List.getElem?_take_of_lt hi] at he hq
 obtain ⟨e', h3, h4⟩ := h2 i q hq
 rw [he] at h3; injection h3 with h3; subst h3; exact h4
theorem IsL.drop {k : Nat} (n : Nat) : ∀ {es : List AV} {l : List Rat}, IsL es k l → IsL (es.drop n) k (l.drop n) := fun {es l} h => by
 obtain ⟨h1, h2⟩ := h.get
 refine IsL.mk (by simp [h1]) fun i e q he hq => ?_
 rw [List.getElem?_drop] at he hq
 obtain ⟨e', h3, h4⟩ := h2 _ q hq
 rw [he] at h3; injection h3 with h3; subst h3; exact h4
theorem Zfo {es : List AV} {k : Nat} {l : List Rat} (h : IsL es k l) : ∀ e, e ∈ es → e.cells.length = 4 := fun e he => by
 obtain ⟨i, hi⟩ := List.getElem?_of_mem he
 obtain ⟨h1, h2⟩ := h.get
 have hil : i < l.length := by rw [← h1]; exact (List.getElem?_eq_some_iff.1 hi).1
 obtain ⟨e', h3, h4⟩ := h2 i l[i] (by simp [hil])
 rw [hi] at h3; injection h3 with h3; subst h3
 obtain ⟨g, d, g', d', rfl⟩ := Zax h4
 rfl
theorem IsL.at {es : List AV} {k : Nat} {l : List Rat} (h : IsL es k l) {i : Nat} (hi : i < es.length) : ∃ g ds g' ds' q, es[i]? = some (.agg [.p (.bool g), .sl ds, .p (.bool g'), .sl ds']) ∧ l[i]? = some q ∧ IsV (.agg [.p (.bool g), .sl ds, .p (.bool g'), .sl ds']) k q := by
 obtain ⟨h1, h2⟩ := h.get
 have hil : i < l.length := oM
 obtain ⟨e, h3, h4⟩ := h2 i l[i] (by simp [hil])
 obtain ⟨g, d, g', d', rfl⟩ := Zax h4
 exact ⟨g, d, g', d', _, h3, by simp [hil], h4⟩
theorem Ze3 (q : Rat) : ∀ c, c ∈ (encQ q).cells → c.nu = true := by
 intro c hc
 simp [encQ, AV.cells, ci] at hc
 rcases hc with rfl | rfl | rfl | rfl <;> rfl
theorem encs_cells (l : List Rat) : ∀ e, e ∈ l.map encQ → e.cells.length = 4 := by
 intro e he
 simp at he
 obtain ⟨q, -, rfl⟩ := he
 rfl
theorem ss_snoc {dm : Bool} {P : Program} {ops : Array Oper} {s : AS} {dst : Option Tmp} {ty : TypeId} {pos : String} {after : Array Edge} {g : Option (Nat × Bool)} {t e : TypeId} {bytes : Nat} {z : List Value} {y x : Operand} {id m : Nat} {l : List Rat} {q : Rat} (hin : InB s dst) (ht : MakeT P t e 4 bytes z) (hy : s.ev y = some (.own id m)) (hm : s.m id = some (.lst 4 e (l.map encQ))) (hlen : l.length = m) (hx : s.ev x = some (.v (.sl [encQ q])))
  (h63 : m + 1 ≤ 1000000) (hby : bytes ≤ 64) (hz : z.all nuV = true) :
  Za9 dm P ops ⟨dst, .call ⟨.builtin .append, #[y, x], #[t, t]⟩, ty, pos, after, g⟩ s (.own id (m + 1)) (.set id (.lst 4 e ((l ++ [q]).map encQ))) := by
 have := Zcj (dm := dm) (P := P) (ops := ops) (dst := dst) (ty := ty) (pos := pos) (after := after) (g := g) hin ht hy hm (by simp [hlen]) hx (fun a ha => by simp at ha; subst ha; rfl) oM (by simp [maxLen]; omega) (by simp; have := Nat.mul_le_mul_left (m + 1) hby; omega) (by simp [hz]) (fun _ a ha => by simp at ha; subst ha; exact Ze3 q)
 rw [List.map_append]
 exact this
def sF : Option (Int × List Rat) → Int
 | none => 0
 | some (s, _) => s
def sL : Option (Int × List Rat) → List Rat
 | none => []
 | some (_, l) => l
def sE : Option (Int × List Rat) → Int
 | none => 2
 | some _ => 0
theorem Zbm (x : Option (Int × List Rat)) : serE x = .tup [serA (sF x) ((sL x).map encQ), .p (.int .i64 (sE x))] := by
 rcases x with _ | ⟨s, l⟩ <;> rfl
theorem take_min {α : Type} (l : List α) (c : Int) (h : 0 ≤ c) : l.take (min (l.length : Int) c).toNat = l.take c.toNat := by
 by_cases h1 : (l.length : Int) ≤ c
 ·rw [show (min (l.length : Int) c).toNat = l.length by omega, List.take_of_length_le (Nat.le_refl _), List.take_of_length_le oM]
 ·rw [show (min (l.length : Int) c).toNat = c.toNat by omega]
def rz : AV := .agg [.p (.bool false), .sl [], .p (.bool false), .sl []]
theorem isV_rz (k : Nat) : IsV rz k 0 := ⟨_, _, 0, 0, rfl, ⟨false, [], rfl, fun d h => by simp at h, Nat.zero_le _, rfl⟩, ⟨false, [], rfl, fun d h => by simp at h, Nat.zero_le _, rfl⟩, by simp⟩
abbrev var0 : Blk := .var [.v (.p (.int .i64 0)), .v (.p nilV)]
theorem take_succ {α : Type} {l : List α} {j : Nat} {q : α} (h : l[j]? = some q) : l.take (j + 1) = l.take j ++ [q] := by
 have hj := (List.getElem?_eq_some_iff.1 h).1
 rw [List.take_succ_eq_append_getElem hj]
 congr
 rw [List.getElem?_eq_getElem hj] at h
 injection h
set_option maxHeartbeats 2000000 in
theorem Ze7 {s : Int} {es : List AV} {l : List Rat} {K : Nat} (h : IsL es K l) (hK : K ≤ 2199023255552) (hs0 : -4611686018427387904 ≤ s) (hs1 : s ≤ 4611686018427387904) (hn : l.length ≤ 1000000) : PC Tryz.prog 82 [.p (.int .i64 s), .sl es] (serE (nrm s l)) := by
 have hlen := h.get.1
 rw [Zbm]
 refine pb2 Tryz.func82 (Zac.agg Zaj) Zac.tmp ?_
 refine r1A ?_
 refine T.seqI (fun s1 => ∃ S es', s1 = mkS [(0, .v (.p (.int .i64 S))), (1, .v (.sl es')), (4, .ptr 4 0)] [(4, var0)] 61 true ∧ S = Zdq s ∧ es'.length ≤ 1000000 ∧ IsL (es'.take (1000 - S).toNat) K (ncut s l) ∧ (∀ e, e ∈ es' → e.cells.length = 4)) ?_ ?_
 ·refine goA ?_
  refine T.cond rfl (fun hc => ?_) (fun hc => ?_)
  ·have hc : s > 1000 := by simpa using hc
   refine goA ?_
   exact Zae (s' := mkS [(0, .v (.p (.int .i64 1000))), (1, .v (.sl [])), (4, .ptr 4 0)] [(4, var0)] 61 true) entA ⟨1000, [], rfl, by unfold Zdq; rw [if_pos hc], by simp, by unfold ncut; rw [if_pos hc]; exact trivial, fun e he => by simp at he⟩
  ·have hc : ¬ s > 1000 := by simpa using hc
   refine goA ?_
   exact Zae (s' := mkS [(0, .v (.p (.int .i64 s))), (1, .v (.sl es)), (4, .ptr 4 0)] [(4, var0)] 61 true) entA ⟨s, es, rfl, by unfold Zdq; rw [if_neg hc], oM, by unfold ncut; rw [if_neg hc]; exact h.take _, Zfo h⟩
 rintro _ ⟨S, es', rfl, hS, hn', hL, hcells⟩
 have hSr : S ≤ 1000 ∧ -4611686018427387904 ≤ S := by rw [hS]; unfold Zdq; split <;> omega
 refine T.seq ?_
 refine regA ?_
 refine runA ?_
 refine evG ggA (Zek (Zaa rfl) (Zag rfl) rfl hcells rfl oM oM) ?_
 rw [take_min _ _ oM]
 have hnrm : nrm s l = if S + lead (ncut s l) < -100 then none else some (S + lead (ncut s l), (ncut s l).drop (lead (ncut s l))) := by unfold nrm; rw [← hS]
 generalize ncut s l = L at *
 generalize hes2 : es'.take (1000 - S).toNat = es2 at *
 have hlen2 := hL.get.1
 have hn2 : L.length ≤ 1000000 := by rw [← hlen2, ← hes2, List.length_take]; omega
 clear hes2
 refine runA ?_
 refine Zao ?_
 refine Za1 ?_
 refine T.weak (s' := mkS [(0, .v (.p (.int .i64 S))), (1, .v (.sl es2)), (4, .ptr 4 0)] [(4, var0)] 61 true) entA ?_
 refine r1A ?_
 refine T.seqE (mkS [(0, .v (.p (.int .i64 S))), (1, .v (.sl es2)), (4, .ptr 4 0), (6, .v (.p (.int .i64 (lead L))))] [(4, var0)] 61 true) ?_ ?_
 ·refine T.block ?_
  refine T.loop (fun n s1 => ∃ k : Nat, n = L.length - k ∧ k ≤ L.length ∧ (∀ i, i < k → L[i]? = some 0) ∧ s1 = mkS [(0, .v (.p (.int .i64 S))), (1, .v (.sl es2)), (4, .ptr 4 0), (6, .v (.p (.int .i64 k)))] [(4, var0)] 61 true) L.length
   (s' := mkS [(0, .v (.p (.int .i64 S))), (1, .v (.sl es2)), (4, .ptr 4 0), (6, .v (.p (.int .i64 (0 : Nat))))] [(4, var0)] 61 true) entA ⟨0, rfl, Nat.zero_le _, fun i hi => absurd hi (Nat.not_lt_zero _), rfl⟩ ?_
  rintro n _ ⟨k, rfl, hk, hz, rfl⟩
  by_cases hlt : k < L.length
  ·have hb : decide ((k : Int) < (es2.length : Int)) = true := by simp; omega
   obtain ⟨g, ds, g', ds', q, he, hq, hv⟩ := hL.at (i := k) oM
   obtain ⟨sg, h1, h2, h3, hsg⟩ := rsign_p hv oM
   refine goA ?_
   refine ixG he ?_
   refine clG hsg ?_
   refine T.cond rfl (fun hc => ?_) (fun hc => ?_)
   ·have hq0 : q = 0 := h3.1 (by simpa using hc)
    refine goA ?_
    refine Zab (k := L.length - (k + 1)) (s' := mkS [(0, .v (.p (.int .i64 S))), (1, .v (.sl es2)), (4, .ptr 4 0), (6, .v (.p (.int .i64 ((k : Int) + 1))))] [(4, var0)] 61 true) oM entA ⟨k + 1, rfl, hlt, fun i hi => ?_, by simp⟩
    by_cases hik : i = k
    ·subst hik; rw [hq, hq0]
    ·exact hz i oM
   ·have hq0 : q ≠ 0 := fun e => by have := h3.2 e; simp [this] at hc
    have hlead : lead L = k := lead_eq hz (fun q' hq' => by rw [hq] at hq'; injection hq' with e; rw [← e]; exact hq0) hk
    refine goA ?_
    exact Zae (s' := mkS [(0, .v (.p (.int .i64 S))), (1, .v (.sl es2)), (4, .ptr 4 0), (6, .v (.p (.int .i64 k)))] [(4, var0)] 61 true) entA (by rw [hlead])
  ·obtain rfl : k = L.length := oM
   have hb : decide ((L.length : Int) < (es2.length : Int)) = false := by simp; omega
   have hlead : lead L = L.length := lead_eq hz (fun q' hq' => by simp at hq') hk
   refine goA ?_
   exact Zae (s' := mkS [(0, .v (.p (.int .i64 S))), (1, .v (.sl es2)), (4, .ptr 4 0), (6, .v (.p (.int .i64 (L.length : Nat))))] [(4, var0)] 61 true) entA (by rw [hlead])
 have hk := Zc2 L
 have hlt1 : (lead L : Int) ≤ (es2.length : Int) := oM
 refine T.seq ?_
 refine regA ?_
 refine runA ?_
 refine Zao ?_
 refine Za1 ?_
 have hserS : nrm s l = if S + lead L < -100 then none else some (S + lead L, L.drop (lead L)) := hnrm
 generalize nrm s l = R at *
 generalize lead L = k at *
 refine T.weak (s' := mkS [(0, .v (.p (.int .i64 (S + k)))), (1, .v (.sl es2)), (4, .ptr 4 0), (6, .v (.p (.int .i64 k)))] [(4, var0)] 61 true) entA ?_
 refine T.seq ?_
 refine T.seq ?_
 refine regA ?_
 refine runA ?_
 refine Zao ?_
 refine Za1 ?_
 refine T.cond rfl (fun hc => ?_) (fun hc => ?_)
 ·have hc : S + (k : Int) < -100 := by simpa using hc
  rw [if_pos hc] at hserS
  subst hserS
  refine goA ?_
  exact rfl
 have hc : ¬ S + (k : Int) < -100 := by simpa using hc
 rw [if_neg hc] at hserS
 subst hserS
 refine T.skip ?_
 refine Za1 ?_
 refine T.weak (s' := mkS [(0, .v (.p (.int .i64 (S + k)))), (1, .v (.sl es2)), (4, .ptr 4 0), (6, .v (.p (.int .i64 k)))] [(4, var0)] 61 true) entA ?_
 refine T.seq ?_
 refine regA ?_
 refine runA ?_
 refine evG ggA (Zdv 43 (e0 := rz) (Zaa rfl) (Zaf rfl) rfl rfl rfl oM oM oM oM rfl rfl rfl) ?_
 refine runA ?_
 refine Zao ?_
 refine Za1 ?_
 have hL2 := hL.drop k
 generalize hLd : L.drop k = L2 at *
 have hd2 : L2.length + k = L.length := by rw [← hLd, List.length_drop]; omega
 have hl2 : (es2.drop k).length = L2.length := by rw [List.length_drop]; omega
 refine T.seqE (mkS [(0, .v (.p (.int .i64 (S + k)))), (7, .own 43 L2.length), (4, .ptr 4 0)] [(4, var0), (43, .lst 4 39 (L2.map encQ))] 61 true) ?_ ?_
 ·refine T.seq ?_
  refine regA ?_
  refine runA ?_
  refine evG ggA (ss_slice_l (Zaa rfl) (Zag rfl) rfl (Zfo hL) rfl oM oM) ?_
  refine runA ?_
  refine Zao ?_
  refine Za1 ?_
  rw [Int.toNat_natCast]
  generalize es2.drop k = es3 at *
  clear hLd
  refine T.block ?_
  refine T.loop (fun n s1 => ∃ j : Nat, n = L2.length - j ∧ j ≤ L2.length ∧ s1 = mkS [(0, .v (.p (.int .i64 (S + k)))), (46, .v (.sl es3)), (47, .v (.p (.int .i64 es3.length))), (48, .v (.p (.int .i64 j))), (7, .own 43 j), (4, .ptr 4 0)] [(4, var0), (43, .lst 4 39 ((L2.take j).map encQ))] 61 true) L2.length
   (s' := mkS [(0, .v (.p (.int .i64 (S + k)))), (46, .v (.sl es3)), (47, .v (.p (.int .i64 es3.length))), (48, .v (.p (.int .i64 (0 : Nat)))), (7, .own 43 0), (4, .ptr 4 0)] [(4, var0), (43, .lst 4 39 ((L2.take 0).map encQ))] 61 true) entA ⟨0, rfl, Nat.zero_le _, rfl⟩ ?_
  rintro n _ ⟨j, rfl, hj, rfl⟩
  by_cases hlt : j < L2.length
  ·have hb : decide ((j : Int) < (es3.length : Int)) = true := by simp; omega
   obtain ⟨g, ds, g', ds', q, he, hq, hv⟩ := hL2.at (i := j) oM
   refine goA ?_
   refine ixG he ?_
   refine clA (Zfi hv hK) ?_
   (refine evG ggA (Zaw (Zaa rfl) (Zaf rfl) rfl rfl rfl rfl (Zci rfl rfl) (Nat.le_of_ble_eq_true rfl)) ?_; refine evG ggA (ss_snoc (Zaa rfl) (Zaf rfl) rfl rfl (by first | rfl | assumption | (simp; done) | (simp; omega)) rfl oM (Nat.le_of_ble_eq_true rfl) rfl) ?_)
   refine goA ?_
   refine Zab (k := L2.length - (j + 1)) (s' := mkS [(0, .v (.p (.int .i64 (S + k)))), (46, .v (.sl es3)), (47, .v (.p (.int .i64 es3.length))), (48, .v (.p (.int .i64 ((j : Int) + 1)))), (7, .own 43 (j + 1)), (4, .ptr 4 0)] [(4, var0), (43, .lst 4 39 ((L2.take j ++ [q]).map encQ))] 61 true) oM entA ⟨j + 1, rfl, hlt, ?_⟩
   rw [take_succ hq]; rfl
  ·obtain rfl : j = L2.length := oM
   have hb : decide ((L2.length : Int) < (es3.length : Int)) = false := by simp; omega
   refine goA ?_
   refine Zae (s' := mkS [(0, .v (.p (.int .i64 (S + k)))), (7, .own 43 L2.length), (4, .ptr 4 0)] [(4, var0), (43, .lst 4 39 ((L2.take L2.length).map encQ))] 61 true) entA (by rw [List.take_length])
 refine T.weak (s' := mkS [(0, .v (.p (.int .i64 (S + k)))), (7, .v (.sl (L2.map encQ))), (4, .ptr 4 0)] [(4, var0)] 61 true) entA ?_
 refine goA ?_
 exact rfl
def cf (s : Int) (l : List Rat) (m : Int) : Rat := if m < s then 0 else l.getD (m - s).toNat 0
def atV (s : Int) (es : List AV) (m : Int) : AV := if m < s then encQ 0 else es.getD (m - s).toNat (encQ 0)
theorem ht0 {k : Nat} (hk : 1 ≤ k) : Ht 0 k := by
 have h1 : pw 1 ≤ pw k := Zed 1 k hk
 have e : pw 1 = 4294967296 := dC
 exact ⟨by have := Zch k; simpa using this, by show (1 : Int) < _; omega⟩
theorem Zcq {c : Int} (h : c.natAbs < 4294967296) : Ht (c : Rat) 1 := by
 have e : pw 1 = 4294967296 := dC
 refine ⟨?_, ?_⟩
 ·rw [Rat.num_intCast, e]; omega
 ·rw [Rat.den_intCast, e]; decide
theorem isV_at {s : Int} {es : List AV} {l : List Rat} {K : Nat} (h : IsL es K l) (hK : 1 ≤ K) (m : Int) : IsV (atV s es m) K (cf s l m) := by
 unfold atV cf
 split
 ·exact Zad (ht0 hK)
 ·obtain ⟨h1, h2⟩ := h.get
  by_cases hi : (m - s).toNat < l.length
  ·obtain ⟨e, h3, h4⟩ := h2 _ l[(m - s).toNat] (List.getElem?_eq_getElem hi)
   rw [List.getD_eq_getElem?_getD, List.getD_eq_getElem?_getD, h3, List.getElem?_eq_getElem hi]
   exact h4
  ·rw [List.getD_eq_getElem?_getD, List.getD_eq_getElem?_getD, List.getElem?_eq_none oM, List.getElem?_eq_none oM]
   exact Zad (ht0 hK)
theorem isV_lit {a : AV} {k : Nat} {q : Rat} (h : IsV a k q) : ∃ l, a = .agg l ∧ l.length = 4 ∧ Zcx (l.map .v) = some l := by
 obtain ⟨g, d, g', d', rfl⟩ := Zax h
 exact ⟨_, rfl, rfl, rfl⟩
theorem at_p {s : Int} {es : List AV} {l : List Rat} {K : Nat} (h : IsL es K l) (h0 : -100 ≤ s) (h1 : s ≤ 1000) (h2 : (es.length : Int) ≤ 1000 - s) {m : Int} (hm0 : -9223372036854775808 ≤ m) (hm : m < s + es.length) : PC Tryz.prog 56 [serA s es, .p (.int .i64 m)] (atV s es m) := by
 by_cases hc : m < s
 ·have hb : decide (m < s) = true := by simp [hc]
  have e : atV s es m = encQ 0 := by unfold atV; rw [if_pos hc]
  rw [e]
  have h0 := Zdh 0 dC dC
  rw [show ((0 : Int) : Rat) = 0 from rfl] at h0
  refine pb1 Tryz.func56 (Zac.agg (l := ci (0 : Rat).num ++ ci (0 : Rat).den) Zbg) ?_
  refine goA ?_
  refine clG h0 ?_
  exact rfl
 ·have hb : decide (m < s) = false := by simp; omega
  obtain ⟨g, ds, g', ds', q, he, hq, hv⟩ := h.at (i := (m - s).toNat) oM
  have e : atV s es m = .agg [.p (.bool g), .sl ds, .p (.bool g'), .sl ds'] := by unfold atV; rw [if_neg hc, List.getD_eq_getElem?_getD, he]; rfl
  rw [e]
  refine pb1 Tryz.func56 (Zac.agg Zbg) ?_
  refine goA ?_
  refine ixG he ?_
  exact rfl
theorem Zeo {s : Int} {l : List Rat} (h0 : -100 ≤ s) (h1 : s ≤ 1000) (h2 : (l.length : Int) ≤ 1000 - s) : nrm s l = some (s + lead l, l.drop (lead l)) := by
 have e1 : Zdq s = s := by unfold Zdq; rw [if_neg oM]
 have e2 : ncut s l = l := by unfold ncut; rw [if_neg oM, List.take_of_length_le oM]
 unfold nrm
 rw [e1, e2, if_neg oM]
theorem Za2 {s : Int} {n : Nat} : Zap s n = true ↔ -100 ≤ s ∧ s ≤ 1000 ∧ (n : Int) ≤ 1000 - s := by unfold Zap; simp [and_assoc]
theorem tidy_p {s : Int} {es : List AV} {l : List Rat} {K : Nat} (h : IsL es K l) (hK : K ≤ 2199023255552) (h0 : -100 ≤ s) (h1 : s ≤ 1000) (h2 : (es.length : Int) ≤ 1000 - s) : PC Tryz.prog 91 [serA s es] (serA (s + lead l) ((l.drop (lead l)).map encQ)) := by
 have hlen := h.get.1
 have hb := Ze7 h hK (s := s) oM oM oM
 rw [Zeo h0 h1 oM] at hb
 refine pb1 Tryz.func91 (Zac.agg Zaj) ?_
 refine goA ?_
 refine clG hb ?_
 exact rfl
def tk (f : Nat → Rat) (j : Nat) : List Rat := (List.range j).map f
theorem Zdu (f : Nat → Rat) (j : Nat) : tk f (j + 1) = tk f j ++ [f j] := by simp [tk, List.range_succ]
@[simp] theorem tk_len (f : Nat → Rat) (j : Nat) : (tk f j).length = j := by simp [tk]
theorem Zfb {f : Nat → Rat} {j : Nat} {q : Rat} (h : q ∈ tk f j) : ∃ i, i < j ∧ q = f i := by
 simp [tk] at h
 obtain ⟨i, h1, h2⟩ := h
 exact ⟨i, h1, h2.symm⟩
def cp (s : Int) (n : Nat) (t : Int) (m : Nat) : Int := min (s + n) (t + m)
def cfr (s : Int) (n : Nat) (t : Int) (m : Nat) : Int := min (min s t) (cp s n t m)
def comb (s : Int) (l : List Rat) (t : Int) (m : List Rat) (c : Int) (i : Nat) : Rat := cf s l (cfr s l.length t m.length + i) + c * cf t m (cfr s l.length t m.length + i)
def Zgf (s : Int) (l : List Rat) (t : Int) (m : List Rat) (c : Int) : Option (Int × List Rat) :=
 if Zap s l.length && Zap t m.length then nrm (cfr s l.length t m.length) (tk (comb s l t m c) (cp s l.length t m.length - cfr s l.length t m.length).toNat) else none
theorem ht_cf {s : Int} {l : List Rat} {K : Nat} (hK : 1 ≤ K) (h : ∀ q, q ∈ l → Ht q K) (m : Int) : Ht (cf s l m) K := by
 unfold cf
 split
 ·exact ht0 hK
 ·rw [List.getD_eq_getElem?_getD]
  cases hq : l[(m - s).toNat]? with
  | none => exact ht0 hK
  | some q => exact h q (List.mem_of_getElem? hq)
theorem Zdz {es : List AV} {l : List Rat} {K : Nat} (h : IsL es K l) (hK : 1 ≤ K) : ∀ q, q ∈ l → Ht q K := fun q hq => by
 obtain ⟨i, hi⟩ := List.getElem?_of_mem hq
 obtain ⟨e, -, h2⟩ := h.get.2 i q hi
 exact Zfc h2 hK
theorem ht_comb {s t : Int} {l m : List Rat} {c : Int} {K : Nat} (hK : 1 ≤ K) (hl : ∀ q, q ∈ l → Ht q K) (hm : ∀ q, q ∈ m → Ht q K) (hc : c.natAbs < 4294967296) (i : Nat) : Ht (comb s l t m c i) (2 * K + 2) :=
 (Zgy (ht_cf hK hl _) (Zbq (Zcq hc) (ht_cf hK hm _) (Nat.le_refl _))).mono oM
abbrev RQ := (Bool × List Int) × (Bool × List Int)
def rawI (r : Bool × List Int) : AV := .agg [.p (.bool r.1), .sl (r.2.map u32)]
def rawA (r : RQ) : AV := .agg [.p (.bool r.1.1), .sl (r.1.2.map u32), .p (.bool r.2.1), .sl (r.2.2.map u32)]
def ri (z : Int) : Bool × List Int := (decide (z < 0), dgs z.natAbs)
def rq (q : Rat) : RQ := (ri q.num, ri q.den)
theorem encs_raw (l : List Rat) : l.map encQ = (l.map rq).map rawA := by rw [List.map_map]; rfl
theorem ri_inj {x y : Int} (h : ri x = ri y) : x = y := by
 simp only [ri, Prod.mk.injEq, decide_eq_decide] at h
 obtain ⟨h1, h2⟩ := h
 have h3 : (x.natAbs : Int) = y.natAbs := by rw [← Zcc, ← Zcc, h2]
 omega
theorem rq_inj {x y : Rat} (h : rq x = rq y) : x = y := by
 simp only [rq, Prod.mk.injEq] at h
 have h1 := ri_inj h.1
 have h2 := ri_inj h.2
 rw [← Rat.num_divInt_den x, ← Rat.num_divInt_den y, h1, h2]
theorem rqs_inj : ∀ {l m : List Rat}, l.map rq = m.map rq → l = m
  | [], [], _ => rfl
  | [], _ :: _, h => by simp at h
  | _ :: _, [], h => by simp at h
  | x :: l, y :: m, h => by
    simp only [List.map_cons, List.cons.injEq] at h
    rw [rq_inj h.1, rqs_inj h.2]
theorem Zff {ds : List Int} {i : Nat} {d : Int} (h : ds[i]? = some d) : (ds.map u32)[i]? = some (.p (.int .u32 d)) := by rw [List.getElem?_map, h]; rfl
set_option maxHeartbeats 1000000 in
theorem sameInt_p (r q : Bool × List Int) (hr : r.2.length ≤ 4611686018427387904) : PC Tryz.prog 11 [rawI r, rawI q] (.p (.bool (decide (r = q)))) := by
 obtain ⟨g, ds⟩ := r
 obtain ⟨g', es⟩ := q
 have hr : ds.length ≤ 4611686018427387904 := hr
 by_cases h1 : g = g'
 ·subst h1
  have hb1 : (!(g == g)) = false := by simp
  by_cases h2 : ds.length = es.length
  ·have hb2 : (((ds.map u32).length : Int) != ((es.map u32).length : Int)) = false := by simp [h2]
   refine Zaz false Tryz.func11 rfl rfl rfl (Nat.le_of_ble_eq_true rfl) Zac.tmp ?_
   refine r1A ?_
   refine T.seqE (mkS [(2, .ptr 2 0), (3, .ptr 3 0)] [(2, .var [.v (.p (.bool g)), .v (.sl (ds.map u32))]), (3, .var [.v (.p (.bool g)), .v (.sl (es.map u32))])] 38 false) ?_ ?_
   ·refine goA ?_
    exact midE
   refine T.seqI (fun s1 => ds = es ∧ s1 = mkS [] [] 38 false) ?_ ?_
   ·refine r1A ?_
    refine T.block ?_
    refine T.loop (fun n s1 => ∃ k : Nat, n = ds.length - k ∧ k ≤ ds.length ∧ (∀ i, i < k → ds[i]? = es[i]?) ∧ s1 = mkS [(5, .v (.p (.int .i64 k))), (2, .ptr 2 0), (3, .ptr 3 0)] [(2, .var [.v (.p (.bool g)), .v (.sl (ds.map u32))]), (3, .var [.v (.p (.bool g)), .v (.sl (es.map u32))])] 38 false) ds.length
     (s' := mkS [(5, .v (.p (.int .i64 (0 : Nat)))), (2, .ptr 2 0), (3, .ptr 3 0)] [(2, .var [.v (.p (.bool g)), .v (.sl (ds.map u32))]), (3, .var [.v (.p (.bool g)), .v (.sl (es.map u32))])] 38 false) entA ⟨0, rfl, Nat.zero_le _, fun i hi => absurd hi (Nat.not_lt_zero _), rfl⟩ ?_
    rintro n _ ⟨k, rfl, hk, hz, rfl⟩
    by_cases hlt : k < ds.length
    ·have hb : decide ((k : Int) < ((ds.map u32).length : Int)) = true := by simp; omega
     have e1 : ds[k]? = some ds[k] := List.getElem?_eq_getElem hlt
     have e2 : es[k]? = some es[k] := List.getElem?_eq_getElem oM
     have e3 := Zff e1
     have e4 := Zff e2
     refine goA ?_
     refine ixG e3 ?_
     refine ixA e4 ?_
     by_cases hd : ds[k] = es[k]
     ·have hb3 : (ds[k] != es[k]) = false := by simp [hd]
      refine goA ?_
      refine Zab (k := ds.length - (k + 1)) (s' := mkS [(5, .v (.p (.int .i64 ((k : Int) + 1)))), (2, .ptr 2 0), (3, .ptr 3 0)] [(2, .var [.v (.p (.bool g)), .v (.sl (ds.map u32))]), (3, .var [.v (.p (.bool g)), .v (.sl (es.map u32))])] 38 false) oM entA ⟨k + 1, rfl, hlt, fun i hi => ?_, by simp⟩
      by_cases hik : i = k
      ·subst hik; rw [e1, e2, hd]
      ·exact hz i oM
     ·have hb3 : (ds[k] != es[k]) = true := by simp [hd]
      have hne : decide ((g, ds) = (g, es)) = false := by
       simp only [Prod.mk.injEq, true_and, decide_eq_false_iff_not]
       intro e; subst e; exact hd rfl
      rw [hne]
      refine goA ?_
      exact rfl
    ·have hb : decide ((k : Int) < ((ds.map u32).length : Int)) = false := by simp; omega
     have hde : ds = es := by
      apply List.ext_getElem?
      intro i
      by_cases hi : i < k
      ·exact hz i hi
      ·rw [List.getElem?_eq_none oM, List.getElem?_eq_none oM]
     refine goA ?_
     exact Zae (s' := mkS [] [] 38 false) entA ⟨hde, rfl⟩
   rintro _ ⟨rfl, rfl⟩
   have hne : decide ((g, ds) = (g, ds)) = true := by simp
   rw [hne]
   refine goA ?_
   exact rfl
  ·have hb2 : (((ds.map u32).length : Int) != ((es.map u32).length : Int)) = true := by simp; omega
   have hne : decide ((g, ds) = (g, es)) = false := by
    simp only [Prod.mk.injEq, true_and, decide_eq_false_iff_not]
    intro e; subst e; exact h2 rfl
   rw [hne]
   refine Zaz false Tryz.func11 rfl rfl rfl (Nat.le_of_ble_eq_true rfl) Zac.tmp ?_
   refine goA ?_
   exact rfl
 ·have hb1 : (!(g == g')) = true := by simp [h1]
  have hne : decide ((g, ds) = (g', es)) = false := by
   simp only [Prod.mk.injEq, decide_eq_false_iff_not]
   exact fun e => h1 e.1
  rw [hne]
  refine Zaz false Tryz.func11 rfl rfl rfl (Nat.le_of_ble_eq_true rfl) Zac.tmp ?_
  refine goA ?_
  exact rfl
theorem sameRat_p (r q : RQ) (h1 : r.1.2.length ≤ 4611686018427387904) (h2 : r.2.2.length ≤ 4611686018427387904) : PC Tryz.prog 45 [rawA r, rawA q] (.p (.bool (decide (r = q)))) := by
  obtain ⟨⟨g, ds⟩, ⟨g', ds'⟩⟩ := r
  obtain ⟨⟨k, es⟩, ⟨k', es'⟩⟩ := q
  have c1 := sameInt_p (g, ds) (k, es) h1
  have c2 := sameInt_p (g', ds') (k', es') h2
  cases hd : decide ((g, ds) = (k, es)) with
  | false =>
    rw [hd] at c1
    have e : decide (((g, ds), (g', ds')) = ((k, es), (k', es'))) = false := by
      simp only [decide_eq_false_iff_not, Prod.mk.injEq] at hd ⊢
      exact fun h => hd h.1
    rw [e]
    refine pb1 Tryz.func45 Zac.tmp ?_
    refine goA ?_
    refine clG c1 ?_
    exact rfl
  | true =>
    rw [hd] at c1
    have e : decide (((g, ds), (g', ds')) = ((k, es), (k', es'))) = decide ((g', ds') = (k', es')) := by
      have hd := of_decide_eq_true hd
      rw [hd]
      simp
    rw [e]
    refine pb1 Tryz.func45 Zac.tmp ?_
    refine goA ?_
    refine clG c1 ?_
    refine clG c2 ?_
    exact rfl
def Small (k : Nat) (R : List RQ) : Prop := ∀ r, r ∈ R → r.1.2.length ≤ k ∧ r.2.2.length ≤ k
set_option maxHeartbeats 1000000 in
theorem sameRats_p (R S : List RQ) (hR : Small 4611686018427387904 R) (hl : R.length ≤ 4611686018427387904) : PC Tryz.prog 36 [.sl (R.map rawA), .sl (S.map rawA)] (.p (.bool (decide (R = S)))) := by
 by_cases h2 : R.length = S.length
 ·have hb2 : (((R.map rawA).length : Int) != ((S.map rawA).length : Int)) = false := by simp [h2]
  refine pb1 Tryz.func36 Zac.tmp ?_
  refine r1A ?_
  refine T.seqE (mkS [(0, .v (.sl (R.map rawA))), (1, .v (.sl (S.map rawA)))] [] 27 true) ?_ ?_
  ·refine goA ?_
   exact midE
  refine T.seqI (fun s1 => R = S ∧ s1 = mkS [] [] 27 true) ?_ ?_
  ·refine r1A ?_
   refine T.block ?_
   refine T.loop (fun n s1 => ∃ k : Nat, n = R.length - k ∧ k ≤ R.length ∧ (∀ i, i < k → R[i]? = S[i]?) ∧ s1 = mkS [(5, .v (.p (.int .i64 k))), (0, .v (.sl (R.map rawA))), (1, .v (.sl (S.map rawA)))] [] 27 true) R.length
    (s' := mkS [(5, .v (.p (.int .i64 (0 : Nat)))), (0, .v (.sl (R.map rawA))), (1, .v (.sl (S.map rawA)))] [] 27 true) entA ⟨0, rfl, Nat.zero_le _, fun i hi => absurd hi (Nat.not_lt_zero _), rfl⟩ ?_
   rintro n _ ⟨k, rfl, hk, hz, rfl⟩
   by_cases hlt : k < R.length
   ·have hb : decide ((k : Int) < ((R.map rawA).length : Int)) = true := by simp; omega
    have e1 : R[k]? = some R[k] := List.getElem?_eq_getElem hlt
    have e2 : S[k]? = some S[k] := List.getElem?_eq_getElem oM
    have e3 : (R.map rawA)[k]? = some (rawA R[k]) := by rw [List.getElem?_map, e1]; rfl
    have e4 : (S.map rawA)[k]? = some (rawA S[k]) := by rw [List.getElem?_map, e2]; rfl
    obtain ⟨s1, s2⟩ := hR R[k] (List.getElem_mem hlt)
    have c := sameRat_p R[k] S[k] s1 s2
    refine goA ?_
    refine ixG e3 ?_
    refine ixG e4 ?_
    by_cases hd : R[k] = S[k]
    ·have hb3 : decide (R[k] = S[k]) = true := by simp [hd]
     rw [hb3] at c
     refine clG c ?_
     refine Zab (k := R.length - (k + 1)) (s' := mkS [(5, .v (.p (.int .i64 ((k : Int) + 1)))), (0, .v (.sl (R.map rawA))), (1, .v (.sl (S.map rawA)))] [] 27 true) oM entA ⟨k + 1, rfl, hlt, fun i hi => ?_, by simp⟩
     by_cases hik : i = k
     ·subst hik; rw [e1, e2, hd]
     ·exact hz i oM
    ·have hb3 : decide (R[k] = S[k]) = false := by simp [hd]
     rw [hb3] at c
     have hne : decide (R = S) = false := by
      simp only [decide_eq_false_iff_not]
      intro e; subst e; exact hd rfl
     rw [hne]
     refine clG c ?_
     exact rfl
   ·have hb : decide ((k : Int) < ((R.map rawA).length : Int)) = false := by simp; omega
    have hde : R = S := by
     apply List.ext_getElem?
     intro i
     by_cases hi : i < k
     ·exact hz i hi
     ·rw [List.getElem?_eq_none oM, List.getElem?_eq_none oM]
    refine goA ?_
    exact Zae (s' := mkS [] [] 27 true) entA ⟨hde, rfl⟩
  rintro _ ⟨rfl, rfl⟩
  have hne : decide (R = R) = true := by simp
  rw [hne]
  refine goA ?_
  exact rfl
 ·have hb2 : (((R.map rawA).length : Int) != ((S.map rawA).length : Int)) = true := by simp; omega
  have hne : decide (R = S) = false := by
   simp only [decide_eq_false_iff_not]
   intro e; subst e; exact h2 rfl
  rw [hne]
  refine pb1 Tryz.func36 Zac.tmp ?_
  refine goA ?_
  exact rfl
def serR (s : Int) (R : List RQ) : AV := serA s (R.map rawA)
theorem sameSeries_p (s t : Int) (R S : List RQ) (hR : Small 4611686018427387904 R) (hl : R.length ≤ 4611686018427387904) : PC Tryz.prog 10 [serR s R, serR t S] (.p (.bool (decide (s = t ∧ R = S)))) := by
 have c := sameRats_p R S hR hl
 by_cases h : s = t
 ·subst h
  have hb : (s == s) = true := by simp
  have e : decide (s = s ∧ R = S) = decide (R = S) := by simp
  rw [e]
  refine pb1 Tryz.func10 Zac.tmp ?_
  refine goA ?_
  refine clG c ?_
  exact rfl
 ·have hb : (s == t) = false := by simp [h]
  have e : decide (s = t ∧ R = S) = false := by simp [h]
  rw [e]
  refine pb1 Tryz.func10 Zac.tmp ?_
  refine goA ?_
  exact rfl
theorem check_p {s : Int} {es : List AV} (hs0 : -9223372036854775808 ≤ s) (hs1 : s ≤ 9223372036854775807) (hn : es.length ≤ 9223372036854775807) : PC Tryz.prog 145 [serA s es] (.p (.int .i64 (if Zap s es.length then 0 else 2))) := by
 by_cases h1 : -100 ≤ s
 ·have hb1 : decide (s < -100) = false := by simp; omega
  by_cases h2 : s ≤ 1000
  ·have hb2 : decide (s > 1000) = false := by simp; omega
   by_cases h3 : (es.length : Int) ≤ 1000 - s
   ·have hb3 : decide ((es.length : Int) > 1000 - s) = false := by simp; omega
    have e : Zap s es.length = true := Za2.2 ⟨h1, h2, h3⟩
    rw [e]
    refine pb1 Tryz.func145 Zac.tmp ?_
    refine goA ?_
    exact rfl
   ·have hb3 : decide ((es.length : Int) > 1000 - s) = true := by simp; omega
    have e : Zap s es.length = false := by unfold Zap; simp; omega
    rw [e]
    refine pb1 Tryz.func145 Zac.tmp ?_
    refine goA ?_
    exact rfl
  ·have hb2 : decide (s > 1000) = true := by simp; omega
   have e : Zap s es.length = false := by unfold Zap; simp; omega
   rw [e]
   refine pb1 Tryz.func145 Zac.tmp ?_
   refine goA ?_
   exact rfl
 ·have hb1 : decide (s < -100) = true := by simp; omega
  have e : Zap s es.length = false := by unfold Zap; simp; omega
  rw [e]
  refine pb1 Tryz.func145 Zac.tmp ?_
  refine goA ?_
  exact rfl
structure InR (s : Int) (n : Nat) : Prop where
 lo : -9223372036854775808 ≤ s
 hi : s ≤ 9223372036854775807
 len : n ≤ 9223372036854775807
def Both (s : Int) (es : List AV) (t : Int) (fs : List AV) (K : Nat) (l m : List Rat) : Prop := (Zap s es.length = true → Zap t fs.length = true → IsL es K l ∧ IsL fs K m) ∧ es.length = l.length ∧ fs.length = m.length ∧ InR s es.length ∧ InR t fs.length
theorem appA {A B : Prop} (h : B) (imp : Keep B → A := by intro hKeep; (refine evG ggA (Zaw (Zaa rfl) (Zaf rfl) rfl rfl rfl rfl (Zci rfl rfl) (Nat.le_of_ble_eq_true rfl)) ?_; refine evG ggA (ss_snoc (Zaa rfl) (Zaf rfl) rfl rfl (by first | rfl | assumption | (simp; done) | (simp; omega)) rfl oM (Nat.le_of_ble_eq_true rfl) rfl) ?_); exact hKeep.out) : A := imp ⟨h⟩
end Ab
