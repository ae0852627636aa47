/- Coefficients of a series; the series of a list of coefficients, normalized: in abstract values. -/
import Derived.Test.YtmcfohngblbpbaaGreatSerB
namespace Ab
open Go Go.RowKit Go.Proofs Hp
set_option maxRecDepth 100000

/-- how many leading fractions are 0 -/
def lead : List Rat → Nat
  | [] => 0
  | q :: r => if q = 0 then lead r + 1 else 0
theorem lead_le : ∀ l, lead l ≤ l.length
  | [] => Nat.le_refl _
  | q :: r => by have := lead_le r; unfold lead; split <;> simp <;> omega
theorem lead_zero : ∀ (l : List Rat) (i : Nat), i < lead l → l[i]? = some 0
  | [], i, h => by simp [lead] at h
  | q :: r, i, h => by
    unfold lead at h
    split at h
    · rename_i hq
      rcases i with _ | i
      · simp [hq]
      · simpa using lead_zero r i (by omega)
    · omega
theorem lead_ne : ∀ (l : List Rat) (q : Rat), l[lead l]? = some q → q ≠ 0
  | [], q, h => by simp at h
  | p :: r, q, h => by
    unfold lead at h
    split at h
    · exact lead_ne r q (by simpa using h)
    · rename_i hp
      simp at h; subst h; exact hp
theorem lead_eq {l : List Rat} {k : Nat} (h0 : ∀ i, i < k → l[i]? = some 0) (h1 : ∀ q, l[k]? = some q → q ≠ 0) (hk : k ≤ l.length) : lead l = k := by
  have a := lead_le l
  rcases Nat.lt_trichotomy (lead l) k with h | h | h
  · exact absurd rfl (lead_ne l 0 (h0 _ h))
  · exact h
  · exact absurd rfl (h1 0 (lead_zero l k h))
def nfrom (s : Int) : Int := if s > 1000 then 1000 else s
def ncut (s : Int) (l : List Rat) : List Rat := if s > 1000 then [] else l.take (1000 - s).toNat
/-- a series normalized, or nothing -/
def nrm (s : Int) (l : List Rat) : Option (Int × List Rat) := if nfrom s + lead (ncut s l) < -100 then none else some (nfrom s + lead (ncut s l), (ncut s l).drop (lead (ncut s l)))
def serE : Option (Int × List Rat) → AV
  | none => .tup [serA 0 [], .p (.int .i64 2)]
  | some (s, l) => .tup [serA s (l.map encQ), .p (.int .i64 0)]
theorem IsL.take {k : Nat} (n : Nat) : ∀ {es : List AV} {l : List Rat}, IsL es k l → IsL (es.take n) k (l.take n) := fun {es l} h => by
  obtain ⟨h1, h2⟩ := h.get
  refine IsL.mk (by simp [h1]) fun i e q he hq => ?_
  have hi : i < n := by have := (List.getElem?_eq_some_iff.1 hq).1; simp at this; omega
  rw [List.getElem?_take_of_lt hi] at he hq
  obtain ⟨e', h3, h4⟩ := h2 i q hq
  rw [he] at h3; injection h3 with h3; subst h3; exact h4
theorem IsL.drop {k : Nat} (n : Nat) : ∀ {es : List AV} {l : List Rat}, IsL es k l → IsL (es.drop n) k (l.drop n) := fun {es l} h => by
  obtain ⟨h1, h2⟩ := h.get
  refine IsL.mk (by simp [h1]) fun i e q he hq => ?_
  rw [List.getElem?_drop] at he hq
  obtain ⟨e', h3, h4⟩ := h2 _ q hq
  rw [he] at h3; injection h3 with h3; subst h3; exact h4
theorem isL_cells {es : List AV} {k : Nat} {l : List Rat} (h : IsL es k l) : ∀ e, e ∈ es → e.cells.length = 4 := fun e he => by
  obtain ⟨i, hi⟩ := List.getElem?_of_mem he
  obtain ⟨h1, h2⟩ := h.get
  have hil : i < l.length := by rw [← h1]; exact (List.getElem?_eq_some_iff.1 hi).1
  obtain ⟨e', h3, h4⟩ := h2 i l[i] (by simp [hil])
  rw [hi] at h3; injection h3 with h3; subst h3
  obtain ⟨g, d, g', d', rfl⟩ := isV_cells h4
  rfl
/-- the element i of such a list -/
theorem IsL.at {es : List AV} {k : Nat} {l : List Rat} (h : IsL es k l) {i : Nat} (hi : i < es.length) : ∃ g ds g' ds' q, es[i]? = some (.agg [.p (.bool g), .sl ds, .p (.bool g'), .sl ds']) ∧ l[i]? = some q ∧ IsV (.agg [.p (.bool g), .sl ds, .p (.bool g'), .sl ds']) k q := by
  obtain ⟨h1, h2⟩ := h.get
  have hil : i < l.length := by omega
  obtain ⟨e, h3, h4⟩ := h2 i l[i] (by simp [hil])
  obtain ⟨g, d, g', d', rfl⟩ := isV_cells h4
  exact ⟨g, d, g', d', _, h3, by simp [hil], h4⟩
theorem encQ_cells (q : Rat) : (encQ q).cells.length = 4 := rfl
theorem encQ_nu (q : Rat) : ∀ c, c ∈ (encQ q).cells → c.nu = true := by
  intro c hc
  simp [encQ, AV.cells, ci] at hc
  rcases hc with rfl | rfl | rfl | rfl <;> rfl
theorem encs_cells (l : List Rat) : ∀ e, e ∈ l.map encQ → e.cells.length = 4 := by
  intro e he
  simp at he
  obtain ⟨q, -, rfl⟩ := he
  rfl
/-- append of one fraction -/
theorem ss_snoc {dm : Bool} {P : Program} {ops : Array Oper} {s : AS} {dst : Option Tmp} {ty : TypeId} {pos : String} {after : Array Edge} {g : Option (Nat × Bool)} {t e : TypeId} {bytes : Nat} {z : List Value} {y x : Operand} {id m : Nat} {l : List Rat} {q : Rat} (hin : InB s dst) (ht : MakeT P t e 4 bytes z) (hy : s.ev y = some (.own id m)) (hm : s.m id = some (.lst 4 e (l.map encQ))) (hlen : l.length = m) (hx : s.ev x = some (.v (.sl [encQ q])))
    (h63 : m + 1 ≤ 1000000) (hby : bytes ≤ 64) (hz : z.all nuV = true) :
    SStep dm P ops ⟨dst, .call ⟨.builtin .append, #[y, x], #[t, t]⟩, ty, pos, after, g⟩ s (.own id (m + 1)) (.set id (.lst 4 e ((l ++ [q]).map encQ))) := by
  have := ss_append (dm := dm) (P := P) (ops := ops) (dst := dst) (ty := ty) (pos := pos) (after := after) (g := g) hin ht hy hm (by simp [hlen]) hx (fun a ha => by simp at ha; subst ha; rfl) (by omega) (by simp [maxLen]; omega) (by simp; have := Nat.mul_le_mul_left (m + 1) hby; omega) (by simp [hz]) (fun _ a ha => by simp at ha; subst ha; exact encQ_nu q)
  rw [List.map_append]
  exact this
def sF : Option (Int × List Rat) → Int
  | none => 0
  | some (s, _) => s
def sL : Option (Int × List Rat) → List Rat
  | none => []
  | some (_, l) => l
def sE : Option (Int × List Rat) → Int
  | none => 2
  | some _ => 0
theorem serE_eq (x : Option (Int × List Rat)) : serE x = .tup [serA (sF x) ((sL x).map encQ), .p (.int .i64 (sE x))] := by
  rcases x with _ | ⟨s, l⟩ <;> rfl
theorem take_min {α : Type} (l : List α) (c : Int) (h : 0 ≤ c) : l.take (min (l.length : Int) c).toNat = l.take c.toNat := by
  by_cases h1 : (l.length : Int) ≤ c
  · rw [show (min (l.length : Int) c).toNat = l.length by omega, List.take_of_length_le (Nat.le_refl _), List.take_of_length_le (by omega)]
  · rw [show (min (l.length : Int) c).toNat = c.toNat by omega]
/-- the zero value of a fraction -/
def rz : AV := .agg [.p (.bool false), .sl [], .p (.bool false), .sl []]
theorem isV_rz (k : Nat) : IsV rz k 0 := ⟨_, _, 0, 0, rfl, ⟨false, [], rfl, fun d h => by simp at h, Nat.zero_le _, rfl⟩, ⟨false, [], rfl, fun d h => by simp at h, Nat.zero_le _, rfl⟩, by simp⟩
abbrev var0 : Blk := .var [.v (.p (.int .i64 0)), .v (.p nilV)]
theorem take_succ {α : Type} {l : List α} {j : Nat} {q : α} (h : l[j]? = some q) : l.take (j + 1) = l.take j ++ [q] := by
  have hj := (List.getElem?_eq_some_iff.1 h).1
  rw [List.take_succ_eq_append_getElem hj]
  congr
  rw [List.getElem?_eq_getElem hj] at h
  injection h
set_option maxHeartbeats 2000000 in
theorem build_p {s : Int} {es : List AV} {l : List Rat} {K : Nat} (h : IsL es K l) (hK : K ≤ 2199023255552) (hs0 : -4611686018427387904 ≤ s) (hs1 : s ≤ 4611686018427387904) (hn : l.length ≤ 1000000) : PC Tryz.prog 49 [.p (.int .i64 s), .sl es] (serE (nrm s l)) := by
  have hlen := h.get.1
  rw [serE_eq]
  refine pc_body2 true Tryz.func49 rfl rfl rfl (Nat.le_of_ble_eq_true rfl) (CellT.agg agg_ser) CellT.tmp ?_
  refine r1A ?_
  refine T.seqI (fun s1 => ∃ S es', s1 = mkS [(0, .v (.p (.int .i64 S))), (1, .v (.sl es')), (4, .ptr 4 0)] [(4, var0)] 61 true ∧ S = nfrom s ∧ es'.length ≤ 1000000 ∧ IsL (es'.take (1000 - S).toNat) K (ncut s l) ∧ (∀ e, e ∈ es' → e.cells.length = 4)) ?_ ?_
  · refine goA ?_
    refine T.cond rfl (fun hc => ?_) (fun hc => ?_)
    · have hc : s > 1000 := by simpa using hc
      refine goA ?_
      exact midQ_intro (s' := mkS [(0, .v (.p (.int .i64 1000))), (1, .v (.sl [])), (4, .ptr 4 0)] [(4, var0)] 61 true) (by exact entA) ⟨1000, [], rfl, by unfold nfrom; rw [if_pos hc], by simp, by unfold ncut; rw [if_pos hc]; exact trivial, fun e he => by simp at he⟩
    · have hc : ¬ s > 1000 := by simpa using hc
      refine goA ?_
      exact midQ_intro (s' := mkS [(0, .v (.p (.int .i64 s))), (1, .v (.sl es)), (4, .ptr 4 0)] [(4, var0)] 61 true) (by exact entA) ⟨s, es, rfl, by unfold nfrom; rw [if_neg hc], by omega, by unfold ncut; rw [if_neg hc]; exact h.take _, isL_cells h⟩
  rintro _ ⟨S, es', rfl, hS, hn', hL, hcells⟩
  have hSr : S ≤ 1000 ∧ -4611686018427387904 ≤ S := by rw [hS]; unfold nfrom; split <;> omega
  refine T.seq ?_
  refine regA ?_
  refine runA ?_
  refine evG ggA (ss_slice_h (InB_of rfl) (elem_tab rfl) rfl hcells rfl (by omega) (by omega)) ?_
  rw [take_min _ _ (by omega)]
  have hnrm : nrm s l = if S + lead (ncut s l) < -100 then none else some (S + lead (ncut s l), (ncut s l).drop (lead (ncut s l))) := by unfold nrm; rw [← hS]
  generalize ncut s l = L at *
  generalize hes2 : es'.take (1000 - S).toNat = es2 at *
  have hlen2 := hL.get.1
  have hn2 : L.length ≤ 1000000 := by rw [← hlen2, ← hes2, List.length_take]; omega
  clear hes2
  refine runA ?_
  refine ev_nil ?_
  refine seqQ_n ?_
  refine T.weak (s' := mkS [(0, .v (.p (.int .i64 S))), (1, .v (.sl es2)), (4, .ptr 4 0)] [(4, var0)] 61 true) (by exact entA) ?_
  refine r1A ?_
  refine T.seqI (fun s1 => s1 = mkS [(0, .v (.p (.int .i64 S))), (1, .v (.sl es2)), (4, .ptr 4 0), (6, .v (.p (.int .i64 (lead L))))] [(4, var0)] 61 true) ?_ ?_
  · refine T.block ?_
    refine T.loop (fun n s1 => ∃ k : Nat, n = L.length - k ∧ k ≤ L.length ∧ (∀ i, i < k → L[i]? = some 0) ∧ s1 = mkS [(0, .v (.p (.int .i64 S))), (1, .v (.sl es2)), (4, .ptr 4 0), (6, .v (.p (.int .i64 k)))] [(4, var0)] 61 true) L.length
      (s' := mkS [(0, .v (.p (.int .i64 S))), (1, .v (.sl es2)), (4, .ptr 4 0), (6, .v (.p (.int .i64 (0 : Nat))))] [(4, var0)] 61 true) (by exact entA) ⟨0, rfl, Nat.zero_le _, fun i hi => absurd hi (Nat.not_lt_zero _), rfl⟩ ?_
    rintro n _ ⟨k, rfl, hk, hz, rfl⟩
    by_cases hlt : k < L.length
    · have hb : decide ((k : Int) < (es2.length : Int)) = true := by simp; omega
      obtain ⟨g, ds, g', ds', q, he, hq, hv⟩ := hL.at (i := k) (by omega)
      obtain ⟨sg, h1, h2, h3, hsg⟩ := rsign_p hv (by omega)
      refine goA ?_
      refine evG ggA (ss_index_sl (InB_of rfl) (elem_tab rfl) rfl rfl (by omega) he rfl) ?_
      refine goA ?_
      refine evG ggA (ss_call (InB_of rfl) rfl rfl hsg) ?_
      refine goA ?_
      refine T.cond rfl (fun hc => ?_) (fun hc => ?_)
      · have hq0 : q = 0 := h3.1 (by simpa using hc)
        refine goA ?_
        refine loopQ_intro (k := L.length - (k + 1)) (s' := mkS [(0, .v (.p (.int .i64 S))), (1, .v (.sl es2)), (4, .ptr 4 0), (6, .v (.p (.int .i64 ((k : Int) + 1))))] [(4, var0)] 61 true) (by omega) (by exact entA) ⟨k + 1, rfl, hlt, fun i hi => ?_, by simp⟩
        by_cases hik : i = k
        · subst hik; rw [hq, hq0]
        · exact hz i (by omega)
      · have hq0 : q ≠ 0 := fun e => by have := h3.2 e; simp [this] at hc
        have hlead : lead L = k := lead_eq hz (fun q' hq' => by rw [hq] at hq'; injection hq' with e; rw [← e]; exact hq0) hk
        refine goA ?_
        exact midQ_intro (s' := mkS [(0, .v (.p (.int .i64 S))), (1, .v (.sl es2)), (4, .ptr 4 0), (6, .v (.p (.int .i64 k)))] [(4, var0)] 61 true) (by exact entA) (by rw [hlead])
    · obtain rfl : k = L.length := by omega
      have hb : decide ((L.length : Int) < (es2.length : Int)) = false := by simp; omega
      have hlead : lead L = L.length := lead_eq hz (fun q' hq' => by simp at hq') hk
      refine goA ?_
      exact midQ_intro (s' := mkS [(0, .v (.p (.int .i64 S))), (1, .v (.sl es2)), (4, .ptr 4 0), (6, .v (.p (.int .i64 (L.length : Nat))))] [(4, var0)] 61 true) (by exact entA) (by rw [hlead])
  rintro _ rfl
  have hk := lead_le L
  have hlt1 : (lead L : Int) ≤ (es2.length : Int) := by omega
  refine T.seq ?_
  refine regA ?_
  refine runA ?_
  refine ev_nil ?_
  refine seqQ_n ?_
  have hserS : nrm s l = if S + lead L < -100 then none else some (S + lead L, L.drop (lead L)) := hnrm
  generalize nrm s l = R at *
  generalize lead L = k at *
  refine T.weak (s' := mkS [(0, .v (.p (.int .i64 (S + k)))), (1, .v (.sl es2)), (4, .ptr 4 0), (6, .v (.p (.int .i64 k)))] [(4, var0)] 61 true) (by exact entA) ?_
  refine T.seq ?_
  refine T.seq ?_
  refine regA ?_
  refine runA ?_
  refine ev_nil ?_
  refine seqQ_n ?_
  refine T.cond rfl (fun hc => ?_) (fun hc => ?_)
  · have hc : S + (k : Int) < -100 := by simpa using hc
    rw [if_pos hc] at hserS
    subst hserS
    refine goA ?_
    exact rfl
  have hc : ¬ S + (k : Int) < -100 := by simpa using hc
  rw [if_neg hc] at hserS
  subst hserS
  refine T.skip ?_
  refine seqQ_n ?_
  refine T.weak (s' := mkS [(0, .v (.p (.int .i64 (S + k)))), (1, .v (.sl es2)), (4, .ptr 4 0), (6, .v (.p (.int .i64 k)))] [(4, var0)] 61 true) (by exact entA) ?_
  refine T.seq ?_
  refine regA ?_
  refine runA ?_
  refine evG ggA (ss_make 43 (e0 := rz) (InB_of rfl) (make_tab rfl) rfl rfl rfl (by omega) (by omega) (by omega) (by omega) rfl rfl rfl) ?_
  refine runA ?_
  refine ev_nil ?_
  refine seqQ_n ?_
  have hL2 := hL.drop k
  generalize hLd : L.drop k = L2 at *
  have hd2 : L2.length + k = L.length := by rw [← hLd, List.length_drop]; omega
  have hl2 : (es2.drop k).length = L2.length := by rw [List.length_drop]; omega
  refine T.seqI (fun s1 => s1 = mkS [(0, .v (.p (.int .i64 (S + k)))), (7, .own 43 L2.length), (4, .ptr 4 0)] [(4, var0), (43, .lst 4 47 (L2.map encQ))] 61 true) ?_ ?_
  · refine T.seq ?_
    refine regA ?_
    refine runA ?_
    refine evG ggA (ss_slice_l (InB_of rfl) (elem_tab rfl) rfl (isL_cells hL) rfl (by omega) (by omega)) ?_
    refine runA ?_
    refine ev_nil ?_
    refine seqQ_n ?_
    rw [Int.toNat_natCast]
    generalize es2.drop k = es3 at *
    clear hLd
    refine T.block ?_
    refine T.loop (fun n s1 => ∃ j : Nat, n = L2.length - j ∧ j ≤ L2.length ∧ s1 = mkS [(0, .v (.p (.int .i64 (S + k)))), (46, .v (.sl es3)), (47, .v (.p (.int .i64 es3.length))), (48, .v (.p (.int .i64 j))), (7, .own 43 j), (4, .ptr 4 0)] [(4, var0), (43, .lst 4 47 ((L2.take j).map encQ))] 61 true) L2.length
      (s' := mkS [(0, .v (.p (.int .i64 (S + k)))), (46, .v (.sl es3)), (47, .v (.p (.int .i64 es3.length))), (48, .v (.p (.int .i64 (0 : Nat)))), (7, .own 43 0), (4, .ptr 4 0)] [(4, var0), (43, .lst 4 47 ((L2.take 0).map encQ))] 61 true) (by exact entA) ⟨0, rfl, Nat.zero_le _, rfl⟩ ?_
    rintro n _ ⟨j, rfl, hj, rfl⟩
    by_cases hlt : j < L2.length
    · have hb : decide ((j : Int) < (es3.length : Int)) = true := by simp; omega
      obtain ⟨g, ds, g', ds', q, he, hq, hv⟩ := hL2.at (i := j) (by omega)
      refine goA ?_
      refine evG ggA (ss_index_sl (InB_of rfl) (elem_tab rfl) rfl rfl (by omega) he rfl) ?_
      refine goA ?_
      refine evG ggA (ss_call (InB_of rfl) rfl rfl (rnormal_p hv hK)) ?_
      (refine evG ggA (ss_bslice (InB_of rfl) (make_tab rfl) rfl rfl rfl rfl (one_ok rfl rfl) (Nat.le_of_ble_eq_true rfl)) ?_; refine evG ggA (ss_snoc (InB_of rfl) (make_tab rfl) rfl rfl (by first | rfl | assumption | (simp; done) | (simp; omega)) rfl (by omega) (Nat.le_of_ble_eq_true rfl) rfl) ?_)
      refine goA ?_
      refine loopQ_intro (k := L2.length - (j + 1)) (s' := mkS [(0, .v (.p (.int .i64 (S + k)))), (46, .v (.sl es3)), (47, .v (.p (.int .i64 es3.length))), (48, .v (.p (.int .i64 ((j : Int) + 1)))), (7, .own 43 (j + 1)), (4, .ptr 4 0)] [(4, var0), (43, .lst 4 47 ((L2.take j ++ [q]).map encQ))] 61 true) (by omega) (by exact entA) ⟨j + 1, rfl, hlt, ?_⟩
      rw [take_succ hq]; rfl
    · obtain rfl : j = L2.length := by omega
      have hb : decide ((L2.length : Int) < (es3.length : Int)) = false := by simp; omega
      refine goA ?_
      refine midQ_intro (s' := mkS [(0, .v (.p (.int .i64 (S + k)))), (7, .own 43 L2.length), (4, .ptr 4 0)] [(4, var0), (43, .lst 4 47 ((L2.take L2.length).map encQ))] 61 true) (by exact entA) (by rw [List.take_length])
  rintro _ rfl
  refine T.weak (s' := mkS [(0, .v (.p (.int .i64 (S + k)))), (7, .v (.sl (L2.map encQ))), (4, .ptr 4 0)] [(4, var0)] 61 true) (by exact entA) ?_
  refine goA ?_
  exact rfl
end Ab
