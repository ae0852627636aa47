/- Small functions on fractions and series, in abstract values. Coefficients of a series; the series of a list of coefficients, normalized: in abstract values. Coefficients, sums and differences of series in abstract values. Comparison of integers, fractions, lists and series field by field, in abstract values. Sum, difference, q d/dq and comparison of series, in abstract values. -/
import Derived.Test.YtkbccidalhefaaaGreatEnc
set_option linter.all false
namespace Ab
open Go Go.RowKit Go.Proofs Hp
set_option maxRecDepth 100000

/-- a list of fractions, of numbers of at most k digits -/
def IsL : List AV → Nat → List Rat → Prop
  | [], _, [] => True
  | e :: es, k, q :: l => IsV e k q ∧ IsL es k l
  | _, _, _ => False
theorem IsL.get {k : Nat} : ∀ {es : List AV} {l : List Rat}, IsL es k l → es.length = l.length ∧ ∀ (i : Nat) q, l[i]? = some q → ∃ e, es[i]? = some e ∧ IsV e k q
  | [], [], _ => ⟨rfl, fun i q h => by simp at h⟩
  | e :: es, q :: l, h => by
    obtain ⟨h1, h2⟩ := IsL.get h.2
    refine ⟨by simp [h1], fun i q' hi => ?_⟩
    rcases i with _ | i
    · simp at hi; subst hi; exact ⟨e, rfl, h.1⟩
    · simpa using h2 i q' (by simpa using hi)
  | [], _ :: _, h => h.elim
  | _ :: _, [], h => h.elim
theorem IsL.mk {k : Nat} : ∀ {es : List AV} {l : List Rat}, es.length = l.length → (∀ (i : Nat) e q, es[i]? = some e → l[i]? = some q → IsV e k q) → IsL es k l
  | [], [], _, _ => trivial
  | e :: es, q :: l, h, hi => ⟨hi 0 e q rfl rfl, IsL.mk (by simpa using h) fun i e' q' h1 h2 => hi (i + 1) e' q' (by simpa using h1) (by simpa using h2)⟩
theorem isL_enc {k : Nat} : ∀ {l : List Rat}, (∀ q, q ∈ l → Ht q k) → IsL (l.map encQ) k l
  | [], _ => trivial
  | q :: l, h => ⟨isV_encQ (h q (by simp)), isL_enc fun q' hq => h q' (by simp [hq])⟩
theorem IsL.mono {k k' : Nat} (hk : k ≤ k') : ∀ {es : List AV} {l : List Rat}, IsL es k l → IsL es k' l
  | [], [], _ => trivial
  | e :: es, q :: l, h => ⟨isV_mono h.1 hk, IsL.mono hk h.2⟩
def serA (s : Int) (es : List AV) : AV := .agg [.p (.int .i64 s), .sl es]
theorem isign_p {a : AV} {k : Nat} {z : Int} (h : IsI a k z) (hk : k ≤ 17592186044416) : PC Tryz.prog 74 [a] (.p (.int .i64 (sgn z))) := by
  refine ⟨callOK Tryz.func74 rfl rfl, fun w M hM vs hvs => ?_⟩
  obtain ⟨v, rfl, hv⟩ := reps1 hvs
  refine (isign_c (isI_rep h hv) hk).mono ?_
  rintro e w' ⟨v, rfl, hb, hr⟩
  exact ⟨v, rfl, hb, by rw [hr]; exact .p _ rfl⟩
theorem rsign_p {a : AV} {k : Nat} {q : Rat} (h : IsV a k q) (hk : k ≤ 17592186044416) : ∃ sg : Int, -1 ≤ sg ∧ sg ≤ 1 ∧ (sg = 0 ↔ q = 0) ∧ PC Tryz.prog 61 [a] (.p (.int .i64 sg)) := by
  obtain ⟨cs, ds, p, d, rfl, ⟨g, l, rfl, h1, h2, h3⟩, ⟨g', l', rfl, h4, h5, h6⟩, h7⟩ := h
  have hp := sgn_mul_range p d
  rw [← h7] at hp
  refine ⟨sgn p * sgn d, hp.1, hp.2.1, hp.2.2, ?_⟩
  have hI1 : IsI (.agg [.p (.bool g), .sl (l.map u32)]) k p := ⟨_, rfl, g, l, rfl, h1, h2, h3⟩
  have hI2 : IsI (.agg [.p (.bool g'), .sl (l'.map u32)]) k d := ⟨_, rfl, g', l', rfl, h4, h5, h6⟩
  have hr : -1 ≤ sgn p * sgn d ∧ sgn p * sgn d ≤ 1 := ⟨hp.1, hp.2.1⟩
  refine pc_body1 true Tryz.func61 rfl rfl rfl (Nat.le_of_ble_eq_true rfl) CellT.tmp ?_
  refine goA ?_
  refine evG ggA (ss_call (InB_of rfl) rfl rfl (isign_p hI1 hk)) ?_
  refine goA ?_
  refine evG ggA (ss_call (InB_of rfl) rfl rfl (isign_p hI2 hk)) ?_
  refine evG ggA (ss_arith (InB_of rfl) rfl rfl (w64 (by omega) (by omega))) ?_
  refine goA ?_
  exact rfl
def ValidP (s : Int) (n : Nat) : Bool := decide (-100 ≤ s) && decide (s ≤ 1000) && decide ((n : Int) ≤ 1000 - s)
end Ab
namespace Ab
open Go Go.RowKit Go.Proofs Hp
set_option maxRecDepth 100000

/-- how many leading fractions are 0 -/
def lead : List Rat → Nat
  | [] => 0
  | q :: r => if q = 0 then lead r + 1 else 0
theorem lead_le : ∀ l, lead l ≤ l.length
  | [] => Nat.le_refl _
  | q :: r => by have := lead_le r; unfold lead; split <;> simp <;> omega
theorem lead_zero : ∀ (l : List Rat) (i : Nat), i < lead l → l[i]? = some 0
  | [], i, h => by simp [lead] at h
  | q :: r, i, h => by
    unfold lead at h
    split at h
    · rename_i hq
      rcases i with _ | i
      · simp [hq]
      · simpa using lead_zero r i (by omega)
    · omega
theorem lead_ne : ∀ (l : List Rat) (q : Rat), l[lead l]? = some q → q ≠ 0
  | [], q, h => by simp at h
  | p :: r, q, h => by
    unfold lead at h
    split at h
    · exact lead_ne r q (by simpa using h)
    · rename_i hp
      simp at h; subst h; exact hp
theorem lead_eq {l : List Rat} {k : Nat} (h0 : ∀ i, i < k → l[i]? = some 0) (h1 : ∀ q, l[k]? = some q → q ≠ 0) (hk : k ≤ l.length) : lead l = k := by
  have a := lead_le l
  rcases Nat.lt_trichotomy (lead l) k with h | h | h
  · exact absurd rfl (lead_ne l 0 (h0 _ h))
  · exact h
  · exact absurd rfl (h1 0 (lead_zero l k h))
def nfrom (s : Int) : Int := if s > 1000 then 1000 else s
def ncut (s : Int) (l : List Rat) : List Rat := if s > 1000 then [] else l.take (1000 - s).toNat
/-- a series normalized, or nothing -/
def nrm (s : Int) (l : List Rat) : Option (Int × List Rat) := if nfrom s + lead (ncut s l) < -100 then none else some (nfrom s + lead (ncut s l), (ncut s l).drop (lead (ncut s l)))
def serE : Option (Int × List Rat) → AV
  | none => .tup [serA 0 [], .p (.int .i64 2)]
  | some (s, l) => .tup [serA s (l.map encQ), .p (.int .i64 0)]
theorem IsL.take {k : Nat} (n : Nat) : ∀ {es : List AV} {l : List Rat}, IsL es k l → IsL (es.take n) k (l.take n) := fun {es l} h => by
  obtain ⟨h1, h2⟩ := h.get
  refine IsL.mk (by simp [h1]) fun i e q he hq => ?_
  have hi : i < n := by have := (List.getElem?_eq_some_iff.1 hq).1; simp at this; omega
  rw [List.getElem?_take_of_lt hi] at he hq
  obtain ⟨e', h3, h4⟩ := h2 i q hq
  rw [he] at h3; injection h3 with h3; subst h3; exact h4
theorem IsL.drop {k : Nat} (n : Nat) : ∀ {es : List AV} {l : List Rat}, IsL es k l → IsL (es.drop n) k (l.drop n) := fun {es l} h => by
  obtain ⟨h1, h2⟩ := h.get
  refine IsL.mk (by simp [h1]) fun i e q he hq => ?_
  rw [List.getElem?_drop] at he hq
  obtain ⟨e', h3, h4⟩ := h2 _ q hq
  rw [he] at h3; injection h3 with h3; subst h3; exact h4
theorem isL_cells {es : List AV} {k : Nat} {l : List Rat} (h : IsL es k l) : ∀ e, e ∈ es → e.cells.length = 4 := fun e he => by
  obtain ⟨i, hi⟩ := List.getElem?_of_mem he
  obtain ⟨h1, h2⟩ := h.get
  have hil : i < l.length := by rw [← h1]; exact (List.getElem?_eq_some_iff.1 hi).1
  obtain ⟨e', h3, h4⟩ := h2 i l[i] (by simp [hil])
  rw [hi] at h3; injection h3 with h3; subst h3
  obtain ⟨g, d, g', d', rfl⟩ := isV_cells h4
  rfl
/-- the element i of such a list -/
theorem IsL.at {es : List AV} {k : Nat} {l : List Rat} (h : IsL es k l) {i : Nat} (hi : i < es.length) : ∃ g ds g' ds' q, es[i]? = some (.agg [.p (.bool g), .sl ds, .p (.bool g'), .sl ds']) ∧ l[i]? = some q ∧ IsV (.agg [.p (.bool g), .sl ds, .p (.bool g'), .sl ds']) k q := by
  obtain ⟨h1, h2⟩ := h.get
  have hil : i < l.length := by omega
  obtain ⟨e, h3, h4⟩ := h2 i l[i] (by simp [hil])
  obtain ⟨g, d, g', d', rfl⟩ := isV_cells h4
  exact ⟨g, d, g', d', _, h3, by simp [hil], h4⟩
theorem encQ_cells (q : Rat) : (encQ q).cells.length = 4 := rfl
theorem encQ_nu (q : Rat) : ∀ c, c ∈ (encQ q).cells → c.nu = true := by
  intro c hc
  simp [encQ, AV.cells, ci] at hc
  rcases hc with rfl | rfl | rfl | rfl <;> rfl
theorem encs_cells (l : List Rat) : ∀ e, e ∈ l.map encQ → e.cells.length = 4 := by
  intro e he
  simp at he
  obtain ⟨q, -, rfl⟩ := he
  rfl
/-- append of one fraction -/
theorem ss_snoc {dm : Bool} {P : Program} {ops : Array Oper} {s : AS} {dst : Option Tmp} {ty : TypeId} {pos : String} {after : Array Edge} {g : Option (Nat × Bool)} {t e : TypeId} {bytes : Nat} {z : List Value} {y x : Operand} {id m : Nat} {l : List Rat} {q : Rat} (hin : InB s dst) (ht : MakeT P t e 4 bytes z) (hy : s.ev y = some (.own id m)) (hm : s.m id = some (.lst 4 e (l.map encQ))) (hlen : l.length = m) (hx : s.ev x = some (.v (.sl [encQ q])))
    (h63 : m + 1 ≤ 1000000) (hby : bytes ≤ 64) (hz : z.all nuV = true) :
    SStep dm P ops ⟨dst, .call ⟨.builtin .append, #[y, x], #[t, t]⟩, ty, pos, after, g⟩ s (.own id (m + 1)) (.set id (.lst 4 e ((l ++ [q]).map encQ))) := by
  have := ss_append (dm := dm) (P := P) (ops := ops) (dst := dst) (ty := ty) (pos := pos) (after := after) (g := g) hin ht hy hm (by simp [hlen]) hx (fun a ha => by simp at ha; subst ha; rfl) (by omega) (by simp [maxLen]; omega) (by simp; have := Nat.mul_le_mul_left (m + 1) hby; omega) (by simp [hz]) (fun _ a ha => by simp at ha; subst ha; exact encQ_nu q)
  rw [List.map_append]
  exact this
def sF : Option (Int × List Rat) → Int
  | none => 0
  | some (s, _) => s
def sL : Option (Int × List Rat) → List Rat
  | none => []
  | some (_, l) => l
def sE : Option (Int × List Rat) → Int
  | none => 2
  | some _ => 0
theorem serE_eq (x : Option (Int × List Rat)) : serE x = .tup [serA (sF x) ((sL x).map encQ), .p (.int .i64 (sE x))] := by
  rcases x with _ | ⟨s, l⟩ <;> rfl
theorem take_min {α : Type} (l : List α) (c : Int) (h : 0 ≤ c) : l.take (min (l.length : Int) c).toNat = l.take c.toNat := by
  by_cases h1 : (l.length : Int) ≤ c
  · rw [show (min (l.length : Int) c).toNat = l.length by omega, List.take_of_length_le (Nat.le_refl _), List.take_of_length_le (by omega)]
  · rw [show (min (l.length : Int) c).toNat = c.toNat by omega]
/-- the zero value of a fraction -/
def rz : AV := .agg [.p (.bool false), .sl [], .p (.bool false), .sl []]
theorem isV_rz (k : Nat) : IsV rz k 0 := ⟨_, _, 0, 0, rfl, ⟨false, [], rfl, fun d h => by simp at h, Nat.zero_le _, rfl⟩, ⟨false, [], rfl, fun d h => by simp at h, Nat.zero_le _, rfl⟩, by simp⟩
abbrev var0 : Blk := .var [.v (.p (.int .i64 0)), .v (.p nilV)]
theorem take_succ {α : Type} {l : List α} {j : Nat} {q : α} (h : l[j]? = some q) : l.take (j + 1) = l.take j ++ [q] := by
  have hj := (List.getElem?_eq_some_iff.1 h).1
  rw [List.take_succ_eq_append_getElem hj]
  congr
  rw [List.getElem?_eq_getElem hj] at h
  injection h
end Ab
namespace Ab
open Go Go.RowKit Go.Proofs Hp
set_option maxRecDepth 100000

/-- the coefficient of an exponent -/
def cf (s : Int) (l : List Rat) (m : Int) : Rat := if m < s then 0 else l.getD (m - s).toNat 0
/-- what at hands back: the element as it is, or the fraction 0 -/
def atV (s : Int) (es : List AV) (m : Int) : AV := if m < s then encQ 0 else es.getD (m - s).toNat (encQ 0)
theorem ht0 {k : Nat} (hk : 1 ≤ k) : Ht 0 k := by
  have h1 : pw 1 ≤ pw k := pw_le 1 k hk
  have e : pw 1 = 4294967296 := by decide
  exact ⟨by have := pw_pos k; simpa using this, by show (1 : Int) < _; omega⟩
theorem ht_int {c : Int} (h : c.natAbs < 4294967296) : Ht (c : Rat) 1 := by
  have e : pw 1 = 4294967296 := by decide
  refine ⟨?_, ?_⟩
  · rw [Rat.num_intCast, e]; omega
  · rw [Rat.den_intCast, e]; decide
theorem isV_at {s : Int} {es : List AV} {l : List Rat} {K : Nat} (h : IsL es K l) (hK : 1 ≤ K) (m : Int) : IsV (atV s es m) K (cf s l m) := by
  unfold atV cf
  split
  · exact isV_encQ (ht0 hK)
  · obtain ⟨h1, h2⟩ := h.get
    by_cases hi : (m - s).toNat < l.length
    · obtain ⟨e, h3, h4⟩ := h2 _ l[(m - s).toNat] (List.getElem?_eq_getElem hi)
      rw [List.getD_eq_getElem?_getD, List.getD_eq_getElem?_getD, h3, List.getElem?_eq_getElem hi]
      exact h4
    · rw [List.getD_eq_getElem?_getD, List.getD_eq_getElem?_getD, List.getElem?_eq_none (by omega), List.getElem?_eq_none (by omega)]
      exact isV_encQ (ht0 hK)
theorem isV_lit {a : AV} {k : Nat} {q : Rat} (h : IsV a k q) : ∃ l, a = .agg l ∧ l.length = 4 ∧ pureCells (l.map .v) = some l := by
  obtain ⟨g, d, g', d', rfl⟩ := isV_cells h
  exact ⟨_, rfl, rfl, rfl⟩
theorem nrm_valid {s : Int} {l : List Rat} (h0 : -100 ≤ s) (h1 : s ≤ 1000) (h2 : (l.length : Int) ≤ 1000 - s) : nrm s l = some (s + lead l, l.drop (lead l)) := by
  have e1 : nfrom s = s := by unfold nfrom; rw [if_neg (by omega)]
  have e2 : ncut s l = l := by unfold ncut; rw [if_neg (by omega), List.take_of_length_le (by omega)]
  unfold nrm
  rw [e1, e2, if_neg (by omega)]
theorem valid_iff {s : Int} {n : Nat} : ValidP s n = true ↔ -100 ≤ s ∧ s ≤ 1000 ∧ (n : Int) ≤ 1000 - s := by unfold ValidP; simp [and_assoc]
def tk (f : Nat → Rat) (j : Nat) : List Rat := (List.range j).map f
theorem tk_succ (f : Nat → Rat) (j : Nat) : tk f (j + 1) = tk f j ++ [f j] := by simp [tk, List.range_succ]
@[simp] theorem tk_len (f : Nat → Rat) (j : Nat) : (tk f j).length = j := by simp [tk]
theorem tk_mem {f : Nat → Rat} {j : Nat} {q : Rat} (h : q ∈ tk f j) : ∃ i, i < j ∧ q = f i := by
  simp [tk] at h
  obtain ⟨i, h1, h2⟩ := h
  exact ⟨i, h1, h2.symm⟩
/-- where a sum ends and begins -/
def cp (s : Int) (n : Nat) (t : Int) (m : Nat) : Int := min (s + n) (t + m)
def cfr (s : Int) (n : Nat) (t : Int) (m : Nat) : Int := min (min s t) (cp s n t m)
def comb (s : Int) (l : List Rat) (t : Int) (m : List Rat) (c : Int) (i : Nat) : Rat := cf s l (cfr s l.length t m.length + i) + c * cf t m (cfr s l.length t m.length + i)
def combR (s : Int) (l : List Rat) (t : Int) (m : List Rat) (c : Int) : Option (Int × List Rat) :=
  if ValidP s l.length && ValidP t m.length then nrm (cfr s l.length t m.length) (tk (comb s l t m c) (cp s l.length t m.length - cfr s l.length t m.length).toNat) else none
theorem ht_cf {s : Int} {l : List Rat} {K : Nat} (hK : 1 ≤ K) (h : ∀ q, q ∈ l → Ht q K) (m : Int) : Ht (cf s l m) K := by
  unfold cf
  split
  · exact ht0 hK
  · rw [List.getD_eq_getElem?_getD]
    cases hq : l[(m - s).toNat]? with
    | none => exact ht0 hK
    | some q => exact h q (List.mem_of_getElem? hq)
theorem isL_ht {es : List AV} {l : List Rat} {K : Nat} (h : IsL es K l) (hK : 1 ≤ K) : ∀ q, q ∈ l → Ht q K := fun q hq => by
  obtain ⟨i, hi⟩ := List.getElem?_of_mem hq
  obtain ⟨e, -, h2⟩ := h.get.2 i q hi
  exact isV_ht h2 hK
theorem ht_comb {s t : Int} {l m : List Rat} {c : Int} {K : Nat} (hK : 1 ≤ K) (hl : ∀ q, q ∈ l → Ht q K) (hm : ∀ q, q ∈ m → Ht q K) (hc : c.natAbs < 4294967296) (i : Nat) : Ht (comb s l t m c i) (2 * K + 2) :=
  (ht_add (ht_cf hK hl _) (ht_mul (ht_int hc) (ht_cf hK hm _) (Nat.le_refl _))).mono (by omega)
end Ab
namespace Ab
open Go Go.RowKit Go.Proofs Hp
set_option maxRecDepth 100000

/-- a fraction as it lies: signs and digits -/
abbrev RQ := (Bool × List Int) × (Bool × List Int)
def rawI (r : Bool × List Int) : AV := .agg [.p (.bool r.1), .sl (r.2.map u32)]
def rawA (r : RQ) : AV := .agg [.p (.bool r.1.1), .sl (r.1.2.map u32), .p (.bool r.2.1), .sl (r.2.2.map u32)]
def ri (z : Int) : Bool × List Int := (decide (z < 0), dgs z.natAbs)
def rq (q : Rat) : RQ := (ri q.num, ri q.den)
theorem encQ_raw (q : Rat) : encQ q = rawA (rq q) := rfl
theorem encI_raw (z : Int) : encI z = rawI (ri z) := rfl
theorem encs_raw (l : List Rat) : l.map encQ = (l.map rq).map rawA := by rw [List.map_map]; rfl
theorem ri_inj {x y : Int} (h : ri x = ri y) : x = y := by
  simp only [ri, Prod.mk.injEq, decide_eq_decide] at h
  obtain ⟨h1, h2⟩ := h
  have h3 : (x.natAbs : Int) = y.natAbs := by rw [← dgs_vl, ← dgs_vl, h2]
  omega
theorem rq_inj {x y : Rat} (h : rq x = rq y) : x = y := by
  simp only [rq, Prod.mk.injEq] at h
  have h1 := ri_inj h.1
  have h2 := ri_inj h.2
  rw [← Rat.num_divInt_den x, ← Rat.num_divInt_den y, h1, h2]
theorem rqs_inj : ∀ {l m : List Rat}, l.map rq = m.map rq → l = m
  | [], [], _ => rfl
  | [], _ :: _, h => by simp at h
  | _ :: _, [], h => by simp at h
  | x :: l, y :: m, h => by
    simp only [List.map_cons, List.cons.injEq] at h
    rw [rq_inj h.1, rqs_inj h.2]
theorem u32_at {ds : List Int} {i : Nat} {d : Int} (h : ds[i]? = some d) : (ds.map u32)[i]? = some (.p (.int .u32 d)) := by rw [List.getElem?_map, h]; rfl
set_option maxHeartbeats 1000000 in
theorem sameInt_p (r q : Bool × List Int) (hr : r.2.length ≤ 4611686018427387904) : PC Tryz.prog 71 [rawI r, rawI q] (.p (.bool (decide (r = q)))) := by
  obtain ⟨g, ds⟩ := r
  obtain ⟨g', es⟩ := q
  have hr : ds.length ≤ 4611686018427387904 := hr
  by_cases h1 : g = g'
  · subst h1
    have hb1 : (!(g == g)) = false := by simp
    by_cases h2 : ds.length = es.length
    · have hb2 : (((ds.map u32).length : Int) != ((es.map u32).length : Int)) = false := by simp [h2]
      refine pc_body1 false Tryz.func71 rfl rfl rfl (Nat.le_of_ble_eq_true rfl) CellT.tmp ?_
      refine r1A ?_
      refine T.seqI (fun s1 => s1 = mkS [(2, .ptr 2 0), (3, .ptr 3 0)] [(2, .var [.v (.p (.bool g)), .v (.sl (ds.map u32))]), (3, .var [.v (.p (.bool g)), .v (.sl (es.map u32))])] 38 false) ?_ ?_
      · refine goA ?_
        exact midQ_intro (by exact entA) rfl
      rintro _ rfl
      refine T.seqI (fun s1 => ds = es ∧ s1 = mkS [] [] 38 false) ?_ ?_
      · refine r1A ?_
        refine T.block ?_
        refine T.loop (fun n s1 => ∃ k : Nat, n = ds.length - k ∧ k ≤ ds.length ∧ (∀ i, i < k → ds[i]? = es[i]?) ∧ s1 = mkS [(5, .v (.p (.int .i64 k))), (2, .ptr 2 0), (3, .ptr 3 0)] [(2, .var [.v (.p (.bool g)), .v (.sl (ds.map u32))]), (3, .var [.v (.p (.bool g)), .v (.sl (es.map u32))])] 38 false) ds.length
          (s' := mkS [(5, .v (.p (.int .i64 (0 : Nat)))), (2, .ptr 2 0), (3, .ptr 3 0)] [(2, .var [.v (.p (.bool g)), .v (.sl (ds.map u32))]), (3, .var [.v (.p (.bool g)), .v (.sl (es.map u32))])] 38 false) (by exact entA) ⟨0, rfl, Nat.zero_le _, fun i hi => absurd hi (Nat.not_lt_zero _), rfl⟩ ?_
        rintro n _ ⟨k, rfl, hk, hz, rfl⟩
        by_cases hlt : k < ds.length
        · have hb : decide ((k : Int) < ((ds.map u32).length : Int)) = true := by simp; omega
          have e1 : ds[k]? = some ds[k] := List.getElem?_eq_getElem hlt
          have e2 : es[k]? = some es[k] := List.getElem?_eq_getElem (by omega)
          have e3 := u32_at e1
          have e4 := u32_at e2
          refine goA ?_
          refine evG ggA (ss_index_sl (InB_of rfl) (elem_tab rfl) rfl rfl (by omega) e3 rfl) ?_
          refine goA ?_
          refine evG ggA (ss_index_sl (InB_of rfl) (elem_tab rfl) rfl rfl (by omega) e4 rfl) ?_
          by_cases hd : ds[k] = es[k]
          · have hb3 : (ds[k] != es[k]) = false := by simp [hd]
            refine goA ?_
            refine loopQ_intro (k := ds.length - (k + 1)) (s' := mkS [(5, .v (.p (.int .i64 ((k : Int) + 1)))), (2, .ptr 2 0), (3, .ptr 3 0)] [(2, .var [.v (.p (.bool g)), .v (.sl (ds.map u32))]), (3, .var [.v (.p (.bool g)), .v (.sl (es.map u32))])] 38 false) (by omega) (by exact entA) ⟨k + 1, rfl, hlt, fun i hi => ?_, by simp⟩
            by_cases hik : i = k
            · subst hik; rw [e1, e2, hd]
            · exact hz i (by omega)
          · have hb3 : (ds[k] != es[k]) = true := by simp [hd]
            have hne : decide ((g, ds) = (g, es)) = false := by
              simp only [Prod.mk.injEq, true_and, decide_eq_false_iff_not]
              intro e; subst e; exact hd rfl
            rw [hne]
            refine goA ?_
            exact rfl
        · have hb : decide ((k : Int) < ((ds.map u32).length : Int)) = false := by simp; omega
          have hde : ds = es := by
            apply List.ext_getElem?
            intro i
            by_cases hi : i < k
            · exact hz i hi
            · rw [List.getElem?_eq_none (by omega), List.getElem?_eq_none (by omega)]
          refine goA ?_
          exact midQ_intro (s' := mkS [] [] 38 false) (by exact entA) ⟨hde, rfl⟩
      rintro _ ⟨rfl, rfl⟩
      have hne : decide ((g, ds) = (g, ds)) = true := by simp
      rw [hne]
      refine goA ?_
      exact rfl
    · have hb2 : (((ds.map u32).length : Int) != ((es.map u32).length : Int)) = true := by simp; omega
      have hne : decide ((g, ds) = (g, es)) = false := by
        simp only [Prod.mk.injEq, true_and, decide_eq_false_iff_not]
        intro e; subst e; exact h2 rfl
      rw [hne]
      refine pc_body1 false Tryz.func71 rfl rfl rfl (Nat.le_of_ble_eq_true rfl) CellT.tmp ?_
      refine goA ?_
      exact rfl
  · have hb1 : (!(g == g')) = true := by simp [h1]
    have hne : decide ((g, ds) = (g', es)) = false := by
      simp only [Prod.mk.injEq, decide_eq_false_iff_not]
      exact fun e => h1 e.1
    rw [hne]
    refine pc_body1 false Tryz.func71 rfl rfl rfl (Nat.le_of_ble_eq_true rfl) CellT.tmp ?_
    refine goA ?_
    exact rfl
theorem sameRat_p (r q : RQ) (h1 : r.1.2.length ≤ 4611686018427387904) (h2 : r.2.2.length ≤ 4611686018427387904) : PC Tryz.prog 53 [rawA r, rawA q] (.p (.bool (decide (r = q)))) := by
  obtain ⟨⟨g, ds⟩, ⟨g', ds'⟩⟩ := r
  obtain ⟨⟨k, es⟩, ⟨k', es'⟩⟩ := q
  have c1 := sameInt_p (g, ds) (k, es) h1
  have c2 := sameInt_p (g', ds') (k', es') h2
  cases hd : decide ((g, ds) = (k, es)) with
  | false =>
    rw [hd] at c1
    have e : decide (((g, ds), (g', ds')) = ((k, es), (k', es'))) = false := by
      simp only [decide_eq_false_iff_not, Prod.mk.injEq] at hd ⊢
      exact fun h => hd h.1
    rw [e]
    refine pc_body1 true Tryz.func53 rfl rfl rfl (Nat.le_of_ble_eq_true rfl) CellT.tmp ?_
    refine goA ?_
    refine evG ggA (ss_call (InB_of rfl) rfl rfl c1) ?_
    refine goA ?_
    exact rfl
  | true =>
    rw [hd] at c1
    have e : decide (((g, ds), (g', ds')) = ((k, es), (k', es'))) = decide ((g', ds') = (k', es')) := by
      have hd := of_decide_eq_true hd
      rw [hd]
      simp
    rw [e]
    refine pc_body1 true Tryz.func53 rfl rfl rfl (Nat.le_of_ble_eq_true rfl) CellT.tmp ?_
    refine goA ?_
    refine evG ggA (ss_call (InB_of rfl) rfl rfl c1) ?_
    refine goA ?_
    refine evG ggA (ss_call (InB_of rfl) rfl rfl c2) ?_
    refine goA ?_
    exact rfl
/-- no number of more than k digits -/
def Small (k : Nat) (R : List RQ) : Prop := ∀ r, r ∈ R → r.1.2.length ≤ k ∧ r.2.2.length ≤ k
def serR (s : Int) (R : List RQ) : AV := serA s (R.map rawA)
end Ab
namespace Ab
open Go Go.RowKit Go.Proofs Hp
set_option maxRecDepth 100000

structure InR (s : Int) (n : Nat) : Prop where
  lo : -9223372036854775808 ≤ s
  hi : s ≤ 9223372036854775807
  len : n ≤ 9223372036854775807
/-- both valid: then their coefficients are lists of small fractions -/
def Both (s : Int) (es : List AV) (t : Int) (fs : List AV) (K : Nat) (l m : List Rat) : Prop := (ValidP s es.length = true → ValidP t fs.length = true → IsL es K l ∧ IsL fs K m) ∧ es.length = l.length ∧ fs.length = m.length ∧ InR s es.length ∧ InR t fs.length
/-- the first j from j on, of n, at which P holds -/
def fst (P : Nat → Bool) : Nat → Nat → Option Nat
  | 0, _ => none
  | n + 1, j => if P j then some j else fst P n (j + 1)
def difP (s : Int) (l : List Rat) (t : Int) (m : List Rat) (i : Nat) : Bool := decide (cf s l (min s t + i) ≠ cf t m (min s t + i))
def difN (s : Int) (n : Nat) (t : Int) (m : Nat) : Nat := (min (s + n) (t + m) - min s t).toNat
/-- where two series differ -/
def difR (s : Int) (l : List Rat) (t : Int) (m : List Rat) : Int × Bool × Int :=
  if ValidP s l.length && ValidP t m.length then (match fst (difP s l t m) (difN s l.length t m.length) 0 with | some j => (min s t + j, true, 0) | none => (min (s + l.length) (t + m.length), false, 0)) else (0, false, 2)
def tup3 (x : Int × Bool × Int) : AV := .tup [.p (.int .i64 x.1), .p (.bool x.2.1), .p (.int .i64 x.2.2)]
def thL (s : Int) (l : List Rat) : List Rat := tk (fun i => ((s + i : Int) : Rat) * l.getD i 0) l.length
def thR (s : Int) (l : List Rat) : Option (Int × List Rat) := if ValidP s l.length then nrm s (thL s l) else none
end Ab
