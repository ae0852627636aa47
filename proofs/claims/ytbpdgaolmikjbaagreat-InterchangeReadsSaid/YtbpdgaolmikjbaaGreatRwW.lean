/- A text appended to a list of bytes of the call's own. The document's writers: numbers, texts, integers (printed by tools/gen_rw.py). The document's writers: fractions, lists, expressions (printed by tools/gen_rw.py). The document's writers: certificates, spaces; how large expressions are (printed by tools/gen_rw.py). The document's list of all expressions, its sum of the call's own list (printed by tools/gen_rw.py). The document's Encode (printed by tools/gen_rw.py). -/
import Derived.Test.YtbpdgaolmikjbaaGreatEnP
import Derived.Lib.AppendStr
import Derived.Test.YtbpdgaolmikjbaaGreatRfW
import Derived.Test.YtbpdgaolmikjbaaGreatPl
set_option linter.all false
namespace Ab
open Go Go.RowKit Go.Proofs
set_option maxRecDepth 100000
section
variable {dm : Bool} {P : Program} {ops : Array Oper} {s : AS} {dst : Option Tmp} {ty : TypeId} {pos : String} {after : Array Edge} {g : Option (Nat × Bool)}
theorem ss_append_str {t u e : TypeId} {bytes : Nat} {z : List Value} {y x : Operand} {id m : Nat} {es : List AV} {sb : ByteArray} (hin : InB s dst) (ht : Zek P t e 1 bytes z) (htu : P.underlying u = some .string) (hy : s.ev y = some (.own id m)) (hm : s.m id = some (.lst 1 e es)) (hlen : es.length = m) (hx : s.ev x = some (.v (.p (.string sb))))
  (h63 : m + (Zds sb).length ≤ maxLen) (hby : (m + (Zds sb).length) * bytes ≤ 140737488355328) (hz : (!s.nd || z.all nuV) = true) :
  Zbg dm P ops ⟨dst, .call ⟨.builtin .append, #[y, x], #[t, u]⟩, ty, pos, after, g⟩ s (.own id (m + (Zds sb).length)) (.set id (.lst 1 e (es ++ Zds sb))) := by
 obtain ⟨xs, hxs0⟩ : ∃ xs, xs = Zds sb := ⟨_, rfl⟩
 obtain ⟨n, hn1⟩ : ∃ n : Nat, n = 1 := ⟨1, rfl⟩
 rw [← hxs0] at h63 hby ⊢
 rw [← hn1] at ht hm ⊢
 have hn0 : 0 < n := by omega
 refine ss_set hin rfl (fun y' h => by injection h with h; subst h; rw [hy]; exact rfl) rfl ⟨_, hm⟩ fun s' hag w0 M0 ρ a w hM hr => ?_
 have hm' := hag.ms y rfl id (by rw [hy]; exact rfl) _ hm
 obtain ⟨h1, i, zv, h2, h3, h4, h5, h6, h7⟩ := ht
 obtain ⟨sz', et', es', g1, g2, -, g3⟩ := hr.ev ((hag.ev (by simp [Op.operands, Call.operands])).trans hy)
 rw [hm'] at g1
 injection g1 with g1
 injection g1 with e1 e2 e3
 subst e1 e2 e3
 have k1 := Rep.p_inv (hr.ev ((hag.ev (by simp [Op.operands, Call.operands])).trans hx))
 have hszs : xs.length = sb.size := by rw [hxs0]; unfold Zds; rw [List.length_map, Array.length_toList]; rfl
 have hexec : ∀ (uu : Value) w', (Builtin.append_ #[t, u] ty #[a.eval y, a.eval x]).run P w = .ok uu w' → (execOp a.eval ⟨dst, .call ⟨.builtin .append, #[y, x], #[t, u]⟩, ty, pos, after, g⟩).run P w = .ok (.value uu) w' := by
  intro uu w' h
  simp only [execOp, resolve, invoke, builtin, Sem.run_bind, Sem.run_pure, Result.andThen_ok, List.map_toArray, List.map_cons, List.map_nil, h]
 have hzs : zv.cells.size = n := by rw [← Array.length_toList, h6, h7]
 obtain ⟨news, hnw⟩ : ∃ news, news = Lib.strCells sb := ⟨_, rfl⟩
 have k2 : news.length = xs.length * n := by rw [hnw, Lib.strCells_length, hszs, hn1, Nat.mul_one]
 have k5 : ∀ u, u ∈ news → u.oneCell' = true := by rw [hnw]; exact Lib.strCells_oneCell sb
 have k4 : Zcj w (MM M0 ρ s'.m) n xs (fun k => news[k]?) := by
  intro q x hq
  rw [hxs0] at hq
  unfold Zds at hq
  rw [List.getElem?_map, Option.map_eq_some_iff] at hq
  obtain ⟨c, hc, rfl⟩ := hq
  refine ⟨by rw [hn1]; rfl, fun j cc hj => ?_⟩
  rcases j with _ | j
  ·have : cc = bV c.toNat := by
    have h : (some (bV c.toNat) : Option AV) = some cc := hj
    injection h with h; exact h.symm
   subst this
   refine ⟨rfl, .int .u8 c.toNat, ?_, .p _ rfl⟩
   show news[q * n + 0]? = _
   rw [hnw, hn1, Nat.mul_one, Nat.add_zero]
   unfold Lib.strCells
   rw [List.getElem?_map, hc]; rfl
  ·cases hj
 have hlx : (es ++ xs).length = m + xs.length := by simp [hlen]
 have hmove : ∀ r, (m + xs.length ≠ m) → ∀ sz ty0 es0, Blk.lst n e es = .lst sz ty0 es0 → ∃ es', Blk.lst n e (es ++ xs) = .lst sz ty0 es' ∧ (es'.length = es0.length → r = ρ id) ∧ es0.length ≤ es'.length := by
  intro r hne sz ty0 es0 e
  injection e with e1 e2 e3
  subst e1 e2 e3
  exact ⟨_, rfl, fun h => by rw [hlx, hlen] at h; exact absurd h hne, by rw [hlx]; omega⟩
 have hsz : i.size = n := h3
 -- where the result lies
 have newrow : ∀ (w' : World) (A C : List Value) (cap : Nat) (row : Array Value), 0 < xs.length → w' = w.drew.alloc (.cells (A ++ (news ++ C)).toArray e) → m + xs.length ≤ cap → cap ≤ maxLen → (A ++ (news ++ C)).length = cap * n → A.length = es.length * n → (∀ k, k < es.length * n → A[k]? = row[k]?) →
   Zcj w (MM M0 ρ s'.m) n es (fun k => row[k]?) → (s.nd = true → ∀ u, u ∈ A ++ (news ++ C) → ∀ d, u ≠ Value.int .u32 d) →
   (Builtin.append_ #[t, u] ty #[a.eval y, a.eval x]).run P w = .ok (.slice (some ⟨w.heap.size, 0, none⟩) (m + xs.length) cap) w' →
   ∃ v w' ρ', (execOp a.eval ⟨dst, .call ⟨.builtin .append, #[y, x], #[t, u]⟩, ty, pos, after, g⟩).run P w = .ok (.value v) w' ∧ RelR w0 M0 ρ' { s' with m := upd s'.m id (.lst n e (es ++ xs)) } a w' ∧ TRep w' (MM M0 ρ' (upd s'.m id (.lst n e (es ++ xs)))) ρ' (upd s'.m id (.lst n e (es ++ xs))) (.own id (m + xs.length)) v := by
  rintro w' A C cap row q0 rfl q1 q2 q3 q4 q5 q6 q7 q8
  have hb : Below w.heap.size w (w.drew.alloc (.cells (A ++ (news ++ C)).toArray e)) := (Below.refl _ _).drew.alloc (Nat.le_refl _) _
  refine ⟨_, _, _, hexec _ _ q8, hr.set (y := .lst n e (es ++ xs)) (r := some (w.heap.size, cap)) hM hm' hb.size (fun b hbl _ => hb.block b hbl) rfl rfl rfl ?_ (fun cs e => by cases e) (hmove _ (by omega)) (fun M' m' hk hmv hM' => ?_), ?_⟩
  ·rintro b k e; injection e with e; injection e with e1 e2; subst e1; exact .inr ⟨Nat.le_refl _, by simp⟩
  ·refine .inr ⟨w.heap.size, cap, _, beq_ite, heap_alloc_new w.drew _, by rw [hlx]; exact q1, q2, by rw [List.size_toArray]; exact q3, ?_, fun hnd => Zfd ?_⟩
   ·exact Zcj.app (q6.mono hk hM') (k4.mono hk hM') q4 q5
   ·exact q7 (by rw [← hag.nd]; exact hnd)
  ·exact ⟨n, e, es ++ xs, Za6 _ _ _, by rw [hlx]; exact Nat.le_refl _, ⟨_, _, _, rfl⟩, fun _ => .inr ⟨_, _, beq_ite, rfl⟩⟩
 have hz1 : ∀ k, (Builtin.zeroCells zv.cells k).toList.length = k * n := fun k => by simp [size_zeroCells, hzs]
 have hrl : ∀ (row : Array Value) (cap : Nat), row.size = cap * n → row.toList.length = cap * n := fun row cap h => by simp [h]
 have hznu : s.nd = true → zv.cells.toList.all nuV = true := fun hnd => by rw [h6]; rw [hnd] at hz; simpa using hz
 have hnewnu : s.nd = true → ∀ u, u ∈ news → ∀ d, u ≠ Value.int .u32 d := fun _ u hu d e => by
  rw [hnw] at hu
  obtain ⟨c, -, rfl⟩ := List.mem_map.1 hu
  cases e
 rcases g3 hlen with ⟨c1, c2, c3⟩ | ⟨b, cap, c1, c2⟩
 ·subst c2
  have hes : es = [] := List.eq_nil_of_length_eq_zero hlen
  rw [Nat.zero_add] at hby h63
  by_cases hzz : xs.length = 0
  ·have hxe : xs = [] := List.eq_nil_of_length_eq_zero hzz
   have hself : ({ s' with m := upd s'.m id (.lst n e (es ++ xs)) } : AS) = s' := by
    have : upd s'.m id (.lst n e (es ++ xs)) = s'.m := by
     funext j
     by_cases hj : id = j
     ·subst hj; rw [Za6, hxe, List.append_nil, hm']
     ·rw [Za7 _ _ hj]
    rw [this]
   have hself2 : upd s'.m id (.lst n e (es ++ xs)) = s'.m := congrArg AS.m hself
   refine ⟨a.eval y, w, ρ, hexec _ _ ?_, by rw [hself]; exact hr, by rw [hself2, hzz]; exact hr.ev ((hag.ev (by simp [Op.operands, Call.operands])).trans hy)⟩
   have hs0 : sb.size = 0 := by omega
   have hf := Lib.run_firstCells_string (P := P) w i.size sb
   rw [hs0] at hf
   rw [c3, k1]
   simp [Builtin.append_, run_underlying h1, run_underlying htu, Go.sizeOf, typeInfo, h2, Builtin.lenOf, hs0, hf]
  have hrun := run_append_nil_string (P := P) w t u ty e i zv h1 htu h2 h5 sb (by omega) (by unfold maxLen at h63; omega) (by rw [h4, ← hszs]; omega)
  have e1 : (sb.data.map fun b => Value.int .u8 b.toNat) = news.toArray := by
   rw [hnw]
   apply Array.ext'
   simp [Lib.strCells]
  rw [e1, ← hszs] at hrun
  have hge := grownCap_ge w xs.length 0 e
  have harr : news.toArray ++ Builtin.zeroCells zv.cells (grownCap w xs.length 0 e - xs.length) = (([] : List Value) ++ (news ++ (Builtin.zeroCells zv.cells (grownCap w xs.length 0 e - xs.length)).toList)).toArray := by apply Array.ext'; simp
  rw [harr] at hrun
  refine newrow _ [] (Builtin.zeroCells zv.cells (grownCap w xs.length 0 e - xs.length)).toList (grownCap w xs.length 0 e) #[] (by omega) rfl (by omega) (grownCap_le_maxLen w xs.length 0 e (by omega)) ?_ (by rw [hes]; simp) (fun k hk => by rw [hes] at hk; simp at hk) (by rw [hes]; intro q e he; simp at he) (fun hnd u hu => ?_) ?_
  ·rw [List.nil_append, List.length_append, k2, hz1, ← Nat.add_mul]
   congr 1; omega
  ·simp only [List.nil_append, List.mem_append] at hu
   rcases hu with hu | hu
   ·exact hnewnu hnd u hu
   ·exact zero_nu (hznu hnd) (by omega) u hu
  ·rw [c3, k1, hrun, Nat.zero_add]
 ·rcases hr.slots id _ hm' with ⟨d1, -⟩ | ⟨b', cap2, row, d1, d2, d3, d4, d5, d6, d7⟩
  ·rw [c1] at d1; cases d1
  rw [c1] at d1; injection d1 with d1; injection d1 with e1 e2; subst e1 e2
  by_cases hroom : m + xs.length ≤ cap
  ·have hfit : m * n + news.length ≤ row.toList.length := by
    rw [k2, hrl row cap d5, ← Nat.add_mul]; exact Nat.mul_le_mul_right _ hroom
   have hrun := Lib.run_append_room_string (P := P) w t u ty e i h1 htu h2 (by rw [hsz, hn1]) b m cap row d2 sb (by omega) (by have := hrl row cap d5; rw [Array.length_toList, hn1, Nat.mul_one] at this; omega)
   have hm1 : m * n = m := by rw [hn1, Nat.mul_one]
   have hl1 : m * n + news.length = m + xs.length := by rw [hm1, k2, hn1, Nat.mul_one]
   rw [← hszs, ← hnw, show row.toList.take m ++ news ++ row.toList.drop (m + xs.length) = row.toList.take (m * n) ++ news ++ row.toList.drop (m * n + news.length) by rw [hl1, hm1]] at hrun
   refine ⟨_, _, _, hexec _ _ (by rw [c2, k1]; exact hrun), hr.set (y := .lst n e (es ++ xs)) (r := some (b, cap)) hM hm' (by simp) (fun c hc hne => setRow_other w b c _ (fun e => hne cap (by rw [c1, e]))) rfl rfl rfl ?_ (fun cs e => by cases e) (fun sz ty0 es0 e => ?_) (fun M' m' hk hmv hM' => ?_), ?_⟩
   ·rintro b' k e; injection e with e; injection e with e1 e2; subst e1; exact .inl ⟨cap, c1⟩
   ·injection e with e1 e2 e3
    subst e1 e2 e3
    exact ⟨_, rfl, fun _ => c1.symm, by rw [hlx]; omega⟩
   ·refine .inr ⟨b, cap, _, beq_ite, setRow_heap w b row _ _ _ d2, by rw [hlx]; exact hroom, d4, ?_, ?_, fun hnd => Zfd fun u hu => ?_⟩
    ·rw [List.size_toArray, Zdh hfit, hrl row cap d5]
    ·have hA : (row.toList.take (m * n)).length = es.length * n := by rw [List.length_take, hrl row cap d5, hlen]; have := Nat.mul_le_mul_right n (show m ≤ cap by omega); omega
     have := Zcj.app (C := row.toList.drop (m * n + news.length)) (Zcj.mono (show Zcj w (MM M0 ρ s'.m) n es (fun k => row[k]?) from d6) hk hM') (k4.mono hk hM') hA (fun k hk => by rw [List.getElem?_take_of_lt (by rw [← hlen]; exact hk), Array.getElem?_toList])
     rw [← List.append_assoc] at this
     exact this
    ·rw [hag.nd] at hnd
     have hold := of_noDg (d7 (by rw [hag.nd]; exact hnd))
     simp only [List.mem_append] at hu
     rcases hu with (hu | hu) | hu
     ·exact hold u (List.mem_of_mem_take hu)
     ·exact hnewnu hnd u hu
     ·exact hold u (List.mem_of_mem_drop hu)
   ·exact ⟨n, e, es ++ xs, Za6 _ _ _, by rw [hlx]; exact Nat.le_refl _, ⟨_, _, _, rfl⟩, fun _ => .inr ⟨b, cap, beq_ite, rfl⟩⟩
  ·have hmc : m * n ≤ row.toList.length := by rw [hrl row cap d5]; exact Nat.mul_le_mul_right n (show m ≤ cap by omega)
   have hA : (row.toList.take (m * n)).length = m * n := by rw [List.length_take]; omega
   have holds : ∀ (j : Nat) v, (row.toList.take (m * n))[j]? = some v → w.cell? ((⟨b, 0, none⟩ : Addr).add j) = some v := fun j v hj => by
    have hjl : j < m * n := by rw [← hA]; exact (List.getElem?_eq_some_iff.1 hj).1
    rw [List.getElem?_take_of_lt hjl, Array.getElem?_toList] at hj
    rw [addr_add, Nat.zero_add]
    simp [World.cell?, d2, hj]
   have hrun := Lib.run_append_grow_string (P := P) w t u ty e i zv h1 htu h2 h5 ⟨b, 0, none⟩ m cap (row.toList.take (m * n)) (by rw [hsz]; exact hA) holds sb (by omega) (by unfold maxLen at h63; omega) (growslice_fits (by omega) (by rw [h4, ← hszs]; exact hby))
   rw [← hszs, ← hnw] at hrun
   have hge := grownCap_ge w (m + xs.length) cap e
   have harr : (row.toList.take (m * n)).toArray ++ news.toArray ++ Builtin.zeroCells zv.cells (grownCap w (m + xs.length) cap e - (m + xs.length)) = (row.toList.take (m * n) ++ (news ++ (Builtin.zeroCells zv.cells (grownCap w (m + xs.length) cap e - (m + xs.length))).toList)).toArray := by apply Array.ext'; simp [List.append_assoc]
   rw [harr] at hrun
   refine newrow _ (row.toList.take (m * n)) (Builtin.zeroCells zv.cells (grownCap w (m + xs.length) cap e - (m + xs.length))).toList (grownCap w (m + xs.length) cap e) row (by omega) rfl hge (grownCap_le_maxLen w (m + xs.length) cap e h63) ?_ (by rw [hlen]; exact hA) (fun k hk => by rw [List.getElem?_take_of_lt (by rw [← hlen]; exact hk), Array.getElem?_toList]) d6 (fun hnd u hu => ?_) (by rw [c2, k1]; exact hrun)
   ·rw [List.length_append, List.length_append, hA, k2, hz1, ← Nat.add_mul, ← Nat.add_mul]
    congr 1; omega
   ·simp only [List.mem_append] at hu
    rcases hu with hu | hu | hu
    ·exact of_noDg (d7 (by rw [hag.nd]; exact hnd)) u (List.mem_of_mem_take hu)
    ·exact hnewnu hnd u hu
    ·exact zero_nu (hznu hnd) (by omega) u hu
end
end Ab
namespace Ab
open Go Go.RowKit Go.Proofs Hp
set_option maxRecDepth 100000
set_option maxHeartbeats 4000000
abbrev WO (f : FuncId) (xs : List TV) (e : List Nat) : Prop := ∀ l : List Nat, l.length + e.length ≤ 1000000000 → PCM true Tryz.prog f (.own 101 l.length :: xs) (RL1 l) true (.own 101 (l ++ e).length) (RL1 (l ++ e))
theorem Zcf {n : Nat} (hn : n < 18446744073709551616) : WO 43 [.v (qV' n)] (eN n) := by
 intro l h
 have hX : ∃ X, X = l ++ eN n := ⟨_, rfl⟩
 obtain ⟨X, hX⟩ := hX
 rw [← hX]
 have hXl : X.length ≤ 1000000000 := by rw [hX, List.length_append]; omega
 clear h
 refine Zay Tryz.func43 rfl rfl rfl (Nat.le_of_ble_eq_true rfl) ?_
 refine goI ?_
 refine T.loop (fun N s1 => ∃ (acc : List Nat) (K : Nat) (Q : List AV), acc ++ eN N = X ∧ K = acc.length ∧ Q = acc.map nV ∧ N < 18446744073709551616 ∧ s1 = mkP [(0, .own 101 K), (1, .v (qV' N))] [(101, .lst 1 5 Q)] 21 true [101]) n
  (s' := mkP [(0, .own 101 l.length), (1, .v (qV' n))] [(101, .lst 1 5 (l.map nV))] 21 true [101]) (by exact Zak) ⟨l, l.length, l.map nV, hX.symm, rfl, rfl, hn, rfl⟩ ?_
 rintro m _ ⟨acc, K, Q, hacc, hK, hQ, hm, rfl⟩
 have hli : Q.length = K := by rw [hQ, hK, List.length_map]
 have hle : K + 1 ≤ 1000000000 := by
  have := congrArg List.length hacc
  rw [List.length_append] at this
  have := Zcu m
  omega
 by_cases hlt : m < 128
 ·have d1 : decide ((m : Int) ≥ 128) = false := decide_eq_false (by omega)
  have hfin : X = acc ++ [m] := by rw [← hacc, eN_lt hlt]
  have hXK : X.length = K + 1 := by rw [hfin, List.length_append, hK]; rfl
  have hXQ : RL1 X = [(101, .lst 1 5 (Q ++ [nV m]))] := by
   show [(101, Blk.lst 1 5 (X.map nV))] = _
   rw [hfin, List.map_append, hQ]; rfl
  rw [hXK, hXQ]
  clear hXK hXQ hfin
  have s1 : IntKind.u8.wrap (m : Int) = (m : Int) := u8w (by omega) (by omega)
  refine goI ?_
  refine evG ggA (Zag (Zaa rfl) Za0 Za3 rfl s1) ?_
  refine evG ggA (Zar (Zaa rfl) (Zaf rfl) rfl rfl rfl rfl (Zbo rfl rfl) (Nat.le_of_ble_eq_true rfl)) ?_
  refine evG ggA (Zbe (Zaa rfl) (Zaf rfl) rfl rfl hli rfl rfl (by decide) rfl (by omega) (Nat.le_of_ble_eq_true rfl) rfl) ?_
  refine goI ?_
  exact ⟨.inr rfl, by exact Zak⟩
 ·have d1 : decide ((m : Int) ≥ 128) = true := decide_eq_true (by omega)
  have e1 : ((m : Int).tmod 128) = ((m % 128 : Nat) : Int) := rfl
  have s1 : IntKind.u8.wrap ((m % 128 : Nat) : Int) = ((m % 128 : Nat) : Int) := u8w (by omega) (by omega)
  have s2 : IntKind.u8.wrap (((m % 128 : Nat) : Int) + 128) = ((m % 128 + 128 : Nat) : Int) := by rw [u8w (by omega) (by omega)]; omega
  have e2 := qdiv (n := m) (k := 128) hm (by omega)
  refine goI ?_
  refine evG ggA (Zbv (op := .rem) (Zaa rfl) rfl rfl (by decide) e1) ?_
  refine evG ggA (Zag (Zaa rfl) Za0 Za3 rfl s1) ?_
  refine evG ggA (Zbk (Zaa rfl) rfl rfl s2) ?_
  refine evG ggA (Zar (Zaa rfl) (Zaf rfl) rfl rfl rfl rfl (Zbo rfl rfl) (Nat.le_of_ble_eq_true rfl)) ?_
  refine evG ggA (Zbe (Zaa rfl) (Zaf rfl) rfl rfl hli rfl rfl (by decide) rfl (by omega) (Nat.le_of_ble_eq_true rfl) rfl) ?_
  refine goI ?_
  refine evG ggA (Zbv (Zaa rfl) rfl rfl (by decide) e2) ?_
  refine goI ?_
  exact Zad (k := m / 128) (s' := mkP [(0, .own 101 (K + 1)), (1, .v (qV' (m / 128)))] [(101, .lst 1 5 (Q ++ [_]))] 21 true [101]) (by omega) (by exact Zak) ⟨acc ++ [m % 128 + 128], K + 1, _, by rw [← hacc, eN_ge hlt, List.append_assoc]; rfl, by rw [List.length_append, hK]; rfl, by rw [hQ, List.map_append]; rfl, by omega, rfl⟩
theorem Zb8 {n : Int} (h : I64 n) : WO 46 [.v (iV n)] (eI n) := by
 intro l hl
 have c := Zcf (zg_lt h) l hl
 obtain ⟨h0, h1⟩ := h
 have hE : eI n = eN (zg n) := rfl
 rw [hE]
 have hzl : zg n < 18446744073709551616 := zg_lt ⟨h0, h1⟩
 refine Zay Tryz.func46 rfl rfl rfl (Nat.le_of_ble_eq_true rfl) ?_
 by_cases hn : n < 0
 ·have d1 : decide (n < 0) = true := decide_eq_true hn
  obtain ⟨M, hM⟩ : ∃ M : Nat, M = (-(n + 1)).toNat := ⟨_, rfl⟩
  have hz : zg n = 2 * M + 1 := by unfold zg; rw [if_pos hn, hM]
  have w2 : IntKind.u64.wrap (0 - (n + 1)) = ((M : Nat) : Int) := by rw [u64w (by omega) (by omega)]; omega
  have w3 : IntKind.u64.wrap (2 * (M : Int)) = ((2 * M : Nat) : Int) := by rw [u64w (by omega) (by omega)]; omega
  have w4 : IntKind.u64.wrap (((2 * M : Nat) : Int) + 1) = ((zg n : Nat) : Int) := by rw [u64w (by omega) (by omega)]; omega
  clear hM hz hE
  generalize zg n = z at *
  refine goI ?_
  refine evG ggA (Zag (Zaa rfl) Zbd Za0 rfl w2) ?_
  refine evG ggA (Zbk (Zaa rfl) rfl rfl w3) ?_
  refine evG ggA (Zbk (Zaa rfl) rfl rfl w4) ?_
  refine mcS [(101, 101)] c ?_
  refine goI ?_
  exact ⟨.inr rfl, by exact Zak⟩
 ·have d1 : decide (n < 0) = false := decide_eq_false hn
  obtain ⟨M, hM⟩ : ∃ M : Nat, n = (M : Int) := ⟨n.toNat, by omega⟩
  have hz : zg n = 2 * M := by unfold zg; rw [if_neg hn]; omega
  have w2 : IntKind.u64.wrap n = ((M : Nat) : Int) := by rw [u64w (by omega) (by omega)]; omega
  have w3 : IntKind.u64.wrap (2 * (M : Int)) = ((zg n : Nat) : Int) := by rw [u64w (by omega) (by omega)]; omega
  clear hM hz hE
  generalize zg n = z at *
  refine goI ?_
  refine evG ggA (Zag (Zaa rfl) Zbd Za0 rfl w2) ?_
  refine evG ggA (Zbk (Zaa rfl) rfl rfl w3) ?_
  refine mcS [(101, 101)] c ?_
  refine goI ?_
  exact ⟨.inr rfl, by exact Zak⟩
theorem bytesV_eT (s : ByteArray) : (s.data.toList.map (·.toNat)).map nV = Zds s := by
 unfold Zds
 rw [List.map_map]; rfl
theorem wo_text {s : ByteArray} (hs : s.size ≤ 1000000000) : WO 101 [.v (tV s)] (eT s) := by
 intro l hl
 have hsz : (s.data.toList.map (·.toNat)).length = s.size := by rw [List.length_map, Array.length_toList]; rfl
 have hbz : (Zds s).length = s.size := by rw [← bytesV_eT, List.length_map, hsz]
 have het : (eT s).length = (eN s.size).length + s.size := by unfold eT; rw [List.length_append, hsz]
 have c := Zcf (n := s.size) (by omega) l (by omega)
 have hX : l ++ eT s = (l ++ eN s.size) ++ s.data.toList.map (·.toNat) := by unfold eT; rw [List.append_assoc]
 have hl1 : (l ++ eN s.size).length + s.size ≤ 1000000000 := by rw [List.length_append]; omega
 generalize l ++ eN s.size = X at *
 have hXK : (l ++ eT s).length = X.length + (Zds s).length := by rw [hX, List.length_append, hsz, hbz]
 have hXQ : RL1 (l ++ eT s) = [(101, .lst 1 5 (X.map nV ++ Zds s))] := by
  show [(101, Blk.lst 1 5 ((l ++ eT s).map nV))] = _
  rw [hX, List.map_append, bytesV_eT]
 rw [hXK, hXQ]
 have hli : (X.map nV).length = X.length := List.length_map ..
 have w1 : IntKind.u64.wrap (s.size : Int) = (s.size : Int) := u64w (by omega) (by omega)
 clear hXK hXQ hX het hsz
 refine Zay Tryz.func101 rfl rfl rfl (Nat.le_of_ble_eq_true rfl) ?_
 refine goI ?_
 refine evG ggA (ss_len_str (Zaa rfl) rfl Zel rfl) ?_
 refine evG ggA (Zag (Zaa rfl) Zbd Za0 rfl w1) ?_
 refine mcS [(101, 101)] c ?_
 refine goI ?_
 refine evG ggA (ss_append_str (Zaa rfl) (Zaf rfl) Zel rfl rfl hli rfl (by unfold maxLen; omega) (by omega) rfl) ?_
 refine goI ?_
 exact ⟨.inr rfl, by exact Zak⟩
theorem wo_integer {z : Int} (hz : z.natAbs < pw 1000000000) (hq : (dgs z.natAbs).length ≤ 1000000000) : WO 124 [.v (encI z)] (eB (BI.of z)) := by
 intro l hl
 have cN : PC Tryz.prog 134 [encI z] (encI z) := (Ze9 (isI_of hz) (by decide)).up
 have hE : encI z = .agg [boV (decide (z < 0)), .sl ((dgs z.natAbs).map u32)] := rfl
 have hB : BI.of z = ⟨decide (z < 0), dgs z.natAbs⟩ := rfl
 have hd : ∀ d, d ∈ dgs z.natAbs → 0 ≤ d ∧ d < 4294967296 := (of_ok hz).1
 rw [hE] at cN ⊢
 rw [hB] at hl ⊢
 clear hE hB hz
 generalize decide (z < 0) = g at *
 generalize dgs z.natAbs = ds at *
 have elen : (ds.map u32).length = ds.length := List.length_map ..
 have hEB : eB ⟨g, ds⟩ = eN (2 * ds.length + if g then 1 else 0) ++ ds.flatMap e4 := rfl
 rw [hEB] at hl ⊢
 rw [List.length_append] at hl
 have c := Zcf (n := 2 * ds.length + if g then 1 else 0) (by split <;> omega) l (by omega)
 have hlE : (l ++ eN (2 * ds.length + if g then 1 else 0)).length + (ds.flatMap e4).length ≤ 1000000000 := by rw [List.length_append]; omega
 rw [← List.append_assoc]
 have w2 : IntKind.u64.wrap (2 * (((ds.map u32).length : Nat) : Int)) = ((2 * ds.length : Nat) : Int) := by rw [elen, u64w (by omega) (by omega)]; omega
 have w3 : IntKind.u64.wrap (((2 * ds.length : Nat) : Int) + 1) = ((2 * ds.length + 1 : Nat) : Int) := by rw [u64w (by omega) (by omega)]; omega
 generalize hEn : l ++ eN (2 * ds.length + if g then 1 else 0) = E at *
 have hloop : ∀ i, i ≤ ds.length → (E ++ (ds.take i).flatMap e4).length + 4 * (ds.length - i) ≤ 1000000000 := fun i hi => by
  have f4 : ∀ ds : List Int, (ds.flatMap e4).length = 4 * ds.length := by
   intro ds
   induction ds with
   | nil => rfl
   | cons a ds ih => rw [List.flatMap_cons, List.length_append, ih]; simp [e4]; omega
  rw [f4] at hlE
  rw [List.length_append, f4, List.length_take]
  omega
 refine Zay Tryz.func124 rfl rfl rfl (Nat.le_of_ble_eq_true rfl) ?_
 cases g
 all_goals
  refine goI ?_
  refine evG ggA (Zae (Zaa rfl) rfl rfl cN) ?_
  refine goI ?_
  refine evG ggA (Zag (Zaa rfl) Zbd Za0 rfl w2) ?_
  refine goI ?_
  first | refine evG ggA (Zbk (Zaa rfl) rfl rfl w3) ?_ | skip
  refine goI ?_
  refine mcS [(101, 101)] c ?_
  refine goI ?_
  refine T.loop (fun N s1 => ∃ (i : Nat) (K : Nat) (Q : List AV), N = ds.length - i ∧ i ≤ ds.length ∧ K = (E ++ (ds.take i).flatMap e4).length ∧ Q = (E ++ (ds.take i).flatMap e4).map nV ∧ s1 = mkP [(0, .own 101 K), (3, .ptr 3 0), (6, .v (iV i))] [(101, .lst 1 5 Q), (3, .var [.v (boV _), .v (.sl (ds.map u32))])] 49 true [101]) ds.length
   (s' := mkP [(0, .own 101 E.length), (3, .ptr 3 0), (6, .v (iV ((0 : Nat) : Int)))] [(101, .lst 1 5 (E.map nV)), (3, .var [.v (boV _), .v (.sl (ds.map u32))])] 49 true [101]) (by exact Zak) ⟨0, _, _, rfl, Nat.zero_le _, by simp, by simp, rfl⟩ ?_
  rintro _ _ ⟨i, K, Q, rfl, hi, hK, hQ, rfl⟩
  have hb9 := hloop i hi
  have hli : Q.length = K := by rw [hQ, hK, List.length_map]
  by_cases hlt : i < ds.length
  ·have d1 : decide ((i : Int) < ((ds.map u32).length : Int)) = true := decide_eq_true (by omega)
   have hg : ds[i]? = some ds[i] := List.getElem?_eq_getElem hlt
   have hx : (ds.map u32)[((i : Nat) : Int).toNat]? = some (u32 ds[i]) := by rw [Int.toNat_natCast, List.getElem?_map, hg]; rfl
   obtain ⟨x0, x1⟩ := hd _ (List.getElem_mem hlt)
   have hK2 : (E ++ (ds.take (i + 1)).flatMap e4).length = K + 4 := by rw [Zat hg, ← List.append_assoc, List.length_append, ← hK]; rfl
   have hQ2 : (E ++ (ds.take (i + 1)).flatMap e4).map nV = Q ++ (e4 ds[i]).map nV := by rw [Zat hg, ← List.append_assoc, List.map_append, ← hQ]
   clear hg
   generalize ds[i] = x at *
   obtain ⟨D, rfl⟩ : ∃ D : Nat, x = (D : Int) := ⟨x.toNat, by omega⟩
   have he4 : (e4 (D : Int)).map nV = [nV (D % 256), nV (D / 256 % 256), nV (D / 65536 % 256), nV (D / 16777216)] := by show [nV ((D : Int).toNat % 256), _, _, _] = _; rw [Int.toNat_natCast]
   rw [he4] at hQ2
   have t1 : (D : Int).fdiv (2 ^ (min (8 : Int).toNat 32)) = ((D / 256 : Nat) : Int) := by rw [Int.fdiv_eq_ediv_of_nonneg _ (by decide)]; rfl
   have t2 : (D : Int).fdiv (2 ^ (min (16 : Int).toNat 32)) = ((D / 65536 : Nat) : Int) := by rw [Int.fdiv_eq_ediv_of_nonneg _ (by decide)]; rfl
   have t3 : (D : Int).fdiv (2 ^ (min (24 : Int).toNat 32)) = ((D / 16777216 : Nat) : Int) := by rw [Int.fdiv_eq_ediv_of_nonneg _ (by decide)]; rfl
   have s0 : IntKind.u8.wrap (D : Int) = ((D % 256 : Nat) : Int) := by rw [u8m]; omega
   have s1 : IntKind.u8.wrap ((D / 256 : Nat) : Int) = ((D / 256 % 256 : Nat) : Int) := by rw [u8m]; omega
   have s2 : IntKind.u8.wrap ((D / 65536 : Nat) : Int) = ((D / 65536 % 256 : Nat) : Int) := by rw [u8m]; omega
   have s3 : IntKind.u8.wrap ((D / 16777216 : Nat) : Int) = ((D / 16777216 : Nat) : Int) := by rw [u8m]; omega
   refine goI ?_
   refine evG ggA (Zab (Zaa rfl) (Zac rfl) rfl rfl (by omega) hx rfl) ?_
   refine goI ?_
   refine evG ggA (Zag (Zaa rfl) Za2 Za3 rfl s0) ?_
   refine goI ?_
   refine evG ggA (Zbx (Zaa rfl) rfl rfl (by decide) t1) ?_
   refine evG ggA (Zag (Zaa rfl) Za2 Za3 rfl s1) ?_
   refine goI ?_
   refine evG ggA (Zbx (Zaa rfl) rfl rfl (by decide) t2) ?_
   refine evG ggA (Zag (Zaa rfl) Za2 Za3 rfl s2) ?_
   refine goI ?_
   refine evG ggA (Zbx (Zaa rfl) rfl rfl (by decide) t3) ?_
   refine evG ggA (Zag (Zaa rfl) Za2 Za3 rfl s3) ?_
   refine evG ggA (Zar (Zaa rfl) (Zaf rfl) rfl rfl rfl rfl (fun x hx => by simp only [List.mem_cons, List.not_mem_nil, or_false] at hx; rcases hx with rfl | rfl | rfl | rfl <;> exact ⟨rfl, rfl⟩) (Nat.le_of_ble_eq_true rfl)) ?_
   refine evG ggA (Zb5 (xs := [nV (D % 256), nV (D / 256 % 256), nV (D / 65536 % 256), nV (D / 16777216)]) (Zaa rfl) (Zaf rfl) rfl rfl hli rfl (fun b hb => by simp only [List.mem_cons, List.not_mem_nil, or_false] at hb; rcases hb with rfl | rfl | rfl | rfl <;> rfl) (by decide) (by unfold maxLen; simp only [List.length_cons, List.length_nil]; omega) (by simp only [List.length_cons, List.length_nil]; omega) rfl (fun _ b hb c hc => by simp only [List.mem_cons, List.not_mem_nil, or_false] at hb; rcases hb with rfl | rfl | rfl | rfl <;> (simp [nV, bV, AV.cells] at hc; subst hc; rfl))) ?_
   refine goI ?_
   exact Zad (k := ds.length - (i + 1)) (s' := mkP [(0, .own 101 (K + 4)), (3, .ptr 3 0), (6, .v (iV ((i : Int) + 1)))] [(101, .lst 1 5 (Q ++ [nV (D % 256), nV (D / 256 % 256), nV (D / 65536 % 256), nV (D / 16777216)])), (3, .var [.v (boV _), .v (.sl (ds.map u32))])] 49 true [101]) (by omega) (by exact Zak) ⟨i + 1, _, _, rfl, hlt, hK2.symm, hQ2.symm, rfl⟩
  ·obtain rfl : i = ds.length := by omega
   have d1 : decide ((ds.length : Int) < ((ds.map u32).length : Int)) = false := decide_eq_false (by omega)
   rw [List.take_length] at hK hQ
   have hR : RL1 (E ++ ds.flatMap e4) = [(101, .lst 1 5 Q)] := by
    show [(101, Blk.lst 1 5 ((E ++ ds.flatMap e4).map nV))] = _
    rw [← hQ]
   rw [← hK, hR]
   refine goI ?_
   exact ⟨.inr rfl, by exact Zak⟩
end Ab
namespace Ab
open Go Go.RowKit Go.Proofs Hp
set_option maxRecDepth 100000
set_option maxHeartbeats 4000000
theorem wo_rat {a : BR} (ha : a.ok) : WO 102 [.v a.av] (eR a.can) := by
 intro l h
 have cn := normal_p ha
 have ht := isV_ht (isV_br ha) (by decide)
 have hd : (a.q.den : Int).natAbs < pw 1000000000 := by rw [Int.natAbs_natCast]; exact ht.2
 have hn := ht.1
 have e : eR a.can = eB (BI.of a.q.num) ++ eB (BI.of (a.q.den : Int)) := rfl
 have ev : a.can.av = .agg [boV (BI.of a.q.num).g, .sl ((BI.of a.q.num).ds.map u32), boV (BI.of (a.q.den : Int)).g, .sl ((BI.of (a.q.den : Int)).ds.map u32)] := rfl
 rw [e] at h ⊢
 rw [List.length_append] at h
 have c1 := wo_integer hn (Zf3 hn) l (by omega)
 have c2 := wo_integer hd (Zf3 hd) (l ++ eB (BI.of a.q.num)) (by rw [List.length_append]; omega)
 rw [ev] at cn
 rw [← List.append_assoc]
 change PCM _ _ _ [_, .v (.agg [boV (BI.of a.q.num).g, .sl ((BI.of a.q.num).ds.map u32)])] _ _ _ _ at c1
 change PCM _ _ _ [_, .v (.agg [boV (BI.of (a.q.den : Int)).g, .sl ((BI.of (a.q.den : Int)).ds.map u32)])] _ _ _ _ at c2
 clear e ev h hn hd ht
 generalize BI.of a.q.num = n at *
 generalize BI.of (a.q.den : Int) = d at *
 obtain ⟨g1, d1⟩ := n
 obtain ⟨g2, d2⟩ := d
 obtain ⟨⟨g3, d3⟩, ⟨g4, d4⟩⟩ := a
 refine Zay Tryz.func102 rfl rfl rfl (Nat.le_of_ble_eq_true rfl) ?_
 refine goJ ?_
 refine evG ggA (Zae (Zaa rfl) rfl rfl cn) ?_
 refine goJ ?_
 refine T.drawC mixed ?_
 refine Zal (Zbj (Zaa rfl) rfl) rfl rfl ?_
 refine Zal (Zai (Zaa rfl) (Zan rfl) rfl) rfl rfl ?_
 refine Zbc (Zba (Zaa rfl) (Za1 rfl) rfl rfl rfl rfl) rfl ?_
 refine Zbm [(101, 101)] c1 rfl rfl rfl rfl rfl rfl rfl ⟨rfl, trivial⟩ ⟨.inl rfl, trivial⟩ ?_
 refine Zal (Zai (Zaa rfl) (Zan rfl) rfl) rfl rfl ?_
 refine Zbc (Zba (Zaa rfl) (Za1 rfl) rfl rfl rfl rfl) rfl ?_
 refine Zbm [(101, 101)] c2 rfl rfl rfl rfl rfl rfl rfl ⟨rfl, trivial⟩ ⟨.inl rfl, trivial⟩ ?_
 refine Zal (Zb4 (Zaa rfl) rfl) rfl rfl ?_
 refine ⟨by kernel_rfl, ?_⟩
 refine goJ ?_
 exact ⟨.inr rfl, by exact Zak⟩
theorem wo_ints {xs : List Int} (h : ∀ x, x ∈ xs → I64 x) (hn : xs.length ≤ 1000000000) : WO 45 [.v (.sl (xs.map iV))] (eL eI xs) := by
 intro l hl
 have hB : l ++ eL eI xs = (l ++ eN xs.length) ++ xs.flatMap eI := by unfold eL; rw [List.append_assoc]
 have hlen := congrArg List.length hB
 simp only [List.length_append] at hlen
 have c := Zcf (n := xs.length) (by omega) l (by omega)
 have hl2 : (l ++ eN xs.length).length + (xs.flatMap eI).length ≤ 1000000000 := by rw [List.length_append]; omega
 have eml : (xs.map iV).length = xs.length := List.length_map ..
 have w1 : IntKind.u64.wrap (((xs.map iV).length : Int)) = (xs.length : Int) := by rw [eml]; exact u64w (by omega) (by omega)
 rw [hB]
 clear hB hl hlen
 generalize l ++ eN xs.length = E at *
 refine Zay Tryz.func45 rfl rfl rfl (Nat.le_of_ble_eq_true rfl) ?_
 refine goI ?_
 refine evG ggA (Zag (Zaa rfl) Zbd Za0 rfl w1) ?_
 refine mcS [(101, 101)] c ?_
 refine goI ?_
 refine T.loop (fun N s1 => ∃ i : Nat, N = xs.length - i ∧ i ≤ xs.length ∧ s1 = mkP [(0, .own 101 (E ++ (xs.take i).flatMap eI).length), (1, .v (.sl (xs.map iV))), (5, .v (iV i))] [(101, .lst 1 5 ((E ++ (xs.take i).flatMap eI).map nV))] 24 true [101]) xs.length
  (s' := mkP [(0, .own 101 (E ++ []).length), (1, .v (.sl (xs.map iV))), (5, .v (iV ((0 : Nat) : Int)))] [(101, .lst 1 5 ((E ++ []).map nV))] 24 true [101]) (by rw [List.append_nil]; exact Zak) ⟨0, rfl, Nat.zero_le _, rfl⟩ ?_
 rintro _ _ ⟨i, rfl, hii, rfl⟩
 by_cases hlti : i < xs.length
 rotate_left
 ·obtain rfl : i = xs.length := by omega
  have dd1 : decide ((xs.length : Int) < ((xs.map iV).length : Int)) = false := decide_eq_false (by rw [List.length_map]; omega)
  rw [List.take_length]
  refine goJ ?_
  exact ⟨.inr rfl, by exact Zak⟩
 ·have dd1 : decide ((i : Int) < ((xs.map iV).length : Int)) = true := decide_eq_true (by rw [List.length_map]; omega)
  have hg : xs[i]? = some xs[i] := List.getElem?_eq_getElem hlti
  have hx : (xs.map iV)[((i : Nat) : Int).toNat]? = some (iV xs[i]) := by rw [Int.toNat_natCast, List.getElem?_map, hg]; rfl
  have hfl := Zcn eI xs (i + 1)
  rw [Zat hg, List.length_append] at hfl
  skip
  have c2 := Zb8 (h _ (List.getElem_mem hlti)) (E ++ (xs.take i).flatMap eI) (by rw [List.length_append]; omega)
  rw [List.append_assoc E, ← Zat (f := eI) hg] at c2
  clear hg hfl
  generalize xs[i] = x at *
  skip
  refine goJ ?_
  refine evG ggA (Zab (Zaa rfl) (Zac rfl) rfl rfl (by omega) hx rfl) ?_
  refine goJ ?_
  refine mcS [(101, 101)] c2 ?_
  refine goJ ?_
  exact Zad (k := xs.length - (i + 1)) (s' := mkP [(0, .own 101 (E ++ (xs.take (i + 1)).flatMap eI).length), (1, .v (.sl (xs.map iV))), (5, .v (iV ((i : Int) + 1)))] [(101, .lst 1 5 ((E ++ (xs.take (i + 1)).flatMap eI).map nV))] 24 true [101]) (by omega) (by exact Zak) ⟨i + 1, rfl, hlti, rfl⟩
theorem wo_rats {xs : List BR} (h : ∀ x, x ∈ xs → x.ok) (hn : xs.length ≤ 1000000000) : WO 50 [.v (.sl (xs.map BR.av))] (eL (fun x => eR x.can) xs) := by
 intro l hl
 have hB : l ++ eL (fun x => eR x.can) xs = (l ++ eN xs.length) ++ xs.flatMap (fun x => eR x.can) := by unfold eL; rw [List.append_assoc]
 have hlen := congrArg List.length hB
 simp only [List.length_append] at hlen
 have c := Zcf (n := xs.length) (by omega) l (by omega)
 have hl2 : (l ++ eN xs.length).length + (xs.flatMap (fun x => eR x.can)).length ≤ 1000000000 := by rw [List.length_append]; omega
 have eml : (xs.map BR.av).length = xs.length := List.length_map ..
 have w1 : IntKind.u64.wrap (((xs.map BR.av).length : Int)) = (xs.length : Int) := by rw [eml]; exact u64w (by omega) (by omega)
 rw [hB]
 clear hB hl hlen
 generalize l ++ eN xs.length = E at *
 refine Zay Tryz.func50 rfl rfl rfl (Nat.le_of_ble_eq_true rfl) ?_
 refine goI ?_
 refine evG ggA (Zag (Zaa rfl) Zbd Za0 rfl w1) ?_
 refine mcS [(101, 101)] c ?_
 refine goI ?_
 refine T.loop (fun N s1 => ∃ i : Nat, N = xs.length - i ∧ i ≤ xs.length ∧ s1 = mkP [(0, .own 101 (E ++ (xs.take i).flatMap (fun x => eR x.can)).length), (1, .v (.sl (xs.map BR.av))), (5, .v (iV i))] [(101, .lst 1 5 ((E ++ (xs.take i).flatMap (fun x => eR x.can)).map nV))] 24 true [101]) xs.length
  (s' := mkP [(0, .own 101 (E ++ []).length), (1, .v (.sl (xs.map BR.av))), (5, .v (iV ((0 : Nat) : Int)))] [(101, .lst 1 5 ((E ++ []).map nV))] 24 true [101]) (by rw [List.append_nil]; exact Zak) ⟨0, rfl, Nat.zero_le _, rfl⟩ ?_
 rintro _ _ ⟨i, rfl, hii, rfl⟩
 by_cases hlti : i < xs.length
 rotate_left
 ·obtain rfl : i = xs.length := by omega
  have dd1 : decide ((xs.length : Int) < ((xs.map BR.av).length : Int)) = false := decide_eq_false (by rw [List.length_map]; omega)
  rw [List.take_length]
  refine goJ ?_
  exact ⟨.inr rfl, by exact Zak⟩
 ·have dd1 : decide ((i : Int) < ((xs.map BR.av).length : Int)) = true := decide_eq_true (by rw [List.length_map]; omega)
  have hg : xs[i]? = some xs[i] := List.getElem?_eq_getElem hlti
  have hx : (xs.map BR.av)[((i : Nat) : Int).toNat]? = some (BR.av xs[i]) := by rw [Int.toNat_natCast, List.getElem?_map, hg]; rfl
  have hfl := Zcn (fun x => eR x.can) xs (i + 1)
  rw [Zat hg, List.length_append] at hfl
  skip
  have c2 := wo_rat (h _ (List.getElem_mem hlti)) (E ++ (xs.take i).flatMap (fun x => eR x.can)) (by rw [List.length_append]; omega)
  rw [List.append_assoc E, ← Zat (f := (fun x => eR x.can)) hg] at c2
  clear hg hfl
  generalize xs[i] = x at *
  obtain ⟨⟨g1, d1⟩, ⟨g2, d2⟩⟩ := x
  refine goJ ?_
  refine evG ggA (Zab (Zaa rfl) (Zac rfl) rfl rfl (by omega) hx rfl) ?_
  refine goJ ?_
  refine mcS [(101, 101)] c2 ?_
  refine goJ ?_
  exact Zad (k := xs.length - (i + 1)) (s' := mkP [(0, .own 101 (E ++ (xs.take (i + 1)).flatMap (fun x => eR x.can)).length), (1, .v (.sl (xs.map BR.av))), (5, .v (iV ((i : Int) + 1)))] [(101, .lst 1 5 ((E ++ (xs.take (i + 1)).flatMap (fun x => eR x.can)).map nV))] 24 true [101]) (by omega) (by exact Zak) ⟨i + 1, rfl, hlti, rfl⟩
theorem Zep {α β : Type} (f : β → List Nat) (c : α → β) (l : List α) : eL (fun x => f (c x)) l = eL f (l.map c) := by
 unfold eL
 rw [List.length_map, List.flatMap_map]
theorem wo_series {a : PS} (ha : a.ok) : WO 44 [.v a.av] (eS a.can) := by
 intro l h
 obtain ⟨f, cs⟩ := a
 obtain ⟨h1, h2, h3⟩ := ha
 have h1 : I64 f := h1
 have h2 : ∀ r, r ∈ cs → r.ok := h2
 have h3 : cs.length ≤ 1000000000 := h3
 change l.length + (eI f ++ eL eR (cs.map BR.can)).length ≤ _ at h
 change PCM _ _ _ _ _ _ (.own 101 (l ++ (eI f ++ eL eR (cs.map BR.can))).length) (RL1 (l ++ (eI f ++ eL eR (cs.map BR.can))))
 have hE : l ++ (eI f ++ eL eR (cs.map BR.can)) = ((l ++ eI f) ++ eL (fun x => eR x.can) cs) := by rw [← Zep]; simp only [List.append_assoc]
 have hl := h
 rw [← List.length_append, hE] at hl
 simp only [List.length_append] at hl
 have c1 := (Zb8 h1) l (by first | omega | (simp only [List.length_append]; omega))
 have c2 := (wo_rats h2 h3) (l ++ eI f) (by first | omega | (simp only [List.length_append]; omega))
 rw [hE]
 clear hE hl h
 refine Zay Tryz.func44 rfl rfl rfl (Nat.le_of_ble_eq_true rfl) ?_
 refine goJ ?_
 refine T.drawC mixed ?_
 refine Zal (Zbj (Zaa rfl) rfl) rfl rfl ?_
 refine Zal (Zai (Zaa rfl) (Zan rfl) rfl) rfl rfl ?_
 refine Zbc (Zah (Zaa rfl) (Za8 rfl) rfl rfl rfl) rfl ?_
 refine Zbm [(101, 101)] c1 rfl rfl rfl rfl rfl rfl rfl ⟨rfl, trivial⟩ ⟨.inl rfl, trivial⟩ ?_
 refine Zal (Zai (Zaa rfl) (Zan rfl) rfl) rfl rfl ?_
 refine Zbc (Zah (Zaa rfl) (Za8 rfl) rfl rfl rfl) rfl ?_
 refine Zbm [(101, 101)] c2 rfl rfl rfl rfl rfl rfl rfl ⟨rfl, trivial⟩ ⟨.inl rfl, trivial⟩ ?_
 refine Zal (Zb4 (Zaa rfl) rfl) rfl rfl ?_
 refine ⟨by kernel_rfl, ?_⟩
 refine goJ ?_
 exact ⟨.inr rfl, by exact Zak⟩
theorem wo_expr' : ∀ (n : Nat) (a : PX), sizeOf a ≤ n → a.ok → WO 100 [.v a.av] (eX a.can) := by
  intro n
  induction n with
  | zero => intro a hs; cases a; simp at hs
  | succ n ih =>
    rintro ⟨op, ns, c, nm, gs⟩ hs ha l h
    obtain ⟨h1, ⟨h2, h3⟩, h4, h5, h6, h7⟩ := ha
    have cg : ∀ x, x ∈ gs → WO 100 [.v x.av] (eX x.can) := fun x hx => ih x (by have := List.sizeOf_lt_of_mem hx; simp at hs; omega) ((PX.oks_iff gs).1 h6 x hx)
    have eA : eX (PX.can (.mk op ns c nm gs)) = eI op ++ (eL eI ns ++ (eR c.can ++ (eT nm ++ (eN gs.length ++ gs.flatMap fun x => eX x.can)))) := by
      rw [PX.can, eX, PX.cans_map, List.length_map, eXs_map, List.flatMap_map]
    rw [eA] at h ⊢
    have hE : l ++ (eI op ++ (eL eI ns ++ (eR c.can ++ (eT nm ++ (eN gs.length ++ gs.flatMap fun x => eX x.can))))) = l ++ eI op ++ eL eI ns ++ eR c.can ++ eT nm ++ eN gs.length ++ gs.flatMap fun x => eX x.can := by simp only [List.append_assoc]
    have hl := congrArg List.length hE
    simp only [List.length_append] at hl h
    have c1 := Zb8 h1 l (by omega)
    have c2 := wo_ints h2 h3 (l ++ eI op) (by simp only [List.length_append]; omega)
    have c3 := wo_rat h4 (l ++ eI op ++ eL eI ns) (by simp only [List.length_append]; omega)
    have c4 := wo_text h5 (l ++ eI op ++ eL eI ns ++ eR c.can) (by simp only [List.length_append]; omega)
    have c5 := Zcf (n := gs.length) (by omega) (l ++ eI op ++ eL eI ns ++ eR c.can ++ eT nm) (by simp only [List.length_append]; omega)
    have hl2 : (l ++ eI op ++ eL eI ns ++ eR c.can ++ eT nm ++ eN gs.length).length + (gs.flatMap fun x => eX x.can).length ≤ 1000000000 := by simp only [List.length_append]; omega
    have eml : (gs.map PX.av).length = gs.length := List.length_map ..
    have w1 : IntKind.u64.wrap (((gs.map PX.av).length : Int)) = (gs.length : Int) := by rw [eml]; exact u64w (by omega) (by omega)
    have e0 : PX.av (.mk op ns c nm gs) = .agg (iV op :: .sl (ns.map iV) :: (c.cs ++ [tV nm, .sl (gs.map PX.av)])) := px_av ..
    rw [hE, e0]
    clear hE hl h eA e0 ih hs h6 h2 h4 h1 h3 h5
    generalize l ++ eI op ++ eL eI ns ++ eR c.can ++ eT nm ++ eN gs.length = E at *
    obtain ⟨⟨g1, d1⟩, ⟨g2, d2⟩⟩ := c
    refine Zay Tryz.func100 rfl rfl rfl (Nat.le_of_ble_eq_true rfl) ?_
    refine goJ ?_
    refine T.drawC mixed ?_
    refine Zal (Zbj (Zaa rfl) rfl) rfl rfl ?_
    refine Zal (Zai (Zaa rfl) (Zan rfl) rfl) rfl rfl ?_
    refine Zbc (Zah (Zaa rfl) (Za8 rfl) rfl rfl rfl) rfl ?_
    refine Zbm [(101, 101)] c1 rfl rfl rfl rfl rfl rfl rfl ⟨rfl, trivial⟩ ⟨.inl rfl, trivial⟩ ?_
    refine Zal (Zai (Zaa rfl) (Zan rfl) rfl) rfl rfl ?_
    refine Zbc (Zah (Zaa rfl) (Za8 rfl) rfl rfl rfl) rfl ?_
    refine Zbm [(101, 101)] c2 rfl rfl rfl rfl rfl rfl rfl ⟨rfl, trivial⟩ ⟨.inl rfl, trivial⟩ ?_
    refine Zal (Zai (Zaa rfl) (Zan rfl) rfl) rfl rfl ?_
    refine Zbc (Zba (Zaa rfl) (Za1 rfl) rfl rfl rfl rfl) rfl ?_
    refine Zbm [(101, 101)] c3 rfl rfl rfl rfl rfl rfl rfl ⟨rfl, trivial⟩ ⟨.inl rfl, trivial⟩ ?_
    refine Zal (Zai (Zaa rfl) (Zan rfl) rfl) rfl rfl ?_
    refine Zbc (Zah (Zaa rfl) (Za8 rfl) rfl rfl rfl) rfl ?_
    refine Zbm [(101, 101)] c4 rfl rfl rfl rfl rfl rfl rfl ⟨rfl, trivial⟩ ⟨.inl rfl, trivial⟩ ?_
    refine Zal (Zb4 (Zaa rfl) rfl) rfl rfl ?_
    refine ⟨by kernel_rfl, ?_⟩
    refine goJ ?_
    refine evG ggA (Zag (Zaa rfl) Zbd Za0 rfl w1) ?_
    refine mcS [(101, 101)] c5 ?_
    refine goJ ?_
    refine T.loop (fun N s1 => ∃ i : Nat, N = gs.length - i ∧ i ≤ gs.length ∧ s1 = mkP [(0, .own 101 (E ++ (gs.take i).flatMap (fun x => eX x.can)).length), (3, .ptr 3 0), (5, .v (iV i))] [(101, .lst 1 5 ((E ++ (gs.take i).flatMap (fun x => eX x.can)).map nV)), (3, .var [.v (iV op), .v (.sl (ns.map iV)), .v (boV g1), .v (.sl (d1.map u32)), .v (boV g2), .v (.sl (d2.map u32)), .v (tV nm), .v (.sl (gs.map PX.av))])] 40 true [101]) gs.length
      (s' := mkP [(0, .own 101 (E ++ []).length), (3, .ptr 3 0), (5, .v (iV ((0 : Nat) : Int)))] [(101, .lst 1 5 ((E ++ []).map nV)), (3, .var [.v (iV op), .v (.sl (ns.map iV)), .v (boV g1), .v (.sl (d1.map u32)), .v (boV g2), .v (.sl (d2.map u32)), .v (tV nm), .v (.sl (gs.map PX.av))])] 40 true [101]) (by rw [List.append_nil]; exact Zak) ⟨0, rfl, Nat.zero_le _, rfl⟩ ?_
    rintro _ _ ⟨i, rfl, hii, rfl⟩
    by_cases hlti : i < gs.length
    rotate_left
    · obtain rfl : i = gs.length := by omega
      have dd1 : decide ((gs.length : Int) < ((gs.map PX.av).length : Int)) = false := decide_eq_false (by rw [List.length_map]; omega)
      rw [List.take_length]
      refine goJ ?_
      exact ⟨.inr rfl, by exact Zak⟩
    · have dd1 : decide ((i : Int) < ((gs.map PX.av).length : Int)) = true := decide_eq_true (by rw [List.length_map]; omega)
      have hg : gs[i]? = some gs[i] := List.getElem?_eq_getElem hlti
      have hx : (gs.map PX.av)[((i : Nat) : Int).toNat]? = some (PX.av gs[i]) := by rw [Int.toNat_natCast, List.getElem?_map, hg]; rfl
      have hfl := Zcn (fun x => eX x.can) gs (i + 1)
      rw [Zat hg, List.length_append] at hfl
      skip
      have c6 := cg _ (List.getElem_mem hlti) (E ++ (gs.take i).flatMap (fun x => eX x.can)) (by rw [List.length_append]; omega)
      rw [List.append_assoc E, ← Zat (f := (fun x => eX x.can)) hg] at c6
      clear hg hfl
      generalize gs[i] = x at *
      obtain ⟨op', ns', ⟨⟨ga', da'⟩, ⟨gb', db'⟩⟩, nm', gs'⟩ := x
      refine goJ ?_
      refine evG ggA (Zab (Zaa rfl) (Zac rfl) rfl rfl (by omega) hx rfl) ?_
      refine goJ ?_
      refine mcS [(101, 101)] c6 ?_
      refine goJ ?_
      exact Zad (k := gs.length - (i + 1)) (s' := mkP [(0, .own 101 (E ++ (gs.take (i + 1)).flatMap (fun x => eX x.can)).length), (3, .ptr 3 0), (5, .v (iV ((i : Int) + 1)))] [(101, .lst 1 5 ((E ++ (gs.take (i + 1)).flatMap (fun x => eX x.can)).map nV)), (3, .var [.v (iV op), .v (.sl (ns.map iV)), .v (boV g1), .v (.sl (d1.map u32)), .v (boV g2), .v (.sl (d2.map u32)), .v (tV nm), .v (.sl (gs.map PX.av))])] 40 true [101]) (by omega) (by exact Zak) ⟨i + 1, rfl, hlti, rfl⟩
theorem wo_expr {a : PX} (ha : a.ok) : WO 100 [.v a.av] (eX a.can) := wo_expr' _ a (Nat.le_refl _) ha
theorem wo_bind {x : PB} (hx : x.ok) : ∀ l : List Nat, l.length + (eD x.can).length ≤ 1000000000 → ∃ U : List Nat, PCM true Tryz.prog 101 (.own 101 l.length :: [.v (tV x.nm)]) (RL1 l) true (.own 101 U.length) (RL1 U) ∧ PCM true Tryz.prog 100 (.own 101 U.length :: [.v x.e.av]) (RL1 U) true (.own 101 (l ++ eD x.can).length) (RL1 (l ++ eD x.can)) := fun l hl => by
 have e : eD x.can = eT x.nm ++ eX x.e.can := rfl
 rw [e] at hl ⊢
 rw [List.length_append] at hl
 have c1 := wo_text hx.1 l (by omega)
 have c2 := wo_expr hx.2 (l ++ eT x.nm) (by rw [List.length_append]; omega)
 rw [List.append_assoc] at c2
 exact ⟨_, c1, c2⟩
theorem wo_defs {xs : List PB} (h : ∀ x, x ∈ xs → x.ok) (hn : xs.length ≤ 1000000000) : WO 47 [.v (.sl (xs.map PB.av))] (eL (fun x => eD x.can) xs) := by
 intro l hl
 have hB : l ++ eL (fun x => eD x.can) xs = (l ++ eN xs.length) ++ xs.flatMap (fun x => eD x.can) := by unfold eL; rw [List.append_assoc]
 have hlen := congrArg List.length hB
 simp only [List.length_append] at hlen
 have c := Zcf (n := xs.length) (by omega) l (by omega)
 have hl2 : (l ++ eN xs.length).length + (xs.flatMap (fun x => eD x.can)).length ≤ 1000000000 := by rw [List.length_append]; omega
 have eml : (xs.map PB.av).length = xs.length := List.length_map ..
 have w1 : IntKind.u64.wrap (((xs.map PB.av).length : Int)) = (xs.length : Int) := by rw [eml]; exact u64w (by omega) (by omega)
 rw [hB]
 clear hB hl hlen
 generalize l ++ eN xs.length = E at *
 refine Zay Tryz.func47 rfl rfl rfl (Nat.le_of_ble_eq_true rfl) ?_
 refine goI ?_
 refine evG ggA (Zag (Zaa rfl) Zbd Za0 rfl w1) ?_
 refine mcS [(101, 101)] c ?_
 refine goI ?_
 refine T.loop (fun N s1 => ∃ i : Nat, N = xs.length - i ∧ i ≤ xs.length ∧ s1 = mkP [(0, .own 101 (E ++ (xs.take i).flatMap (fun x => eD x.can)).length), (1, .v (.sl (xs.map PB.av))), (5, .v (iV i))] [(101, .lst 1 5 ((E ++ (xs.take i).flatMap (fun x => eD x.can)).map nV))] 31 true [101]) xs.length
  (s' := mkP [(0, .own 101 (E ++ []).length), (1, .v (.sl (xs.map PB.av))), (5, .v (iV ((0 : Nat) : Int)))] [(101, .lst 1 5 ((E ++ []).map nV))] 31 true [101]) (by rw [List.append_nil]; exact Zak) ⟨0, rfl, Nat.zero_le _, rfl⟩ ?_
 rintro _ _ ⟨i, rfl, hii, rfl⟩
 by_cases hlti : i < xs.length
 rotate_left
 ·obtain rfl : i = xs.length := by omega
  have dd1 : decide ((xs.length : Int) < ((xs.map PB.av).length : Int)) = false := decide_eq_false (by rw [List.length_map]; omega)
  rw [List.take_length]
  refine goJ ?_
  exact ⟨.inr rfl, by exact Zak⟩
 ·have dd1 : decide ((i : Int) < ((xs.map PB.av).length : Int)) = true := decide_eq_true (by rw [List.length_map]; omega)
  have hg : xs[i]? = some xs[i] := List.getElem?_eq_getElem hlti
  have hx : (xs.map PB.av)[((i : Nat) : Int).toNat]? = some (PB.av xs[i]) := by rw [Int.toNat_natCast, List.getElem?_map, hg]; rfl
  have hfl := Zcn (fun x => eD x.can) xs (i + 1)
  rw [Zat hg, List.length_append] at hfl
  skip
  have c2 := wo_bind (h _ (List.getElem_mem hlti)) (E ++ (xs.take i).flatMap (fun x => eD x.can)) (by rw [List.length_append]; omega)
  rw [List.append_assoc E, ← Zat (f := (fun x => eD x.can)) hg] at c2
  clear hg hfl
  generalize xs[i] = x at *
  obtain ⟨nm, ⟨op', ns', ⟨⟨ga', da'⟩, ⟨gb', db'⟩⟩, nm', gs'⟩⟩ := x
  obtain ⟨U, c3, c4⟩ := c2
  refine goJ ?_
  refine T.drawC mixed ?_
  refine Zal (Zbj (Zaa rfl) rfl) rfl rfl ?_
  refine Zal (Zbj (Zaa rfl) rfl) rfl rfl ?_
  refine Zal (Zbj (Zaa rfl) rfl) rfl rfl ?_
  refine Zfg (Zab (Zaa rfl) (Zac rfl) rfl rfl (by omega) hx rfl) rfl rfl rfl ?_
  refine Zal (Zb1 (Zaa rfl) (Zan rfl) rfl) rfl rfl ?_
  refine ec_lep (Zb6 (Zaa rfl) (Za8 rfl) rfl rfl) rfl ?_
  refine Zbm [(101, 101)] c3 rfl rfl rfl rfl rfl rfl rfl ⟨rfl, trivial⟩ ⟨.inl rfl, trivial⟩ ?_
  refine Zal (Zbj (Zaa rfl) rfl) rfl rfl ?_
  refine Zal (Zbj (Zaa rfl) rfl) rfl rfl ?_
  refine Zfg (Zab (Zaa rfl) (Zac rfl) rfl rfl (by omega) hx rfl) rfl rfl rfl ?_
  refine Zal (Zb1 (Zaa rfl) (Zan rfl) rfl) rfl rfl ?_
  refine ec_lep (Zcp (Zaa rfl) (Za1 rfl) rfl rfl rfl) rfl ?_
  refine Zbm [(101, 101)] c4 rfl rfl rfl rfl rfl rfl rfl ⟨rfl, trivial⟩ ⟨.inl rfl, trivial⟩ ?_
  refine Zal (Zb4 (Zaa rfl) rfl) rfl rfl ?_
  refine ⟨by kernel_rfl, ?_⟩
  refine goJ ?_
  exact Zad (k := xs.length - (i + 1)) (s' := mkP [(0, .own 101 (E ++ (xs.take (i + 1)).flatMap (fun x => eD x.can)).length), (1, .v (.sl (xs.map PB.av))), (5, .v (iV ((i : Int) + 1)))] [(101, .lst 1 5 ((E ++ (xs.take (i + 1)).flatMap (fun x => eD x.can)).map nV))] 31 true [101]) (by omega) (by exact Zak) ⟨i + 1, rfl, hlti, rfl⟩
end Ab
namespace Ab
open Go Go.RowKit Go.Proofs Hp
set_option maxRecDepth 100000
set_option maxHeartbeats 4000000
theorem wo_cert {a : PZ} (ha : a.ok) : WO 48 [.v a.av] (eC a.can) := by
 intro l h
 obtain ⟨a, b, ds, k, bo, f, cs⟩ := a
 obtain ⟨h1, h2, ⟨h3, h4⟩, h5, h6, h7⟩ := ha
 have h1 : a.ok := h1
 have h2 : b.ok := h2
 have h3 : ∀ x, x ∈ ds → x.ok := h3
 have h4 : ds.length ≤ 1000000000 := h4
 have h5 : k.ok := h5
 have h6 : I64 bo := h6
 have h7 : PS.ok ⟨f, cs⟩ := h7
 change l.length + (eX a.can ++ (eX b.can ++ (eL eD (ds.map PB.can) ++ ((eI k.w ++ (eI k.l ++ (eI k.d ++ (eI k.p ++ eN (if k.cu then 1 else 0))))) ++ (eI bo ++ eS (PS.can ⟨f, cs⟩)))))).length ≤ _ at h
 change PCM _ _ _ _ _ _ (.own 101 (l ++ (eX a.can ++ (eX b.can ++ (eL eD (ds.map PB.can) ++ ((eI k.w ++ (eI k.l ++ (eI k.d ++ (eI k.p ++ eN (if k.cu then 1 else 0))))) ++ (eI bo ++ eS (PS.can ⟨f, cs⟩))))))).length) (RL1 (l ++ (eX a.can ++ (eX b.can ++ (eL eD (ds.map PB.can) ++ ((eI k.w ++ (eI k.l ++ (eI k.d ++ (eI k.p ++ eN (if k.cu then 1 else 0))))) ++ (eI bo ++ eS (PS.can ⟨f, cs⟩))))))))
 have hE : l ++ (eX a.can ++ (eX b.can ++ (eL eD (ds.map PB.can) ++ ((eI k.w ++ (eI k.l ++ (eI k.d ++ (eI k.p ++ eN (if k.cu then 1 else 0))))) ++ (eI bo ++ eS (PS.can ⟨f, cs⟩)))))) = ((((((((((l ++ eX a.can) ++ eX b.can) ++ eL (fun x => eD x.can) ds) ++ eI k.w) ++ eI k.l) ++ eI k.d) ++ eI k.p) ++ eN (if k.cu then 1 else 0)) ++ eI bo) ++ eS (PS.can ⟨f, cs⟩)) := by rw [← Zep]; simp only [List.append_assoc]
 have hl := h
 rw [← List.length_append, hE] at hl
 simp only [List.length_append] at hl
 have c1 := (wo_expr h1) l (by first | omega | (simp only [List.length_append]; omega))
 have c2 := (wo_expr h2) (l ++ eX a.can) (by first | omega | (simp only [List.length_append]; omega))
 have c3 := (wo_defs h3 h4) ((l ++ eX a.can) ++ eX b.can) (by first | omega | (simp only [List.length_append]; omega))
 have c4 := (Zb8 h5.1) (((l ++ eX a.can) ++ eX b.can) ++ eL (fun x => eD x.can) ds) (by first | omega | (simp only [List.length_append]; omega))
 have c5 := (Zb8 h5.2.1) ((((l ++ eX a.can) ++ eX b.can) ++ eL (fun x => eD x.can) ds) ++ eI k.w) (by first | omega | (simp only [List.length_append]; omega))
 have c6 := (Zb8 h5.2.2.1) (((((l ++ eX a.can) ++ eX b.can) ++ eL (fun x => eD x.can) ds) ++ eI k.w) ++ eI k.l) (by first | omega | (simp only [List.length_append]; omega))
 have c7 := (Zb8 h5.2.2.2) ((((((l ++ eX a.can) ++ eX b.can) ++ eL (fun x => eD x.can) ds) ++ eI k.w) ++ eI k.l) ++ eI k.d) (by first | omega | (simp only [List.length_append]; omega))
 have c8 := (Zcf (n := if k.cu then 1 else 0) (by split <;> omega)) (((((((l ++ eX a.can) ++ eX b.can) ++ eL (fun x => eD x.can) ds) ++ eI k.w) ++ eI k.l) ++ eI k.d) ++ eI k.p) (by first | omega | (simp only [List.length_append]; omega))
 have c9 := (Zb8 h6) ((((((((l ++ eX a.can) ++ eX b.can) ++ eL (fun x => eD x.can) ds) ++ eI k.w) ++ eI k.l) ++ eI k.d) ++ eI k.p) ++ eN (if k.cu then 1 else 0)) (by first | omega | (simp only [List.length_append]; omega))
 have c10 := (wo_series h7) (((((((((l ++ eX a.can) ++ eX b.can) ++ eL (fun x => eD x.can) ds) ++ eI k.w) ++ eI k.l) ++ eI k.d) ++ eI k.p) ++ eN (if k.cu then 1 else 0)) ++ eI bo) (by first | omega | (simp only [List.length_append]; omega))
 rw [hE]
 clear hE hl h
 obtain ⟨f1, f2, f3, f4, cu⟩ := k
 obtain ⟨op1, ns1, ⟨⟨ga1, da1⟩, ⟨gb1, db1⟩⟩, nm1, gs1⟩ := a
 obtain ⟨op2, ns2, ⟨⟨ga2, da2⟩, ⟨gb2, db2⟩⟩, nm2, gs2⟩ := b
 refine Zay Tryz.func48 rfl rfl rfl (Nat.le_of_ble_eq_true rfl) ?_
 refine goJ ?_
 refine T.drawC mixed ?_
 refine Zal (Zbj (Zaa rfl) rfl) rfl rfl ?_
 refine Zal (Zai (Zaa rfl) (Zan rfl) rfl) rfl rfl ?_
 refine Zbc (Zba (Zaa rfl) (Za1 rfl) rfl rfl rfl rfl) rfl ?_
 refine Zbm [(101, 101)] c1 rfl rfl rfl rfl rfl rfl rfl ⟨rfl, trivial⟩ ⟨.inl rfl, trivial⟩ ?_
 refine Zal (Zai (Zaa rfl) (Zan rfl) rfl) rfl rfl ?_
 refine Zbc (Zba (Zaa rfl) (Za1 rfl) rfl rfl rfl rfl) rfl ?_
 refine Zbm [(101, 101)] c2 rfl rfl rfl rfl rfl rfl rfl ⟨rfl, trivial⟩ ⟨.inl rfl, trivial⟩ ?_
 refine Zal (Zai (Zaa rfl) (Zan rfl) rfl) rfl rfl ?_
 refine Zbc (Zah (Zaa rfl) (Za8 rfl) rfl rfl rfl) rfl ?_
 refine Zbm [(101, 101)] c3 rfl rfl rfl rfl rfl rfl rfl ⟨rfl, trivial⟩ ⟨.inl rfl, trivial⟩ ?_
 refine Zal (Zb4 (Zaa rfl) rfl) rfl rfl ?_
 refine ⟨by kernel_rfl, ?_⟩
 refine goJ ?_
 refine T.drawC mixed ?_
 refine Zal (Zbj (Zaa rfl) rfl) rfl rfl ?_
 refine Zal (Zai (Zaa rfl) (Zan rfl) rfl) rfl rfl ?_
 refine Zal (Zai (Zaa rfl) (Zan rfl) rfl) rfl rfl ?_
 refine Zbc (Zah (Zaa rfl) (Za8 rfl) rfl rfl rfl) rfl ?_
 refine Zbm [(101, 101)] c4 rfl rfl rfl rfl rfl rfl rfl ⟨rfl, trivial⟩ ⟨.inl rfl, trivial⟩ ?_
 refine Zal (Zai (Zaa rfl) (Zan rfl) rfl) rfl rfl ?_
 refine Zal (Zai (Zaa rfl) (Zan rfl) rfl) rfl rfl ?_
 refine Zbc (Zah (Zaa rfl) (Za8 rfl) rfl rfl rfl) rfl ?_
 refine Zbm [(101, 101)] c5 rfl rfl rfl rfl rfl rfl rfl ⟨rfl, trivial⟩ ⟨.inl rfl, trivial⟩ ?_
 refine Zal (Zai (Zaa rfl) (Zan rfl) rfl) rfl rfl ?_
 refine Zal (Zai (Zaa rfl) (Zan rfl) rfl) rfl rfl ?_
 refine Zbc (Zah (Zaa rfl) (Za8 rfl) rfl rfl rfl) rfl ?_
 refine Zbm [(101, 101)] c6 rfl rfl rfl rfl rfl rfl rfl ⟨rfl, trivial⟩ ⟨.inl rfl, trivial⟩ ?_
 refine Zal (Zai (Zaa rfl) (Zan rfl) rfl) rfl rfl ?_
 refine Zal (Zai (Zaa rfl) (Zan rfl) rfl) rfl rfl ?_
 refine Zbc (Zah (Zaa rfl) (Za8 rfl) rfl rfl rfl) rfl ?_
 refine Zbm [(101, 101)] c7 rfl rfl rfl rfl rfl rfl rfl ⟨rfl, trivial⟩ ⟨.inl rfl, trivial⟩ ?_
 refine Zal (Zb4 (Zaa rfl) rfl) rfl rfl ?_
 refine ⟨by kernel_rfl, ?_⟩
 refine goJ ?_
 cases cu
 all_goals
  refine goJ ?_
  refine mcS [(101, 101)] c8 ?_
  refine goJ ?_
  refine T.drawC mixed ?_
  refine Zal (Zbj (Zaa rfl) rfl) rfl rfl ?_
  refine Zal (Zai (Zaa rfl) (Zan rfl) rfl) rfl rfl ?_
  refine Zbc (Zah (Zaa rfl) (Za8 rfl) rfl rfl rfl) rfl ?_
  refine Zbm [(101, 101)] c9 rfl rfl rfl rfl rfl rfl rfl ⟨rfl, trivial⟩ ⟨.inl rfl, trivial⟩ ?_
  refine Zal (Zai (Zaa rfl) (Zan rfl) rfl) rfl rfl ?_
  refine Zbc (Zba (Zaa rfl) (Za1 rfl) rfl rfl rfl rfl) rfl ?_
  refine Zbm [(101, 101)] c10 rfl rfl rfl rfl rfl rfl rfl ⟨rfl, trivial⟩ ⟨.inl rfl, trivial⟩ ?_
  refine Zal (Zb4 (Zaa rfl) rfl) rfl rfl ?_
  refine ⟨by kernel_rfl, ?_⟩
  refine goJ ?_
  exact ⟨.inr rfl, by exact Zak⟩
theorem wo_space {a : PF} (ha : a.ok) : WO 49 [.v a.av] (eF a.can) := by
 intro l h
 obtain ⟨f1, f2, f3, f4, b⟩ := a
 obtain ⟨h1, h2, h3, h4, h5, h6⟩ := ha
 have h1 : I64 f1 := h1
 have h2 : I64 f2 := h2
 have h3 : I64 f3 := h3
 have h4 : I64 f4 := h4
 have h5 : ∀ x, x ∈ b → x.ok := h5
 have h6 : b.length ≤ 1000000000 := h6
 have eA : eF (PF.can ⟨f1, f2, f3, f4, b⟩) = eI f1 ++ (eI f2 ++ (eI f3 ++ (eI f4 ++ (eN b.length ++ b.flatMap fun x => eS x.can)))) := by
  show eI f1 ++ (eI f2 ++ (eI f3 ++ (eI f4 ++ eL eS (b.map PS.can)))) = _
  rw [← Zep]; rfl
 rw [eA] at h ⊢
 have hE : l ++ (eI f1 ++ (eI f2 ++ (eI f3 ++ (eI f4 ++ (eN b.length ++ b.flatMap fun x => eS x.can))))) = l ++ eI f1 ++ eI f2 ++ eI f3 ++ eI f4 ++ eN b.length ++ b.flatMap fun x => eS x.can := by simp only [List.append_assoc]
 have hl := congrArg List.length hE
 simp only [List.length_append] at hl h
 have c1 := (Zb8 h1) (l) (by first | omega | (simp only [List.length_append]; omega))
 have c2 := (Zb8 h2) (l ++ eI f1) (by first | omega | (simp only [List.length_append]; omega))
 have c3 := (Zb8 h3) (l ++ eI f1 ++ eI f2) (by first | omega | (simp only [List.length_append]; omega))
 have c4 := (Zb8 h4) (l ++ eI f1 ++ eI f2 ++ eI f3) (by first | omega | (simp only [List.length_append]; omega))
 have c5 := (Zcf (n := b.length) (by omega)) (l ++ eI f1 ++ eI f2 ++ eI f3 ++ eI f4) (by first | omega | (simp only [List.length_append]; omega))
 have hl2 : (l ++ eI f1 ++ eI f2 ++ eI f3 ++ eI f4 ++ eN b.length).length + (b.flatMap fun x => eS x.can).length ≤ 1000000000 := by simp only [List.length_append]; omega
 have eml : (b.map PS.av).length = b.length := List.length_map ..
 have w1 : IntKind.u64.wrap (((b.map PS.av).length : Int)) = (b.length : Int) := by rw [eml]; exact u64w (by omega) (by omega)
 rw [hE]
 clear hE hl h eA
 generalize l ++ eI f1 ++ eI f2 ++ eI f3 ++ eI f4 ++ eN b.length = E at *
 refine Zay Tryz.func49 rfl rfl rfl (Nat.le_of_ble_eq_true rfl) ?_
 refine goJ ?_
 refine T.drawC mixed ?_
 refine Zal (Zbj (Zaa rfl) rfl) rfl rfl ?_
 refine Zal (Zai (Zaa rfl) (Zan rfl) rfl) rfl rfl ?_
 refine Zal (Zai (Zaa rfl) (Zan rfl) rfl) rfl rfl ?_
 refine Zbc (Zah (Zaa rfl) (Za8 rfl) rfl rfl rfl) rfl ?_
 refine Zbm [(101, 101)] c1 rfl rfl rfl rfl rfl rfl rfl ⟨rfl, trivial⟩ ⟨.inl rfl, trivial⟩ ?_
 refine Zal (Zai (Zaa rfl) (Zan rfl) rfl) rfl rfl ?_
 refine Zal (Zai (Zaa rfl) (Zan rfl) rfl) rfl rfl ?_
 refine Zbc (Zah (Zaa rfl) (Za8 rfl) rfl rfl rfl) rfl ?_
 refine Zbm [(101, 101)] c2 rfl rfl rfl rfl rfl rfl rfl ⟨rfl, trivial⟩ ⟨.inl rfl, trivial⟩ ?_
 refine Zal (Zai (Zaa rfl) (Zan rfl) rfl) rfl rfl ?_
 refine Zal (Zai (Zaa rfl) (Zan rfl) rfl) rfl rfl ?_
 refine Zbc (Zah (Zaa rfl) (Za8 rfl) rfl rfl rfl) rfl ?_
 refine Zbm [(101, 101)] c3 rfl rfl rfl rfl rfl rfl rfl ⟨rfl, trivial⟩ ⟨.inl rfl, trivial⟩ ?_
 refine Zal (Zai (Zaa rfl) (Zan rfl) rfl) rfl rfl ?_
 refine Zbc (Zah (Zaa rfl) (Za8 rfl) rfl rfl rfl) rfl ?_
 refine Zbm [(101, 101)] c4 rfl rfl rfl rfl rfl rfl rfl ⟨rfl, trivial⟩ ⟨.inl rfl, trivial⟩ ?_
 refine Zal (Zb4 (Zaa rfl) rfl) rfl rfl ?_
 refine ⟨by kernel_rfl, ?_⟩
 refine goJ ?_
 refine evG ggA (Zag (Zaa rfl) Zbd Za0 rfl w1) ?_
 refine mcS [(101, 101)] c5 ?_
 refine goJ ?_
 refine T.loop (fun N s1 => ∃ i : Nat, N = b.length - i ∧ i ≤ b.length ∧ s1 = mkP [(0, .own 101 (E ++ (b.take i).flatMap (fun x => eS x.can)).length), (3, .ptr 3 0), (5, .v (iV i))] [(101, .lst 1 5 ((E ++ (b.take i).flatMap (fun x => eS x.can)).map nV)), (3, .var [.v (iV f1), .v (iV f2), .v (iV f3), .v (iV f4), .v (.sl (b.map PS.av))])] 43 true [101]) b.length
  (s' := mkP [(0, .own 101 (E ++ []).length), (3, .ptr 3 0), (5, .v (iV ((0 : Nat) : Int)))] [(101, .lst 1 5 ((E ++ []).map nV)), (3, .var [.v (iV f1), .v (iV f2), .v (iV f3), .v (iV f4), .v (.sl (b.map PS.av))])] 43 true [101]) (by rw [List.append_nil]; exact Zak) ⟨0, rfl, Nat.zero_le _, rfl⟩ ?_
 rintro _ _ ⟨i, rfl, hii, rfl⟩
 by_cases hlti : i < b.length
 rotate_left
 ·obtain rfl : i = b.length := by omega
  have dd1 : decide ((b.length : Int) < ((b.map PS.av).length : Int)) = false := decide_eq_false (by rw [List.length_map]; omega)
  rw [List.take_length]
  refine goJ ?_
  exact ⟨.inr rfl, by exact Zak⟩
 ·have dd1 : decide ((i : Int) < ((b.map PS.av).length : Int)) = true := decide_eq_true (by rw [List.length_map]; omega)
  have hg : b[i]? = some b[i] := List.getElem?_eq_getElem hlti
  have hx : (b.map PS.av)[((i : Nat) : Int).toNat]? = some (PS.av b[i]) := by rw [Int.toNat_natCast, List.getElem?_map, hg]; rfl
  have hfl := Zcn (fun x => eS x.can) b (i + 1)
  rw [Zat hg, List.length_append] at hfl
  skip
  have c6 := wo_series (h5 _ (List.getElem_mem hlti)) (E ++ (b.take i).flatMap (fun x => eS x.can)) (by rw [List.length_append]; omega)
  rw [List.append_assoc E, ← Zat (f := (fun x => eS x.can)) hg] at c6
  clear hg hfl
  generalize b[i] = x at *
  obtain ⟨f, cs⟩ := x
  refine goJ ?_
  refine evG ggA (Zab (Zaa rfl) (Zac rfl) rfl rfl (by omega) hx rfl) ?_
  refine goJ ?_
  refine mcS [(101, 101)] c6 ?_
  refine goJ ?_
  exact Zad (k := b.length - (i + 1)) (s' := mkP [(0, .own 101 (E ++ (b.take (i + 1)).flatMap (fun x => eS x.can)).length), (3, .ptr 3 0), (5, .v (iV ((i : Int) + 1)))] [(101, .lst 1 5 ((E ++ (b.take (i + 1)).flatMap (fun x => eS x.can)).map nV)), (3, .var [.v (iV f1), .v (iV f2), .v (iV f3), .v (iV f4), .v (.sl (b.map PS.av))])] 43 true [101]) (by omega) (by exact Zak) ⟨i + 1, rfl, hlti, rfl⟩
abbrev dpR (r : Option Nat) : AV := .tup [iV ((r.getD 0 : Nat) : Int), boV r.isNone]
theorem deep_p : ∀ (k : Nat) (a : PX), sizeOf a ≤ k → a.ok → ∀ L n : Nat, L ≤ 100 → n ≤ 1000 → PC Tryz.prog 42 [a.av, iV L, iV n] (dpR (fit a L n)) := by
  intro k
  induction k with
  | zero => intro a hs; cases a; simp at hs
  | succ k ih =>
    rintro ⟨op, ns, c, nm, gs⟩ hs ha L n hL hn
    obtain ⟨-, -, -, -, h6, h7⟩ := ha
    have cg : ∀ x, x ∈ gs → ∀ L n : Nat, L ≤ 100 → n ≤ 1000 → PC Tryz.prog 42 [x.av, iV L, iV n] (dpR (fit x L n)) := fun x hx => ih x (by have := List.sizeOf_lt_of_mem hx; simp at hs; omega) ((PX.oks_iff gs).1 h6 x hx)
    clear ih hs h6
    rw [px_av]
    obtain ⟨⟨g1, d1⟩, ⟨g2, d2⟩⟩ := c
    rw [fit]
    by_cases hbad : L = 0 ∨ n = 0
    · rw [if_pos hbad]
      show PC _ _ _ (.tup [iV 0, boV true])
      refine Zb7 true Tryz.func42 rfl rfl rfl (Nat.le_of_ble_eq_true rfl) Za4.tmp Za4.tmp ?_
      by_cases hL0 : L = 0
      · subst hL0
        have q1 : (((0 : Nat) : Int) == 0) = true := rfl
        refine goI ?_
        exact rfl
      · have q1 : ((L : Int) == 0) = false := beq_eq_false_iff_ne.2 (by omega)
        have q2 : ((n : Int) == 0) = true := beq_iff_eq.2 (by omega)
        refine goI ?_
        exact rfl
    · rw [if_neg hbad]
      have q1 : ((L : Int) == 0) = false := beq_eq_false_iff_ne.2 (by omega)
      have q2 : ((n : Int) == 0) = false := beq_eq_false_iff_ne.2 (by omega)
      have hL1 : L - 1 ≤ 100 := by omega
      have e1 : (L : Int) - 1 = ((L - 1 : Nat) : Int) := by omega
      have e2 : (n : Int) - 1 = ((n - 1 : Nat) : Int) := by omega
      have hn1 : n - 1 ≤ 1000 := by omega
      refine Zb7 true Tryz.func42 rfl rfl rfl (Nat.le_of_ble_eq_true rfl) Za4.tmp Za4.tmp ?_
      refine goI ?_
      rw [e2]
      refine T.loop (fun K s1 => ∃ (i m : Nat), K = gs.length - i ∧ i ≤ gs.length ∧ m ≤ 1000 ∧ fits (gs.take i) (L - 1) (n - 1) = some m ∧ s1 = mkS [(1, .v (iV L)), (2, .v (iV m)), (3, .ptr 3 0), (8, .v (iV i))] [(3, .var [.v (iV op), .v (.sl (ns.map iV)), .v (boV g1), .v (.sl (d1.map u32)), .v (boV g2), .v (.sl (d2.map u32)), .v (tV nm), .v (.sl (gs.map PX.av))])] 41 true) gs.length
        (s' := mkS [(1, .v (iV L)), (2, .v (iV (n - 1 : Nat))), (3, .ptr 3 0), (8, .v (iV ((0 : Nat) : Int)))] [(3, .var [.v (iV op), .v (.sl (ns.map iV)), .v (boV g1), .v (.sl (d1.map u32)), .v (boV g2), .v (.sl (d2.map u32)), .v (tV nm), .v (.sl (gs.map PX.av))])] 41 true) (by exact entA) ⟨0, n - 1, rfl, Nat.zero_le _, hn1, by rw [List.take_zero, fits], rfl⟩ ?_
      rintro _ _ ⟨i, m, rfl, hi, hm, hok, rfl⟩
      by_cases hlt : i < gs.length
      · have d1' : decide ((i : Int) < ((gs.map PX.av).length : Int)) = true := decide_eq_true (by rw [List.length_map]; omega)
        have hg : gs[i]? = some gs[i] := List.getElem?_eq_getElem hlt
        have hx : (gs.map PX.av)[((i : Nat) : Int).toNat]? = some (PX.av gs[i]) := by rw [Int.toNat_natCast, List.getElem?_map, hg]; rfl
        have c := cg gs[i] (List.getElem_mem hlt) (L - 1) m hL1 hm
        have f1 := fits_snoc hg hok
        have f2 := fits_fail hg hok
        have f3 := fun r => fit_le gs[i] (L - 1) m r
        rw [← e1] at c
        clear hg
        generalize gs[i] = x at *
        generalize fit x (L - 1) m = r at *
        obtain ⟨op', ns', ⟨⟨ga', da'⟩, ⟨gb', db'⟩⟩, nm', gs'⟩ := x
        refine goI ?_
        refine evG ggA (Zab (Zaa rfl) (Zac rfl) rfl rfl (by omega) hx rfl) ?_
        refine goI ?_
        cases r with
        | none =>
          rw [f2 rfl]
          change PC _ _ _ (.tup [iV 0, boV true]) at c
          refine evG ggA (Zae (Zaa rfl) rfl rfl c) ?_
          refine goI ?_
          exact rfl
        | some r =>
          have f3 := f3 r rfl
          change PC _ _ _ (.tup [iV r, boV false]) at c
          refine evG ggA (Zae (Zaa rfl) rfl rfl c) ?_
          refine goI ?_
          exact Zad (k := gs.length - (i + 1)) (s' := mkS [(1, .v (iV L)), (2, .v (iV r)), (3, .ptr 3 0), (8, .v (iV ((i : Int) + 1)))] [(3, .var [.v (iV op), .v (.sl (ns.map iV)), .v (boV g1), .v (.sl (d1.map u32)), .v (boV g2), .v (.sl (d2.map u32)), .v (tV nm), .v (.sl (gs.map PX.av))])] 41 true) (by omega) (by exact entA) ⟨i + 1, r, rfl, hlt, by omega, f1, rfl⟩
      · obtain rfl : i = gs.length := by omega
        have d1' : decide ((gs.length : Int) < ((gs.map PX.av).length : Int)) = false := decide_eq_false (by rw [List.length_map]; omega)
        rw [List.take_length] at hok
        rw [hok]
        refine goI ?_
        exact rfl
end Ab
namespace Ab
open Go Go.RowKit Go.Proofs Hp
set_option maxRecDepth 100000
set_option maxHeartbeats 4000000
theorem dsum_p {l : List Nat} (hl : ∀ c, c ∈ l → c < 256) (hn : l.length ≤ 1000000000) : PCM true Tryz.prog 51 [.own 101 l.length] (RL1 l) true (.v (uV (fnv l))) (RL1 l) := by
 have eml : (l.map nV).length = l.length := List.length_map ..
 refine Zay Tryz.func51 rfl rfl rfl (Nat.le_of_ble_eq_true rfl) ?_
 refine goI ?_
 refine T.loop (fun K s1 => ∃ i : Nat, K = l.length - i ∧ i ≤ l.length ∧ s1 = mkP [(0, .own 101 l.length), (3, .v (uV (fnv (l.take i)))), (4, .v (iV i))] (RL1 l) 20 true [101]) l.length
  (s' := mkP [(0, .own 101 l.length), (3, .v (uV 2166136261)), (4, .v (iV ((0 : Nat) : Int)))] (RL1 l) 20 true [101]) (by exact Zak) ⟨0, rfl, Nat.zero_le _, rfl⟩ ?_
 rintro _ _ ⟨i, rfl, hi, rfl⟩
 by_cases hlt : i < l.length
 ·have dd1 : decide ((i : Int) < (l.length : Int)) = true := decide_eq_true (by omega)
  have hg : l[i]? = some l[i] := List.getElem?_eq_getElem hlt
  have hxi : (l.map nV)[i]? = some (nV l[i]) := by rw [List.getElem?_map, hg]; rfl
  have hc := hl _ (List.getElem_mem hlt)
  have hs := fnv_snoc hg
  have hh := Zf1 (l.take i)
  have ei : ((i : Nat) : Int).toNat = i := by omega
  clear hg
  generalize l[i] = c at *
  generalize fnv (l.take i) = h at *
  have e2 : IntKind.u32.wrap (((h ^^^ c : Nat) : Int) * 16777619) = ((fnvS h c : Nat) : Int) := by rw [u32m]; unfold fnvS; omega
  refine goI ?_
  refine evG ggA (Zen (Zaa rfl) (Zac rfl) rfl rfl eml rfl (by omega) (by omega)) ?_
  rw [ei]
  refine evG ggA (Zgn (Zaa rfl) (Za8 rfl) rfl rfl eml hxi rfl) ?_
  refine goI ?_
  refine evG ggA (Zag (Zaa rfl) Za3 Za2 rfl (u32w (by omega) (by omega))) ?_
  refine evG ggA (Zbp (Zaa rfl) rfl rfl rfl (xor_bit hh hc)) ?_
  refine evG ggA (Zbk (Zaa rfl) rfl rfl e2) ?_
  refine goI ?_
  exact Zad (k := l.length - (i + 1)) (s' := mkP [(0, .own 101 l.length), (3, .v (uV (fnvS h c))), (4, .v (iV ((i : Int) + 1)))] (RL1 l) 20 true [101]) (by omega) (by exact Zak) ⟨i + 1, rfl, hlt, by rw [hs]; rfl⟩
 ·obtain rfl : i = l.length := by omega
  have dd1 : decide ((l.length : Int) < (l.length : Int)) = false := decide_eq_false (by omega)
  rw [List.take_length]
  refine goI ?_
  exact ⟨.inr rfl, by exact Zak⟩
def cE (c : PZ) : List PX := c.a :: c.b :: c.ds.map (·.e)
def PP.xs (p : PP) : List PX := p.defs.map (·.e) ++ p.cert.flatMap cE
theorem few_xs (p : PP) : p.xs.all fitB = fewB p := by
  unfold PP.xs fewB PP.binds
  rw [List.all_append, List.all_append, List.all_map, List.all_flatMap, List.all_flatMap]
  have e : (p.cert.all fun c => (cE c).all fitB) = ((p.cert.all fun c => fitB c.a && fitB c.b) && p.cert.all fun c => c.ds.all fun d => fitB d.e) := by
    induction p.cert with
    | nil => rfl
    | cons c l ih =>
      rw [List.all_cons, List.all_cons, List.all_cons, ih]
      unfold cE
      rw [List.all_cons, List.all_cons, List.all_map]
      show _ = _
      have : (c.ds.all (fitB ∘ fun x => x.e)) = c.ds.all fun d => fitB d.e := rfl
      rw [this]
      cases fitB c.a <;> cases fitB c.b <;> cases (c.ds.all fun d => fitB d.e) <;> cases (l.all fun c => fitB c.a && fitB c.b) <;> rfl
  rw [e]
  have e2 : (p.defs.all (fitB ∘ fun x => x.e)) = p.defs.all fun d => fitB d.e := rfl
  rw [e2]
  cases (p.defs.all fun d => fitB d.e) <;> cases (p.cert.all fun c => fitB c.a && fitB c.b) <;> cases (p.cert.all fun c => c.ds.all fun d => fitB d.e) <;> rfl
theorem exprs_p {p : PP} (h1 : p.defs.length ≤ 1000000000) (h2 : p.cert.length ≤ 1000000000) (hx : p.xs.length ≤ 100000000) : PC Tryz.prog 41 [p.av] (.sl (p.xs.map PX.av)) := by
 obtain ⟨sr, et, df, ce, sp, ma⟩ := p
 have h1 : df.length ≤ 1000000000 := h1
 have h2 : ce.length ≤ 1000000000 := h2
 have eX : (PP.xs ⟨sr, et, df, ce, sp, ma⟩).map PX.av = (df.map fun x : PB => x.e.av) ++ ce.flatMap fun c => (cE c).map PX.av := by
  unfold PP.xs
  rw [List.map_append, List.map_map, List.map_flatMap]; rfl
 have hxl := congrArg List.length eX
 rw [List.length_map, List.length_append, List.length_map] at hxl
 rw [eX]
 clear eX
 refine Zas true Tryz.func41 rfl rfl rfl (Nat.le_of_ble_eq_true rfl) Za4.tmp ?_
 refine goJ ?_
 refine T.loop (fun N s1 => ∃ i : Nat, N = df.length - i ∧ i ≤ df.length ∧ s1 = mkS [(1, .ptr 1 0), (3, .own 100 i), (4, .v (iV i))] [(1, .var [.v (.sl (sr.map PS.av)), .v (.sl (et.map PE.av)), .v (.sl (df.map PB.av)), .v (.sl (ce.map PZ.av)), .v (.sl (sp.map PF.av)), .v (.sl (ma.map PM.av))]), (100, .lst 8 59 ((df.take i).map fun x : PB => x.e.av))] 60 true) df.length
  (s' := mkS [(1, .ptr 1 0), (3, .own 100 0), (4, .v (iV ((0 : Nat) : Int)))] [(1, .var [.v (.sl (sr.map PS.av)), .v (.sl (et.map PE.av)), .v (.sl (df.map PB.av)), .v (.sl (ce.map PZ.av)), .v (.sl (sp.map PF.av)), .v (.sl (ma.map PM.av))]), (100, .lst 8 59 [])] 60 true) (by exact entA) ⟨0, rfl, Nat.zero_le _, rfl⟩ ?_
 rintro _ _ ⟨i, rfl, hi, rfl⟩
 by_cases hlt : i < df.length
 ·have dd1 : decide ((i : Int) < ((df.map PB.av).length : Int)) = true := decide_eq_true (by rw [List.length_map]; omega)
  have hg : df[i]? = some df[i] := List.getElem?_eq_getElem hlt
  have hx : (df.map PB.av)[((i : Nat) : Int).toNat]? = some (PB.av df[i]) := by rw [Int.toNat_natCast, List.getElem?_map, hg]; rfl
  have hs : (df.take (i + 1)).map (fun x : PB => x.e.av) = (df.take i).map (fun x : PB => x.e.av) ++ [df[i].e.av] := Zc0 hg
  have hli := Zdl (l := df) (f := fun x : PB => x.e.av) hi
  clear hg
  generalize df[i] = x at *
  generalize hQ : (df.take i).map (fun x : PB => x.e.av) = Q at *
  generalize hQ2 : (df.take (i + 1)).map (fun x : PB => x.e.av) = Q2 at *
  subst hs
  obtain ⟨nm, ⟨op', ns', ⟨⟨ga', da'⟩, ⟨gb', db'⟩⟩, nm', gs'⟩⟩ := x
  refine goJ ?_
  refine evG ggA (Zab (Zaa rfl) (Zac rfl) rfl rfl (by omega) hx rfl) ?_
  refine goJ ?_
  refine evG ggA (Zar (Zaa rfl) (Zaf rfl) rfl rfl rfl rfl (Zbo rfl rfl) (Nat.le_of_ble_eq_true rfl)) ?_
  refine evG ggA (Zbe (Zaa rfl) (Zaf rfl) rfl rfl hli rfl rfl (by decide) rfl (by omega) (Nat.le_of_ble_eq_true rfl) rfl) ?_
  refine goJ ?_
  exact Zad (k := df.length - (i + 1)) (s' := mkS [(1, .ptr 1 0), (3, .own 100 (i + 1)), (4, .v (iV ((i : Int) + 1)))] [(1, .var [.v (.sl (sr.map PS.av)), .v (.sl (et.map PE.av)), .v (.sl (df.map PB.av)), .v (.sl (ce.map PZ.av)), .v (.sl (sp.map PF.av)), .v (.sl (ma.map PM.av))]), (100, .lst 8 59 (Q ++ [_]))] 60 true) (by omega) (by exact entA) ⟨i + 1, rfl, hlt, by rw [hQ2]; rfl⟩
 obtain rfl : i = df.length := by omega
 have dd1 : decide ((df.length : Int) < ((df.map PB.av).length : Int)) = false := decide_eq_false (by rw [List.length_map]; omega)
 rw [List.take_length]
 have hD : (df.map fun x : PB => x.e.av).length = df.length := List.length_map ..
 generalize (df.map fun x : PB => x.e.av) = D at *
 refine goJ ?_
 refine T.loop (fun N s1 => ∃ (i n : Nat), N = ce.length - i ∧ i ≤ ce.length ∧ n = (D ++ (ce.take i).flatMap fun c => (cE c).map PX.av).length ∧ s1 = mkS [(1, .ptr 1 0), (3, .own 100 n), (5, .v (iV i))] [(1, .var [.v (.sl (sr.map PS.av)), .v (.sl (et.map PE.av)), .v (.sl (df.map PB.av)), .v (.sl (ce.map PZ.av)), .v (.sl (sp.map PF.av)), .v (.sl (ma.map PM.av))]), (100, .lst 8 59 (D ++ (ce.take i).flatMap fun c => (cE c).map PX.av))] 60 true) ce.length
  (s' := mkS [(1, .ptr 1 0), (3, .own 100 df.length), (5, .v (iV ((0 : Nat) : Int)))] [(1, .var [.v (.sl (sr.map PS.av)), .v (.sl (et.map PE.av)), .v (.sl (df.map PB.av)), .v (.sl (ce.map PZ.av)), .v (.sl (sp.map PF.av)), .v (.sl (ma.map PM.av))]), (100, .lst 8 59 D)] 60 true) (by exact entA) ⟨0, df.length, rfl, Nat.zero_le _, by simp; exact hD.symm, by simp⟩ ?_
 rintro _ _ ⟨i, n, rfl, hi, hn, rfl⟩
 by_cases hlt2 : i < ce.length
 ·have dd2 : decide ((i : Int) < ((ce.map PZ.av).length : Int)) = true := decide_eq_true (by rw [List.length_map]; omega)
  have hg : ce[i]? = some ce[i] := List.getElem?_eq_getElem hlt2
  have hx : (ce.map PZ.av)[((i : Nat) : Int).toNat]? = some (PZ.av ce[i]) := by rw [Int.toNat_natCast, List.getElem?_map, hg]; rfl
  have hs : (D ++ (ce.take (i + 1)).flatMap fun c => (cE c).map PX.av) = (D ++ (ce.take i).flatMap fun c => (cE c).map PX.av) ++ (cE ce[i]).map PX.av := by rw [List.append_assoc, flat_take hg]
  have hle : (D ++ (ce.take (i + 1)).flatMap fun c => (cE c).map PX.av).length ≤ 100000000 := by
   have e : (ce.flatMap fun c => (cE c).map PX.av) = ((ce.take (i + 1)).flatMap fun c => (cE c).map PX.av) ++ ((ce.drop (i + 1)).flatMap fun c => (cE c).map PX.av) := by rw [← List.flatMap_append, List.take_append_drop]
   have e2 := congrArg List.length e
   rw [List.length_append] at e2
   have e3 : (ce.flatMap fun c => (cE c).map PX.av).length = _ := e2
   simp only [List.length_append] at hxl ⊢
   omega
  clear hg
  generalize ce[i] = x at *
  obtain ⟨a, b, ds, k, bo, f, cs⟩ := x
  generalize (D ++ (ce.take i).flatMap fun c => (cE c).map PX.av) = Q at *
  generalize hQ2 : (D ++ (ce.take (i + 1)).flatMap fun c => (cE c).map PX.av) = Q2 at *
  have eC : (cE ⟨a, b, ds, k, bo, f, cs⟩).map PX.av = [a.av, b.av] ++ ds.map fun x : PB => x.e.av := by
   show a.av :: b.av :: (ds.map (·.e)).map PX.av = _
   rw [List.map_map]; rfl
  rw [eC] at hs
  subst hs
  clear eC
  have hle2 : n + 2 + ds.length ≤ 100000000 := by simp only [List.length_append, List.length_map, List.length_cons, List.length_nil] at hle; omega
  obtain ⟨f1, f2, f3, f4, cu⟩ := k
  obtain ⟨op1, ns1, ⟨⟨ga1, da1⟩, ⟨gb1, db1⟩⟩, nm1, gs1⟩ := a
  obtain ⟨op2, ns2, ⟨⟨ga2, da2⟩, ⟨gb2, db2⟩⟩, nm2, gs2⟩ := b
  refine goJ ?_
  refine evG ggA (Zab (Zaa rfl) (Zac rfl) rfl rfl (by omega) hx rfl) ?_
  refine goJ ?_
  refine evG ggA (Zar (Zaa rfl) (Zaf rfl) rfl rfl rfl rfl (fun x hx => by simp only [List.mem_cons, List.not_mem_nil, or_false] at hx; rcases hx with rfl | rfl <;> exact ⟨rfl, rfl⟩) (Nat.le_of_ble_eq_true rfl)) ?_
  refine evG ggA (Zb5 (xs := [_, _]) (Zaa rfl) (Zaf rfl) rfl rfl hn.symm rfl (fun b hb => by simp only [List.mem_cons, List.not_mem_nil, or_false] at hb; rcases hb with rfl | rfl <;> rfl) (by decide) (by unfold maxLen; simp only [List.length_cons, List.length_nil]; omega) (by simp only [List.length_cons, List.length_nil]; omega) rfl (fun _ b hb => by simp only [List.mem_cons, List.not_mem_nil, or_false] at hb; rcases hb with rfl | rfl <;> exact List.all_eq_true.1 rfl)) ?_
  refine goJ ?_
  refine T.loop (fun N s1 => ∃ j : Nat, N = ds.length - j ∧ j ≤ ds.length ∧ s1 = mkS [(1, .ptr 1 0), (3, .own 100 (n + 2 + j)), (5, .v (iV i)), (6, .ptr 6 0), (7, .v (iV j))] [(1, .var [.v (.sl (sr.map PS.av)), .v (.sl (et.map PE.av)), .v (.sl (df.map PB.av)), .v (.sl (ce.map PZ.av)), .v (.sl (sp.map PF.av)), .v (.sl (ma.map PM.av))]), (100, .lst 8 59 ((Q ++ [PX.av ⟨op1, ns1, ⟨⟨ga1, da1⟩, ⟨gb1, db1⟩⟩, nm1, gs1⟩, PX.av ⟨op2, ns2, ⟨⟨ga2, da2⟩, ⟨gb2, db2⟩⟩, nm2, gs2⟩]) ++ (ds.take j).map fun x : PB => x.e.av)), (6, .var [.v (iV op1), .v (.sl (ns1.map iV)), .v (boV ga1), .v (.sl (da1.map u32)), .v (boV gb1), .v (.sl (db1.map u32)), .v (tV nm1), .v (.sl (PX.avs gs1)), .v (iV op2), .v (.sl (ns2.map iV)), .v (boV ga2), .v (.sl (da2.map u32)), .v (boV gb2), .v (.sl (db2.map u32)), .v (tV nm2), .v (.sl (PX.avs gs2)), .v (.sl (ds.map PB.av)), .v (iV f1), .v (iV f2), .v (iV f3), .v (iV f4), .v (boV cu), .v (iV bo), .v (iV f), .v (.sl (cs.map BR.av))])] 60 true) ds.length
   (s' := mkS [(1, .ptr 1 0), (3, .own 100 (n + 2)), (5, .v (iV i)), (6, .ptr 6 0), (7, .v (iV ((0 : Nat) : Int)))] [(1, .var [.v (.sl (sr.map PS.av)), .v (.sl (et.map PE.av)), .v (.sl (df.map PB.av)), .v (.sl (ce.map PZ.av)), .v (.sl (sp.map PF.av)), .v (.sl (ma.map PM.av))]), (100, .lst 8 59 (Q ++ [PX.av ⟨op1, ns1, ⟨⟨ga1, da1⟩, ⟨gb1, db1⟩⟩, nm1, gs1⟩, PX.av ⟨op2, ns2, ⟨⟨ga2, da2⟩, ⟨gb2, db2⟩⟩, nm2, gs2⟩])), (6, .var [.v (iV op1), .v (.sl (ns1.map iV)), .v (boV ga1), .v (.sl (da1.map u32)), .v (boV gb1), .v (.sl (db1.map u32)), .v (tV nm1), .v (.sl (PX.avs gs1)), .v (iV op2), .v (.sl (ns2.map iV)), .v (boV ga2), .v (.sl (da2.map u32)), .v (boV gb2), .v (.sl (db2.map u32)), .v (tV nm2), .v (.sl (PX.avs gs2)), .v (.sl (ds.map PB.av)), .v (iV f1), .v (iV f2), .v (iV f3), .v (iV f4), .v (boV cu), .v (iV bo), .v (iV f), .v (.sl (cs.map BR.av))])] 60 true) (by exact entA) ⟨0, rfl, Nat.zero_le _, by simp⟩ ?_
  rintro _ _ ⟨j, rfl, hj, rfl⟩
  by_cases hlt3 : j < ds.length
  ·have dd3 : decide ((j : Int) < ((ds.map PB.av).length : Int)) = true := decide_eq_true (by rw [List.length_map]; omega)
   have hg : ds[j]? = some ds[j] := List.getElem?_eq_getElem hlt3
   have hx3 : (ds.map PB.av)[((j : Nat) : Int).toNat]? = some (PB.av ds[j]) := by rw [Int.toNat_natCast, List.getElem?_map, hg]; rfl
   have hs3 : (ds.take (j + 1)).map (fun x : PB => x.e.av) = (ds.take j).map (fun x : PB => x.e.av) ++ [ds[j].e.av] := Zc0 hg
   have hli : (Q ++ [PX.av ⟨op1, ns1, ⟨⟨ga1, da1⟩, ⟨gb1, db1⟩⟩, nm1, gs1⟩, PX.av ⟨op2, ns2, ⟨⟨ga2, da2⟩, ⟨gb2, db2⟩⟩, nm2, gs2⟩] ++ (ds.take j).map fun x : PB => x.e.av).length = n + 2 + j := by rw [List.length_append, List.length_append, Zdl (l := ds) (f := fun x : PB => x.e.av) hj, ← hn]; rfl
   clear hg
   generalize ds[j] = x at *
   generalize (ds.take j).map (fun x : PB => x.e.av) = U at *
   generalize hU2 : (ds.take (j + 1)).map (fun x : PB => x.e.av) = U2 at *
   subst hs3
   obtain ⟨nm, ⟨op', ns', ⟨⟨ga', da'⟩, ⟨gb', db'⟩⟩, nm', gs'⟩⟩ := x
   refine goJ ?_
   refine evG ggA (Zab (Zaa rfl) (Zac rfl) rfl rfl (by omega) hx3 rfl) ?_
   refine goJ ?_
   refine evG ggA (Zar (Zaa rfl) (Zaf rfl) rfl rfl rfl rfl (Zbo rfl rfl) (Nat.le_of_ble_eq_true rfl)) ?_
   refine evG ggA (Zbe (Zaa rfl) (Zaf rfl) rfl rfl hli rfl rfl (by decide) rfl (by omega) (Nat.le_of_ble_eq_true rfl) rfl) ?_
   refine goJ ?_
   exact Zad (k := ds.length - (j + 1)) (s' := mkS [(1, .ptr 1 0), (3, .own 100 (n + 2 + j + 1)), (5, .v (iV i)), (6, .ptr 6 0), (7, .v (iV ((j : Int) + 1)))] [(1, .var [.v (.sl (sr.map PS.av)), .v (.sl (et.map PE.av)), .v (.sl (df.map PB.av)), .v (.sl (ce.map PZ.av)), .v (.sl (sp.map PF.av)), .v (.sl (ma.map PM.av))]), (100, .lst 8 59 ((Q ++ [PX.av ⟨op1, ns1, ⟨⟨ga1, da1⟩, ⟨gb1, db1⟩⟩, nm1, gs1⟩, PX.av ⟨op2, ns2, ⟨⟨ga2, da2⟩, ⟨gb2, db2⟩⟩, nm2, gs2⟩]) ++ U ++ [_])), (6, .var [.v (iV op1), .v (.sl (ns1.map iV)), .v (boV ga1), .v (.sl (da1.map u32)), .v (boV gb1), .v (.sl (db1.map u32)), .v (tV nm1), .v (.sl (PX.avs gs1)), .v (iV op2), .v (.sl (ns2.map iV)), .v (boV ga2), .v (.sl (da2.map u32)), .v (boV gb2), .v (.sl (db2.map u32)), .v (tV nm2), .v (.sl (PX.avs gs2)), .v (.sl (ds.map PB.av)), .v (iV f1), .v (iV f2), .v (iV f3), .v (iV f4), .v (boV cu), .v (iV bo), .v (iV f), .v (.sl (cs.map BR.av))])] 60 true) (by omega) (by exact entA) ⟨j + 1, rfl, hlt3, by rw [hU2]; simp only [List.append_assoc]; rfl⟩
  obtain rfl : j = ds.length := by omega
  have dd3 : decide ((ds.length : Int) < ((ds.map PB.av).length : Int)) = false := decide_eq_false (by rw [List.length_map]; omega)
  rw [List.take_length]
  refine goJ ?_
  exact Zad (k := ce.length - (i + 1)) (s' := mkS [(1, .ptr 1 0), (3, .own 100 (n + 2 + ds.length)), (5, .v (iV ((i : Int) + 1)))] [(1, .var [.v (.sl (sr.map PS.av)), .v (.sl (et.map PE.av)), .v (.sl (df.map PB.av)), .v (.sl (ce.map PZ.av)), .v (.sl (sp.map PF.av)), .v (.sl (ma.map PM.av))]), (100, .lst 8 59 ((Q ++ [PX.av ⟨op1, ns1, ⟨⟨ga1, da1⟩, ⟨gb1, db1⟩⟩, nm1, gs1⟩, PX.av ⟨op2, ns2, ⟨⟨ga2, da2⟩, ⟨gb2, db2⟩⟩, nm2, gs2⟩]) ++ ds.map fun x : PB => x.e.av))] 60 true) (by omega) (by exact entA) ⟨i + 1, n + 2 + ds.length, rfl, hlt2, by rw [hQ2]; simp only [List.length_append, List.length_map, List.length_cons, List.length_nil]; omega, by rw [hQ2]; simp only [List.append_assoc]; rfl⟩
 obtain rfl : i = ce.length := by omega
 have dd2 : decide ((ce.length : Int) < ((ce.map PZ.av).length : Int)) = false := decide_eq_false (by rw [List.length_map]; omega)
 rw [List.take_length] at hn ⊢
 subst hn
 refine T.seq ?_
 refine r1A ?_
 refine T.condF rfl (by assumption) ?_
 refine T.exit ?_
 refine osA ?_
 refine T.weak (s' := mkS [(3, .v (.sl (D ++ ce.flatMap fun c => (cE c).map PX.av)))] [] 60 true) (by exact entA) ?_
 refine goJ ?_
 exact rfl
end Ab
namespace Ab
open Go Go.RowKit Go.Proofs Hp
set_option maxRecDepth 100000
set_option maxHeartbeats 4000000
theorem wo_eta {x : PE} (hx : x.ok) : ∀ l : List Nat, l.length + (eE x).length ≤ 1000000000 → ∃ U : List Nat, PCM true Tryz.prog 46 (.own 101 l.length :: [.v (iV x.l)]) (RL1 l) true (.own 101 U.length) (RL1 U) ∧ PCM true Tryz.prog 45 (.own 101 U.length :: [.v (.sl (x.e.map iV))]) (RL1 U) true (.own 101 (l ++ eE x).length) (RL1 (l ++ eE x)) := fun l hl => by
 have e : eE x = eI x.l ++ eL eI x.e := rfl
 rw [e] at hl ⊢
 rw [List.length_append] at hl
 have c1 := Zb8 hx.1 l (by omega)
 have c2 := wo_ints hx.2.1 hx.2.2 (l ++ eI x.l) (by rw [List.length_append]; omega)
 rw [List.append_assoc] at c2
 exact ⟨_, c1, c2⟩
theorem wo_mat {x : PM} (hx : x.ok) : ∀ l : List Nat, l.length + (eM x.can).length ≤ 1000000000 → ∃ U V : List Nat, PCM true Tryz.prog 46 (.own 101 l.length :: [.v (iV x.r)]) (RL1 l) true (.own 101 U.length) (RL1 U) ∧ PCM true Tryz.prog 46 (.own 101 U.length :: [.v (iV x.c)]) (RL1 U) true (.own 101 V.length) (RL1 V) ∧ PCM true Tryz.prog 50 (.own 101 V.length :: [.v (.sl (x.a.map BR.av))]) (RL1 V) true (.own 101 (l ++ eM x.can).length) (RL1 (l ++ eM x.can)) := fun l hl => by
 have e : eM x.can = eI x.r ++ (eI x.c ++ eL (fun x => eR x.can) x.a) := by rw [Zep]; rfl
 rw [e] at hl ⊢
 rw [List.length_append, List.length_append] at hl
 have c1 := Zb8 hx.1 l (by omega)
 have c2 := Zb8 hx.2.1 (l ++ eI x.r) (by rw [List.length_append]; omega)
 have c3 := wo_rats hx.2.2.1 hx.2.2.2 (l ++ eI x.r ++ eI x.c) (by rw [List.length_append, List.length_append]; omega)
 have e' : l ++ eI x.r ++ eI x.c ++ eL (fun x => eR x.can) x.a = l ++ (eI x.r ++ (eI x.c ++ eL (fun x => eR x.can) x.a)) := by simp only [List.append_assoc]
 rw [e'] at c3
 exact ⟨_, _, c1, c2, c3⟩
theorem xs_ok {p : PP} (h : p.ok) : ∀ x, x ∈ p.xs → x.ok := by
 intro x hx
 obtain ⟨-, -, ⟨h2, -⟩, ⟨h3, -⟩, -, -⟩ := h
 rcases List.mem_append.1 hx with hx | hx
 ·obtain ⟨d, hd, rfl⟩ := List.mem_map.1 hx
  exact (h2 d hd).2
 ·obtain ⟨c, hc, hx⟩ := List.mem_flatMap.1 hx
  obtain ⟨g1, g2, ⟨g3, -⟩, -⟩ := h3 c hc
  rcases List.mem_cons.1 hx with rfl | hx
  ·exact g1
  rcases List.mem_cons.1 hx with rfl | hx
  ·exact g2
  obtain ⟨d, hd, rfl⟩ := List.mem_map.1 hx
  exact (g3 d hd).2
theorem rencode_no {p : PP} (h : p.ok) (hx : p.xs.length ≤ 100000000) (hf : fewB p = false) : PC Tryz.prog 13 [p.av] (.tup [.sl [], iV 7]) := by
  have cx := exprs_p (p := p) h.2.2.1.2 h.2.2.2.1.2 hx
  have hok := xs_ok h
  have hfx : p.xs.all fitB = false := (few_xs p).trans hf
  generalize p.xs = xs at *
  obtain ⟨sr, et, df, ce, sp, ma⟩ := p
  clear h hf
  refine Zb7 true Tryz.func13 rfl rfl rfl (Nat.le_of_ble_eq_true rfl) Za4.tmp Za4.tmp ?_
  refine goJ ?_
  refine evG ggA (Zae (Zaa rfl) rfl rfl cx) ?_
  refine goJ ?_
  refine T.loop (fun N s1 => ∃ i : Nat, N = xs.length - i ∧ i ≤ xs.length ∧ (xs.take i).all fitB = true ∧ s1 = mkS [(1, .ptr 1 0), (4, .v (.sl (xs.map PX.av))), (5, .v (iV i))] [(1, .var [.v (.sl (sr.map PS.av)), .v (.sl (et.map PE.av)), .v (.sl (df.map PB.av)), .v (.sl (ce.map PZ.av)), .v (.sl (sp.map PF.av)), .v (.sl (ma.map PM.av))])] 179 true) xs.length
    (s' := mkS [(1, .ptr 1 0), (4, .v (.sl (xs.map PX.av))), (5, .v (iV ((0 : Nat) : Int)))] [(1, .var [.v (.sl (sr.map PS.av)), .v (.sl (et.map PE.av)), .v (.sl (df.map PB.av)), .v (.sl (ce.map PZ.av)), .v (.sl (sp.map PF.av)), .v (.sl (ma.map PM.av))])] 179 true) (by exact entA) ⟨0, rfl, Nat.zero_le _, rfl, rfl⟩ ?_
  rintro _ _ ⟨i, rfl, hi, hal, rfl⟩
  by_cases hlt : i < xs.length
  rotate_left
  · obtain rfl : i = xs.length := by omega
    have dd1 : decide ((xs.length : Int) < ((xs.map PX.av).length : Int)) = false := decide_eq_false (by rw [List.length_map]; omega)
    rw [List.take_length] at hal
    rw [hal] at hfx
    cases hfx
  · have dd1 : decide ((i : Int) < ((xs.map PX.av).length : Int)) = true := decide_eq_true (by rw [List.length_map]; omega)
    have hg : xs[i]? = some xs[i] := List.getElem?_eq_getElem hlt
    have hx : (xs.map PX.av)[((i : Nat) : Int).toNat]? = some (PX.av xs[i]) := by rw [Int.toNat_natCast, List.getElem?_map, hg]; rfl
    have c2 := deep_p _ xs[i] (Nat.le_refl _) (hok _ (List.getElem_mem hlt)) 100 1000 (by omega) (by omega)
    have hff := fun h => all_take hg hal h
    have hgf : fitB xs[i] = false → xs.all fitB = false := fun h => all_get hg h
    have hfe : fitB xs[i] = (fit xs[i] 100 1000).isSome := rfl
    clear hg
    generalize xs[i] = x at *
    generalize fit x 100 1000 = r at *
    obtain ⟨op', ns', ⟨⟨ga', da'⟩, ⟨gb', db'⟩⟩, nm', gs'⟩ := x
    cases r with
    | some m =>
      have c2 : PC _ _ [_, iV 100, iV 1000] (.tup [iV m, boV false]) := c2
      refine goJ ?_
      refine evG ggA (Zab (Zaa rfl) (Zac rfl) rfl rfl (by omega) hx rfl) ?_
      refine goJ ?_
      refine evG ggA (Zae (Zaa rfl) rfl rfl c2) ?_
      refine goJ ?_
      exact Zad (k := xs.length - (i + 1)) (s' := mkS [(1, .ptr 1 0), (4, .v (.sl (xs.map PX.av))), (5, .v (iV ((i : Int) + 1)))] [(1, .var [.v (.sl (sr.map PS.av)), .v (.sl (et.map PE.av)), .v (.sl (df.map PB.av)), .v (.sl (ce.map PZ.av)), .v (.sl (sp.map PF.av)), .v (.sl (ma.map PM.av))])] 179 true) (by omega) (by exact entA) ⟨i + 1, rfl, hlt, hff hfe, rfl⟩
    | none =>
      have c2 : PC _ _ [_, iV 100, iV 1000] (.tup [iV 0, boV true]) := c2
      have hno := hgf hfe
      refine goJ ?_
      refine evG ggA (Zab (Zaa rfl) (Zac rfl) rfl rfl (by omega) hx rfl) ?_
      refine goJ ?_
      refine evG ggA (Zae (Zaa rfl) rfl rfl c2) ?_
      refine goJ ?_
      exact rfl
theorem rencode_p {p : PP} (h : p.ok) (hx : p.xs.length ≤ 100000000) (hf : fewB p = true) (hsz : (eP p.can).length ≤ 16777000) : PC Tryz.prog 13 [p.av] (.tup [.sl ((encB p.can).map nV), iV 0]) := by
  have cx := exprs_p (p := p) h.2.2.1.2 h.2.2.2.1.2 hx
  have hok := xs_ok h
  have hfx : p.xs.all fitB = true := (few_xs p).trans hf
  generalize p.xs = xs at *
  have hbd : By (Zf5 p.can) := By.app (fun c hc => by simp at hc; omega) (eP_by (PP.can_ok h))
  obtain ⟨sr, et, df, ce, sp, ma⟩ := p
  obtain ⟨⟨h0, n0⟩, ⟨h1, n1⟩, ⟨h2, n2⟩, ⟨h3, n3⟩, ⟨h4, n4⟩, h5, n5⟩ := h
  have h0 : ∀ s, s ∈ sr → s.ok := h0
  have h1 : ∀ s, s ∈ et → s.ok := h1
  have h2 : ∀ s, s ∈ df → s.ok := h2
  have h3 : ∀ s, s ∈ ce → s.ok := h3
  have h4 : ∀ s, s ∈ sp → s.ok := h4
  have h5 : ∀ s, s ∈ ma → s.ok := h5
  have n0 : sr.length ≤ 1000000000 := n0
  have n1 : et.length ≤ 1000000000 := n1
  have n2 : df.length ≤ 1000000000 := n2
  have n3 : ce.length ≤ 1000000000 := n3
  have n4 : sp.length ≤ 1000000000 := n4
  have n5 : ma.length ≤ 1000000000 := n5
  have hl : (eN sr.length).length + (sr.flatMap fun x => eS x.can).length + ((eN et.length).length + (et.flatMap eE).length) + (eL (fun x => eD x.can) df).length + ((eN ce.length).length + (ce.flatMap fun x => eC x.can).length) + ((eN sp.length).length + (sp.flatMap fun x => eF x.can).length) + ((eN ma.length).length + (ma.flatMap fun x => eM x.can).length) ≤ 16777000 := by
    have e : eP (PP.can ⟨sr, et, df, ce, sp, ma⟩) = eL eS (sr.map PS.can) ++ (eL eE et ++ (eL eD (df.map PB.can) ++ (eL eC (ce.map PZ.can) ++ (eL eF (sp.map PF.can) ++ eL eM (ma.map PM.can))))) := rfl
    rw [e, ← Zep, ← Zep, ← Zep, ← Zep, ← Zep] at hsz
    unfold eL at hsz ⊢
    simp only [List.length_append] at hsz ⊢
    omega
  have w1 : ∀ {α : Type} {f : α → AV} (xs : List α), xs.length ≤ 1000000000 → IntKind.u64.wrap (((xs.map f).length : Int)) = (xs.length : Int) := fun xs h => by rw [List.length_map]; exact u64w (by omega) (by omega)
  clear hf hsz
  refine Zb7 true Tryz.func13 rfl rfl rfl (Nat.le_of_ble_eq_true rfl) Za4.tmp Za4.tmp ?_
  refine goJ ?_
  refine evG ggA (Zae (Zaa rfl) rfl rfl cx) ?_
  refine goJ ?_
  refine T.loop (fun N s1 => ∃ i : Nat, N = xs.length - i ∧ i ≤ xs.length ∧ (xs.take i).all fitB = true ∧ s1 = mkS [(1, .ptr 1 0), (4, .v (.sl (xs.map PX.av))), (5, .v (iV i))] [(1, .var [.v (.sl (sr.map PS.av)), .v (.sl (et.map PE.av)), .v (.sl (df.map PB.av)), .v (.sl (ce.map PZ.av)), .v (.sl (sp.map PF.av)), .v (.sl (ma.map PM.av))])] 179 true) xs.length
    (s' := mkS [(1, .ptr 1 0), (4, .v (.sl (xs.map PX.av))), (5, .v (iV ((0 : Nat) : Int)))] [(1, .var [.v (.sl (sr.map PS.av)), .v (.sl (et.map PE.av)), .v (.sl (df.map PB.av)), .v (.sl (ce.map PZ.av)), .v (.sl (sp.map PF.av)), .v (.sl (ma.map PM.av))])] 179 true) (by exact entA) ⟨0, rfl, Nat.zero_le _, rfl, rfl⟩ ?_
  rintro _ _ ⟨i, rfl, hi, hal, rfl⟩
  by_cases hlt : i < xs.length
  rotate_left
  · obtain rfl : i = xs.length := by omega
    have dd1 : decide ((xs.length : Int) < ((xs.map PX.av).length : Int)) = false := decide_eq_false (by rw [List.length_map]; omega)
    rw [List.take_length] at hal
    refine goJ ?_
    refine evG ggA (Zd8 101 (Zaa rfl) rfl (Zaf rfl) rfl rfl rfl rfl (fun x hx => ⟨nV_one [72, 80, 1] x hx, by simp at hx; rcases hx with rfl | rfl | rfl <;> rfl⟩) (Nat.le_of_ble_eq_true rfl) (by decide) (fun _ => nV_nu [72, 80, 1])) ?_
    refine goJ ?_
    have c0 := Zcf (n := sr.length) (by omega) [72, 80, 1] (by show 3 + _ ≤ _; omega)
    generalize hE1 : ([72, 80, 1] : List Nat) ++ eN sr.length = E1 at *
    have q1 : E1.length = 3 + (eN sr.length).length := by rw [← hE1, List.length_append]; rfl
    refine evG ggA (Zag (Zaa rfl) Zbd Za0 rfl (w1 _ n0)) ?_
    refine mcS [(101, 101)] c0 ?_
    refine goJ ?_
    refine T.loop (fun N s1 => ∃ i : Nat, N = sr.length - i ∧ i ≤ sr.length ∧ s1 = mkS [(8, .own 101 (E1 ++ (sr.take i).flatMap (fun x => eS x.can)).length), (1, .ptr 1 0), (9, .v (iV i))] [(101, .lst 1 5 ((E1 ++ (sr.take i).flatMap (fun x => eS x.can)).map nV)), (1, .var [.v (.sl (sr.map PS.av)), .v (.sl (et.map PE.av)), .v (.sl (df.map PB.av)), .v (.sl (ce.map PZ.av)), .v (.sl (sp.map PF.av)), .v (.sl (ma.map PM.av))])] 179 true) sr.length
      (s' := mkS [(8, .own 101 (E1 ++ []).length), (1, .ptr 1 0), (9, .v (iV ((0 : Nat) : Int)))] [(101, .lst 1 5 ((E1 ++ []).map nV)), (1, .var [.v (.sl (sr.map PS.av)), .v (.sl (et.map PE.av)), .v (.sl (df.map PB.av)), .v (.sl (ce.map PZ.av)), .v (.sl (sp.map PF.av)), .v (.sl (ma.map PM.av))])] 179 true) (by rw [List.append_nil]; exact entA) ⟨0, rfl, Nat.zero_le _, rfl⟩ ?_
    rintro _ _ ⟨i, rfl, hii, rfl⟩
    by_cases hlti : i < sr.length
    rotate_left
    · obtain rfl : i = sr.length := by omega
      have dd1 : decide ((sr.length : Int) < ((sr.map PS.av).length : Int)) = false := decide_eq_false (by rw [List.length_map]; omega)
      rw [List.take_length]
      have c1 := Zcf (n := et.length) (by omega) (E1 ++ sr.flatMap (fun x => eS x.can)) (by simp only [List.length_append]; omega)
      generalize hE2 : (E1 ++ sr.flatMap (fun x => eS x.can)) ++ eN et.length = E2 at *
      have q2 : E2.length = E1.length + (sr.flatMap (fun x => eS x.can)).length + (eN et.length).length := by rw [← hE2]; simp only [List.length_append]
      refine goJ ?_
      refine evG ggA (Zag (Zaa rfl) Zbd Za0 rfl (w1 _ n1)) ?_
      refine mcS [(101, 101)] c1 ?_
      refine goJ ?_
      refine T.loop (fun N s1 => ∃ i : Nat, N = et.length - i ∧ i ≤ et.length ∧ s1 = mkS [(8, .own 101 (E2 ++ (et.take i).flatMap eE).length), (1, .ptr 1 0), (10, .v (iV i))] [(101, .lst 1 5 ((E2 ++ (et.take i).flatMap eE).map nV)), (1, .var [.v (.sl (sr.map PS.av)), .v (.sl (et.map PE.av)), .v (.sl (df.map PB.av)), .v (.sl (ce.map PZ.av)), .v (.sl (sp.map PF.av)), .v (.sl (ma.map PM.av))])] 179 true) et.length
        (s' := mkS [(8, .own 101 (E2 ++ []).length), (1, .ptr 1 0), (10, .v (iV ((0 : Nat) : Int)))] [(101, .lst 1 5 ((E2 ++ []).map nV)), (1, .var [.v (.sl (sr.map PS.av)), .v (.sl (et.map PE.av)), .v (.sl (df.map PB.av)), .v (.sl (ce.map PZ.av)), .v (.sl (sp.map PF.av)), .v (.sl (ma.map PM.av))])] 179 true) (by rw [List.append_nil]; exact entA) ⟨0, rfl, Nat.zero_le _, rfl⟩ ?_
      rintro _ _ ⟨i, rfl, hii, rfl⟩
      by_cases hlti : i < et.length
      rotate_left
      · obtain rfl : i = et.length := by omega
        have dd1 : decide ((et.length : Int) < ((et.map PE.av).length : Int)) = false := decide_eq_false (by rw [List.length_map]; omega)
        rw [List.take_length]
        have c3 := wo_defs h2 n2 (E2 ++ et.flatMap eE) (by simp only [List.length_append]; omega)
        generalize hE3 : (E2 ++ et.flatMap eE) ++ eL (fun x => eD x.can) df = E3 at *
        have q3 : E3.length = E2.length + (et.flatMap eE).length + (eL (fun x => eD x.can) df).length := by rw [← hE3]; simp only [List.length_append]
        refine goJ ?_
        refine mcS [(101, 101)] c3 ?_
        refine goJ ?_
        have c4 := Zcf (n := ce.length) (by omega) E3 (by omega)
        generalize hE4 : E3 ++ eN ce.length = E4 at *
        have q4 : E4.length = E3.length + (eN ce.length).length := by rw [← hE4]; simp only [List.length_append]
        refine evG ggA (Zag (Zaa rfl) Zbd Za0 rfl (w1 _ n3)) ?_
        refine mcS [(101, 101)] c4 ?_
        refine goJ ?_
        refine T.loop (fun N s1 => ∃ i : Nat, N = ce.length - i ∧ i ≤ ce.length ∧ s1 = mkS [(8, .own 101 (E4 ++ (ce.take i).flatMap (fun x => eC x.can)).length), (1, .ptr 1 0), (11, .v (iV i))] [(101, .lst 1 5 ((E4 ++ (ce.take i).flatMap (fun x => eC x.can)).map nV)), (1, .var [.v (.sl (sr.map PS.av)), .v (.sl (et.map PE.av)), .v (.sl (df.map PB.av)), .v (.sl (ce.map PZ.av)), .v (.sl (sp.map PF.av)), .v (.sl (ma.map PM.av))])] 179 true) ce.length
          (s' := mkS [(8, .own 101 (E4 ++ []).length), (1, .ptr 1 0), (11, .v (iV ((0 : Nat) : Int)))] [(101, .lst 1 5 ((E4 ++ []).map nV)), (1, .var [.v (.sl (sr.map PS.av)), .v (.sl (et.map PE.av)), .v (.sl (df.map PB.av)), .v (.sl (ce.map PZ.av)), .v (.sl (sp.map PF.av)), .v (.sl (ma.map PM.av))])] 179 true) (by rw [List.append_nil]; exact entA) ⟨0, rfl, Nat.zero_le _, rfl⟩ ?_
        rintro _ _ ⟨i, rfl, hii, rfl⟩
        by_cases hlti : i < ce.length
        rotate_left
        · obtain rfl : i = ce.length := by omega
          have dd1 : decide ((ce.length : Int) < ((ce.map PZ.av).length : Int)) = false := decide_eq_false (by rw [List.length_map]; omega)
          rw [List.take_length]
          have c5 := Zcf (n := sp.length) (by omega) (E4 ++ ce.flatMap (fun x => eC x.can)) (by simp only [List.length_append]; omega)
          generalize hE5 : (E4 ++ ce.flatMap (fun x => eC x.can)) ++ eN sp.length = E5 at *
          have q5 : E5.length = E4.length + (ce.flatMap (fun x => eC x.can)).length + (eN sp.length).length := by rw [← hE5]; simp only [List.length_append]
          refine goJ ?_
          refine evG ggA (Zag (Zaa rfl) Zbd Za0 rfl (w1 _ n4)) ?_
          refine mcS [(101, 101)] c5 ?_
          refine goJ ?_
          refine T.loop (fun N s1 => ∃ i : Nat, N = sp.length - i ∧ i ≤ sp.length ∧ s1 = mkS [(8, .own 101 (E5 ++ (sp.take i).flatMap (fun x => eF x.can)).length), (1, .ptr 1 0), (12, .v (iV i))] [(101, .lst 1 5 ((E5 ++ (sp.take i).flatMap (fun x => eF x.can)).map nV)), (1, .var [.v (.sl (sr.map PS.av)), .v (.sl (et.map PE.av)), .v (.sl (df.map PB.av)), .v (.sl (ce.map PZ.av)), .v (.sl (sp.map PF.av)), .v (.sl (ma.map PM.av))])] 179 true) sp.length
            (s' := mkS [(8, .own 101 (E5 ++ []).length), (1, .ptr 1 0), (12, .v (iV ((0 : Nat) : Int)))] [(101, .lst 1 5 ((E5 ++ []).map nV)), (1, .var [.v (.sl (sr.map PS.av)), .v (.sl (et.map PE.av)), .v (.sl (df.map PB.av)), .v (.sl (ce.map PZ.av)), .v (.sl (sp.map PF.av)), .v (.sl (ma.map PM.av))])] 179 true) (by rw [List.append_nil]; exact entA) ⟨0, rfl, Nat.zero_le _, rfl⟩ ?_
          rintro _ _ ⟨i, rfl, hii, rfl⟩
          by_cases hlti : i < sp.length
          rotate_left
          · obtain rfl : i = sp.length := by omega
            have dd1 : decide ((sp.length : Int) < ((sp.map PF.av).length : Int)) = false := decide_eq_false (by rw [List.length_map]; omega)
            rw [List.take_length]
            have c6 := Zcf (n := ma.length) (by omega) (E5 ++ sp.flatMap (fun x => eF x.can)) (by simp only [List.length_append]; omega)
            generalize hE6 : (E5 ++ sp.flatMap (fun x => eF x.can)) ++ eN ma.length = E6 at *
            have q6 : E6.length = E5.length + (sp.flatMap (fun x => eF x.can)).length + (eN ma.length).length := by rw [← hE6]; simp only [List.length_append]
            refine goJ ?_
            refine evG ggA (Zag (Zaa rfl) Zbd Za0 rfl (w1 _ n5)) ?_
            refine mcS [(101, 101)] c6 ?_
            refine goJ ?_
            refine T.loop (fun N s1 => ∃ i : Nat, N = ma.length - i ∧ i ≤ ma.length ∧ s1 = mkS [(8, .own 101 (E6 ++ (ma.take i).flatMap (fun x => eM x.can)).length), (1, .ptr 1 0), (13, .v (iV i))] [(101, .lst 1 5 ((E6 ++ (ma.take i).flatMap (fun x => eM x.can)).map nV)), (1, .var [.v (.sl (sr.map PS.av)), .v (.sl (et.map PE.av)), .v (.sl (df.map PB.av)), .v (.sl (ce.map PZ.av)), .v (.sl (sp.map PF.av)), .v (.sl (ma.map PM.av))])] 179 true) ma.length
              (s' := mkS [(8, .own 101 (E6 ++ []).length), (1, .ptr 1 0), (13, .v (iV ((0 : Nat) : Int)))] [(101, .lst 1 5 ((E6 ++ []).map nV)), (1, .var [.v (.sl (sr.map PS.av)), .v (.sl (et.map PE.av)), .v (.sl (df.map PB.av)), .v (.sl (ce.map PZ.av)), .v (.sl (sp.map PF.av)), .v (.sl (ma.map PM.av))])] 179 true) (by rw [List.append_nil]; exact entA) ⟨0, rfl, Nat.zero_le _, rfl⟩ ?_
            rintro _ _ ⟨i, rfl, hii, rfl⟩
            by_cases hlti : i < ma.length
            rotate_left
            · obtain rfl : i = ma.length := by omega
              have dd1 : decide ((ma.length : Int) < ((ma.map PM.av).length : Int)) = false := decide_eq_false (by rw [List.length_map]; omega)
              rw [List.take_length]
              have hB : E6 ++ ma.flatMap (fun x => eM x.can) = Zf5 (PP.can ⟨sr, et, df, ce, sp, ma⟩) := by
                rw [← hE6, ← hE5, ← hE4, ← hE3, ← hE2, ← hE1]
                show _ = [72, 80, 1] ++ (eL eS (sr.map PS.can) ++ (eL eE et ++ (eL eD (df.map PB.can) ++ (eL eC (ce.map PZ.can) ++ (eL eF (sp.map PF.can) ++ eL eM (ma.map PM.can))))))
                rw [← Zep, ← Zep, ← Zep, ← Zep, ← Zep]
                unfold eL
                simp only [List.append_assoc]
              have q7 : (E6 ++ ma.flatMap (fun x => eM x.can)).length ≤ 16777003 := by rw [List.length_append]; omega
              rw [← hB] at hbd
              unfold encB
              rw [← hB]
              clear hB hE1 hE2 hE3 hE4 hE5 hE6
              generalize E6 ++ ma.flatMap (fun x => eM x.can) = Z at *
              have csum := dsum_p hbd (by omega)
              have hH := Zf1 Z
              generalize fnv Z = H at *
              have t1 : (H : Int).fdiv (2 ^ (min (24 : Int).toNat 32)) = ((H / 16777216 : Nat) : Int) := by rw [Int.fdiv_eq_ediv_of_nonneg _ (by decide)]; rfl
              have t2 : (H : Int).fdiv (2 ^ (min (16 : Int).toNat 32)) = ((H / 65536 : Nat) : Int) := by rw [Int.fdiv_eq_ediv_of_nonneg _ (by decide)]; rfl
              have t3 : (H : Int).fdiv (2 ^ (min (8 : Int).toNat 32)) = ((H / 256 : Nat) : Int) := by rw [Int.fdiv_eq_ediv_of_nonneg _ (by decide)]; rfl
              have s1 : IntKind.u8.wrap ((H / 16777216 : Nat) : Int) = ((H / 16777216 : Nat) : Int) := by rw [u8m]; omega
              have s2 : IntKind.u8.wrap ((H / 65536 : Nat) : Int) = ((H / 65536 % 256 : Nat) : Int) := by rw [u8m]; omega
              have s3 : IntKind.u8.wrap ((H / 256 : Nat) : Int) = ((H / 256 % 256 : Nat) : Int) := by rw [u8m]; omega
              have s4 : IntKind.u8.wrap (H : Int) = ((H % 256 : Nat) : Int) := by rw [u8m]; omega
              have e7 : (Z.map nV).length = Z.length := List.length_map ..
              have d7 : decide ((((Z.map nV ++ [nV (H / 16777216), nV (H / 65536 % 256), nV (H / 256 % 256), nV (H % 256)]).length : Nat) : Int) > 16777216) = false := decide_eq_false (by rw [List.length_append, e7]; show ¬ (((Z.length + 4 : Nat) : Int) > 16777216); omega)
              have hR : (Z ++ Zc5 H).map nV = Z.map nV ++ [nV (H / 16777216), nV (H / 65536 % 256), nV (H / 256 % 256), nV (H % 256)] := by rw [List.map_append]; rfl
              rw [hR]
              refine goJ ?_
              refine mcS [(101, 101)] csum ?_
              refine goJ ?_
              refine evG ggA (Zbx (Zaa rfl) rfl rfl (by decide) t1) ?_
              refine evG ggA (Zag (Zaa rfl) Za2 Za3 rfl s1) ?_
              refine goJ ?_
              refine evG ggA (Zbx (Zaa rfl) rfl rfl (by decide) t2) ?_
              refine evG ggA (Zag (Zaa rfl) Za2 Za3 rfl s2) ?_
              refine goJ ?_
              refine evG ggA (Zbx (Zaa rfl) rfl rfl (by decide) t3) ?_
              refine evG ggA (Zag (Zaa rfl) Za2 Za3 rfl s3) ?_
              refine goJ ?_
              refine evG ggA (Zag (Zaa rfl) Za2 Za3 rfl s4) ?_
              refine evG ggA (Zar (Zaa rfl) (Zaf rfl) rfl rfl rfl rfl (fun x hx => by simp only [List.mem_cons, List.not_mem_nil, or_false] at hx; rcases hx with rfl | rfl | rfl | rfl <;> exact ⟨rfl, rfl⟩) (Nat.le_of_ble_eq_true rfl)) ?_
              refine evG ggA (Zb5 (xs := [nV (H / 16777216), nV (H / 65536 % 256), nV (H / 256 % 256), nV (H % 256)]) (Zaa rfl) (Zaf rfl) rfl rfl e7 rfl (fun b hb => by simp only [List.mem_cons, List.not_mem_nil, or_false] at hb; rcases hb with rfl | rfl | rfl | rfl <;> rfl) (by decide) (by unfold maxLen; simp only [List.length_cons, List.length_nil]; omega) (by simp only [List.length_cons, List.length_nil]; omega) rfl (fun _ b hb c hc => by simp only [List.mem_cons, List.not_mem_nil, or_false] at hb; rcases hb with rfl | rfl | rfl | rfl <;> (simp [nV, bV, AV.cells] at hc; subst hc; rfl))) ?_
              refine evG ggA (Zb4 (Zaa rfl) rfl) ?_
              refine Zbs ?_
              refine Zbr ?_
              refine T.weak (s' := mkS [(8, .v (.sl (Z.map nV ++ [nV (H / 16777216), nV (H / 65536 % 256), nV (H / 256 % 256), nV (H % 256)])))] [] 179 true) (by exact entA) ?_
              refine goJ ?_
              exact rfl
            · have dd1 : decide ((i : Int) < ((ma.map PM.av).length : Int)) = true := decide_eq_true (by rw [List.length_map]; omega)
              have hg : ma[i]? = some ma[i] := List.getElem?_eq_getElem hlti
              have hx : (ma.map PM.av)[((i : Nat) : Int).toNat]? = some (PM.av ma[i]) := by rw [Int.toNat_natCast, List.getElem?_map, hg]; rfl
              have hfl := Zcn (fun x => eM x.can) ma (i + 1)
              rw [Zat hg, List.length_append] at hfl
              skip
              have c2 := wo_mat (h5 _ (List.getElem_mem hlti)) (E6 ++ (ma.take i).flatMap (fun x => eM x.can)) (by rw [List.length_append]; omega)
              rw [List.append_assoc E6, ← Zat (f := (fun x => eM x.can)) hg] at c2
              clear hg hfl
              generalize ma[i] = x at *
              obtain ⟨xr, xc, xa⟩ := x
              obtain ⟨U, V, c3, c4, c5⟩ := c2
              refine goJ ?_
              refine T.drawC mixed ?_
              refine Zal (Zbj (Zaa rfl) rfl) rfl rfl ?_
              refine Zal (Zai (Zaa rfl) (Zan rfl) rfl) rfl rfl ?_
              refine Zbc (Zah (Zaa rfl) (Za8 rfl) rfl rfl rfl) rfl ?_
              refine Zal (Zbj (Zaa rfl) rfl) rfl rfl ?_
              refine Zfg (Zab (Zaa rfl) (Zac rfl) rfl rfl (by omega) hx rfl) rfl rfl rfl ?_
              refine Zal (Zb1 (Zaa rfl) (Zan rfl) rfl) rfl rfl ?_
              refine ec_lep (Zb6 (Zaa rfl) (Za8 rfl) rfl rfl) rfl ?_
              refine Zbm [(101, 101)] c3 rfl rfl rfl rfl rfl rfl rfl ⟨rfl, trivial⟩ ⟨.inl rfl, trivial⟩ ?_
              refine Zal (Zai (Zaa rfl) (Zan rfl) rfl) rfl rfl ?_
              refine Zbc (Zah (Zaa rfl) (Za8 rfl) rfl rfl rfl) rfl ?_
              refine Zal (Zbj (Zaa rfl) rfl) rfl rfl ?_
              refine Zfg (Zab (Zaa rfl) (Zac rfl) rfl rfl (by omega) hx rfl) rfl rfl rfl ?_
              refine Zal (Zb1 (Zaa rfl) (Zan rfl) rfl) rfl rfl ?_
              refine ec_lep (Zb6 (Zaa rfl) (Za8 rfl) rfl rfl) rfl ?_
              refine Zbm [(101, 101)] c4 rfl rfl rfl rfl rfl rfl rfl ⟨rfl, trivial⟩ ⟨.inl rfl, trivial⟩ ?_
              refine Zal (Zai (Zaa rfl) (Zan rfl) rfl) rfl rfl ?_
              refine Zbc (Zah (Zaa rfl) (Za8 rfl) rfl rfl rfl) rfl ?_
              refine Zal (Zbj (Zaa rfl) rfl) rfl rfl ?_
              refine Zfg (Zab (Zaa rfl) (Zac rfl) rfl rfl (by omega) hx rfl) rfl rfl rfl ?_
              refine Zal (Zb1 (Zaa rfl) (Zan rfl) rfl) rfl rfl ?_
              refine ec_lep (Zb6 (Zaa rfl) (Za8 rfl) rfl rfl) rfl ?_
              refine Zbm [(101, 101)] c5 rfl rfl rfl rfl rfl rfl rfl ⟨rfl, trivial⟩ ⟨.inl rfl, trivial⟩ ?_
              refine Zal (Zb4 (Zaa rfl) rfl) rfl rfl ?_
              refine ⟨by kernel_rfl, ?_⟩
              refine goJ ?_
              exact Zad (k := ma.length - (i + 1)) (s' := mkS [(8, .own 101 (E6 ++ (ma.take (i + 1)).flatMap (fun x => eM x.can)).length), (1, .ptr 1 0), (13, .v (iV ((i : Int) + 1)))] [(101, .lst 1 5 ((E6 ++ (ma.take (i + 1)).flatMap (fun x => eM x.can)).map nV)), (1, .var [.v (.sl (sr.map PS.av)), .v (.sl (et.map PE.av)), .v (.sl (df.map PB.av)), .v (.sl (ce.map PZ.av)), .v (.sl (sp.map PF.av)), .v (.sl (ma.map PM.av))])] 179 true) (by omega) (by exact entA) ⟨i + 1, rfl, hlti, rfl⟩
          · have dd1 : decide ((i : Int) < ((sp.map PF.av).length : Int)) = true := decide_eq_true (by rw [List.length_map]; omega)
            have hg : sp[i]? = some sp[i] := List.getElem?_eq_getElem hlti
            have hx : (sp.map PF.av)[((i : Nat) : Int).toNat]? = some (PF.av sp[i]) := by rw [Int.toNat_natCast, List.getElem?_map, hg]; rfl
            have hfl := Zcn (fun x => eF x.can) sp (i + 1)
            rw [Zat hg, List.length_append] at hfl
            skip
            have c2 := wo_space (h4 _ (List.getElem_mem hlti)) (E5 ++ (sp.take i).flatMap (fun x => eF x.can)) (by rw [List.length_append]; omega)
            rw [List.append_assoc E5, ← Zat (f := (fun x => eF x.can)) hg] at c2
            clear hg hfl
            generalize sp[i] = x at *
            obtain ⟨f1, f2, f3, f4, b⟩ := x
            refine goJ ?_
            refine evG ggA (Zab (Zaa rfl) (Zac rfl) rfl rfl (by omega) hx rfl) ?_
            refine goJ ?_
            refine mcS [(101, 101)] c2 ?_
            refine goJ ?_
            exact Zad (k := sp.length - (i + 1)) (s' := mkS [(8, .own 101 (E5 ++ (sp.take (i + 1)).flatMap (fun x => eF x.can)).length), (1, .ptr 1 0), (12, .v (iV ((i : Int) + 1)))] [(101, .lst 1 5 ((E5 ++ (sp.take (i + 1)).flatMap (fun x => eF x.can)).map nV)), (1, .var [.v (.sl (sr.map PS.av)), .v (.sl (et.map PE.av)), .v (.sl (df.map PB.av)), .v (.sl (ce.map PZ.av)), .v (.sl (sp.map PF.av)), .v (.sl (ma.map PM.av))])] 179 true) (by omega) (by exact entA) ⟨i + 1, rfl, hlti, rfl⟩
        · have dd1 : decide ((i : Int) < ((ce.map PZ.av).length : Int)) = true := decide_eq_true (by rw [List.length_map]; omega)
          have hg : ce[i]? = some ce[i] := List.getElem?_eq_getElem hlti
          have hx : (ce.map PZ.av)[((i : Nat) : Int).toNat]? = some (PZ.av ce[i]) := by rw [Int.toNat_natCast, List.getElem?_map, hg]; rfl
          have hfl := Zcn (fun x => eC x.can) ce (i + 1)
          rw [Zat hg, List.length_append] at hfl
          skip
          have c2 := wo_cert (h3 _ (List.getElem_mem hlti)) (E4 ++ (ce.take i).flatMap (fun x => eC x.can)) (by rw [List.length_append]; omega)
          rw [List.append_assoc E4, ← Zat (f := (fun x => eC x.can)) hg] at c2
          clear hg hfl
          generalize ce[i] = x at *
          obtain ⟨⟨op1, ns1, ⟨⟨ga1, da1⟩, ⟨gb1, db1⟩⟩, nm1, gs1⟩, ⟨op2, ns2, ⟨⟨ga2, da2⟩, ⟨gb2, db2⟩⟩, nm2, gs2⟩, ds, ⟨f1, f2, f3, f4, cu⟩, bo, f, cs⟩ := x
          refine goJ ?_
          refine evG ggA (Zab (Zaa rfl) (Zac rfl) rfl rfl (by omega) hx rfl) ?_
          refine goJ ?_
          refine mcS [(101, 101)] c2 ?_
          refine goJ ?_
          exact Zad (k := ce.length - (i + 1)) (s' := mkS [(8, .own 101 (E4 ++ (ce.take (i + 1)).flatMap (fun x => eC x.can)).length), (1, .ptr 1 0), (11, .v (iV ((i : Int) + 1)))] [(101, .lst 1 5 ((E4 ++ (ce.take (i + 1)).flatMap (fun x => eC x.can)).map nV)), (1, .var [.v (.sl (sr.map PS.av)), .v (.sl (et.map PE.av)), .v (.sl (df.map PB.av)), .v (.sl (ce.map PZ.av)), .v (.sl (sp.map PF.av)), .v (.sl (ma.map PM.av))])] 179 true) (by omega) (by exact entA) ⟨i + 1, rfl, hlti, rfl⟩
      · have dd1 : decide ((i : Int) < ((et.map PE.av).length : Int)) = true := decide_eq_true (by rw [List.length_map]; omega)
        have hg : et[i]? = some et[i] := List.getElem?_eq_getElem hlti
        have hx : (et.map PE.av)[((i : Nat) : Int).toNat]? = some (PE.av et[i]) := by rw [Int.toNat_natCast, List.getElem?_map, hg]; rfl
        have hfl := Zcn eE et (i + 1)
        rw [Zat hg, List.length_append] at hfl
        skip
        have c2 := wo_eta (h1 _ (List.getElem_mem hlti)) (E2 ++ (et.take i).flatMap eE) (by rw [List.length_append]; omega)
        rw [List.append_assoc E2, ← Zat (f := eE) hg] at c2
        clear hg hfl
        generalize et[i] = x at *
        obtain ⟨lv, es⟩ := x
        obtain ⟨U, c3, c4⟩ := c2
        refine goJ ?_
        refine T.drawC mixed ?_
        refine Zal (Zbj (Zaa rfl) rfl) rfl rfl ?_
        refine Zal (Zai (Zaa rfl) (Zan rfl) rfl) rfl rfl ?_
        refine Zbc (Zah (Zaa rfl) (Za8 rfl) rfl rfl rfl) rfl ?_
        refine Zal (Zbj (Zaa rfl) rfl) rfl rfl ?_
        refine Zfg (Zab (Zaa rfl) (Zac rfl) rfl rfl (by omega) hx rfl) rfl rfl rfl ?_
        refine Zal (Zb1 (Zaa rfl) (Zan rfl) rfl) rfl rfl ?_
        refine ec_lep (Zb6 (Zaa rfl) (Za8 rfl) rfl rfl) rfl ?_
        refine Zbm [(101, 101)] c3 rfl rfl rfl rfl rfl rfl rfl ⟨rfl, trivial⟩ ⟨.inl rfl, trivial⟩ ?_
        refine Zal (Zai (Zaa rfl) (Zan rfl) rfl) rfl rfl ?_
        refine Zbc (Zah (Zaa rfl) (Za8 rfl) rfl rfl rfl) rfl ?_
        refine Zal (Zbj (Zaa rfl) rfl) rfl rfl ?_
        refine Zfg (Zab (Zaa rfl) (Zac rfl) rfl rfl (by omega) hx rfl) rfl rfl rfl ?_
        refine Zal (Zb1 (Zaa rfl) (Zan rfl) rfl) rfl rfl ?_
        refine ec_lep (Zb6 (Zaa rfl) (Za8 rfl) rfl rfl) rfl ?_
        refine Zbm [(101, 101)] c4 rfl rfl rfl rfl rfl rfl rfl ⟨rfl, trivial⟩ ⟨.inl rfl, trivial⟩ ?_
        refine Zal (Zb4 (Zaa rfl) rfl) rfl rfl ?_
        refine ⟨by kernel_rfl, ?_⟩
        refine goJ ?_
        exact Zad (k := et.length - (i + 1)) (s' := mkS [(8, .own 101 (E2 ++ (et.take (i + 1)).flatMap eE).length), (1, .ptr 1 0), (10, .v (iV ((i : Int) + 1)))] [(101, .lst 1 5 ((E2 ++ (et.take (i + 1)).flatMap eE).map nV)), (1, .var [.v (.sl (sr.map PS.av)), .v (.sl (et.map PE.av)), .v (.sl (df.map PB.av)), .v (.sl (ce.map PZ.av)), .v (.sl (sp.map PF.av)), .v (.sl (ma.map PM.av))])] 179 true) (by omega) (by exact entA) ⟨i + 1, rfl, hlti, rfl⟩
    · have dd1 : decide ((i : Int) < ((sr.map PS.av).length : Int)) = true := decide_eq_true (by rw [List.length_map]; omega)
      have hg : sr[i]? = some sr[i] := List.getElem?_eq_getElem hlti
      have hx : (sr.map PS.av)[((i : Nat) : Int).toNat]? = some (PS.av sr[i]) := by rw [Int.toNat_natCast, List.getElem?_map, hg]; rfl
      have hfl := Zcn (fun x => eS x.can) sr (i + 1)
      rw [Zat hg, List.length_append] at hfl
      skip
      have c2 := wo_series (h0 _ (List.getElem_mem hlti)) (E1 ++ (sr.take i).flatMap (fun x => eS x.can)) (by rw [List.length_append]; omega)
      rw [List.append_assoc E1, ← Zat (f := (fun x => eS x.can)) hg] at c2
      clear hg hfl
      generalize sr[i] = x at *
      obtain ⟨f, cs⟩ := x
      refine goJ ?_
      refine evG ggA (Zab (Zaa rfl) (Zac rfl) rfl rfl (by omega) hx rfl) ?_
      refine goJ ?_
      refine mcS [(101, 101)] c2 ?_
      refine goJ ?_
      exact Zad (k := sr.length - (i + 1)) (s' := mkS [(8, .own 101 (E1 ++ (sr.take (i + 1)).flatMap (fun x => eS x.can)).length), (1, .ptr 1 0), (9, .v (iV ((i : Int) + 1)))] [(101, .lst 1 5 ((E1 ++ (sr.take (i + 1)).flatMap (fun x => eS x.can)).map nV)), (1, .var [.v (.sl (sr.map PS.av)), .v (.sl (et.map PE.av)), .v (.sl (df.map PB.av)), .v (.sl (ce.map PZ.av)), .v (.sl (sp.map PF.av)), .v (.sl (ma.map PM.av))])] 179 true) (by omega) (by exact entA) ⟨i + 1, rfl, hlti, rfl⟩
  · have dd1 : decide ((i : Int) < ((xs.map PX.av).length : Int)) = true := decide_eq_true (by rw [List.length_map]; omega)
    have hg : xs[i]? = some xs[i] := List.getElem?_eq_getElem hlt
    have hx : (xs.map PX.av)[((i : Nat) : Int).toNat]? = some (PX.av xs[i]) := by rw [Int.toNat_natCast, List.getElem?_map, hg]; rfl
    have c2 := deep_p _ xs[i] (Nat.le_refl _) (hok _ (List.getElem_mem hlt)) 100 1000 (by omega) (by omega)
    have hff := fun h => all_take hg hal h
    have hgf : fitB xs[i] = false → xs.all fitB = false := fun h => all_get hg h
    have hfe : fitB xs[i] = (fit xs[i] 100 1000).isSome := rfl
    clear hg
    generalize xs[i] = x at *
    generalize fit x 100 1000 = r at *
    obtain ⟨op', ns', ⟨⟨ga', da'⟩, ⟨gb', db'⟩⟩, nm', gs'⟩ := x
    cases r with
    | some m =>
      have c2 : PC _ _ [_, iV 100, iV 1000] (.tup [iV m, boV false]) := c2
      refine goJ ?_
      refine evG ggA (Zab (Zaa rfl) (Zac rfl) rfl rfl (by omega) hx rfl) ?_
      refine goJ ?_
      refine evG ggA (Zae (Zaa rfl) rfl rfl c2) ?_
      refine goJ ?_
      exact Zad (k := xs.length - (i + 1)) (s' := mkS [(1, .ptr 1 0), (4, .v (.sl (xs.map PX.av))), (5, .v (iV ((i : Int) + 1)))] [(1, .var [.v (.sl (sr.map PS.av)), .v (.sl (et.map PE.av)), .v (.sl (df.map PB.av)), .v (.sl (ce.map PZ.av)), .v (.sl (sp.map PF.av)), .v (.sl (ma.map PM.av))])] 179 true) (by omega) (by exact entA) ⟨i + 1, rfl, hlt, hff hfe, rfl⟩
    | none =>
      have c2 : PC _ _ [_, iV 100, iV 1000] (.tup [iV 0, boV true]) := c2
      have hno := hgf hfe
      rw [hno] at hfx
      cases hfx
end Ab
