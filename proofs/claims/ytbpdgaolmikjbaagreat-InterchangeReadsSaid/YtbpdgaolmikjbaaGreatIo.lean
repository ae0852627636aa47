/- Operations on bits, on strings, on methods bound to a pointer, checks for nil; a function that defers a closure. -/
import Derived.Test.YtbpdgaolmikjbaaGreatDrC
import Derived.Defers
import Derived.Laws.BytesArg
import Derived.Laws.AppendOwn
import Derived.Lib.ConvBytes
set_option linter.all false
namespace Ab
open Go Go.RowKit Go.Proofs
set_option maxRecDepth 100000
section
variable {dm : Bool} {P : Program} {ops : Array Oper} {s : AS} {dst : Option Tmp} {ty : TypeId} {pos : String} {after : Array Edge} {g : Option (Nat × Bool)}
theorem Zct {y : Operand} {id o : Nat} (hin : InB s dst) (hy : s.ev y = some (.ptr id o)) : Zbg dm P ops ⟨dst, .nilCheck y, ty, pos, after, g⟩ s (.ptr id o) .none :=
 Zbn hin fun s' hag w0 M0 ρ a w _ hr => by
  have h := hr.ev ((hag.ev (by simp [Op.operands])).trans hy)
  have h' := h
  obtain ⟨-, b, k, -, e⟩ := h'
  exact ⟨a.eval y, by simp [execOp, e], h⟩
theorem ss_makebm {f : FuncId} {y : Operand} {id o : Nat} (hin : InB s dst) (hy : s.ev y = some (.ptr id o)) : Zbg dm P ops ⟨dst, .makeFunc (.func f) #[y] #[], ty, pos, after, g⟩ s (.bm f id o) .none :=
 Zbn hin fun s' hag w0 M0 ρ a w _ hr => by
  obtain ⟨h1, b, k, h2, e⟩ := hr.ev ((hag.ev (by simp [Op.operands])).trans hy)
  exact ⟨.func (.func f) #[a.eval y] #[], by simp [execOp, Instr.makeFunc], h1, b, k, h2, by rw [e]⟩
theorem Zbp {op : BinOp} {k : IntKind} {xt yt : TypeId} {y z : Operand} {p q c : Int} (hin : InB s dst) (hop : (match op with | .and | .or | .xor => true | _ => false) = true) (hy : s.ev y = some (.v (.p (.int k p)))) (hz : s.ev z = some (.v (.p (.int k q))))
  (hc : bits op k p q = c) : Zbg dm P ops ⟨dst, .binOp op xt y z yt, ty, pos, after, g⟩ s (.v (.p (.int k c))) .none :=
 ss_bin hin hy hz rfl fun w => by
  subst hc
  cases op <;> first | (cases hop; done) | (simp [eqGuard, binOp, Op.intBits, bits])
theorem ss_not64 {k : IntKind} {xt : TypeId} {y : Operand} {p c : Int} (hin : InB s dst) (hy : s.ev y = some (.v (.p (.int k p)))) (hc : bits .xor k (if k.signed then -1 else k.max) p = c) : Zbg dm P ops ⟨dst, .unOp .xor xt y, ty, pos, after, g⟩ s (.v (.p (.int k c))) .none :=
 Zbn hin fun s' hag w0 M0 ρ a w _ hr => by
  have h1 := Rep.p_inv (hr.ev ((hag.ev (by simp [Op.operands])).trans hy))
  refine ⟨.int k c, ?_, .p _ rfl⟩
  subst hc
  simp [execOp, h1, Op.unary, Op.intBits, bits]
theorem ss_len_str {ts : Array TypeId} {t : TypeId} {y : Operand} {b : ByteArray} (hin : InB s dst) (ht : ts[0]? = some t) (hu : P.underlying t = some .string) (hy : s.ev y = some (.v (.p (.string b)))) : Zbg dm P ops ⟨dst, .call ⟨.builtin .len, #[y], ts⟩, ty, pos, after, g⟩ s (.v (.p (.int .i64 b.size))) .none :=
 Zbn hin fun s' hag w0 M0 ρ a w _ hr => by
  have h1 := Rep.p_inv (hr.ev ((hag.ev (by simp [Op.operands, Call.operands])).trans hy))
  refine ⟨.int .i64 b.size, ?_, .p _ rfl⟩
  simp [execOp, resolve, invoke, builtin, h1, Builtin.len_, ht, run_underlying hu, goInt]
theorem Zez {op : BinOp} {xt yt : TypeId} {y z : Operand} {p q : ByteArray} {c : Bool} (hin : InB s dst) (hy : s.ev y = some (.v (.p (.string p)))) (hz : s.ev z = some (.v (.p (.string q))))
  (hc : (match op with | .eql => some (p.toList == q.toList) | .neq => some (!(p.toList == q.toList)) | _ => none) = some c) : Zbg dm P ops ⟨dst, .binOp op xt y z yt, ty, pos, after, g⟩ s (.v (.p (.bool c))) .none :=
 ss_bin hin hy hz rfl fun w => by
  cases op <;> simp only [Option.some.injEq, reduceCtorEq] at hc <;> subst hc <;> simp [eqGuard, binOp, Op.stringOp]
def bV (n : Int) : AV := .p (.int .u8 n)
def Zds (s : ByteArray) : List AV := s.data.toList.map fun b => bV b.toNat
theorem ss_str_bytes {src dt e : TypeId} {sd : TypeDesc} {y : Operand} {b : ByteArray} (hin : InB s dst) (hs : P.underlying src = some sd) (hd : P.underlying dt = some (.slice e)) (he : P.underlying e = some (.int .u8)) (hy : s.ev y = some (.v (.p (.string b)))) : Zbg dm P ops ⟨dst, .convert src dt y, ty, pos, after, g⟩ s (.v (.sl (Zds b))) .none :=
 ss_val hin fun s' hag w0 M0 ρ a w hM hr => by
  have h1 := Rep.p_inv (hr.ev ((hag.ev (by simp [Op.operands])).trans hy))
  have hb : Below w.heap.size w (Lib.bytesWorld w e b) := ⟨rfl, rfl, rfl, by rw [Lib.bytesWorld_size]; omega, fun j hj => Lib.bytesWorld_at_old w e b j hj⟩
  have hlen : (Zds b).length = b.size := by
   show (b.data.toList.map _).length = b.data.size
   rw [List.length_map, Array.length_toList]
  refine ⟨.slice (some ⟨w.heap.size, 0, none⟩) b.size (grownCap w b.size 0 e), _, ?_, hb, ?_⟩
  ·simp only [execOp, h1, Sem.run_bind]
   rw [Lib.run_convert_string_bytes w src dt e b hs hd he]
   rfl
  ·have hnM : ¬ MM M0 ρ s'.m w.heap.size := by
    rintro (hm | ⟨i, k, g1, g2⟩)
    ·have := (hM.1.1 _ hm).1; have := hr.below.size; omega
    ·have := (hr.base i _ k g1 g2).2; omega
   have := Rep.sl (w := Lib.bytesWorld w e b) (M := MM M0 ρ s'.m) (Zds b) w.heap.size 0 (grownCap w b.size 0 e) 1 (fun i _ => .int .u8 (b.data.toList.getD i 0).toNat) (by rw [hlen]; exact grownCap_ge w b.size 0 e) (fun _ _ _ _ => hnM) (fun x hx => by
     obtain ⟨z, -, rfl⟩ := List.mem_map.1 hx; rfl) (fun x hx c hc => by
     obtain ⟨z, -, rfl⟩ := List.mem_map.1 hx
     simp [bV, AV.cells] at hc; subst hc; rfl) (fun i j hi hj => by
     obtain rfl : j = 0 := by omega
     rw [show 0 + i * 1 + 0 = i by omega]
     exact Lib.bytesWorld_cell w e b i (by omega)) (fun i x j c hi hj => by
     unfold Zds at hi
     rw [List.getElem?_map, Option.map_eq_some_iff] at hi
     obtain ⟨z, hz, rfl⟩ := hi
     rcases j with _ | j
     ·have : c = bV z.toNat := by
       have : (some (bV z.toNat) : Option AV) = some c := hj
       injection this with this; exact this.symm
      subst this
      have e2 : b.data.toList.getD i 0 = z := by rw [List.getD_eq_getElem?_getD, hz]; rfl
      rw [e2]
      exact .p _ rfl
     ·cases hj)
   rw [hlen] at this
   exact this
def strB (l : List Int) : ByteArray := strOfNums l
theorem Zdg {src dt e : TypeId} {y : Operand} {l : List Int} (hin : InB s dst) (hs : P.underlying src = some (.slice e)) (he : P.underlying e = some (.int .u8)) (hd : P.underlying dt = some .string) (hy : s.ev y = some (.v (.sl (l.map bV)))) : Zbg dm P ops ⟨dst, .convert src dt y, ty, pos, after, g⟩ s (.v (.p (.string (strB l)))) .none := by
  refine ⟨fun id b h => (by cases h), fun id b h => (by cases h), fun s' hag _ w0 M0 a w hM hr next Q hn => ?_⟩
  obtain ⟨ρ, hr⟩ := hr
  have h := hr.ev ((hag.ev (by simp [Op.operands])).trans hy)
  have key : (convert src dt (a.eval y)).run P w = .ok (.string (strB l)) w := by
    obtain ⟨ad, cap, e1, -, h2⟩ := Zfv h
    rw [e1]
    rcases h2 with h2 | ⟨b, off, sz, rfl, h3, h4⟩
    · have hl : l = [] := List.map_eq_nil_iff.1 h2
      subst hl
      cases ad with
      | none => exact run_convert_bytes_nil w src e hs he _ _ dt hd
      | some ad =>
        rw [run_convert_bytes_string w src dt e _ _ cap hs he hd]
        have := run_bytesToString (P := P) w ad 0 cap [] (by simpa using run_loadCells_list (P := P) w ad [] (fun j v hj => by cases hj))
        exact this
    · rw [show (l.map bV).length = l.length by simp]
      refine run_convert_bytes_arg w src e hs he b off l.length cap l rfl (fun i hi => ?_) dt hd
      have hi' : (l.map bV)[i]? = some (bV (l.getD i 0)) := by
        rw [List.getElem?_map, List.getD_eq_getElem?_getD, List.getElem?_eq_getElem hi]; rfl
      obtain ⟨-, -, v, hc, hr'⟩ := h4 i _ hi' 0 (bV (l.getD i 0)) rfl
      have hsz : sz = 1 := by rw [← h3 _ (List.mem_of_getElem? hi')]; rfl
      subst hsz
      rw [Nat.mul_one, Nat.add_zero] at hc
      rw [hc]
      have := Rep.p_inv hr'
      rw [this]
  unfold Oper.wp
  have : (execOp a.eval ⟨dst, .convert src dt y, ty, pos, after, g⟩).run P w = .ok (.value (.string (strB l))) w := by
    simp only [execOp, Sem.run_bind]
    rw [key]
    rfl
  rw [this]
  exact hn _ _ ⟨ρ, hr.put (hin.agree hag) (.p _ rfl)⟩
theorem Zcd {f : FuncId} {args : List TV} {L L' : List (Nat × Blk)} {res : TV} {nd : Bool} {lo : List Operand} {y : Operand} {id o : Nat} {K : AS → Prop} {ts : Array TypeId} (S : List (Nat × Nat))
  (hc : PCM dm P f args L nd res L') (hS : okS S L L' = true) (hin : inbB s dst = true) (hnd : s.nd = nd) (hdm : (!dm || nd) = true) (hy : s.ev y = some (.bm f id o)) (ha : some (.ptr id o) :: lo.map s.ev = args.map (fun x => some (Zdb (sg S) x))) (har : args.all (Zgy L) = true)
  (hL : AllP (fun p : Nat × Blk => s.m (sg S p.1) = some (renB (sg S) p.2)) L) (hnew : AllP (fun p : Nat × Nat => (Zaq L p.1).isSome = true ∨ s.m p.2 = none) S)
  (k : K { s with t := updo s.t dst (Zdb (sg S) res), m := memR S L' s.m }) : MStep dm P ops ⟨dst, .call ⟨.value y, lo.toArray, ts⟩, ty, pos, after, none⟩ s K := by
 have hlen : lo.length + 1 = args.length := by have := congrArg List.length ha; simpa using this
 refine ms_core S hc hS hin hnd hdm har hL hnew (fun w0 M0 ρ a w hr => ?_) k
 obtain ⟨g1, b, kk, g2, e1⟩ := hr.ev hy
 refine ⟨.pointer (some ⟨b, o, none⟩) :: lo.map a.eval, by simp [hlen], fun i x hx => ?_, ?_⟩
 ·have h1 : (some (TV.ptr id o) :: lo.map s.ev)[i]? = some (some (Zdb (sg S) x)) := by rw [ha, List.getElem?_map, hx]; rfl
  rcases i with _ | i
  ·have : (some (TV.ptr id o)) = some (Zdb (sg S) x) := by simpa using h1
   injection this with this
   rw [← this]
   exact ⟨_, rfl, g1, b, kk, g2, rfl⟩
  ·rw [List.getElem?_cons_succ, List.getElem?_map, Option.map_eq_some_iff] at h1
   obtain ⟨z, hz, he⟩ := h1
   exact ⟨a.eval z, by simp [hz], hr.ev he⟩
 ·obtain ⟨⟨fn, q1, q2, q3⟩, -⟩ := hc
  simp only [execOp, resolve, Deferred.ofValue, e1, invoke, callFunc, Sem.run_bind, Sem.run_pure, Result.andThen_ok, run_program, q1, q2, q3, Bool.false_eq_true, if_false, List.map_toArray, Array.append_empty]
  first | done | simp | rfl
end
section
variable {dm : Bool} {P : Program} {ops : Array Oper} {s : AS} {dst : Option Tmp} {ty : TypeId} {pos : String} {after : Array Edge} {g : Option (Nat × Bool)}
theorem ss_bslice0 {t e : TypeId} {n bytes : Nat} {z : List Value} (hin : InB s dst) (ht : Zek P t e n bytes z) : Zbg dm P ops ⟨dst, .buildSlice t 0 #[], ty, pos, after, g⟩ s .em .none := by
 refine ss_val hin fun s' hag w0 M0 ρ a w hM hr => ?_
 obtain ⟨row, h1, h2, h3⟩ := bslice_run (s := s) (dst := dst) (ty := ty) (pos := pos) (after := after) (g := g) hr ht (parts := []) (xs := []) (fun x hxm => by cases hxm) rfl (fun x hx => by cases hx) (by rw [List.length_nil, Nat.zero_mul]; exact Nat.zero_le _)
 exact ⟨_, _, h1, (Below.refl _ _).alloc (Nat.le_refl _) _, _, rfl⟩
theorem ss_append_em {t e : TypeId} {n bytes : Nat} {z : List Value} {y x : Operand} {xs : List AV} (hin : InB s dst) (ht : Zek P t e n bytes z) (hy : s.ev y = some .em) (hx : s.ev x = some (.v (.sl xs))) (hxs : ∀ a, a ∈ xs → a.cells.length = n)
    (hn0 : 0 < n) (h63 : xs.length ≤ maxLen) (hby : xs.length * bytes ≤ 140737488355328) :
    Zbg dm P ops ⟨dst, .call ⟨.builtin .append, #[y, x], #[t, t]⟩, ty, pos, after, g⟩ s (.v (.sl xs)) .none := by
  refine ss_val hin fun s' hag w0 M0 ρ a w hM hr => ?_
  obtain ⟨h1, i, zv, h2, h3, h4, h5, h6, h7⟩ := ht
  obtain ⟨a0, c1⟩ := hr.ev ((hag.ev (by simp [Op.operands, Call.operands])).trans hy)
  have hX := hr.ev ((hag.ev (by simp [Op.operands, Call.operands])).trans hx)
  have hexec : ∀ u w', (Builtin.append_ #[t, t] ty #[a.eval y, a.eval x]).run P w = .ok u w' → (execOp a.eval ⟨dst, .call ⟨.builtin .append, #[y, x], #[t, t]⟩, ty, pos, after, g⟩).run P w = .ok (.value u) w' := by
    intro u w' h
    simp only [execOp, resolve, invoke, builtin, Sem.run_bind, Sem.run_pure, Result.andThen_ok, List.map_toArray, List.map_cons, List.map_nil, h]
  have hzs : zv.cells.size = n := by rw [← Array.length_toList, h6, h7]
  by_cases h0 : xs.length = 0
  · have hxe : xs = [] := List.eq_nil_of_length_eq_zero h0
    subst hxe
    obtain ⟨ad, cap, k1, -, -⟩ := Zfv hX
    refine ⟨.slice a0 0 0, w, hexec _ _ ?_, Below.refl _ _, .emp _ _⟩
    rw [c1, k1]
    exact app_none h1 h2 _ _ _ (Nat.le_refl _) _ _ _
  obtain ⟨yb, yo, yc, news, k1, k2, k3, k4, k5⟩ := sl_news hX hxs (by omega)
  have hnews : ∀ (j : Nat) v, news[j]? = some v → w.cell? ((⟨yb, yo, none⟩ : Addr).add j) = some v := fun j v hj => by rw [addr_add]; exact k3 j v hj
  have hsz : i.size = n := h3
  have fin : ∀ (C : List Value) (cap : Nat), xs.length ≤ cap → (Builtin.append_ #[t, t] ty #[a.eval y, a.eval x]).run P w = .ok (.slice (some ⟨w.heap.size, 0, none⟩) xs.length cap) (w.drew.alloc (.cells (news ++ C).toArray e)) →
      ∃ v w', (execOp a.eval ⟨dst, .call ⟨.builtin .append, #[y, x], #[t, t]⟩, ty, pos, after, g⟩).run P w = .ok (.value v) w' ∧ Below w.heap.size w w' ∧ TRep w' (MM M0 ρ s'.m) ρ s'.m (.v (.sl xs)) v := by
    intro C cap hcap hrun
    have hb : Below w.heap.size w (w.drew.alloc (.cells (news ++ C).toArray e)) := (Below.refl _ _).drew.alloc (Nat.le_refl _) _
    refine ⟨_, _, hexec _ _ hrun, hb, ?_⟩
    have hnM : ¬ MM M0 ρ s'.m w.heap.size := by
      rintro (hm | ⟨i, k, g1, g2⟩)
      · have := (hM.1.1 _ hm).1; have := hr.below.size; omega
      · have := (hr.base i _ k g1 g2).2; omega
    have hat : ∀ i x j c, xs[i]? = some x → x.cells[j]? = some c → ∃ v, (news ++ C)[i * n + j]? = some v ∧ Rep w (MM M0 ρ s'.m) c v := fun i x j c hi hj => by
      obtain ⟨g1, g2⟩ := k4 i x hi
      obtain ⟨-, v, g3, g4⟩ := g2 j c hj
      exact ⟨v, by rw [List.getElem?_append_left (List.getElem?_eq_some_iff.1 g3).1]; exact g3, g4⟩
    refine Rep.sl (w := w.drew.alloc (.cells (news ++ C).toArray e)) (M := MM M0 ρ s'.m) xs w.heap.size 0 cap n (fun i j => (news ++ C).getD (i * n + j) undef) hcap (fun _ _ _ _ => hnM) (fun x hxm => hxs x hxm) (fun x hxm c hc => ?_) (fun i j hi hj => ?_) (fun i x j c hi hj => ?_)
    · obtain ⟨q, hq⟩ := List.getElem?_of_mem hxm
      obtain ⟨j, hj⟩ := List.getElem?_of_mem hc
      exact ((k4 q x hq).2 j c hj).1
    · have hg : xs[i]? = some xs[i] := List.getElem?_eq_getElem hi
      have hjl : j < (xs[i]).cells.length := by rw [hxs _ (List.getElem_mem hi)]; exact hj
      obtain ⟨v, hv, -⟩ := hat i _ j _ hg (List.getElem?_eq_getElem hjl)
      rw [Nat.zero_add]
      have : (w.drew.alloc (.cells (news ++ C).toArray e)).cell? ⟨w.heap.size, i * n + j, none⟩ = (news ++ C).toArray[i * n + j]? := World.cell?_alloc_new (w := w.drew) ..
      rw [this]
      simp only [List.getElem?_toArray]
      rw [hv, List.getD_eq_getElem?_getD, hv]; rfl
    · obtain ⟨v, hv, hr2⟩ := hat i x j c hi hj
      rw [List.getD_eq_getElem?_getD, hv]
      exact Rep.mono (Zcc.below hb) (fun _ _ h => h) hr2
  cases a0 with
  | none =>
    have hrun := run_append_nil (P := P) w t ty e i zv h1 h2 h5 ⟨yb, yo, none⟩ xs.length yc news (by rw [hsz]; exact k2) hnews (by omega) (by unfold maxLen at h63; omega) (by rw [h4]; omega)
    have harr : news.toArray ++ Builtin.zeroCells zv.cells (grownCap w xs.length 0 e - xs.length) = (news ++ (Builtin.zeroCells zv.cells (grownCap w xs.length 0 e - xs.length)).toList).toArray := by apply Array.ext'; simp
    rw [harr] at hrun
    exact fin _ _ (grownCap_ge w xs.length 0 e) (by rw [c1, k1, hrun])
  | some ad =>
    have hrun := run_append_grow (P := P) w t ty e i zv h1 h2 h5 ad 0 0 [] (by rw [Nat.zero_mul]; rfl) (fun j v hj => by cases hj) ⟨yb, yo, none⟩ xs.length yc news (by rw [hsz]; exact k2) hnews (by omega) (by unfold maxLen at h63; omega) (growslice_fits (by omega) (by rw [h4, Nat.zero_add]; exact hby))
    have harr : ([] : List Value).toArray ++ news.toArray ++ Builtin.zeroCells zv.cells (grownCap w (0 + xs.length) 0 e - (0 + xs.length)) = (news ++ (Builtin.zeroCells zv.cells (grownCap w (0 + xs.length) 0 e - (0 + xs.length))).toList).toArray := by apply Array.ext'; simp
    rw [harr] at hrun
    rw [Nat.zero_add] at hrun
    exact fin _ _ (grownCap_ge w xs.length 0 e) (by rw [c1, k1, hrun])
end
theorem bits_u64 {op : BinOp} {x y : Nat} (hx : x < 2 ^ 64) (hy : y < 2 ^ 64) : bits op .u64 (x : Int) (y : Int) = (((match op with
  | .and => BitVec.ofNat 64 x &&& BitVec.ofNat 64 y
  | .or => BitVec.ofNat 64 x ||| BitVec.ofNat 64 y
  | .xor => BitVec.ofNat 64 x ^^^ BitVec.ofNat 64 y
  | _ => BitVec.ofNat 64 x &&& ~~~(BitVec.ofNat 64 y)) : BitVec 64).toNat : Int) := by
 unfold bits
 show IntKind.u64.wrap _ = _
 rw [show (BitVec.ofInt IntKind.u64.bits (x : Int)) = BitVec.ofNat 64 x from BitVec.ofInt_natCast .., show (BitVec.ofInt IntKind.u64.bits (y : Int)) = BitVec.ofNat 64 y from BitVec.ofInt_natCast ..]
 have h : ∀ b : BitVec 64, IntKind.u64.wrap (b.toNat : Int) = (b.toNat : Int) := fun b => by
  have := b.isLt
  exact u64w (by omega) (by omega)
 cases op <;> exact h _
theorem and127 {x : Nat} (hx : x < 2 ^ 64) : bits .and .u64 (x : Int) 127 = ((x % 128 : Nat) : Int) := by
 have := bits_u64 (op := .and) hx (y := 127) (by decide)
 rw [show ((127 : Nat) : Int) = 127 from rfl] at this
 rw [this]
 simp only [BitVec.toNat_and, BitVec.toNat_ofNat]
 rw [Nat.mod_eq_of_lt hx, show 127 % 2 ^ 64 = 2 ^ 7 - 1 by decide, Nat.and_two_pow_sub_one_eq_mod]
theorem and1 {x : Nat} (hx : x < 2 ^ 64) : bits .and .u64 (x : Int) 1 = ((x % 2 : Nat) : Int) := by
 have := bits_u64 (op := .and) hx (y := 1) (by decide)
 rw [show ((1 : Nat) : Int) = 1 from rfl] at this
 rw [this]
 simp only [BitVec.toNat_and, BitVec.toNat_ofNat]
 rw [Nat.mod_eq_of_lt hx, show 1 % 2 ^ 64 = 2 ^ 1 - 1 by decide, Nat.and_two_pow_sub_one_eq_mod]
theorem not64 {x : Nat} (hx : x < 2 ^ 64) : bits .xor .u64 (if IntKind.u64.signed then -1 else IntKind.u64.max) (x : Int) = ((18446744073709551615 - x : Nat) : Int) := by
 have := bits_u64 (op := .xor) (x := 18446744073709551615) (y := x) (by decide) hx
 rw [show (if IntKind.u64.signed then -1 else IntKind.u64.max) = ((18446744073709551615 : Nat) : Int) from rfl, this]
 simp only
 have e : BitVec.ofNat 64 18446744073709551615 = BitVec.allOnes 64 := by decide
 rw [e, BitVec.allOnes_xor, BitVec.toNat_not, BitVec.toNat_ofNat, Nat.mod_eq_of_lt hx]
theorem or_add {a b i : Nat} (ha : a < 2 ^ i) : a ||| b * 2 ^ i = a + b * 2 ^ i := by
 rw [Nat.or_comm, Nat.mul_comm, Nat.add_comm, Nat.two_pow_add_eq_or_of_lt ha]
theorem or64 {a b i : Nat} (ha : a < 2 ^ i) (hb : a + b * 2 ^ i < 2 ^ 64) : bits .or .u64 (a : Int) ((b * 2 ^ i : Nat) : Int) = ((a + b * 2 ^ i : Nat) : Int) := by
 rw [bits_u64 (op := .or) (by omega) (by omega)]
 simp only [BitVec.toNat_or, BitVec.toNat_ofNat]
 rw [Nat.mod_eq_of_lt (show a < 2 ^ 64 by omega), Nat.mod_eq_of_lt (show b * 2 ^ i < 2 ^ 64 by omega), or_add ha]
theorem bits_u32 {op : BinOp} {x y : Nat} (hx : x < 2 ^ 32) (hy : y < 2 ^ 32) : bits op .u32 (x : Int) (y : Int) = (((match op with
  | .and => BitVec.ofNat 32 x &&& BitVec.ofNat 32 y
  | .or => BitVec.ofNat 32 x ||| BitVec.ofNat 32 y
  | .xor => BitVec.ofNat 32 x ^^^ BitVec.ofNat 32 y
  | _ => BitVec.ofNat 32 x &&& ~~~(BitVec.ofNat 32 y)) : BitVec 32).toNat : Int) := by
 unfold bits
 show IntKind.u32.wrap _ = _
 rw [show (BitVec.ofInt IntKind.u32.bits (x : Int)) = BitVec.ofNat 32 x from BitVec.ofInt_natCast .., show (BitVec.ofInt IntKind.u32.bits (y : Int)) = BitVec.ofNat 32 y from BitVec.ofInt_natCast ..]
 have h : ∀ b : BitVec 32, IntKind.u32.wrap (b.toNat : Int) = (b.toNat : Int) := fun b => by
  have := b.isLt
  exact u32w (by omega) (by omega)
 cases op <;> exact h _
theorem or32 {a b i : Nat} (ha : a < 2 ^ i) (hb : a + b * 2 ^ i < 2 ^ 32) : bits .or .u32 (a : Int) ((b * 2 ^ i : Nat) : Int) = ((a + b * 2 ^ i : Nat) : Int) := by
 rw [bits_u32 (op := .or) (by omega) (by omega)]
 simp only [BitVec.toNat_or, BitVec.toNat_ofNat]
 rw [Nat.mod_eq_of_lt (show a < 2 ^ 32 by omega), Nat.mod_eq_of_lt (show b * 2 ^ i < 2 ^ 32 by omega), or_add ha]
theorem xor32 {a b : Nat} (ha : a < 2 ^ 32) (hb : b < 2 ^ 32) : bits .xor .u32 (a : Int) (b : Int) = ((a ^^^ b : Nat) : Int) := by
 rw [bits_u32 (op := .xor) ha hb]
 simp only [BitVec.toNat_xor, BitVec.toNat_ofNat]
 rw [Nat.mod_eq_of_lt ha, Nat.mod_eq_of_lt hb]
theorem or8 {x : Nat} (hx : x < 128) : bits .or .u8 (x : Int) 128 = ((x + 128 : Nat) : Int) := by
 have : ∀ x, x < 128 → bits .or .u8 ((x : Nat) : Int) 128 = ((x + 128 : Nat) : Int) := by decide
 exact this x hx
theorem and8 {x : Nat} (hx : x < 256) : bits .and .u8 (x : Int) 127 = ((x % 128 : Nat) : Int) := by
 have : ∀ x, x < 256 → bits .and .u8 ((x : Nat) : Int) 127 = ((x % 128 : Nat) : Int) := by decide
 exact this x hx
theorem u8w {x : Int} (h0 : 0 ≤ x) (h1 : x < 256) : IntKind.u8.wrap x = x := by
 have : ∀ x : Int, IntKind.u8.wrap x = x % 256 := fun x => rfl
 rw [this]; omega
theorem u8m (x : Int) : IntKind.u8.wrap x = x % 256 := rfl
end Ab
