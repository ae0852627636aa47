/- The product of series, in abstract values. -/
import Derived.Test.YtalcdpjpapojeaaGreatDoorSerC
set_option linter.all false
namespace Ab
open Go Go.RowKit Go.Proofs Hp
set_option maxRecDepth 100000
def cs (l m : List Rat) (k : Nat) : Nat → Rat
 | 0 => 0
 | j + 1 => cs l m k j + l.getD j 0 * m.getD (k - j) 0
def conv (l m : List Rat) (k : Nat) : Rat := cs l m k (k + 1)
def mlen (s : Int) (n m : Nat) : Nat := (max 0 (min (min (n : Int) m) (1000 - s))).toNat
def mulN (s : Int) (l : List Rat) (t : Int) (m : List Rat) : Option (Int × List Rat) := nrm (s + t) (tk (conv l m) (mlen (s + t) l.length m.length))
def mulR (s : Int) (l : List Rat) (t : Int) (m : List Rat) : Option (Int × List Rat) :=
 if Zap s l.length && Zap t m.length then mulN (s + lead l) (l.drop (lead l)) (t + lead m) (m.drop (lead m)) else none
theorem Zcl {l : List Rat} {K : Nat} (hK : 1 ≤ K) (h : ∀ q, q ∈ l → Ht q K) (i : Nat) : Ht (l.getD i 0) K := by
 rw [List.getD_eq_getElem?_getD]
 cases hq : l[i]? with
 | none => exact ht0 hK
 | some q => exact h q (List.mem_of_getElem? hq)
theorem ht_cs {l m : List Rat} {K : Nat} (hK : 1 ≤ K) (hl : ∀ q, q ∈ l → Ht q K) (hm : ∀ q, q ∈ m → Ht q K) (k : Nat) : ∀ j, Ht (cs l m k j) ((2 * K + 1) * j + 1)
  | 0 => ht0 (Nat.le_refl _)
  | j + 1 => by
    refine (Zgy (ht_cs hK hl hm k j) (Zbq (Zcl hK hl j) (Zcl hK hm (k - j)) hK)).mono ?_
    rw [Nat.mul_succ]; omega
theorem cs_zero {l m : List Rat} {k j : Nat} (h : l.getD j 0 = 0 ∨ m.getD (k - j) 0 = 0) : cs l m k (j + 1) = cs l m k j := by
 show cs l m k j + _ = _
 rcases h with h | h <;> rw [h] <;> simp [Rat.add_zero]
abbrev qvar (q : Rat) : Blk := .var [.v (.p (.bool (decide (q.num < 0)))), .v (.sl ((dgs q.num.natAbs).map u32)), .v (.p (.bool (decide ((q.den : Int) < 0)))), .v (.sl ((dgs (q.den : Int).natAbs).map u32))]
abbrev svar (s : Int) (l : List Rat) : Blk := .var [.v (.p (.int .i64 s)), .v (.sl (l.map encQ))]
theorem Zec {l : List Rat} {i : Nat} {q : Rat} (h : l[i]? = some q) : (l.map encQ)[i]? = some (encQ q) := by rw [List.getElem?_map, h]; rfl
set_option maxHeartbeats 4000000 in
theorem mul_g {s t : Int} {es fs : List AV} {l m : List Rat} {K M : Nat} (h : Both s es t fs K l m) (hK1 : 1 ≤ K) (hM1 : 1 ≤ M) (hW0 : (2 * K + 1) * M + 1 ≤ 1099511627774) (hAM0 : Zap s es.length = true → es.length ≤ M) : PC Tryz.prog 51 [serA s es, serA t fs] (serE (mulR s l t m)) := by
  have hK : 1 ≤ K ∧ K ≤ 549755813886 := ⟨hK1, by have := Nat.mul_le_mul_left (2 * K + 1) hM1; omega⟩
  obtain ⟨h0, hle, hlf, ⟨i1, i2, i3⟩, ⟨i4, i5, i6⟩⟩ := h
  have hva := Zdt i1 i2 i3
  have hvb := Zdt i4 i5 i6
  rw [Zbm]
  unfold mulR
  rw [← hle, ← hlf]
  cases h1 : Zap s es.length with
  | false =>
    rw [h1] at hva
    refine pb2 Tryz.func51 (Zac.agg Zaj) Zac.tmp ?_
    refine goA ?_
    refine clG hva ?_
    exact rfl
  | true =>
  rw [h1] at hva
  cases h2 : Zap t fs.length with
  | false =>
    rw [h2] at hvb
    refine pb2 Tryz.func51 (Zac.agg Zaj) Zac.tmp ?_
    refine goA ?_
    refine clG hva ?_
    refine clG hvb ?_
    exact rfl
  | true =>
  rw [h2] at hvb
  obtain ⟨hL, hM⟩ := h0 h1 h2
  have hAM := hAM0 h1
  clear hAM0
  obtain ⟨W, hWd⟩ : ∃ W, W = (2 * K + 1) * M + 1 := ⟨_, rfl⟩
  rw [← hWd] at hW0
  obtain ⟨a0, a1, a2⟩ := Za2.1 h1
  obtain ⟨b0, b1, b2⟩ := Za2.1 h2
  simp only [Bool.and_true, if_true]
  have hta := tidy_p hL oM a0 a1 a2
  have htb := tidy_p hM oM b0 b1 b2
  have hla := Zc2 l
  have hlb := Zc2 m
  have hhl : ∀ q, q ∈ l.drop (lead l) → Ht q K := fun q hq => Zdz hL hK.1 q (List.mem_of_mem_drop hq)
  have hhm : ∀ q, q ∈ m.drop (lead m) → Ht q K := fun q hq => Zdz hM hK.1 q (List.mem_of_mem_drop hq)
  have hld : (l.drop (lead l)).length + lead l = l.length := by rw [List.length_drop]; omega
  have hmd : (m.drop (lead m)).length + lead m = m.length := by rw [List.length_drop]; omega
  generalize l.drop (lead l) = A at *
  generalize m.drop (lead m) = C at *
  generalize hsa : s + (lead l : Int) = sa at *
  generalize htb' : t + (lead m : Int) = tb at *
  refine pb2 Tryz.func51 (Zac.agg Zaj) Zac.tmp ?_
  refine goA ?_
  refine clG hva ?_
  refine clG hvb ?_
  refine clG hta ?_
  refine clA htb ?_
  refine runA ?_
  refine Zao ?_
  refine Za1 ?_
  refine T.weak (s' := mkS [(2, .ptr 2 0), (3, .ptr 3 0), (4, .ptr 4 0)] [(2, svar sa A), (3, svar tb C), (4, var0)] 95 true) entA ?_
  have hfr : -200 ≤ sa + tb ∧ sa + tb ≤ 2000 := oM
  unfold mulN
  generalize hN : mlen (sa + tb) A.length C.length = N
  have hNe : (N : Int) = max 0 (min (min ((A.map encQ).length : Int) ((C.map encQ).length : Int)) (1000 - (sa + tb))) := by rw [← hN]; unfold mlen; simp only [List.length_map]; omega
  have hN1 : N ≤ A.length ∧ N ≤ C.length := by simp only [List.length_map] at hNe; omega
  refine r1A ?_
  generalize hfrom : sa + tb = fr at *
  refine T.seq ?_
  refine regA ?_
  refine runA ?_
  refine Zao ?_
  refine Za1 ?_
  rw [← hNe]
  refine T.weak (s' := mkS [(2, .ptr 2 0), (3, .ptr 3 0), (4, .ptr 4 0), (6, .v (.p (.int .i64 fr))), (7, .v (.p (.int .i64 N)))] [(2, svar sa A), (3, svar tb C), (4, var0)] 95 true) entA ?_
  refine T.seq ?_
  refine regA ?_
  refine runA ?_
  refine evG ggA (Zdv 41 (e0 := rz) (Zaa rfl) (Zaf rfl) rfl rfl rfl oM oM oM oM rfl rfl rfl) ?_
  refine runA ?_
  refine Zao ?_
  refine Za1 ?_
  have hof := Zdh 0 dC dC
  rw [show ((0 : Int) : Rat) = 0 from rfl] at hof
  refine T.seqE (mkS [(4, .ptr 4 0), (6, .v (.p (.int .i64 fr))), (8, .own 41 N)] [(4, var0), (41, .lst 4 39 ((tk (conv A C) N).map encQ))] 95 true) ?_ ?_
  · refine r1A ?_
    refine T.block ?_
    refine T.loop (fun n s1 => ∃ k : Nat, n = N - k ∧ k ≤ N ∧ s1 = mkS [(2, .ptr 2 0), (3, .ptr 3 0), (4, .ptr 4 0), (6, .v (.p (.int .i64 fr))), (42, .v (.p (.int .i64 N))), (43, .v (.p (.int .i64 k))), (8, .own 41 k)] [(2, svar sa A), (3, svar tb C), (4, var0), (41, .lst 4 39 ((tk (conv A C) k).map encQ))] 95 true) N
      (s' := mkS [(2, .ptr 2 0), (3, .ptr 3 0), (4, .ptr 4 0), (6, .v (.p (.int .i64 fr))), (42, .v (.p (.int .i64 N))), (43, .v (.p (.int .i64 (0 : Nat)))), (8, .own 41 0)] [(2, svar sa A), (3, svar tb C), (4, var0), (41, .lst 4 39 ((tk (conv A C) 0).map encQ))] 95 true) entA ⟨0, rfl, Nat.zero_le _, rfl⟩ ?_
    rintro n _ ⟨k, rfl, hk, rfl⟩
    by_cases hlt : k < N
    · have hb : decide ((k : Int) < (N : Int)) = true := by simp; omega
      refine T.seq ?_
      refine regA ?_
      refine runA ?_
      refine Zao ?_
      refine Za1 ?_
      refine T.seq ?_
      refine T.condT rfl hb ?_
      refine T.skip ?_
      refine Za1 ?_
      refine T.seq ?_
      refine T.block ?_
      refine r1A ?_
      refine T.seq ?_
      refine regA ?_
      refine runA ?_
      refine clA hof ?_
      refine runA ?_
      refine Zao ?_
      refine Za1 ?_
      refine T.seqE (mkS [(2, .ptr 2 0), (3, .ptr 3 0), (4, .ptr 4 0), (6, .v (.p (.int .i64 fr))), (42, .v (.p (.int .i64 N))), (43, .v (.p (.int .i64 k))), (8, .own 41 k), (10, .ptr 10 0)] [(2, svar sa A), (3, svar tb C), (4, var0), (10, qvar (conv A C k)), (41, .lst 4 39 ((tk (conv A C) k).map encQ))] 95 true) ?_ ?_
      · refine r1A ?_
        refine T.block ?_
        refine T.loop (fun n s1 => ∃ j : Nat, n = k + 1 - j ∧ j ≤ k + 1 ∧ s1 = mkS [(2, .ptr 2 0), (3, .ptr 3 0), (4, .ptr 4 0), (6, .v (.p (.int .i64 fr))), (9, .v (.p (.int .i64 k))), (11, .v (.p (.int .i64 j))), (42, .v (.p (.int .i64 N))), (43, .v (.p (.int .i64 k))), (8, .own 41 k), (10, .ptr 10 0)] [(2, svar sa A), (3, svar tb C), (4, var0), (10, qvar (cs A C k j)), (41, .lst 4 39 ((tk (conv A C) k).map encQ))] 95 true) (k + 1)
          (s' := mkS [(2, .ptr 2 0), (3, .ptr 3 0), (4, .ptr 4 0), (6, .v (.p (.int .i64 fr))), (9, .v (.p (.int .i64 k))), (11, .v (.p (.int .i64 (0 : Nat)))), (42, .v (.p (.int .i64 N))), (43, .v (.p (.int .i64 k))), (8, .own 41 k), (10, .ptr 10 0)] [(2, svar sa A), (3, svar tb C), (4, var0), (10, qvar (cs A C k 0)), (41, .lst 4 39 ((tk (conv A C) k).map encQ))] 95 true) entA ⟨0, rfl, Nat.zero_le _, rfl⟩ ?_
        rintro n _ ⟨j, rfl, hj, rfl⟩
        by_cases hjk : j ≤ k
        · have hb2 : decide ((j : Int) ≤ (k : Int)) = true := by simp; omega
          obtain ⟨q1, hq1⟩ : ∃ q, A[j]? = some q := ⟨_, List.getElem?_eq_getElem oM⟩
          obtain ⟨q2, hq2⟩ : ∃ q, C[k - j]? = some q := ⟨_, List.getElem?_eq_getElem oM⟩
          have g1 : A.getD j 0 = q1 := by rw [List.getD_eq_getElem?_getD, hq1]; rfl
          have g2 : C.getD (k - j) 0 = q2 := by rw [List.getD_eq_getElem?_getD, hq2]; rfl
          have t1 := hhl q1 (List.mem_of_getElem? hq1)
          have t2 := hhm q2 (List.mem_of_getElem? hq2)
          have n1 := Zec hq1
          have n2 : (C.map encQ)[((k : Int) - (j : Int)).toNat]? = some (encQ q2) := by rw [show ((k : Int) - (j : Int)).toNat = k - j by omega]; exact Zec hq2
          obtain ⟨sg1, -, -, z1, c1⟩ := rsign_p (Zad t1) oM
          obtain ⟨sg2, -, -, z2, c2⟩ := rsign_p (Zad t2) oM
          refine T.seq ?_
          refine T.seq ?_
          refine regA ?_
          refine runA ?_
          refine Zao ?_
          refine Za1 ?_
          refine T.condT rfl hb2 ?_
          refine T.skip ?_
          refine Za1 ?_
          refine T.seqE (mkS [(2, .ptr 2 0), (3, .ptr 3 0), (4, .ptr 4 0), (6, .v (.p (.int .i64 fr))), (9, .v (.p (.int .i64 k))), (11, .v (.p (.int .i64 j))), (42, .v (.p (.int .i64 N))), (43, .v (.p (.int .i64 k))), (8, .own 41 k), (10, .ptr 10 0)] [(2, svar sa A), (3, svar tb C), (4, var0), (10, qvar (cs A C k (j + 1))), (41, .lst 4 39 ((tk (conv A C) k).map encQ))] 95 true) ?_ ?_
          · refine goA ?_
            refine ixG n1 ?_
            refine clA c1 ?_
            by_cases e1 : q1 = 0
            · have hs : (sg1 != 0) = false := by simp [z1.2 e1]
              refine goA ?_
              exact Zae (s' := mkS [(2, .ptr 2 0), (3, .ptr 3 0), (4, .ptr 4 0), (6, .v (.p (.int .i64 fr))), (9, .v (.p (.int .i64 k))), (11, .v (.p (.int .i64 j))), (42, .v (.p (.int .i64 N))), (43, .v (.p (.int .i64 k))), (8, .own 41 k), (10, .ptr 10 0)] [(2, svar sa A), (3, svar tb C), (4, var0), (10, qvar (cs A C k j)), (41, .lst 4 39 ((tk (conv A C) k).map encQ))] 95 true) entA (by rw [cs_zero (.inl (by rw [g1, e1]))])
            have hs : (sg1 != 0) = true := by
              have : ¬ sg1 = 0 := fun e => e1 (z1.1 e)
              simp [this]
            refine goA ?_
            refine ixG n2 ?_
            refine clA c2 ?_
            by_cases e2 : q2 = 0
            · have hs2 : (sg2 != 0) = false := by simp [z2.2 e2]
              refine goA ?_
              exact Zae (s' := mkS [(2, .ptr 2 0), (3, .ptr 3 0), (4, .ptr 4 0), (6, .v (.p (.int .i64 fr))), (9, .v (.p (.int .i64 k))), (11, .v (.p (.int .i64 j))), (42, .v (.p (.int .i64 N))), (43, .v (.p (.int .i64 k))), (8, .own 41 k), (10, .ptr 10 0)] [(2, svar sa A), (3, svar tb C), (4, var0), (10, qvar (cs A C k j)), (41, .lst 4 39 ((tk (conv A C) k).map encQ))] 95 true) entA (by rw [cs_zero (.inr (by rw [g2, e2]))])
            have hs2 : (sg2 != 0) = true := by
              have : ¬ sg2 = 0 := fun e => e2 (z2.1 e)
              simp [this]
            have c3 := Zdw (Zad t1) oM (Zad t2) oM
            have hcsh : Ht (cs A C k j) W := (ht_cs hK.1 hhl hhm k j).mono (by rw [hWd]; exact Nat.succ_le_succ (Nat.mul_le_mul_left _ oM))
            have c4 := radd_p (Zad hcsh) oM (Zad (Zbq t1 t2 hK.1)) oM
            have hcs : cs A C k (j + 1) = cs A C k j + q1 * q2 := by show cs A C k j + A.getD j 0 * C.getD (k - j) 0 = _; rw [g1, g2]
            rw [← hcs] at c4
            refine goA ?_
            refine ixG n1 ?_
            refine ixG n2 ?_
            refine clA c3 ?_
            refine clG c4 ?_
            exact midE
          refine goA ?_
          exact Zab (k := k + 1 - (j + 1)) (s' := mkS [(2, .ptr 2 0), (3, .ptr 3 0), (4, .ptr 4 0), (6, .v (.p (.int .i64 fr))), (9, .v (.p (.int .i64 k))), (11, .v (.p (.int .i64 ((j : Int) + 1)))), (42, .v (.p (.int .i64 N))), (43, .v (.p (.int .i64 k))), (8, .own 41 k), (10, .ptr 10 0)] [(2, svar sa A), (3, svar tb C), (4, var0), (10, qvar (cs A C k (j + 1))), (41, .lst 4 39 ((tk (conv A C) k).map encQ))] 95 true) oM entA ⟨j + 1, rfl, oM, rfl⟩
        · obtain rfl : j = k + 1 := oM
          have hb2 : decide (((k + 1 : Nat) : Int) ≤ (k : Int)) = false := by simp; omega
          refine goA ?_
          exact midE
      refine regA ?_
      refine runA ?_
      refine appA ?_
      refine goA ?_
      exact Zab (k := N - (k + 1)) (s' := mkS [(2, .ptr 2 0), (3, .ptr 3 0), (4, .ptr 4 0), (6, .v (.p (.int .i64 fr))), (42, .v (.p (.int .i64 N))), (43, .v (.p (.int .i64 ((k : Int) + 1)))), (8, .own 41 (k + 1))] [(2, svar sa A), (3, svar tb C), (4, var0), (41, .lst 4 39 ((tk (conv A C) k ++ [conv A C k]).map encQ))] 95 true) oM entA ⟨k + 1, rfl, hlt, by rw [Zdu]; rfl⟩
    · obtain rfl : k = N := oM
      have hb : decide ((k : Int) < (k : Int)) = false := by simp
      refine goA ?_
      exact Zae (s' := mkS [(4, .ptr 4 0), (6, .v (.p (.int .i64 fr))), (8, .own 41 k)] [(4, var0), (41, .lst 4 39 ((tk (conv A C) k).map encQ))] 95 true) entA rfl
  have hbuild := Ze7 (s := fr) (Zbb (l := tk (conv A C) N) (k := W) (fun q hq => by obtain ⟨i, hi, rfl⟩ := Zfb hq; exact (ht_cs hK.1 hhl hhm i (i + 1)).mono (by rw [hWd]; exact Nat.succ_le_succ (Nat.mul_le_mul_left _ oM)))) oM oM oM (by rw [tk_len]; omega)
  rw [Zbm] at hbuild
  refine T.weak (s' := mkS [(4, .ptr 4 0), (6, .v (.p (.int .i64 fr))), (8, .v (.sl ((tk (conv A C) N).map encQ)))] [(4, var0)] 95 true) entA ?_
  refine goA ?_
  refine clG hbuild ?_
  exact rfl
def iss (l x : List Rat) (k : Nat) : Nat → Rat
 | 0 => 0
 | j + 1 => iss l x k j + l.getD (j + 1) 0 * x.getD (k - (j + 1)) 0
def ivs (l : List Rat) : Nat → List Rat
 | 0 => []
 | 1 => [1 / l.getD 0 0]
 | n + 2 => ivs l (n + 1) ++ [-(1 / l.getD 0 0 * iss l (ivs l (n + 1)) (n + 1) (n + 1))]
theorem Zgb (l : List Rat) : ∀ n, (ivs l n).length = n
 | 0 => rfl
 | 1 => rfl
 | n + 2 => by rw [ivs, List.length_append, Zgb l (n + 1)]; rfl
abbrev Res := Int × List Rat × Int
def serT (r : Res) : AV := .tup [serA r.1 (r.2.1.map encQ), .p (.int .i64 r.2.2)]
def nrmT (x : Option (Int × List Rat)) : Res := (sF x, sL x, sE x)
theorem serE_T (x : Option (Int × List Rat)) : serE x = serT (nrmT x) := Zbm x
def invT (s : Int) (l : List Rat) : Res :=
 if Zap s l.length then (if l.drop (lead l) = [] then (0, [], 18) else nrmT (nrm (-(s + lead l)) (ivs (l.drop (lead l)) (l.drop (lead l)).length))) else (0, [], 2)
theorem ivs_get (l : List Rat) : ∀ n i, i < n → (ivs l n).getD i 0 = (if i = 0 then 1 / l.getD 0 0 else -(1 / l.getD 0 0 * iss l (ivs l i) i i))
  | 0, i, h => oM
  | 1, i, h => by obtain rfl : i = 0 := oM
                  rfl
  | n + 2, i, h => by
    have hl := Zgb l (n + 1)
    rw [ivs, List.getD_eq_getElem?_getD]
    by_cases hi : i < n + 1
    · rw [List.getElem?_append_left oM, ← List.getD_eq_getElem?_getD]
      exact ivs_get l (n + 1) i hi
    · obtain rfl : i = n + 1 := oM
      rw [List.getElem?_append_right oM, hl, Nat.sub_self, if_neg oM]
      rfl
theorem dg_eq : ∀ n k, n ≤ k → dg k n = dgs n := by
  intro n
  induction n using Nat.strongRecOn with
  | _ n ih =>
    intro k hk
    by_cases h0 : n = 0
    · subst h0
      cases k <;> simp [dg, dgs]
    · obtain ⟨k', rfl⟩ : ∃ k', k = k' + 1 := ⟨k - 1, oM⟩
      obtain ⟨n', rfl⟩ : ∃ n', n = n' + 1 := ⟨n - 1, oM⟩
      have hlt : (n' + 1) / 4294967296 < n' + 1 := Nat.div_lt_self oM oM
      have e1 : dg (k' + 1) (n' + 1) = (((n' + 1) % 4294967296 : Nat) : Int) :: dg k' ((n' + 1) / 4294967296) := by simp [dg]
      have e2 : dgs (n' + 1) = (((n' + 1) % 4294967296 : Nat) : Int) :: dg n' ((n' + 1) / 4294967296) := by simp [dgs, dg]
      rw [e1, e2, ih _ hlt k' oM, ih _ hlt n' oM]
theorem dgs_step {n : Nat} (h : n ≠ 0) : dgs n = ((n % 4294967296 : Nat) : Int) :: dgs (n / 4294967296) := by
 obtain ⟨n', rfl⟩ : ∃ n', n = n' + 1 := ⟨n - 1, oM⟩
 have hlt : (n' + 1) / 4294967296 < n' + 1 := Nat.div_lt_self oM oM
 have e2 : dgs (n' + 1) = (((n' + 1) % 4294967296 : Nat) : Int) :: dg n' ((n' + 1) / 4294967296) := by simp [dgs, dg]
 rw [e2, dg_eq _ n' oM]
theorem dgs_zero : dgs 0 = [] := rfl
theorem Zfp {z k : Nat} (h : (z : Int) < pw k) : (dgs z).length ≤ k := by
 obtain ⟨g, ds, e, -, h2, -⟩ := isC_ci (z := (z : Int)) (k := k) (by simpa using h)
 simp only [ci, Int.natAbs_natCast, List.cons.injEq, and_true, AV.sl.injEq] at e
 have := congrArg List.length e.2
 simp only [List.length_map] at this
 omega
set_option maxHeartbeats 1000000 in
theorem z_p (x : Int) (h0 : -9223372036854775808 ≤ x) (h1 : x ≤ 9223372036854775807) : PC Tryz.prog 12 [.p (.int .i64 x)] (encI x) := by
 refine Zaz false Tryz.func12 rfl rfl rfl (Nat.le_of_ble_eq_true rfl) (Zac.agg (l := ci x) Zbj) ?_
 refine r1A ?_
 refine T.seq ?_
 refine regA ?_
 refine runA ?_
 refine evG ggA (Zbf (Zaa rfl) (Zau rfl) (Zau rfl) rfl rfl) ?_
 refine runA ?_
 refine Zao ?_
 refine Za1 ?_
 refine T.seqE (mkS [(0, .v (.p (.int .i64 x))), (2, .ptr 2 0), (3, .v (.p (.int .u64 (x.natAbs : Int))))] [(2, .var [.v (.p (.bool false)), .v (.p nilV)])] 26 false) ?_ ?_
 ·by_cases hx : x < 0
  ·have hb : decide (x < 0) = true := by simp [hx]
   have hw : IntKind.u64.wrap (0 - IntKind.u64.wrap x) = (x.natAbs : Int) := by rw [IntKind.wrap_u64, IntKind.wrap_u64]; omega
   refine goA ?_
   refine evG ggA (ss_neg (Zaa rfl) rfl hw) ?_
   refine goA ?_
   exact midE
  ·have hb : decide (x < 0) = false := by simp; omega
   have hw : IntKind.u64.wrap x = (x.natAbs : Int) := by rw [IntKind.wrap_u64]; omega
   rw [hw]
   refine goA ?_
   exact midE
 refine T.seq ?_
 refine regA ?_
 refine stpA ?_
 refine stpA ?_
 refine evG ggA (ss_build_raw (Zaa rfl) (Zer rfl) rfl rfl rfl) ?_
 refine runA ?_
 refine Zao ?_
 refine Za1 ?_
 have hlen3 : (dgs x.natAbs).length ≤ 3 := Zfp (by rw [show pw 3 = 79228162514264337593543950336 from dC]; omega)
 refine T.seqE (mkS [(2, .ptr 2 0), (4, .ptr 4 0)] [(2, .var [.v (.p (.bool false)), .v (.p nilV)]), (4, .var [.v (.p (.bool (decide (x < 0)))), .v (.sl ((dgs x.natAbs).map u32))])] 26 false) ?_ ?_
 ·refine T.block ?_
  refine T.loop (fun n s1 => ∃ (u : Nat) (es : List Int), n = u ∧ u < 18446744073709551616 ∧ es.length ≤ 18446744073709551616 - u ∧ dgs x.natAbs = es ++ dgs u ∧ s1 = mkS [(2, .ptr 2 0), (3, .v (.p (.int .u64 u))), (4, .ptr 4 0)] [(2, .var [.v (.p (.bool false)), .v (.p nilV)]), (4, .var [.v (.p (.bool (decide (x < 0)))), .own 100 es.length]), (100, .lst 1 74 (es.map u32))] 26 false) x.natAbs
   (s' := mkS [(2, .ptr 2 0), (3, .v (.p (.int .u64 (x.natAbs : Int)))), (4, .ptr 4 0)] [(2, .var [.v (.p (.bool false)), .v (.p nilV)]), (4, .var [.v (.p (.bool (decide (x < 0)))), .own 100 0]), (100, .lst 1 74 [])] 26 false) entA ⟨x.natAbs, [], rfl, oM, by simp, by simp, rfl⟩ ?_
  rintro u _ ⟨_, es, rfl, hu, hle, hes, rfl⟩
  by_cases h00 : u = 0
  ·subst h00
   have hb : decide (((0 : Nat) : Int) > 0) = false := dC
   rw [dgs_zero, List.append_nil] at hes
   have hel : (es.map u32).length = es.length := by simp
   refine goA ?_
   exact Zae (s' := mkS [(2, .ptr 2 0), (4, .ptr 4 0)] [(2, .var [.v (.p (.bool false)), .v (.p nilV)]), (4, .var [.v (.p (.bool (decide (x < 0)))), .v (.sl (es.map u32))])] 26 false) entA (by rw [hes])
  ·have hb : decide ((u : Int) > 0) = true := by simp; omega
   have hw : IntKind.u32.wrap (u : Int) = ((u % 4294967296 : Nat) : Int) := by rw [IntKind.wrap_u32']; omega
   have hsh : (u : Int).fdiv (2 ^ (min (32 : Int).toNat IntKind.u64.bits)) = ((u / 4294967296 : Nat) : Int) := by
    rw [show ((2 : Int) ^ (min (32 : Int).toNat IntKind.u64.bits)) = 4294967296 from dC, Int.fdiv_eq_ediv_of_nonneg _ dC]
    omega
   have hdl : u / 4294967296 < u := Nat.div_lt_self oM oM
   have hel : (es.map u32).length = es.length := by simp
   refine T.seq ?_
   refine T.seq ?_
   refine regA ?_
   refine runA ?_
   refine Zao ?_
   refine Za1 ?_
   refine T.condT rfl hb ?_
   refine T.skip ?_
   refine Za1 ?_
   refine T.block ?_
   refine T.seq ?_
   refine regA ?_
   refine runA ?_
   refine evG ggA (Zbf (Zaa rfl) (Zau rfl) (Zau rfl) rfl hw) ?_
   refine evG ggA (Zaw (Zaa rfl) (Zaf rfl) rfl rfl rfl rfl (Zci rfl rfl) (Nat.le_of_ble_eq_true rfl)) ?_
   refine evG ggA (Zcj (Zaa rfl) (Zaf rfl) rfl rfl hel rfl (fun a ha => by rw [List.mem_singleton] at ha; subst ha; rfl) dC ?_ ?_ rfl (fun h => by cases h)) ?_
   ·simp [maxLen]; have := congrArg List.length hes; simp at this; omega
   ·simp; have := congrArg List.length hes; simp at this; omega
   refine runA ?_
   refine Zao ?_
   refine Za1 ?_
   refine regA ?_
   refine runA ?_
   refine evG ggA (Zfh (Zaa rfl) rfl rfl dC hsh) ?_
   refine goA ?_
   refine Zab (k := u / 4294967296) (s' := mkS [(2, .ptr 2 0), (3, .v (.p (.int .u64 ((u / 4294967296 : Nat) : Int)))), (4, .ptr 4 0)] [(2, .var [.v (.p (.bool false)), .v (.p nilV)]), (4, .var [.v (.p (.bool (decide (x < 0)))), .own 100 (es.length + 1)]), (100, .lst 1 74 (es.map u32 ++ [u32 ((u % 4294967296 : Nat) : Int)]))] 26 false) hdl entA ⟨u / 4294967296, es ++ [((u % 4294967296 : Nat) : Int)], rfl, oM, by simp; omega, by rw [hes, dgs_step h00, List.append_assoc]; rfl, by simp⟩
 refine goA ?_
 exact rfl
theorem q_p (x : Int) (h0 : -9223372036854775808 ≤ x) (h1 : x ≤ 9223372036854775807) : PC Tryz.prog 35 [.p (.int .i64 x)] (encQ (x : Rat)) := by
 have c1 := z_p x h0 h1
 have c2 := z_p 1 dC dC
 have e : encQ (x : Rat) = .agg (ci x ++ ci 1) := by unfold encQ; rw [Rat.num_intCast, Rat.den_intCast]; rfl
 rw [e]
 refine pb1 Tryz.func35 (Zac.agg Zbg) ?_
 refine goA ?_
 refine clA c1 ?_
 refine clG c2 ?_
 exact rfl
end Ab
