/- Rows of texts put together; an action: what the program tells of it. Conditions: none. -/
import Derived.Test.YtaokfpjjaejjgaaSch4
set_option maxRecDepth 100000
set_option maxHeartbeats 4000000
set_option linter.all false
namespace Go.Proofs.Ytaokfpjjaejjgaa.Va
open Go.Proofs

theorem wrap_sub0 (n : Nat) (h : n < 4611686018427387904) : IntKind.i64.wrap ((n : Int) - 0) = n := by rw [Int.sub_zero, wrap64 (by omega) (by omega)]
theorem wrap_00 : IntKind.i64.wrap ((0 : Int) - 0) = 0 := by decide
theorem grow_ac (n : Nat) (hn : n ≤ 1000000) (σ : AState) : AC Try.prog 60 [.nils, .int .i64 n] σ fun v s => RowA σ.n s v [] 0 1 ∧ Keeps σ.n σ s := by
  refine ac_wp fn60 cf60 cl60 rfl ?_
  simp only [ac60]
  unfold ab60
  have h0 : ¬ (n : Int) < 0 := by omega
  have hw := wrap_sub0 n (by omega)
  simp only [WS, stepW, evalA, reduceIte, Nat.reduceEqDiff, reduceCtorEq, evalBin, Option.getD, Int.reduceToNat, Nat.reduceMul, Nat.reduceAdd, allocA, rowOf, fillA, partsV, setl, Nat.reduceLeDiff, AV.len, evalUn, Int.reduceLT, Int.reduceLE, Int.reduceEq, Int.reduceNe, strs_eq, h0, wrap_00, hw]
  refine Br_dec (fun hp => ?_) (fun hp => ?_)
  · have hb : (1 : Int) ≤ n ∧ (n : Int) < 4611686018427387904 ∧ 2 * (n : Int) * 16 ≤ 140737488355328 := by omega
    have h00 : (0 : Int) ≤ 0 ∧ (0 : Int) ≤ 0 ∧ (0 : Int) ≤ (n : Int) := by omega
    have hb2 : 2 * (n : Int) * ((16 : Nat) : Int) ≤ 140737488355328 := by omega
    simp only [WS, stepW, evalA, reduceIte, Nat.reduceEqDiff, reduceCtorEq, evalBin, Option.getD, Int.reduceToNat, Nat.reduceMul, Nat.reduceAdd, allocA, rowOf, fillA, partsV, setl, Nat.reduceLeDiff, AV.len, evalUn, Int.reduceLT, Int.reduceLE, Int.reduceEq, Int.reduceNe, strs_eq, hp, wrap_00, hw, hb, hb2, h00, Int.le_refl, Nat.sub_self, Nat.zero_mul, Int.natCast_nonneg]
    exact ⟨.inr ⟨σ.n, none, rowOf [.str []] n, rfl, Nat.le_refl _, push_cells _ _, by simp [seg], by omega⟩, (Keeps.refl σ).push _⟩
  · simp only [WS, stepW, evalA, reduceIte, Nat.reduceEqDiff, reduceCtorEq, evalBin, Option.getD, Int.reduceToNat, Nat.reduceMul, Nat.reduceAdd, allocA, rowOf, fillA, partsV, setl, Nat.reduceLeDiff, AV.len, evalUn, Int.reduceLT, Int.reduceLE, Int.reduceEq, Int.reduceNe, strs_eq, hp, wrap_00, hw]
    exact ⟨RowA.nil _ _ _, Keeps.refl _⟩

theorem take_sum {L : List (List Str)} {i : Nat} (h : i < L.length) : ((L.take (i + 1)).map List.length).sum = ((L.take i).map List.length).sum + L[i].length := by
  rw [List.take_add_one, List.map_append, List.sum_append, List.getElem?_eq_getElem h]; simp
theorem take_sum_le (L : List (List Str)) (i : Nat) : ((L.take i).map List.length).sum ≤ (L.map List.length).sum := by
  conv => rhs; rw [← List.take_append_drop i L]
  rw [List.map_append, List.sum_append]; omega
theorem take_flat {L : List (List Str)} {i : Nat} (h : i < L.length) : (L.take (i + 1)).flatten = (L.take i).flatten ++ L[i] := by
  rw [List.take_add_one, List.flatten_append, List.getElem?_eq_getElem h]; simp
theorem strs_all (l : List Str) : (l.map AV.str).all AV.one = true := by simp [AV.one]

theorem concat_st0 {L : List (List Str)} (hL : L.length ≤ 1000) (hs : (L.map List.length).sum ≤ 1000000) : AC Try.prog 52 [.psl (L.map strs) 0 L.length] st0 fun v s => ∃ a, Pur s false v a ∧ a = strs L.flatten := by
  refine ac_wp fn52 cf52 cl52 rfl ?_
  simp only [ac52]
  unfold ab52
  simp only [wpC_seq, wpC_skip, wpCK_normal]
  refine w_mid (fun ρ s => ρ.rd 0 = .psl (L.map strs) 0 L.length ∧ s = st0) ?_ ?_
  · simp only [WS, stepW, evalA, reduceIte, Nat.reduceEqDiff, reduceCtorEq, evalBin, Option.getD, Int.reduceToNat, Nat.reduceMul, Nat.reduceAdd, allocA, rowOf, fillA, partsV, setl, Nat.reduceLeDiff, AV.len, evalUn, Int.reduceLT, Int.reduceLE, Int.reduceEq, Int.reduceNe, strs_eq]
  rintro ρ s ⟨h0, rfl⟩
  simp only [wpC_seq, wpC_skip, wpCK_normal]
  refine w_mid (fun ρ s => ρ.rd 0 = .psl (L.map strs) 0 L.length ∧ ρ.rd 3 = .int .i64 0 ∧ s = st0) ?_ ?_
  · simp only [WS, stepW, evalA, reduceIte, Nat.reduceEqDiff, reduceCtorEq, evalBin, Option.getD, Int.reduceToNat, Nat.reduceMul, Nat.reduceAdd, allocA, rowOf, fillA, partsV, setl, Nat.reduceLeDiff, AV.len, evalUn, Int.reduceLT, Int.reduceLE, Int.reduceEq, Int.reduceNe, strs_eq, h0]
  rintro ρ s ⟨h0, h3, rfl⟩
  rw [wpC_seq]
  have hg : ∀ i (h : i < L.length), (L.map strs)[i]? = some (.psl (L[i].map .str) 0 L[i].length) := fun i h => by simp [h, strs]
  refine w_mid (fun ρ s => ρ.rd 0 = .psl (L.map strs) 0 L.length ∧ ρ.rd 3 = .int .i64 ((L.map List.length).sum : Nat) ∧ s = st0) ?_ ?_
  · simp only [WS, stepW, evalA, reduceIte, Nat.reduceEqDiff, reduceCtorEq, evalBin, Option.getD, Int.reduceToNat, Nat.reduceMul, Nat.reduceAdd, allocA, rowOf, fillA, partsV, setl, Nat.reduceLeDiff, AV.len, evalUn, Int.reduceLT, Int.reduceLE, Int.reduceEq, Int.reduceNe, strs_eq, h0, h3]
    refine w_for (fun i ρ s => ρ.rd 11 = .int .i64 i ∧ ρ.rd 10 = .int .i64 L.length ∧ ρ.rd 9 = .psl (L.map strs) 0 L.length ∧ ρ.rd 0 = .psl (L.map strs) 0 L.length ∧ ρ.rd 3 = .int .i64 (((L.take i).map List.length).sum : Nat) ∧ s = st0) L.length ?_ ?_
    · simp only [WS, stepW, evalA, reduceIte, Nat.reduceEqDiff, reduceCtorEq, evalBin, Option.getD, Int.reduceToNat, Nat.reduceMul, Nat.reduceAdd, allocA, rowOf, fillA, partsV, setl, Nat.reduceLeDiff, AV.len, evalUn, Int.reduceLT, Int.reduceLE, Int.reduceEq, Int.reduceNe, strs_eq, h0, h3]
      exact ⟨rfl, rfl⟩
    · rintro i ρ s hi ⟨h11, h10, h9, h0, h3, rfl⟩
      simp only [WS, stepW, evalA, reduceIte, Nat.reduceEqDiff, reduceCtorEq, evalBin, Option.getD, Int.reduceToNat, Nat.reduceMul, Nat.reduceAdd, allocA, rowOf, fillA, partsV, setl, Nat.reduceLeDiff, AV.len, evalUn, Int.reduceLT, Int.reduceLE, Int.reduceEq, Int.reduceNe, strs_eq, h11, h10]
      refine Br_dec (fun hlt' => ?_) (fun hge => ?_)
      · have hlt : i < L.length := by omega
        have hr := lt_idx hlt
        have hw : IntKind.i64.wrap ((i : Int) + 1) = ((i + 1 : Nat) : Int) := wrap_succ (by omega)
        have h1 := take_sum_le L (i + 1)
        have hw2 : IntKind.i64.wrap ((((L.take i).map List.length).sum : Nat) + (L[i].length : Int)) = (((L.take (i + 1)).map List.length).sum : Nat) := by
          rw [take_sum hlt] at h1 ⊢
          rw [wrap64 (by omega) (by omega)]; simp
        have hneg : ¬ ((((L.take (i + 1)).map List.length).sum : Nat) : Int) < 0 := by omega
        simp only [WS, stepW, evalA, reduceIte, Nat.reduceEqDiff, reduceCtorEq, evalBin, Option.getD, Int.reduceToNat, Nat.reduceMul, Nat.reduceAdd, allocA, rowOf, fillA, partsV, setl, Nat.reduceLeDiff, AV.len, evalUn, Int.reduceLT, Int.reduceLE, Int.reduceEq, Int.reduceNe, strs_eq, h11, h10, h9, h0, h3, hr, hg i hlt, hw2, hneg, hw]
        exact hlt
      · have : i = L.length := by omega
        subst this
        rw [List.take_length] at h3
        simp only [WS, stepW, evalA, reduceIte, Nat.reduceEqDiff, reduceCtorEq, evalBin, Option.getD, Int.reduceToNat, Nat.reduceMul, Nat.reduceAdd, allocA, rowOf, fillA, partsV, setl, Nat.reduceLeDiff, AV.len, evalUn, Int.reduceLT, Int.reduceLE, Int.reduceEq, Int.reduceNe, strs_eq, h11, h10, h9, h0, h3]
  rintro ρ s ⟨h0, h3, rfl⟩
  simp only [WS, stepW, evalA, reduceIte, Nat.reduceEqDiff, reduceCtorEq, evalBin, Option.getD, Int.reduceToNat, Nat.reduceMul, Nat.reduceAdd, allocA, rowOf, fillA, partsV, setl, Nat.reduceLeDiff, AV.len, evalUn, Int.reduceLT, Int.reduceLE, Int.reduceEq, Int.reduceNe, strs_eq, h0, h3]
  refine (grow_ac _ hs st0).mono ?_
  rintro v s ⟨hrow, hk⟩
  simp only [WS, stepW, evalA, reduceIte, Nat.reduceEqDiff, reduceCtorEq, evalBin, Option.getD, Int.reduceToNat, Nat.reduceMul, Nat.reduceAdd, allocA, rowOf, fillA, partsV, setl, Nat.reduceLeDiff, AV.len, evalUn, Int.reduceLT, Int.reduceLE, Int.reduceEq, Int.reduceNe, strs_eq, h0]
  refine w_for (fun i ρ s => ρ.rd 27 = .int .i64 i ∧ ρ.rd 26 = .int .i64 L.length ∧ ρ.rd 25 = .psl (L.map strs) 0 L.length ∧ RowA 0 s (ρ.rd 6) ((L.take i).flatten.map .str) (L.take i).flatten.length 1) L.length ?_ ?_
  · simp only [WS, stepW, evalA, reduceIte, Nat.reduceEqDiff, reduceCtorEq, evalBin, Option.getD, Int.reduceToNat, Nat.reduceMul, Nat.reduceAdd, allocA, rowOf, fillA, partsV, setl, Nat.reduceLeDiff, AV.len, evalUn, Int.reduceLT, Int.reduceLE, Int.reduceEq, Int.reduceNe, strs_eq, List.take_zero, List.flatten_nil, List.map_nil]
    exact ⟨rfl, hrow⟩
  · rintro i ρ s' hi ⟨h27, h26, h25, hx⟩
    simp only [WS, stepW, evalA, reduceIte, Nat.reduceEqDiff, reduceCtorEq, evalBin, Option.getD, Int.reduceToNat, Nat.reduceMul, Nat.reduceAdd, allocA, rowOf, fillA, partsV, setl, Nat.reduceLeDiff, AV.len, evalUn, Int.reduceLT, Int.reduceLE, Int.reduceEq, Int.reduceNe, strs_eq, h27, h26]
    refine Br_dec (fun hlt' => ?_) (fun hge => ?_)
    · have hlt : i < L.length := by omega
      have hr := lt_idx hlt
      have hw : IntKind.i64.wrap ((i : Int) + 1) = ((i + 1 : Nat) : Int) := wrap_succ (by omega)
      have h1 := take_sum_le L (i + 1)
      have hfl : (L.take (i + 1)).flatten.length = ((L.take (i + 1)).map List.length).sum := List.length_flatten
      have hfl' : (L.take i).flatten.length + L[i].length = (L.take (i + 1)).flatten.length := by rw [take_flat hlt, List.length_append]
      obtain ⟨x', s2, happ, hrow', _⟩ := app_row (bytes := 16) hx (Nat.zero_le _) (y := .psl (L[i].map .str) 0 L[i].length) (k := L[i].length) rfl (firstA_psl' (by simp)) (strs_all _) (by simp) (by omega)
      simp only [WS, stepW, evalA, reduceIte, Nat.reduceEqDiff, reduceCtorEq, evalBin, Option.getD, Int.reduceToNat, Nat.reduceMul, Nat.reduceAdd, allocA, rowOf, fillA, partsV, setl, Nat.reduceLeDiff, AV.len, evalUn, Int.reduceLT, Int.reduceLE, Int.reduceEq, Int.reduceNe, strs_eq, h27, h26, h25, hr, hg i hlt, happ, hw]
      refine ⟨hlt, ?_⟩
      rw [hfl'] at hrow'
      rw [take_flat hlt, List.map_append]
      rw [take_flat hlt] at hrow'
      exact hrow'
    · have : i = L.length := by omega
      subst this
      rw [List.take_length] at hx
      simp only [WS, stepW, evalA, reduceIte, Nat.reduceEqDiff, reduceCtorEq, evalBin, Option.getD, Int.reduceToNat, Nat.reduceMul, Nat.reduceAdd, allocA, rowOf, fillA, partsV, setl, Nat.reduceLeDiff, AV.len, evalUn, Int.reduceLT, Int.reduceLE, Int.reduceEq, Int.reduceNe, strs_eq, h27, h26]
      exact ⟨_, hx.pur false (by simp) (fun i hi hi' => .flat _ (by rw [List.getElem_map]; rfl)), rfl⟩
theorem concat_ac {L : List (List Str)} (hL : L.length ≤ 1000) (hs : (L.map List.length).sum ≤ 1000000) {σ : AState} {x : AV} (hx : Pur σ true x (.psl (L.map strs) 0 L.length)) :
    AC Try.prog 52 [x] σ fun v s => s = σ ∧ v = strs L.flatten := AC.pure (.cons hx .nil) (concat_st0 hL hs)

/- ------------------------------------------------ an action -/
def actS (ks : List Kd) (a : Ac) (last : Str) : Int :=
  if identS a.name = false then 15
  else if (Op.bytesLess a.name last || a.name == last) = true then 7
  else if a.prins.length = 0 ∨ a.ress.length = 0 then 13
  else if 6 < a.prins.length ∨ 6 < a.ress.length then 4
  else if (a.prins ++ a.ress).all (hasS ks) = false then 2
  else 0
def Ac.tok (a : Ac) : Prop := a.name.length ≤ Most

theorem act_st0 {s : Sc} {a : Ac} {last : Str} (hs : s.ok) (ht : a.tok) : AC Try.prog 32 [.agg s.c, .agg a.c, .str last] st0 fun v _ => v = .int .i64 (actS s.kinds a last) := by
  refine ac_wp fn32 cf32 cl32 rfl ?_
  simp only [ac32]
  unfold ab32
  simp only [wpC_seq, wpC_skip, wpCK_normal]
  refine w_mid (fun ρ s' => ρ.rd 3 = .ptr 0 0 ∧ ρ.rd 4 = .ptr 1 0 ∧ ρ.rd 2 = .str last ∧ s'.cells 0 = some [slc Kd.c s.kinds, slc Ac.c s.acts] ∧ s'.cells 1 = some [.str a.name, strs a.prins, strs a.ress] ∧ s'.n = 2) ?_ ?_
  · simp only [WS, stepW, evalA, reduceIte, Nat.reduceEqDiff, reduceCtorEq, evalBin, Option.getD, Int.reduceToNat, Nat.reduceMul, Nat.reduceAdd, allocA, rowOf, fillA, partsV, setl, Nat.reduceLeDiff, AV.len, evalUn, Int.reduceLT, Int.reduceLE, Int.reduceEq, Int.reduceNe, strs_eq, Sc.c_eq, Ac.c_eq]
  rintro ρ s' ⟨h3, h4, h2, c0, c1, hn⟩
  simp only [wpC_seq, wpC_skip, wpCK_normal]
  have hI := identL_ac (n := a.name) (σ := s') ht
  refine w_mid (fun ρ s' => ρ.rd 3 = .ptr 0 0 ∧ ρ.rd 4 = .ptr 1 0 ∧ s'.cells 0 = some [slc Kd.c s.kinds, slc Ac.c s.acts] ∧ s'.cells 1 = some [.str a.name, strs a.prins, strs a.ress] ∧ s'.n = 2 ∧
    a.prins.length ≤ 6 ∧ a.ress.length ≤ 6 ∧ actS s.kinds a last = if (a.prins ++ a.ress).all (hasS s.kinds) = false then 2 else 0) ?_ ?_
  · simp only [WS, stepW, evalA, reduceIte, Nat.reduceEqDiff, reduceCtorEq, evalBin, Option.getD, Int.reduceToNat, Nat.reduceMul, Nat.reduceAdd, allocA, rowOf, fillA, partsV, setl, Nat.reduceLeDiff, AV.len, evalUn, Int.reduceLT, Int.reduceLE, Int.reduceEq, Int.reduceNe, strs_eq, h3, h4, h2, c0, c1, hn]
    refine hI.use ?_
    cases hi : identS a.name with
    | false => simp only [WS, stepW, evalA, reduceIte, Nat.reduceEqDiff, reduceCtorEq, evalBin, Option.getD, Int.reduceToNat, Nat.reduceMul, Nat.reduceAdd, allocA, rowOf, fillA, partsV, setl, Nat.reduceLeDiff, AV.len, evalUn, Int.reduceLT, Int.reduceLE, Int.reduceEq, Int.reduceNe, strs_eq, h3, h4, h2, c0, c1, hi]; simp [actS, hi]
    | true =>
      simp only [WS, stepW, evalA, reduceIte, Nat.reduceEqDiff, reduceCtorEq, evalBin, Option.getD, Int.reduceToNat, Nat.reduceMul, Nat.reduceAdd, allocA, rowOf, fillA, partsV, setl, Nat.reduceLeDiff, AV.len, evalUn, Int.reduceLT, Int.reduceLE, Int.reduceEq, Int.reduceNe, strs_eq, h3, h4, h2, c0, c1, hi]
      cases hl : (Op.bytesLess a.name last || a.name == last) with
      | true => simp only [WS, stepW, evalA, reduceIte, Nat.reduceEqDiff, reduceCtorEq, evalBin, Option.getD, Int.reduceToNat, Nat.reduceMul, Nat.reduceAdd, allocA, rowOf, fillA, partsV, setl, Nat.reduceLeDiff, AV.len, evalUn, Int.reduceLT, Int.reduceLE, Int.reduceEq, Int.reduceNe, strs_eq, h3, h4, h2, c0, c1, hl]; simp [actS, hi, hl]
      | false =>
        simp only [WS, stepW, evalA, reduceIte, Nat.reduceEqDiff, reduceCtorEq, evalBin, Option.getD, Int.reduceToNat, Nat.reduceMul, Nat.reduceAdd, allocA, rowOf, fillA, partsV, setl, Nat.reduceLeDiff, AV.len, evalUn, Int.reduceLT, Int.reduceLE, Int.reduceEq, Int.reduceNe, strs_eq, h3, h4, h2, c0, c1, hl]
        by_cases p0 : (a.prins.length : Int) = 0
        · have p0' : a.prins.length = 0 := by omega
          simp only [WS, stepW, evalA, reduceIte, Nat.reduceEqDiff, reduceCtorEq, evalBin, Option.getD, Int.reduceToNat, Nat.reduceMul, Nat.reduceAdd, allocA, rowOf, fillA, partsV, setl, Nat.reduceLeDiff, AV.len, evalUn, Int.reduceLT, Int.reduceLE, Int.reduceEq, Int.reduceNe, strs_eq, h3, h4, h2, c0, c1, p0]; simp [actS, hi, hl, p0']
        · have p0' : ¬ a.prins.length = 0 := by omega
          simp only [WS, stepW, evalA, reduceIte, Nat.reduceEqDiff, reduceCtorEq, evalBin, Option.getD, Int.reduceToNat, Nat.reduceMul, Nat.reduceAdd, allocA, rowOf, fillA, partsV, setl, Nat.reduceLeDiff, AV.len, evalUn, Int.reduceLT, Int.reduceLE, Int.reduceEq, Int.reduceNe, strs_eq, h3, h4, h2, c0, c1, p0]
          by_cases r0 : (a.ress.length : Int) = 0
          · have r0' : a.ress.length = 0 := by omega
            simp only [WS, stepW, evalA, reduceIte, Nat.reduceEqDiff, reduceCtorEq, evalBin, Option.getD, Int.reduceToNat, Nat.reduceMul, Nat.reduceAdd, allocA, rowOf, fillA, partsV, setl, Nat.reduceLeDiff, AV.len, evalUn, Int.reduceLT, Int.reduceLE, Int.reduceEq, Int.reduceNe, strs_eq, h3, h4, h2, c0, c1, r0]; simp [actS, hi, hl, r0']
          · have r0' : ¬ a.ress.length = 0 := by omega
            simp only [WS, stepW, evalA, reduceIte, Nat.reduceEqDiff, reduceCtorEq, evalBin, Option.getD, Int.reduceToNat, Nat.reduceMul, Nat.reduceAdd, allocA, rowOf, fillA, partsV, setl, Nat.reduceLeDiff, AV.len, evalUn, Int.reduceLT, Int.reduceLE, Int.reduceEq, Int.reduceNe, strs_eq, h3, h4, h2, c0, c1, r0]
            by_cases p6 : (6 : Int) < a.prins.length
            · have p6' : 6 < a.prins.length := by omega
              simp only [WS, stepW, evalA, reduceIte, Nat.reduceEqDiff, reduceCtorEq, evalBin, Option.getD, Int.reduceToNat, Nat.reduceMul, Nat.reduceAdd, allocA, rowOf, fillA, partsV, setl, Nat.reduceLeDiff, AV.len, evalUn, Int.reduceLT, Int.reduceLE, Int.reduceEq, Int.reduceNe, strs_eq, h3, h4, h2, c0, c1, p6]
              rw [actS, if_neg (by simp [hi]), if_neg (by simp [hl]), if_neg (by omega), if_pos (by omega)]
            · simp only [WS, stepW, evalA, reduceIte, Nat.reduceEqDiff, reduceCtorEq, evalBin, Option.getD, Int.reduceToNat, Nat.reduceMul, Nat.reduceAdd, allocA, rowOf, fillA, partsV, setl, Nat.reduceLeDiff, AV.len, evalUn, Int.reduceLT, Int.reduceLE, Int.reduceEq, Int.reduceNe, strs_eq, h3, h4, h2, c0, c1, p6]
              by_cases r6 : (6 : Int) < a.ress.length
              · simp only [WS, stepW, evalA, reduceIte, Nat.reduceEqDiff, reduceCtorEq, evalBin, Option.getD, Int.reduceToNat, Nat.reduceMul, Nat.reduceAdd, allocA, rowOf, fillA, partsV, setl, Nat.reduceLeDiff, AV.len, evalUn, Int.reduceLT, Int.reduceLE, Int.reduceEq, Int.reduceNe, strs_eq, h3, h4, h2, c0, c1, r6]
                rw [actS, if_neg (by simp [hi]), if_neg (by simp [hl]), if_neg (by omega), if_pos (by omega)]
              · simp only [WS, stepW, evalA, reduceIte, Nat.reduceEqDiff, reduceCtorEq, evalBin, Option.getD, Int.reduceToNat, Nat.reduceMul, Nat.reduceAdd, allocA, rowOf, fillA, partsV, setl, Nat.reduceLeDiff, AV.len, evalUn, Int.reduceLT, Int.reduceLE, Int.reduceEq, Int.reduceNe, strs_eq, h3, h4, h2, c0, c1, r6, hn]
                refine ⟨by omega, by omega, ?_⟩
                rw [actS, if_neg (by simp [hi]), if_neg (by simp [hl]), if_neg (by omega), if_neg (by omega)]
  rintro ρ s' ⟨h3, h4, c0, c1, hn, hp6, hr6, hspec⟩
  rw [hspec]
  clear hspec hI
  have sg := scSeg s
  simp only [WS, stepW, evalA, reduceIte, Nat.reduceEqDiff, reduceCtorEq, evalBin, Option.getD, Int.reduceToNat, Nat.reduceMul, Nat.reduceAdd, allocA, rowOf, fillA, partsV, setl, Nat.reduceLeDiff, AV.len, evalUn, Int.reduceLT, Int.reduceLE, Int.reduceEq, Int.reduceNe, strs_eq, h3, h4, c0, c1, hn]
  have hpu : Pur (s'.push (.cells [AV.psl (a.prins.map AV.str) 0 a.prins.length, AV.psl (a.ress.map AV.str) 0 a.ress.length])) true (.sl 2 0 2 (some 2) 1) (.psl ([a.prins, a.ress].map strs) 0 [a.prins, a.ress].length) := by
    have hc := push_cells s' [AV.psl (a.prins.map AV.str) 0 a.prins.length, AV.psl (a.ress.map AV.str) 0 a.ress.length]
    rw [hn] at hc
    refine .sl _ _ _ _ _ _ _ hc (by simp) (by simp) fun i hi hi' => ?_
    match i, hi with
    | 0, _ => exact pur_strs _ _
    | 1, _ => exact pur_strs _ _
  refine (concat_ac (L := [a.prins, a.ress]) (by simp) (by simp; omega) hpu).use ?_
  have hfl : [a.prins, a.ress].flatten = a.prins ++ a.ress := by simp
  rw [hfl]
  generalize hl : a.prins ++ a.ress = l at *
  have hll : l.length ≤ 12 := by rw [← hl, List.length_append]; omega
  simp only [WS, stepW, evalA, reduceIte, Nat.reduceEqDiff, reduceCtorEq, evalBin, Option.getD, Int.reduceToNat, Nat.reduceMul, Nat.reduceAdd, allocA, rowOf, fillA, partsV, setl, Nat.reduceLeDiff, AV.len, evalUn, Int.reduceLT, Int.reduceLE, Int.reduceEq, Int.reduceNe, strs_eq, h3, h4, c0, c1, hn]
  refine w_for (fun i ρ s' => ρ.rd 48 = .int .i64 i ∧ ρ.rd 47 = .int .i64 l.length ∧ ρ.rd 46 = strs l ∧ ρ.rd 3 = .ptr 0 0 ∧ s'.cells 0 = some [slc Kd.c s.kinds, slc Ac.c s.acts] ∧ (l.take i).all (hasS s.kinds) = true) l.length ?_ ?_
  · have n0 : ¬ 0 = s'.n := by omega
    simp only [WS, stepW, evalA, reduceIte, Nat.reduceEqDiff, reduceCtorEq, evalBin, Option.getD, Int.reduceToNat, Nat.reduceMul, Nat.reduceAdd, allocA, rowOf, fillA, partsV, setl, Nat.reduceLeDiff, AV.len, evalUn, Int.reduceLT, Int.reduceLE, Int.reduceEq, Int.reduceNe, strs_eq, h3, c0, n0, List.take_zero, List.all_nil]
    rfl
  · rintro i ρ s' hi ⟨h48, h47, h46, h3, c0, hall⟩
    simp only [WS, stepW, evalA, reduceIte, Nat.reduceEqDiff, reduceCtorEq, evalBin, Option.getD, Int.reduceToNat, Nat.reduceMul, Nat.reduceAdd, allocA, rowOf, fillA, partsV, setl, Nat.reduceLeDiff, AV.len, evalUn, Int.reduceLT, Int.reduceLE, Int.reduceEq, Int.reduceNe, strs_eq, h48, h47, h46]
    refine Br_dec (fun hlt' => ?_) (fun hge => ?_)
    · have hlt : i < l.length := by omega
      have hr := lt_idx hlt
      have hg := strs_get hlt
      have hw : IntKind.i64.wrap ((i : Int) + 1) = ((i + 1 : Nat) : Int) := wrap_succ (by omega)
      have hH := has_ac (s := s) (n := l[i]) (σ := s') hs
      rw [Sc.c_eq, slc_eq, slc_eq] at hH
      simp only [WS, stepW, evalA, reduceIte, Nat.reduceEqDiff, reduceCtorEq, evalBin, Option.getD, Int.reduceToNat, Nat.reduceMul, Nat.reduceAdd, allocA, rowOf, fillA, partsV, setl, Nat.reduceLeDiff, AV.len, evalUn, Int.reduceLT, Int.reduceLE, Int.reduceEq, Int.reduceNe, strs_eq, h48, h47, h46, hr, hg, h3, c0, sg]
      refine hH.use ?_
      cases hh : hasS s.kinds l[i] with
      | true =>
        simp only [WS, stepW, evalA, reduceIte, Nat.reduceEqDiff, reduceCtorEq, evalBin, Option.getD, Int.reduceToNat, Nat.reduceMul, Nat.reduceAdd, allocA, rowOf, fillA, partsV, setl, Nat.reduceLeDiff, AV.len, evalUn, Int.reduceLT, Int.reduceLE, Int.reduceEq, Int.reduceNe, strs_eq, h48, h47, h46, h3, c0, hw, hh]
        refine ⟨hlt, ?_⟩
        rw [List.take_add_one, List.all_append, hall, List.getElem?_eq_getElem hlt]
        simp [hh]
      | false =>
        simp only [WS, stepW, evalA, reduceIte, Nat.reduceEqDiff, reduceCtorEq, evalBin, Option.getD, Int.reduceToNat, Nat.reduceMul, Nat.reduceAdd, allocA, rowOf, fillA, partsV, setl, Nat.reduceLeDiff, AV.len, evalUn, Int.reduceLT, Int.reduceLE, Int.reduceEq, Int.reduceNe, strs_eq, h48, h47, h46, h3, c0, hw, hh]
        have : l.all (hasS s.kinds) = false := by
          rw [List.all_eq_false]; exact ⟨_, List.getElem_mem hlt, by simp [hh]⟩
        rw [this]; rfl
    · have : i = l.length := by omega
      subst this
      rw [List.take_length] at hall
      simp only [WS, stepW, evalA, reduceIte, Nat.reduceEqDiff, reduceCtorEq, evalBin, Option.getD, Int.reduceToNat, Nat.reduceMul, Nat.reduceAdd, allocA, rowOf, fillA, partsV, setl, Nat.reduceLeDiff, AV.len, evalUn, Int.reduceLT, Int.reduceLE, Int.reduceEq, Int.reduceNe, strs_eq, h48, h47, h46, h3, c0]
      rw [hall]; rfl
theorem act_ac {s : Sc} {a : Ac} {last : Str} {σ : AState} (hs : s.ok) (ht : a.tok) : AC Try.prog 32 [.agg s.c, .agg a.c, .str last] σ fun v s' => s' = σ ∧ v = .int .i64 (actS s.kinds a last) :=
  AC.told (.cons (.agg (Sc.fxd s)) (.cons (.agg (Ac.fxd a)) (.cons (.flat rfl) .nil))) rfl (act_st0 hs ht)
theorem kind_ac {s : Sc} {k : Kd} {last : Str} {σ : AState} (hs : s.ok) (hk : k.ok) (ht : k.tok) : AC Try.prog 31 [.agg s.c, .agg k.c, .str last] σ fun v s' => s' = σ ∧ v = .int .i64 (kindS s.kinds k last) :=
  AC.told (.cons (.agg (Sc.fxd s)) (.cons (.agg (Kd.fxd k)) (.cons (.flat rfl) .nil))) rfl (kind_st0 hs hk ht)

/- ------------------------------------------------ a schema -/
def kindsS (ks : List Kd) : Str → List Kd → Int
  | _, [] => 0
  | last, k :: r => if kindS ks k last ≠ 0 then kindS ks k last else kindsS ks k.name r
def actsS (ks : List Kd) : Str → List Ac → Int
  | _, [] => 0
  | last, a :: r => if actS ks a last ≠ 0 then actS ks a last else actsS ks a.name r
def checkS (s : Sc) : Int :=
  if 6 < s.kinds.length ∨ 6 < s.acts.length then 4
  else if kindsS s.kinds [] s.kinds ≠ 0 then kindsS s.kinds [] s.kinds
  else actsS s.kinds [] s.acts
structure Sc.tok (s : Sc) : Prop where
  k : ∀ k ∈ s.kinds, k.tok
  a : ∀ a ∈ s.acts, a.tok

theorem check_st0 {s : Sc} (hs : s.ok) (ht : s.tok) : AC Try.prog 12 [.agg s.c] st0 fun v _ => v = .int .i64 (checkS s) := by
  refine ac_wp fn12 cf12 cl12 rfl ?_
  simp only [ac12]
  unfold ab12
  simp only [wpC_seq, wpC_skip, wpCK_normal]
  refine w_mid (fun ρ s' => ρ.rd 1 = .ptr 0 0 ∧ s'.cells 0 = some [slc Kd.c s.kinds, slc Ac.c s.acts] ∧ 1 ≤ s'.n) ?_ ?_
  · simp only [WS, stepW, evalA, reduceIte, Nat.reduceEqDiff, reduceCtorEq, evalBin, Option.getD, Int.reduceToNat, Nat.reduceMul, Nat.reduceAdd, allocA, rowOf, fillA, partsV, setl, Nat.reduceLeDiff, AV.len, evalUn, Int.reduceLT, Int.reduceLE, Int.reduceEq, Int.reduceNe, strs_eq, Sc.c_eq]
  rintro ρ s' ⟨h1, c0, hn⟩
  have sg := scSeg s
  rw [wpC_seq]
  refine w_mid (fun ρ s' => ρ.rd 1 = .ptr 0 0 ∧ s'.cells 0 = some [slc Kd.c s.kinds, slc Ac.c s.acts] ∧ 1 ≤ s'.n ∧ ¬ 6 < s.kinds.length ∧ ¬ 6 < s.acts.length) ?_ ?_
  · simp only [WS, stepW, evalA, reduceIte, Nat.reduceEqDiff, reduceCtorEq, evalBin, Option.getD, Int.reduceToNat, Nat.reduceMul, Nat.reduceAdd, allocA, rowOf, fillA, partsV, setl, Nat.reduceLeDiff, AV.len, evalUn, Int.reduceLT, Int.reduceLE, Int.reduceEq, Int.reduceNe, strs_eq, h1, c0]
    by_cases k6 : (6 : Int) < s.kinds.length
    · simp only [WS, stepW, evalA, reduceIte, Nat.reduceEqDiff, reduceCtorEq, evalBin, Option.getD, Int.reduceToNat, Nat.reduceMul, Nat.reduceAdd, allocA, rowOf, fillA, partsV, setl, Nat.reduceLeDiff, AV.len, evalUn, Int.reduceLT, Int.reduceLE, Int.reduceEq, Int.reduceNe, strs_eq, k6]
      rw [checkS, if_pos (by omega)]
    · simp only [WS, stepW, evalA, reduceIte, Nat.reduceEqDiff, reduceCtorEq, evalBin, Option.getD, Int.reduceToNat, Nat.reduceMul, Nat.reduceAdd, allocA, rowOf, fillA, partsV, setl, Nat.reduceLeDiff, AV.len, evalUn, Int.reduceLT, Int.reduceLE, Int.reduceEq, Int.reduceNe, strs_eq, k6, h1, c0]
      by_cases a6 : (6 : Int) < s.acts.length
      · simp only [WS, stepW, evalA, reduceIte, Nat.reduceEqDiff, reduceCtorEq, evalBin, Option.getD, Int.reduceToNat, Nat.reduceMul, Nat.reduceAdd, allocA, rowOf, fillA, partsV, setl, Nat.reduceLeDiff, AV.len, evalUn, Int.reduceLT, Int.reduceLE, Int.reduceEq, Int.reduceNe, strs_eq, a6]
        rw [checkS, if_pos (by omega)]
      · simp only [WS, stepW, evalA, reduceIte, Nat.reduceEqDiff, reduceCtorEq, evalBin, Option.getD, Int.reduceToNat, Nat.reduceMul, Nat.reduceAdd, allocA, rowOf, fillA, partsV, setl, Nat.reduceLeDiff, AV.len, evalUn, Int.reduceLT, Int.reduceLE, Int.reduceEq, Int.reduceNe, strs_eq, a6, h1, c0]
        omega
  rintro ρ s' ⟨h1, c0, hn, k6, a6⟩
  simp only [wpC_seq, wpC_skip, wpCK_normal]
  refine w_mid (fun ρ s' => ρ.rd 1 = .ptr 0 0 ∧ ρ.rd 3 = .str [] ∧ s'.cells 0 = some [slc Kd.c s.kinds, slc Ac.c s.acts] ∧ 1 ≤ s'.n) ?_ ?_
  · simp only [WS, stepW, evalA, reduceIte, Nat.reduceEqDiff, reduceCtorEq, evalBin, Option.getD, Int.reduceToNat, Nat.reduceMul, Nat.reduceAdd, allocA, rowOf, fillA, partsV, setl, Nat.reduceLeDiff, AV.len, evalUn, Int.reduceLT, Int.reduceLE, Int.reduceEq, Int.reduceNe, strs_eq, h1, c0]
    exact hn
  rintro ρ s' ⟨h1, h3, c0, hn⟩
  rw [wpC_seq]
  refine w_mid (fun ρ s' => ρ.rd 1 = .ptr 0 0 ∧ s'.cells 0 = some [slc Kd.c s.kinds, slc Ac.c s.acts] ∧ 1 ≤ s'.n ∧ kindsS s.kinds [] s.kinds = 0) ?_ ?_
  · simp only [WS, stepW, evalA, reduceIte, Nat.reduceEqDiff, reduceCtorEq, evalBin, Option.getD, Int.reduceToNat, Nat.reduceMul, Nat.reduceAdd, allocA, rowOf, fillA, partsV, setl, Nat.reduceLeDiff, AV.len, evalUn, Int.reduceLT, Int.reduceLE, Int.reduceEq, Int.reduceNe, strs_eq, h1, h3, c0]
    refine w_for (fun i ρ s' => ρ.rd 23 = .int .i64 i ∧ ρ.rd 22 = .int .i64 s.kinds.length ∧ ρ.rd 21 = slc Kd.c s.kinds ∧ ρ.rd 1 = .ptr 0 0 ∧ s'.cells 0 = some [slc Kd.c s.kinds, slc Ac.c s.acts] ∧ 1 ≤ s'.n ∧
        ∃ lst, ρ.rd 3 = .str lst ∧ kindsS s.kinds [] s.kinds = kindsS s.kinds lst (s.kinds.drop i)) s.kinds.length ?_ ?_
    · simp only [WS, stepW, evalA, reduceIte, Nat.reduceEqDiff, reduceCtorEq, evalBin, Option.getD, Int.reduceToNat, Nat.reduceMul, Nat.reduceAdd, allocA, rowOf, fillA, partsV, setl, Nat.reduceLeDiff, AV.len, evalUn, Int.reduceLT, Int.reduceLE, Int.reduceEq, Int.reduceNe, strs_eq, h1, h3, c0]
      exact ⟨rfl, hn, [], rfl, rfl⟩
    · rintro i ρ s' hi ⟨hit, hln, hrw, h1, c0, hn, lst, h3, hspec⟩
      simp only [WS, stepW, evalA, reduceIte, Nat.reduceEqDiff, reduceCtorEq, evalBin, Option.getD, Int.reduceToNat, Nat.reduceMul, Nat.reduceAdd, allocA, rowOf, fillA, partsV, setl, Nat.reduceLeDiff, AV.len, evalUn, Int.reduceLT, Int.reduceLE, Int.reduceEq, Int.reduceNe, strs_eq, hit, hln, hrw]
      refine Br_dec (fun hlt' => ?_) (fun hge => ?_)
      · have hlt : i < s.kinds.length := by omega
        have hr := lt_idx hlt
        have A := kdAt hlt
        have hw : IntKind.i64.wrap ((i : Int) + 1) = ((i + 1 : Nat) : Int) := wrap_succ (by omega)
        have n0 : ¬ 0 = s'.n := by omega
        have hm := List.getElem_mem hlt
        have hfd : kindsS s.kinds lst (s.kinds.drop i) = if kindS s.kinds s.kinds[i] lst ≠ 0 then kindS s.kinds s.kinds[i] lst else kindsS s.kinds s.kinds[i].name (s.kinds.drop (i + 1)) := by
          rw [List.drop_eq_getElem_cons hlt, kindsS]
        simp only [WS, stepW, evalA, reduceIte, Nat.reduceEqDiff, reduceCtorEq, evalBin, Option.getD, Int.reduceToNat, Nat.reduceMul, Nat.reduceAdd, allocA, rowOf, fillA, partsV, setl, Nat.reduceLeDiff, AV.len, evalUn, Int.reduceLT, Int.reduceLE, Int.reduceEq, Int.reduceNe, strs_eq, hit, hln, hrw, hr, A.fit, A.all, storeA, sets, setx, List.take_zero, List.drop_succ_cons, List.drop_zero, List.take_succ_cons, h1, h3, c0, n0, sg]
        have sgk : seg [AV.str s.kinds[i].name, AV.psl (s.kinds[i].parents.map AV.str) 0 s.kinds[i].parents.length, AV.psl (rowc Fl.c s.kinds[i].fields) 0 s.kinds[i].fields.length] 0 3 = s.kinds[i].c := rfl
        rw [sgk]
        refine (kind_ac (s := s) (k := s.kinds[i]) (last := lst) hs (hs.k _ hm) (ht.k _ hm)).use ?_
        simp only [WS, stepW, evalA, reduceIte, Nat.reduceEqDiff, reduceCtorEq, evalBin, Option.getD, Int.reduceToNat, Nat.reduceMul, Nat.reduceAdd, allocA, rowOf, fillA, partsV, setl, Nat.reduceLeDiff, AV.len, evalUn, Int.reduceLT, Int.reduceLE, Int.reduceEq, Int.reduceNe, strs_eq]
        refine Br_dec (fun h0 => ?_) (fun h0 => ?_)
        · simp only [WS, stepW, evalA, reduceIte, Nat.reduceEqDiff, reduceCtorEq, evalBin, Option.getD, Int.reduceToNat, Nat.reduceMul, Nat.reduceAdd, allocA, rowOf, fillA, partsV, setl, Nat.reduceLeDiff, AV.len, evalUn, Int.reduceLT, Int.reduceLE, Int.reduceEq, Int.reduceNe, strs_eq, h0]
          rw [checkS, if_neg (by omega), hspec, hfd, if_pos h0, if_pos h0]
        · simp only [WS, stepW, evalA, reduceIte, Nat.reduceEqDiff, reduceCtorEq, evalBin, Option.getD, Int.reduceToNat, Nat.reduceMul, Nat.reduceAdd, allocA, rowOf, fillA, partsV, setl, Nat.reduceLeDiff, AV.len, evalUn, Int.reduceLT, Int.reduceLE, Int.reduceEq, Int.reduceNe, strs_eq, h0, hit, hln, hrw, h1, c0, n0, hw]
          refine ⟨hlt, s.kinds[i].name, rfl, ?_⟩
          rw [hspec, hfd, if_neg h0]
      · have : i = s.kinds.length := by omega
        subst this
        simp only [WS, stepW, evalA, reduceIte, Nat.reduceEqDiff, reduceCtorEq, evalBin, Option.getD, Int.reduceToNat, Nat.reduceMul, Nat.reduceAdd, allocA, rowOf, fillA, partsV, setl, Nat.reduceLeDiff, AV.len, evalUn, Int.reduceLT, Int.reduceLE, Int.reduceEq, Int.reduceNe, strs_eq, hit, hln, hrw, h1, c0, hn]
        rw [hspec, List.drop_length]; rfl
  rintro ρ s' ⟨h1, c0, hn, hks⟩
  simp only [wpC_seq, wpC_skip, wpCK_normal]
  refine w_mid (fun ρ s' => ρ.rd 1 = .ptr 0 0 ∧ ρ.rd 3 = .str [] ∧ s'.cells 0 = some [slc Kd.c s.kinds, slc Ac.c s.acts] ∧ 1 ≤ s'.n) ?_ ?_
  · simp only [WS, stepW, evalA, reduceIte, Nat.reduceEqDiff, reduceCtorEq, evalBin, Option.getD, Int.reduceToNat, Nat.reduceMul, Nat.reduceAdd, allocA, rowOf, fillA, partsV, setl, Nat.reduceLeDiff, AV.len, evalUn, Int.reduceLT, Int.reduceLE, Int.reduceEq, Int.reduceNe, strs_eq, h1, c0]
    exact hn
  rintro ρ s' ⟨h1, h3, c0, hn⟩
  simp only [WS, stepW, evalA, reduceIte, Nat.reduceEqDiff, reduceCtorEq, evalBin, Option.getD, Int.reduceToNat, Nat.reduceMul, Nat.reduceAdd, allocA, rowOf, fillA, partsV, setl, Nat.reduceLeDiff, AV.len, evalUn, Int.reduceLT, Int.reduceLE, Int.reduceEq, Int.reduceNe, strs_eq, h1, h3, c0]
  refine w_for (fun i ρ s' => ρ.rd 40 = .int .i64 i ∧ ρ.rd 39 = .int .i64 s.acts.length ∧ ρ.rd 38 = slc Ac.c s.acts ∧ ρ.rd 1 = .ptr 0 0 ∧ s'.cells 0 = some [slc Kd.c s.kinds, slc Ac.c s.acts] ∧ 1 ≤ s'.n ∧
      ∃ lst, ρ.rd 3 = .str lst ∧ actsS s.kinds [] s.acts = actsS s.kinds lst (s.acts.drop i)) s.acts.length ?_ ?_
  · simp only [WS, stepW, evalA, reduceIte, Nat.reduceEqDiff, reduceCtorEq, evalBin, Option.getD, Int.reduceToNat, Nat.reduceMul, Nat.reduceAdd, allocA, rowOf, fillA, partsV, setl, Nat.reduceLeDiff, AV.len, evalUn, Int.reduceLT, Int.reduceLE, Int.reduceEq, Int.reduceNe, strs_eq, h1, h3, c0]
    exact ⟨rfl, hn, [], rfl, rfl⟩
  · rintro i ρ s' hi ⟨hit, hln, hrw, h1, c0, hn, lst, h3, hspec⟩
    simp only [WS, stepW, evalA, reduceIte, Nat.reduceEqDiff, reduceCtorEq, evalBin, Option.getD, Int.reduceToNat, Nat.reduceMul, Nat.reduceAdd, allocA, rowOf, fillA, partsV, setl, Nat.reduceLeDiff, AV.len, evalUn, Int.reduceLT, Int.reduceLE, Int.reduceEq, Int.reduceNe, strs_eq, hit, hln, hrw]
    refine Br_dec (fun hlt' => ?_) (fun hge => ?_)
    · have hlt : i < s.acts.length := by omega
      have hr := lt_idx hlt
      have A := acAt hlt
      have hw : IntKind.i64.wrap ((i : Int) + 1) = ((i + 1 : Nat) : Int) := wrap_succ (by omega)
      have n0 : ¬ 0 = s'.n := by omega
      have hm := List.getElem_mem hlt
      have hfd : actsS s.kinds lst (s.acts.drop i) = if actS s.kinds s.acts[i] lst ≠ 0 then actS s.kinds s.acts[i] lst else actsS s.kinds s.acts[i].name (s.acts.drop (i + 1)) := by
        rw [List.drop_eq_getElem_cons hlt, actsS]
      simp only [WS, stepW, evalA, reduceIte, Nat.reduceEqDiff, reduceCtorEq, evalBin, Option.getD, Int.reduceToNat, Nat.reduceMul, Nat.reduceAdd, allocA, rowOf, fillA, partsV, setl, Nat.reduceLeDiff, AV.len, evalUn, Int.reduceLT, Int.reduceLE, Int.reduceEq, Int.reduceNe, strs_eq, hit, hln, hrw, hr, A.fit, A.all, storeA, sets, setx, List.take_zero, List.drop_succ_cons, List.drop_zero, List.take_succ_cons, h1, h3, c0, n0, sg]
      have sgk : seg [AV.str s.acts[i].name, AV.psl (s.acts[i].prins.map AV.str) 0 s.acts[i].prins.length, AV.psl (s.acts[i].ress.map AV.str) 0 s.acts[i].ress.length] 0 3 = s.acts[i].c := rfl
      rw [sgk]
      refine (act_ac (s := s) (a := s.acts[i]) (last := lst) hs (ht.a _ hm)).use ?_
      simp only [WS, stepW, evalA, reduceIte, Nat.reduceEqDiff, reduceCtorEq, evalBin, Option.getD, Int.reduceToNat, Nat.reduceMul, Nat.reduceAdd, allocA, rowOf, fillA, partsV, setl, Nat.reduceLeDiff, AV.len, evalUn, Int.reduceLT, Int.reduceLE, Int.reduceEq, Int.reduceNe, strs_eq]
      refine Br_dec (fun h0 => ?_) (fun h0 => ?_)
      · simp only [WS, stepW, evalA, reduceIte, Nat.reduceEqDiff, reduceCtorEq, evalBin, Option.getD, Int.reduceToNat, Nat.reduceMul, Nat.reduceAdd, allocA, rowOf, fillA, partsV, setl, Nat.reduceLeDiff, AV.len, evalUn, Int.reduceLT, Int.reduceLE, Int.reduceEq, Int.reduceNe, strs_eq, h0]
        rw [checkS, if_neg (by omega), if_neg (by rw [hks]; simp), hspec, hfd, if_pos h0]
      · simp only [WS, stepW, evalA, reduceIte, Nat.reduceEqDiff, reduceCtorEq, evalBin, Option.getD, Int.reduceToNat, Nat.reduceMul, Nat.reduceAdd, allocA, rowOf, fillA, partsV, setl, Nat.reduceLeDiff, AV.len, evalUn, Int.reduceLT, Int.reduceLE, Int.reduceEq, Int.reduceNe, strs_eq, h0, hit, hln, hrw, h1, c0, n0, hw]
        refine ⟨hlt, s.acts[i].name, rfl, ?_⟩
        rw [hspec, hfd, if_neg h0]
    · have : i = s.acts.length := by omega
      subst this
      simp only [WS, stepW, evalA, reduceIte, Nat.reduceEqDiff, reduceCtorEq, evalBin, Option.getD, Int.reduceToNat, Nat.reduceMul, Nat.reduceAdd, allocA, rowOf, fillA, partsV, setl, Nat.reduceLeDiff, AV.len, evalUn, Int.reduceLT, Int.reduceLE, Int.reduceEq, Int.reduceNe, strs_eq, hit, hln, hrw, h1, c0, hn]
      rw [checkS, if_neg (by omega), if_neg (by rw [hks]; simp), hspec, List.drop_length]; rfl
theorem check_ac {s : Sc} {σ : AState} (hs : s.ok) (ht : s.tok) : AC Try.prog 12 [.agg s.c] σ fun v s' => s' = σ ∧ v = .int .i64 (checkS s) :=
  AC.told (.cons (.agg (Sc.fxd s)) .nil) rfl (check_st0 hs ht)
end Go.Proofs.Ytaokfpjjaejjgaa.Va
