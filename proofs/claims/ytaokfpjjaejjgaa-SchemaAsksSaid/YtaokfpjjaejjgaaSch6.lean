/- What the reference tells of kinds, actions, schemas. Conditions: none. -/
import Derived.Test.YtaokfpjjaejjgaaSch5
set_option maxRecDepth 100000
set_option maxHeartbeats 4000000
set_option linter.all false
namespace Go.Proofs.Ytaokfpjjaejjgaa.Va
open Go.Proofs

theorem all_st0 {s : Sc} {l : List Str} (hs : s.ok) (hl : l.length ≤ Most) : AC Try.prog 35 [.agg s.c, strs l] st0 fun v _ => v = .bool (l.all (hasS s.kinds)) := by
  refine ac_wp fn35 cf35 cl35 rfl ?_
  simp only [ac35]
  unfold ab35
  have sg := scSeg s
  simp only [WS, stepW, evalA, reduceIte, Nat.reduceEqDiff, reduceCtorEq, evalBin, Option.getD, Int.reduceToNat, Nat.reduceMul, Nat.reduceAdd, allocA, rowOf, fillA, partsV, setl, Nat.reduceLeDiff, AV.len, evalUn, Int.reduceLT, Int.reduceLE, Int.reduceEq, Int.reduceNe, strs_eq, Sc.c_eq]
  refine w_for (fun i ρ s' => ρ.rd 5 = .int .i64 i ∧ ρ.rd 1 = strs l ∧ ρ.rd 2 = .ptr 0 0 ∧ s'.cells 0 = some [slc Kd.c s.kinds, slc Ac.c s.acts] ∧ 1 ≤ s'.n ∧ (l.take i).all (hasS s.kinds) = true) l.length ?_ ?_
  · simp only [WS, stepW, evalA, reduceIte, Nat.reduceEqDiff, reduceCtorEq, evalBin, Option.getD, Int.reduceToNat, Nat.reduceMul, Nat.reduceAdd, allocA, rowOf, fillA, partsV, setl, Nat.reduceLeDiff, AV.len, evalUn, Int.reduceLT, Int.reduceLE, Int.reduceEq, Int.reduceNe, strs_eq, List.take_zero, List.all_nil]
    rfl
  · rintro i ρ s' hi ⟨h5, h1, h2, c0, hn, hall⟩
    simp only [WS, stepW, evalA, reduceIte, Nat.reduceEqDiff, reduceCtorEq, evalBin, Option.getD, Int.reduceToNat, Nat.reduceMul, Nat.reduceAdd, allocA, rowOf, fillA, partsV, setl, Nat.reduceLeDiff, AV.len, evalUn, Int.reduceLT, Int.reduceLE, Int.reduceEq, Int.reduceNe, strs_eq, h5, h1]
    refine Br_dec (fun hlt' => ?_) (fun hge => ?_)
    · have hlt : i < l.length := by omega
      have hr := lt_idx hlt
      have hg := strs_get hlt
      have hw : IntKind.i64.wrap ((i : Int) + 1) = ((i + 1 : Nat) : Int) := wrap_succ (by have : Most = 9223372036854775807 := rfl; omega)
      simp only [WS, stepW, evalA, reduceIte, Nat.reduceEqDiff, reduceCtorEq, evalBin, Option.getD, Int.reduceToNat, Nat.reduceMul, Nat.reduceAdd, allocA, rowOf, fillA, partsV, setl, Nat.reduceLeDiff, AV.len, evalUn, Int.reduceLT, Int.reduceLE, Int.reduceEq, Int.reduceNe, strs_eq, h5, h1]
      refine w_dreg follow [(9, [.str [], .nils, .nils])] rfl ?_
      have cA : (addSlots s'.n 12 s' [(9, [.str [], .nils, .nils])]).cells 0 = some [slc Kd.c s.kinds, slc Ac.c s.acts] := by
        have : ¬ 0 = s'.n + 9 := by omega
        simp only [AState.cells, addSlots, List.foldr, Tr.get_set, this, if_false]
        exact c0
      simp only [WS, stepW, evalA, reduceIte, Nat.reduceEqDiff, reduceCtorEq, evalBin, Option.getD, Int.reduceToNat, Nat.reduceMul, Nat.reduceAdd, allocA, rowOf, fillA, partsV, setl, Nat.reduceLeDiff, AV.len, evalUn, Int.reduceLT, Int.reduceLE, Int.reduceEq, Int.reduceNe, strs_eq, DS, isSl, AOp.pure, AOp.reader, allocD, AOp.quiet, isSlot, Nat.reduceBEq, h5, h1, h2, cA, sg, hr, hg]
      have hH := kindR_ac (s := s) (n := l[i]) (σ := addSlots s'.n 12 s' [(9, [.str [], .nils, .nils])]) hs
      obtain ⟨cs, hkv, a, b, c, rfl, ha, hb, hc⟩ := kindV_bool s.kinds l[i]
      rw [hkv, Sc.c_eq, slc_eq, slc_eq] at hH
      refine hH.useD ?_
      have cB : (addSlots s'.n 12 s' [(9, [.str [], .nils, .nils])]).cells (s'.n + 9) = some [.str [], .nils, .nils] := by
        simp only [AState.cells, addSlots, List.foldr, Tr.get_set, if_true]
      simp only [WS, stepW, evalA, reduceIte, Nat.reduceEqDiff, reduceCtorEq, evalBin, Option.getD, Int.reduceToNat, Nat.reduceMul, Nat.reduceAdd, allocA, rowOf, fillA, partsV, setl, Nat.reduceLeDiff, AV.len, evalUn, Int.reduceLT, Int.reduceLE, Int.reduceEq, Int.reduceNe, strs_eq, DS, isSl, AOp.pure, AOp.reader, allocD, AOp.quiet, isSlot, Nat.reduceBEq, cB, storeA, sets, setx, List.take_zero, List.drop_succ_cons, List.drop_zero, List.take_succ_cons, ha, hb, hc]
      refine ⟨⟨?_, ?_⟩, ?_⟩
      · intro l hl c hc hf
        simp only [List.mem_cons, List.mem_nil_iff, List.not_mem_nil, or_false] at hl hc
        rcases hl with rfl | rfl <;> rcases hc with rfl | rfl | rfl <;> dsimp only at hf ⊢ <;> first
          | (exact absurd hf (by decide +kernel))
          | (simp only [WS, stepW, evalA, reduceIte, Nat.reduceEqDiff, reduceCtorEq, evalBin, Option.getD, Int.reduceToNat, Nat.reduceMul, Nat.reduceAdd, allocA, rowOf, fillA, partsV, setl, Nat.reduceLeDiff, AV.len, evalUn, Int.reduceLT, Int.reduceLE, Int.reduceEq, Int.reduceNe, strs_eq, h2, cA, sg, hg]; done)
      · intro sl hsl c hc hf
        simp only [List.mem_cons, List.mem_nil_iff, List.not_mem_nil, or_false] at hsl hc
        subst hsl
        rcases hc with rfl | rfl | rfl <;> dsimp only at hf <;> first
          | (exact absurd hf (by decide +kernel))
          | (refine ⟨?_, ?_⟩ <;> simp [addSlots])
      · have n9 : ¬ 0 = s'.n + 9 := by omega
        have cA' := cA
        have hn1 : 1 ≤ (addSlots s'.n 12 s' [(9, [AV.str [], .nils, .nils])]).n := by simp only [addSlots]; omega
        generalize addSlots s'.n 12 s' [(9, [AV.str [], .nils, .nils])] = s1 at *
        cases hh : hasS s.kinds l[i] with
        | true =>
          simp only [WS, stepW, evalA, reduceIte, Nat.reduceEqDiff, reduceCtorEq, evalBin, Option.getD, Int.reduceToNat, Nat.reduceMul, Nat.reduceAdd, allocA, rowOf, fillA, partsV, setl, Nat.reduceLeDiff, AV.len, evalUn, Int.reduceLT, Int.reduceLE, Int.reduceEq, Int.reduceNe, strs_eq, hh, h5, h1, h2, cA', n9, hw]
          refine ⟨hlt, hn1, ?_⟩
          rw [List.take_add_one, List.all_append, hall, List.getElem?_eq_getElem hlt]
          simp [hh]
        | false =>
          simp only [WS, stepW, evalA, reduceIte, Nat.reduceEqDiff, reduceCtorEq, evalBin, Option.getD, Int.reduceToNat, Nat.reduceMul, Nat.reduceAdd, allocA, rowOf, fillA, partsV, setl, Nat.reduceLeDiff, AV.len, evalUn, Int.reduceLT, Int.reduceLE, Int.reduceEq, Int.reduceNe, strs_eq, hh, h5, h1, h2]
          have : l.all (hasS s.kinds) = false := by
            rw [List.all_eq_false]; exact ⟨_, List.getElem_mem hlt, by simp [hh]⟩
          rw [this]
    · have : i = l.length := by omega
      subst this
      rw [List.take_length] at hall
      simp only [WS, stepW, evalA, reduceIte, Nat.reduceEqDiff, reduceCtorEq, evalBin, Option.getD, Int.reduceToNat, Nat.reduceMul, Nat.reduceAdd, allocA, rowOf, fillA, partsV, setl, Nat.reduceLeDiff, AV.len, evalUn, Int.reduceLT, Int.reduceLE, Int.reduceEq, Int.reduceNe, strs_eq, h5, h1, hall]
theorem all_ac {s : Sc} {l : List Str} {σ : AState} (hs : s.ok) (hl : l.length ≤ Most) : AC Try.prog 35 [.agg s.c, strs l] σ fun v s' => s' = σ ∧ v = .bool (l.all (hasS s.kinds)) :=
  AC.told (.cons (.agg (Sc.fxd s)) (.cons (strs_fxd l) .nil)) rfl (all_st0 hs hl)

/- What the reference tells of a kind, but for its name. -/
def leqO (n : Str) : Option Str → Bool
  | some p => Op.bytesLess n p || n == p
  | none => false
/- The one ahead. -/
def prevO (l : List Str) : Nat → Option Str
  | 0 => none
  | j + 1 => l[j]?
def fieldsR (ks : List Kd) : Option Str → List Fl → Int
  | _, [] => 0
  | last, f :: r =>
    if identS f.name = false then 15
    else if leqO f.name last = true then 7
    else if kindOfS ks f.ty ≠ 0 then kindOfS ks f.ty
    else fieldsR ks (some f.name) r
def kindRS (ks : List Kd) (k : Kd) : Int :=
  if 5 < k.fields.length ∨ 4 < k.parents.length then 4
  else if k.parents.all (hasS ks) = false then 2
  else fieldsR ks none k.fields

theorem kindRef_st0 {s : Sc} {k : Kd} (hs : s.ok) (ht : k.tok) : AC Try.prog 34 [.agg s.c, .agg k.c] st0 fun v _ => v = .int .i64 (kindRS s.kinds k) := by
  refine ac_wp fn34 cf34 cl34 rfl ?_
  simp only [ac34]
  unfold ab34
  have sg := scSeg s
  simp only [wpC_seq, wpC_skip, wpCK_normal]
  refine w_mid (fun ρ s' => ρ.rd 2 = .ptr 0 0 ∧ ρ.rd 3 = .ptr 1 0 ∧ s'.cells 0 = some [slc Kd.c s.kinds, slc Ac.c s.acts] ∧ s'.cells 1 = some [.str k.name, strs k.parents, slc Fl.c k.fields] ∧ 2 ≤ s'.n) ?_ ?_
  · simp only [WS, stepW, evalA, reduceIte, Nat.reduceEqDiff, reduceCtorEq, evalBin, Option.getD, Int.reduceToNat, Nat.reduceMul, Nat.reduceAdd, allocA, rowOf, fillA, partsV, setl, Nat.reduceLeDiff, AV.len, evalUn, Int.reduceLT, Int.reduceLE, Int.reduceEq, Int.reduceNe, strs_eq, Sc.c_eq, Kd.c_eq]
  rintro ρ s' ⟨h2, h3, c0, c1, hn⟩
  rw [wpC_seq]
  refine w_mid (fun ρ s' => ρ.rd 2 = .ptr 0 0 ∧ ρ.rd 3 = .ptr 1 0 ∧ s'.cells 0 = some [slc Kd.c s.kinds, slc Ac.c s.acts] ∧ s'.cells 1 = some [.str k.name, strs k.parents, slc Fl.c k.fields] ∧ 2 ≤ s'.n ∧ ¬ 5 < k.fields.length ∧ ¬ 4 < k.parents.length) ?_ ?_
  · simp only [WS, stepW, evalA, reduceIte, Nat.reduceEqDiff, reduceCtorEq, evalBin, Option.getD, Int.reduceToNat, Nat.reduceMul, Nat.reduceAdd, allocA, rowOf, fillA, partsV, setl, Nat.reduceLeDiff, AV.len, evalUn, Int.reduceLT, Int.reduceLE, Int.reduceEq, Int.reduceNe, strs_eq, h2, h3, c0, c1]
    by_cases k6 : (5 : Int) < k.fields.length
    · simp only [WS, stepW, evalA, reduceIte, Nat.reduceEqDiff, reduceCtorEq, evalBin, Option.getD, Int.reduceToNat, Nat.reduceMul, Nat.reduceAdd, allocA, rowOf, fillA, partsV, setl, Nat.reduceLeDiff, AV.len, evalUn, Int.reduceLT, Int.reduceLE, Int.reduceEq, Int.reduceNe, strs_eq, k6]
      rw [kindRS, if_pos (by omega)]
    · simp only [WS, stepW, evalA, reduceIte, Nat.reduceEqDiff, reduceCtorEq, evalBin, Option.getD, Int.reduceToNat, Nat.reduceMul, Nat.reduceAdd, allocA, rowOf, fillA, partsV, setl, Nat.reduceLeDiff, AV.len, evalUn, Int.reduceLT, Int.reduceLE, Int.reduceEq, Int.reduceNe, strs_eq, k6, h2, h3, c0, c1]
      by_cases a6 : (4 : Int) < k.parents.length
      · simp only [WS, stepW, evalA, reduceIte, Nat.reduceEqDiff, reduceCtorEq, evalBin, Option.getD, Int.reduceToNat, Nat.reduceMul, Nat.reduceAdd, allocA, rowOf, fillA, partsV, setl, Nat.reduceLeDiff, AV.len, evalUn, Int.reduceLT, Int.reduceLE, Int.reduceEq, Int.reduceNe, strs_eq, a6]
        rw [kindRS, if_pos (by omega)]
      · simp only [WS, stepW, evalA, reduceIte, Nat.reduceEqDiff, reduceCtorEq, evalBin, Option.getD, Int.reduceToNat, Nat.reduceMul, Nat.reduceAdd, allocA, rowOf, fillA, partsV, setl, Nat.reduceLeDiff, AV.len, evalUn, Int.reduceLT, Int.reduceLE, Int.reduceEq, Int.reduceNe, strs_eq, a6, h2, h3, c0, c1]
        omega
  rintro ρ s' ⟨h2, h3, c0, c1, hn, k6, a6⟩
  rw [wpC_seq]
  refine w_mid (fun ρ s' => ρ.rd 2 = .ptr 0 0 ∧ ρ.rd 3 = .ptr 1 0 ∧ s'.cells 0 = some [slc Kd.c s.kinds, slc Ac.c s.acts] ∧ s'.cells 1 = some [.str k.name, strs k.parents, slc Fl.c k.fields] ∧ 2 ≤ s'.n ∧ k.parents.all (hasS s.kinds) = true) ?_ ?_
  · simp only [WS, stepW, evalA, reduceIte, Nat.reduceEqDiff, reduceCtorEq, evalBin, Option.getD, Int.reduceToNat, Nat.reduceMul, Nat.reduceAdd, allocA, rowOf, fillA, partsV, setl, Nat.reduceLeDiff, AV.len, evalUn, Int.reduceLT, Int.reduceLE, Int.reduceEq, Int.reduceNe, strs_eq, h2, h3, c0, c1]
    refine w_for (fun i ρ s' => ρ.rd 5 = .int .i64 i ∧ ρ.rd 2 = .ptr 0 0 ∧ ρ.rd 3 = .ptr 1 0 ∧ s'.cells 0 = some [slc Kd.c s.kinds, slc Ac.c s.acts] ∧ s'.cells 1 = some [.str k.name, strs k.parents, slc Fl.c k.fields] ∧ 2 ≤ s'.n ∧ (k.parents.take i).all (hasS s.kinds) = true) k.parents.length ?_ ?_
    · simp only [WS, stepW, evalA, reduceIte, Nat.reduceEqDiff, reduceCtorEq, evalBin, Option.getD, Int.reduceToNat, Nat.reduceMul, Nat.reduceAdd, allocA, rowOf, fillA, partsV, setl, Nat.reduceLeDiff, AV.len, evalUn, Int.reduceLT, Int.reduceLE, Int.reduceEq, Int.reduceNe, strs_eq, h2, h3, c0, c1, List.take_zero, List.all_nil]
      exact ⟨rfl, hn⟩
    · rintro i ρ s' hi ⟨h5, h2, h3, c0, c1, hn, hall⟩
      simp only [WS, stepW, evalA, reduceIte, Nat.reduceEqDiff, reduceCtorEq, evalBin, Option.getD, Int.reduceToNat, Nat.reduceMul, Nat.reduceAdd, allocA, rowOf, fillA, partsV, setl, Nat.reduceLeDiff, AV.len, evalUn, Int.reduceLT, Int.reduceLE, Int.reduceEq, Int.reduceNe, strs_eq, h5, h3, c1]
      refine Br_dec (fun hlt' => ?_) (fun hge => ?_)
      · have hlt : i < k.parents.length := by omega
        have hr := lt_idx hlt
        have hg := strs_get hlt
        have hw : IntKind.i64.wrap ((i : Int) + 1) = ((i + 1 : Nat) : Int) := wrap_succ (by omega)
        simp only [WS, stepW, evalA, reduceIte, Nat.reduceEqDiff, reduceCtorEq, evalBin, Option.getD, Int.reduceToNat, Nat.reduceMul, Nat.reduceAdd, allocA, rowOf, fillA, partsV, setl, Nat.reduceLeDiff, AV.len, evalUn, Int.reduceLT, Int.reduceLE, Int.reduceEq, Int.reduceNe, strs_eq, h5]
        refine w_dreg follow [(10, [.str [], .nils, .nils])] rfl ?_
        have n0 : ¬ 0 = s'.n + 10 := by omega
        have n1 : ¬ 1 = s'.n + 10 := by omega
        have cA : (addSlots s'.n 13 s' [(10, [.str [], .nils, .nils])]).cells 0 = some [slc Kd.c s.kinds, slc Ac.c s.acts] := by
          simp only [AState.cells, addSlots, List.foldr, Tr.get_set, n0, if_false]
          exact c0
        have cC : (addSlots s'.n 13 s' [(10, [.str [], .nils, .nils])]).cells 1 = some [.str k.name, strs k.parents, slc Fl.c k.fields] := by
          simp only [AState.cells, addSlots, List.foldr, Tr.get_set, n1, if_false]
          exact c1
        have cB : (addSlots s'.n 13 s' [(10, [.str [], .nils, .nils])]).cells (s'.n + 10) = some [.str [], .nils, .nils] := by
          simp only [AState.cells, addSlots, List.foldr, Tr.get_set, if_true]
        simp only [WS, stepW, evalA, reduceIte, Nat.reduceEqDiff, reduceCtorEq, evalBin, Option.getD, Int.reduceToNat, Nat.reduceMul, Nat.reduceAdd, allocA, rowOf, fillA, partsV, setl, Nat.reduceLeDiff, AV.len, evalUn, Int.reduceLT, Int.reduceLE, Int.reduceEq, Int.reduceNe, strs_eq, DS, isSl, AOp.pure, AOp.reader, allocD, AOp.quiet, isSlot, Nat.reduceBEq, h5, h2, h3, cA, cC, sg, hr, hg]
        have hH := kindR_ac (s := s) (n := k.parents[i]) (σ := addSlots s'.n 13 s' [(10, [.str [], .nils, .nils])]) hs
        obtain ⟨cs, hkv, a, b, c, rfl, ha, hb, hc⟩ := kindV_bool s.kinds k.parents[i]
        rw [hkv, Sc.c_eq, slc_eq, slc_eq] at hH
        refine hH.useD ?_
        simp only [WS, stepW, evalA, reduceIte, Nat.reduceEqDiff, reduceCtorEq, evalBin, Option.getD, Int.reduceToNat, Nat.reduceMul, Nat.reduceAdd, allocA, rowOf, fillA, partsV, setl, Nat.reduceLeDiff, AV.len, evalUn, Int.reduceLT, Int.reduceLE, Int.reduceEq, Int.reduceNe, strs_eq, DS, isSl, AOp.pure, AOp.reader, allocD, AOp.quiet, isSlot, Nat.reduceBEq, cB, storeA, sets, setx, List.take_zero, List.drop_succ_cons, List.drop_zero, List.take_succ_cons, ha, hb, hc]
        refine ⟨⟨?_, ?_⟩, ?_⟩
        · intro l hl c hc hf
          simp only [List.mem_cons, List.mem_nil_iff, List.not_mem_nil, or_false] at hl hc
          rcases hl with rfl | rfl | rfl <;> rcases hc with rfl | rfl | rfl <;> dsimp only at hf ⊢ <;> first
            | (exact absurd hf (by decide +kernel))
            | (simp only [WS, stepW, evalA, reduceIte, Nat.reduceEqDiff, reduceCtorEq, evalBin, Option.getD, Int.reduceToNat, Nat.reduceMul, Nat.reduceAdd, allocA, rowOf, fillA, partsV, setl, Nat.reduceLeDiff, AV.len, evalUn, Int.reduceLT, Int.reduceLE, Int.reduceEq, Int.reduceNe, strs_eq, h2, h3, cA, cC, sg, hg, n0, n1]; done)
        · intro sl hsl c hc hf
          simp only [List.mem_cons, List.mem_nil_iff, List.not_mem_nil, or_false] at hsl hc
          subst hsl
          rcases hc with rfl | rfl | rfl <;> dsimp only at hf <;> first
            | (exact absurd hf (by decide +kernel))
            | (refine ⟨?_, ?_⟩ <;> simp [addSlots])
        · have hn1 : 2 ≤ (addSlots s'.n 13 s' [(10, [AV.str [], .nils, .nils])]).n := by simp only [addSlots]; omega
          generalize addSlots s'.n 13 s' [(10, [AV.str [], .nils, .nils])] = s1 at *
          cases hh : hasS s.kinds k.parents[i] with
          | true =>
            simp only [WS, stepW, evalA, reduceIte, Nat.reduceEqDiff, reduceCtorEq, evalBin, Option.getD, Int.reduceToNat, Nat.reduceMul, Nat.reduceAdd, allocA, rowOf, fillA, partsV, setl, Nat.reduceLeDiff, AV.len, evalUn, Int.reduceLT, Int.reduceLE, Int.reduceEq, Int.reduceNe, strs_eq, hh, h5, h2, h3, cA, cC, n0, n1, hw]
            refine ⟨hlt, hn1, ?_⟩
            rw [List.take_add_one, List.all_append, hall, List.getElem?_eq_getElem hlt]
            simp [hh]
          | false =>
            simp only [WS, stepW, evalA, reduceIte, Nat.reduceEqDiff, reduceCtorEq, evalBin, Option.getD, Int.reduceToNat, Nat.reduceMul, Nat.reduceAdd, allocA, rowOf, fillA, partsV, setl, Nat.reduceLeDiff, AV.len, evalUn, Int.reduceLT, Int.reduceLE, Int.reduceEq, Int.reduceNe, strs_eq, hh, h5]
            have : k.parents.all (hasS s.kinds) = false := by
              rw [List.all_eq_false]; exact ⟨_, List.getElem_mem hlt, by simp [hh]⟩
            rw [kindRS, if_neg (by omega), if_pos this]
      · have : i = k.parents.length := by omega
        subst this
        rw [List.take_length] at hall
        simp only [WS, stepW, evalA, reduceIte, Nat.reduceEqDiff, reduceCtorEq, evalBin, Option.getD, Int.reduceToNat, Nat.reduceMul, Nat.reduceAdd, allocA, rowOf, fillA, partsV, setl, Nat.reduceLeDiff, AV.len, evalUn, Int.reduceLT, Int.reduceLE, Int.reduceEq, Int.reduceNe, strs_eq, h5, h2, h3, c0, c1, hall]
        exact hn
  rintro ρ s' ⟨h2, h3, c0, c1, hn, hall⟩
  have hk : kindRS s.kinds k = fieldsR s.kinds none k.fields := by rw [kindRS, if_neg (by omega), if_neg (by rw [hall]; simp)]
  rw [hk]
  simp only [WS, stepW, evalA, reduceIte, Nat.reduceEqDiff, reduceCtorEq, evalBin, Option.getD, Int.reduceToNat, Nat.reduceMul, Nat.reduceAdd, allocA, rowOf, fillA, partsV, setl, Nat.reduceLeDiff, AV.len, evalUn, Int.reduceLT, Int.reduceLE, Int.reduceEq, Int.reduceNe, strs_eq, h2, h3, c0, c1]
  refine w_for (fun i ρ s' => ρ.rd 8 = .int .i64 i ∧ ρ.rd 2 = .ptr 0 0 ∧ ρ.rd 3 = .ptr 1 0 ∧ s'.cells 0 = some [slc Kd.c s.kinds, slc Ac.c s.acts] ∧ s'.cells 1 = some [.str k.name, strs k.parents, slc Fl.c k.fields] ∧ 2 ≤ s'.n ∧
    fieldsR s.kinds none k.fields = fieldsR s.kinds (prevO (k.fields.map Fl.name) i) (k.fields.drop i)) k.fields.length ?_ ?_
  · simp only [WS, stepW, evalA, reduceIte, Nat.reduceEqDiff, reduceCtorEq, evalBin, Option.getD, Int.reduceToNat, Nat.reduceMul, Nat.reduceAdd, allocA, rowOf, fillA, partsV, setl, Nat.reduceLeDiff, AV.len, evalUn, Int.reduceLT, Int.reduceLE, Int.reduceEq, Int.reduceNe, strs_eq, h2, h3, c0, c1]
    exact ⟨rfl, hn, rfl⟩
  · rintro i ρ s' hi ⟨h8, h2, h3, c0, c1, hn, hspec⟩
    simp only [WS, stepW, evalA, reduceIte, Nat.reduceEqDiff, reduceCtorEq, evalBin, Option.getD, Int.reduceToNat, Nat.reduceMul, Nat.reduceAdd, allocA, rowOf, fillA, partsV, setl, Nat.reduceLeDiff, AV.len, evalUn, Int.reduceLT, Int.reduceLE, Int.reduceEq, Int.reduceNe, strs_eq, h8, h3, c1]
    refine Br_dec (fun hlt' => ?_) (fun hge => ?_)
    · have hlt : i < k.fields.length := by omega
      have hr := lt_idx hlt
      have A := flAt hlt
      have hw : IntKind.i64.wrap ((i : Int) + 1) = ((i + 1 : Nat) : Int) := wrap_succ (by omega)
      have sgk : seg (rowc Fl.c k.fields) (i * 4 + 1) 3 = k.fields[i].ty.c := A.ty
      have hfit := A.fit1
      have hfd : ∀ last, fieldsR s.kinds last (k.fields.drop i) = if identS k.fields[i].name = false then 15 else if leqO k.fields[i].name last = true then 7 else if kindOfS s.kinds k.fields[i].ty ≠ 0 then kindOfS s.kinds k.fields[i].ty else fieldsR s.kinds (some k.fields[i].name) (k.fields.drop (i + 1)) := by
        intro last
        rw [List.drop_eq_getElem_cons hlt, fieldsR]
      rw [wpC_skip, wpCK_normal, wpC_seq, wpC_block, wpC_seq]
      refine w_mid (fun ρ s1 => s1 = s' ∧ ρ.rd 8 = .int .i64 i ∧ ρ.rd 2 = .ptr 0 0 ∧ ρ.rd 3 = .ptr 1 0 ∧ identS k.fields[i].name = true) ?_ ?_
      · simp only [WS, stepW, evalA, reduceIte, Nat.reduceEqDiff, reduceCtorEq, evalBin, Option.getD, Int.reduceToNat, Nat.reduceMul, Nat.reduceAdd, allocA, rowOf, fillA, partsV, setl, Nat.reduceLeDiff, AV.len, evalUn, Int.reduceLT, Int.reduceLE, Int.reduceEq, Int.reduceNe, strs_eq, h8, h2, h3, c1, hr, A.g0]
        refine (identR_ac (ht.2 _ (List.getElem_mem hlt))).use ?_
        cases hI : identS k.fields[i].name with
        | false => simp only [WS, stepW, evalA, reduceIte, Nat.reduceEqDiff, reduceCtorEq, evalBin, Option.getD, Int.reduceToNat, Nat.reduceMul, Nat.reduceAdd, allocA, rowOf, fillA, partsV, setl, Nat.reduceLeDiff, AV.len, evalUn, Int.reduceLT, Int.reduceLE, Int.reduceEq, Int.reduceNe, strs_eq, hI]; rw [hspec, hfd, hI]; simp
        | true => simp only [WS, stepW, evalA, reduceIte, Nat.reduceEqDiff, reduceCtorEq, evalBin, Option.getD, Int.reduceToNat, Nat.reduceMul, Nat.reduceAdd, allocA, rowOf, fillA, partsV, setl, Nat.reduceLeDiff, AV.len, evalUn, Int.reduceLT, Int.reduceLE, Int.reduceEq, Int.reduceNe, strs_eq, hI, h8, h2, h3]
      rintro ρ s1 ⟨rfl, h8, h2, h3, hI⟩
      rw [wpC_seq]
      refine w_mid (fun ρ s2 => s2.cells 0 = some [slc Kd.c s.kinds, slc Ac.c s.acts] ∧ s2.cells 1 = some [.str k.name, strs k.parents, slc Fl.c k.fields] ∧ 2 ≤ s2.n ∧ ρ.rd 8 = .int .i64 i ∧ ρ.rd 2 = .ptr 0 0 ∧ ρ.rd 3 = .ptr 1 0 ∧
        leqO k.fields[i].name (prevO (k.fields.map Fl.name) i) = false) ?_ ?_
      · simp only [WS, stepW, evalA, reduceIte, Nat.reduceEqDiff, reduceCtorEq, evalBin, Option.getD, Int.reduceToNat, Nat.reduceMul, Nat.reduceAdd, allocA, rowOf, fillA, partsV, setl, Nat.reduceLeDiff, AV.len, evalUn, Int.reduceLT, Int.reduceLE, Int.reduceEq, Int.reduceNe, strs_eq, h8]
        refine w_dreg0 follow ?_ rfl
        have cA : (addSlots s1.n 18 s1 []).cells 0 = some [slc Kd.c s.kinds, slc Ac.c s.acts] := c0
        have cC : (addSlots s1.n 18 s1 []).cells 1 = some [.str k.name, strs k.parents, slc Fl.c k.fields] := c1
        have hn2 : 2 ≤ (addSlots s1.n 18 s1 []).n := by simp only [addSlots]; omega
        generalize addSlots s1.n 18 s1 [] = s2 at *
        by_cases hi0 : i = 0
        · have hz : ¬ (0 : Int) < (i : Int) := by omega
          simp only [WS, stepW, evalA, reduceIte, Nat.reduceEqDiff, reduceCtorEq, evalBin, Option.getD, Int.reduceToNat, Nat.reduceMul, Nat.reduceAdd, allocA, rowOf, fillA, partsV, setl, Nat.reduceLeDiff, AV.len, evalUn, Int.reduceLT, Int.reduceLE, Int.reduceEq, Int.reduceNe, strs_eq, hz, h8, h2, h3, cA, cC]
          subst hi0
          exact ⟨hn2, rfl⟩
        · have hp : (0 : Int) < (i : Int) := by omega
          obtain ⟨j, rfl⟩ : ∃ j, i = j + 1 := ⟨i - 1, by omega⟩
          have hj : j < k.fields.length := by omega
          have B := flAt hj
          have hrj := lt_idx hj
          have hwj : IntKind.i64.wrap (((j + 1 : Nat) : Int) - 1) = (j : Nat) := by rw [wrap64 (by omega) (by omega)]; omega
          have hpv : prevO (k.fields.map Fl.name) (j + 1) = some k.fields[j].name := by simp [prevO, hj]
          simp only [WS, stepW, evalA, reduceIte, Nat.reduceEqDiff, reduceCtorEq, evalBin, Option.getD, Int.reduceToNat, Nat.reduceMul, Nat.reduceAdd, allocA, rowOf, fillA, partsV, setl, Nat.reduceLeDiff, AV.len, evalUn, Int.reduceLT, Int.reduceLE, Int.reduceEq, Int.reduceNe, strs_eq, hp, h8, h2, h3, cA, cC, hr, hrj, hwj, A.g0, B.g0]
          cases hl : (Op.bytesLess k.fields[j + 1].name k.fields[j].name || k.fields[j + 1].name == k.fields[j].name) with
          | true =>
            simp only [WS, stepW, evalA, reduceIte, Nat.reduceEqDiff, reduceCtorEq, evalBin, Option.getD, Int.reduceToNat, Nat.reduceMul, Nat.reduceAdd, allocA, rowOf, fillA, partsV, setl, Nat.reduceLeDiff, AV.len, evalUn, Int.reduceLT, Int.reduceLE, Int.reduceEq, Int.reduceNe, strs_eq, hl]
            rw [hspec, hfd, hI, if_neg (by simp), if_pos (by rw [hpv]; exact hl)]
          | false =>
            simp only [WS, stepW, evalA, reduceIte, Nat.reduceEqDiff, reduceCtorEq, evalBin, Option.getD, Int.reduceToNat, Nat.reduceMul, Nat.reduceAdd, allocA, rowOf, fillA, partsV, setl, Nat.reduceLeDiff, AV.len, evalUn, Int.reduceLT, Int.reduceLE, Int.reduceEq, Int.reduceNe, strs_eq, hl, h8, h2, h3, cA, cC]
            exact ⟨hn2, by rw [hpv]; exact hl⟩
      clear c0 c1
      rintro ρ s2 ⟨c0, c1, hn, h8, h2, h3, hlq⟩
      have sgt : seg (rowc Fl.c k.fields) (i * 4 + 1) 3 = [.int .i64 k.fields[i].ty.kind, .int .i64 k.fields[i].ty.of_, .str k.fields[i].ty.name] := A.ty
      simp only [WS, stepW, evalA, reduceIte, Nat.reduceEqDiff, reduceCtorEq, evalBin, Option.getD, Int.reduceToNat, Nat.reduceMul, Nat.reduceAdd, allocA, rowOf, fillA, partsV, setl, Nat.reduceLeDiff, AV.len, evalUn, Int.reduceLT, Int.reduceLE, Int.reduceEq, Int.reduceNe, strs_eq, h8]
      refine w_dreg follow [] rfl ?_
      have cA : (addSlots s2.n 9 s2 []).cells 0 = some [slc Kd.c s.kinds, slc Ac.c s.acts] := c0
      have cC : (addSlots s2.n 9 s2 []).cells 1 = some [.str k.name, strs k.parents, slc Fl.c k.fields] := c1
      have hn2 : 2 ≤ (addSlots s2.n 9 s2 []).n := by simp only [addSlots]; omega
      generalize addSlots s2.n 9 s2 [] = s3 at *
      have hT := typR_ac (s := s) (t := k.fields[i].ty) (σ := s3) hs
      rw [Sc.c_eq, slc_eq, slc_eq, Ty.c_eq] at hT
      simp only [WS, stepW, evalA, reduceIte, Nat.reduceEqDiff, reduceCtorEq, evalBin, Option.getD, Int.reduceToNat, Nat.reduceMul, Nat.reduceAdd, allocA, rowOf, fillA, partsV, setl, Nat.reduceLeDiff, AV.len, evalUn, Int.reduceLT, Int.reduceLE, Int.reduceEq, Int.reduceNe, strs_eq, DS, isSl, AOp.pure, AOp.reader, allocD, AOp.quiet, isSlot, Nat.reduceBEq, h8, h2, h3, cA, cC, sg, hr, hfit, sgt]
      refine hT.useD ?_
      simp only [WS, stepW, evalA, reduceIte, Nat.reduceEqDiff, reduceCtorEq, evalBin, Option.getD, Int.reduceToNat, Nat.reduceMul, Nat.reduceAdd, allocA, rowOf, fillA, partsV, setl, Nat.reduceLeDiff, AV.len, evalUn, Int.reduceLT, Int.reduceLE, Int.reduceEq, Int.reduceNe, strs_eq, DS, isSl, AOp.pure, AOp.reader, allocD, AOp.quiet, isSlot, Nat.reduceBEq, h8, h2, h3]
      refine ⟨⟨?_, ?_⟩, ?_⟩
      · intro l hl c hc hf
        simp only [List.mem_cons, List.mem_nil_iff, List.not_mem_nil, or_false] at hl hc
        rcases hl with rfl | rfl | rfl <;> rcases hc with rfl | rfl <;> dsimp only at hf ⊢ <;> first
          | (exact absurd hf (by decide +kernel))
          | (simp only [WS, stepW, evalA, reduceIte, Nat.reduceEqDiff, reduceCtorEq, evalBin, Option.getD, Int.reduceToNat, Nat.reduceMul, Nat.reduceAdd, allocA, rowOf, fillA, partsV, setl, Nat.reduceLeDiff, AV.len, evalUn, Int.reduceLT, Int.reduceLE, Int.reduceEq, Int.reduceNe, strs_eq, h8, h2, h3, cA, cC, sg, hr, hfit, sgt]; done)
      · intro sl hsl; simp at hsl
      · refine Br_dec (fun h0 => ?_) (fun h0 => ?_)
        · simp only [WS, stepW, evalA, reduceIte, Nat.reduceEqDiff, reduceCtorEq, evalBin, Option.getD, Int.reduceToNat, Nat.reduceMul, Nat.reduceAdd, allocA, rowOf, fillA, partsV, setl, Nat.reduceLeDiff, AV.len, evalUn, Int.reduceLT, Int.reduceLE, Int.reduceEq, Int.reduceNe, strs_eq, h0]
          refine w_dreg follow [] rfl ?_
          have cA' : (addSlots s3.n 9 s3 []).cells 0 = some [slc Kd.c s.kinds, slc Ac.c s.acts] := cA
          have cC' : (addSlots s3.n 9 s3 []).cells 1 = some [.str k.name, strs k.parents, slc Fl.c k.fields] := cC
          generalize addSlots s3.n 9 s3 [] = s4 at *
          have hT' := typR_ac (s := s) (t := k.fields[i].ty) (σ := s4) hs
          rw [Sc.c_eq, slc_eq, slc_eq, Ty.c_eq] at hT'
          simp only [WS, stepW, evalA, reduceIte, Nat.reduceEqDiff, reduceCtorEq, evalBin, Option.getD, Int.reduceToNat, Nat.reduceMul, Nat.reduceAdd, allocA, rowOf, fillA, partsV, setl, Nat.reduceLeDiff, AV.len, evalUn, Int.reduceLT, Int.reduceLE, Int.reduceEq, Int.reduceNe, strs_eq, DS, isSl, AOp.pure, AOp.reader, allocD, AOp.quiet, isSlot, Nat.reduceBEq, h8, h2, h3, cA', cC', sg, hr, hfit, sgt]
          refine hT'.useD ?_
          simp only [WS, stepW, evalA, reduceIte, Nat.reduceEqDiff, reduceCtorEq, evalBin, Option.getD, Int.reduceToNat, Nat.reduceMul, Nat.reduceAdd, allocA, rowOf, fillA, partsV, setl, Nat.reduceLeDiff, AV.len, evalUn, Int.reduceLT, Int.reduceLE, Int.reduceEq, Int.reduceNe, strs_eq, DS, isSl, AOp.pure, AOp.reader, allocD, AOp.quiet, isSlot, Nat.reduceBEq, h8, h2, h3]
          refine ⟨⟨?_, ?_⟩, ?_⟩
          · intro l hl c hc hf
            simp only [List.mem_cons, List.mem_nil_iff, List.not_mem_nil, or_false] at hl hc
            rcases hl with rfl | rfl | rfl <;> rcases hc with rfl | rfl <;> dsimp only at hf ⊢ <;> first
              | (exact absurd hf (by decide +kernel))
              | (simp only [WS, stepW, evalA, reduceIte, Nat.reduceEqDiff, reduceCtorEq, evalBin, Option.getD, Int.reduceToNat, Nat.reduceMul, Nat.reduceAdd, allocA, rowOf, fillA, partsV, setl, Nat.reduceLeDiff, AV.len, evalUn, Int.reduceLT, Int.reduceLE, Int.reduceEq, Int.reduceNe, strs_eq, h8, h2, h3, cA', cC', sg, hr, hfit, sgt]; done)
          · intro sl hsl; simp at hsl
          · rw [hspec, hfd, hI, if_neg (by simp), if_neg (by rw [hlq]; simp), if_pos h0]
        · simp only [WS, stepW, evalA, reduceIte, Nat.reduceEqDiff, reduceCtorEq, evalBin, Option.getD, Int.reduceToNat, Nat.reduceMul, Nat.reduceAdd, allocA, rowOf, fillA, partsV, setl, Nat.reduceLeDiff, AV.len, evalUn, Int.reduceLT, Int.reduceLE, Int.reduceEq, Int.reduceNe, strs_eq, h0, h8, h2, h3, cA, cC, hw]
          refine ⟨hlt, hn2, ?_⟩
          rw [hspec, hfd, hI, if_neg (by simp), if_neg (by rw [hlq]; simp), if_neg h0]
          simp [prevO, hlt]
    · have : i = k.fields.length := by omega
      subst this
      rw [hspec, List.drop_length]
      simp only [WS, stepW, evalA, reduceIte, Nat.reduceEqDiff, reduceCtorEq, evalBin, Option.getD, Int.reduceToNat, Nat.reduceMul, Nat.reduceAdd, allocA, rowOf, fillA, partsV, setl, Nat.reduceLeDiff, AV.len, evalUn, Int.reduceLT, Int.reduceLE, Int.reduceEq, Int.reduceNe, strs_eq, h8]
      simp [fieldsR]
end Go.Proofs.Ytaokfpjjaejjgaa.Va
