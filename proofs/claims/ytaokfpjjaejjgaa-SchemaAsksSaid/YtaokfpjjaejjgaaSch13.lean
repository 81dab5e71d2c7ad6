/- few; both checks over rows of one's own. Conditions: none. -/
import Derived.Test.YtaokfpjjaejjgaaSch12
set_option maxRecDepth 100000
set_option maxHeartbeats 4000000
set_option linter.all false
namespace Go.Proofs.Ytaokfpjjaejjgaa.Va
open Go.Proofs
theorem check_own {s : Sc} {σ : AState} {x : AV} (hs : s.ok) (ht : s.tok) (hx : Pur σ true x (.agg s.c)) : AC Try.prog 12 [x] σ fun v s' => s' = σ ∧ v = .int .i64 (checkS s) :=
  AC.pure (.cons hx .nil) ((check_st0 hs ht).mono fun v s' e => ⟨_, by rw [e]; exact .flat _ rfl, rfl⟩)
theorem checkR_own {s : Sc} {σ : AState} {x : AV} (hs : s.ok) (ht : s.tok) (hx : Pur σ true x (.agg s.c)) : AC Try.prog 13 [x] σ fun v s' => s' = σ ∧ v = .int .i64 (checkS s) := by
  rw [check_same]
  exact AC.pure (.cons hx .nil) ((checkR_st0 hs ht).mono fun v s' e => ⟨_, by rw [e]; exact .flat _ rfl, rfl⟩)
theorem known10_ac {σ : AState} : AC Try.prog 8 [] σ fun v s => s = σ ∧ v = .bool true := by
  have h : (match runF tab 400 8 [] st0 with | some (.bool true, _) => true | _ => false) = true := by kernel_rfl
  split at h
  · rename_i s e
    exact (AC.plain (a := .bool true) rfl (fun x hx => by cases hx) ((runs 400 _ _ _ _ _ e).mono fun v' s' hv => hv.1)).mono fun v s h => ⟨h.2, h.1⟩
  · cases h
theorem few_st0 {s : Sc} (hs : s.ok) : AC Try.prog 9 [.agg s.c] st0 fun v _ => ∃ b, v = .bool b := by
  refine ac_wp fn9 cf9 cl9 rfl ?_
  simp only [ac9]
  unfold ab9
  simp only [wpC_seq, wpC_skip, wpCK_normal]
  have hMost : Most = 9223372036854775807 := rfl
  have hkl := hs.kl
  have hal := hs.al
  refine w_mid (fun ρ s' => ρ.rd 1 = .ptr 0 0 ∧ s'.cells 0 = some [slc Kd.c s.kinds, slc Ac.c s.acts]) ?_ ?_
  · simp only [WS, stepW, evalA, reduceIte, Nat.reduceEqDiff, reduceCtorEq, evalBin, Option.getD, Int.reduceToNat, Nat.reduceMul, Nat.reduceAdd, allocA, rowOf, fillA, partsV, setl, Nat.reduceLeDiff, AV.len, evalUn, Int.reduceLT, Int.reduceLE, Int.reduceEq, Int.reduceNe, strs_eq, Sc.c_eq]
  rintro ρ s' ⟨h1, c0⟩
  simp only [wpC_seq, wpC_skip, wpCK_normal]
  refine w_mid (fun ρ s' => ρ.rd 1 = .ptr 0 0 ∧ s'.cells 0 = some [slc Kd.c s.kinds, slc Ac.c s.acts] ∧ ρ.rd 3 = .int .i64 0) ?_ ?_
  · simp only [WS, stepW, evalA, reduceIte, Nat.reduceEqDiff, reduceCtorEq, evalBin, Option.getD, Int.reduceToNat, Nat.reduceMul, Nat.reduceAdd, allocA, rowOf, fillA, partsV, setl, Nat.reduceLeDiff, AV.len, evalUn, Int.reduceLT, Int.reduceLE, Int.reduceEq, Int.reduceNe, strs_eq, h1, c0]
  clear h1 c0
  rintro ρ s' ⟨h1, c0, h3⟩
  rw [wpC_seq]
  refine w_mid (fun ρ s' => ρ.rd 1 = .ptr 0 0 ∧ s'.cells 0 = some [slc Kd.c s.kinds, slc Ac.c s.acts] ∧ ∃ z, ρ.rd 3 = .int .i64 z) ?_ ?_
  · simp only [WS, stepW, evalA, reduceIte, Nat.reduceEqDiff, reduceCtorEq, evalBin, Option.getD, Int.reduceToNat, Nat.reduceMul, Nat.reduceAdd, allocA, rowOf, fillA, partsV, setl, Nat.reduceLeDiff, AV.len, evalUn, Int.reduceLT, Int.reduceLE, Int.reduceEq, Int.reduceNe, strs_eq, h1, c0, h3]
    refine w_for (fun i ρ s' => ρ.rd 4 = .int .i64 i ∧ ρ.rd 1 = .ptr 0 0 ∧ s'.cells 0 = some [slc Kd.c s.kinds, slc Ac.c s.acts] ∧ ∃ z, ρ.rd 3 = .int .i64 z) s.kinds.length ?_ ?_
    · simp only [WS, stepW, evalA, reduceIte, Nat.reduceEqDiff, reduceCtorEq, evalBin, Option.getD, Int.reduceToNat, Nat.reduceMul, Nat.reduceAdd, allocA, rowOf, fillA, partsV, setl, Nat.reduceLeDiff, AV.len, evalUn, Int.reduceLT, Int.reduceLE, Int.reduceEq, Int.reduceNe, strs_eq, h1, c0, h3]
      exact ⟨rfl, _, rfl⟩
    clear h1 c0 h3
    rintro i ρ s' hi ⟨h4, h1, c0, z, h3⟩
    by_cases hlt' : (i : Int) < s.kinds.length
    rotate_left
    · simp only [WS, stepW, evalA, reduceIte, Nat.reduceEqDiff, reduceCtorEq, evalBin, Option.getD, Int.reduceToNat, Nat.reduceMul, Nat.reduceAdd, allocA, rowOf, fillA, partsV, setl, Nat.reduceLeDiff, AV.len, evalUn, Int.reduceLT, Int.reduceLE, Int.reduceEq, Int.reduceNe, strs_eq, h4, h1, c0, h3, hlt']
      exact ⟨_, rfl⟩
    by_cases h20 : (i : Int) < 20
    rotate_left
    · simp only [WS, stepW, evalA, reduceIte, Nat.reduceEqDiff, reduceCtorEq, evalBin, Option.getD, Int.reduceToNat, Nat.reduceMul, Nat.reduceAdd, allocA, rowOf, fillA, partsV, setl, Nat.reduceLeDiff, AV.len, evalUn, Int.reduceLT, Int.reduceLE, Int.reduceEq, Int.reduceNe, strs_eq, h4, h1, c0, h3, hlt', h20]
      exact ⟨_, rfl⟩
    have hlt : i < s.kinds.length := by omega
    have A := kdAt hlt
    have hr := lt_idx hlt
    have hw : IntKind.i64.wrap ((i : Int) + 1) = ((i + 1 : Nat) : Int) := wrap_succ (by omega)
    simp only [WS, stepW, evalA, reduceIte, Nat.reduceEqDiff, reduceCtorEq, evalBin, Option.getD, Int.reduceToNat, Nat.reduceMul, Nat.reduceAdd, allocA, rowOf, fillA, partsV, setl, Nat.reduceLeDiff, AV.len, evalUn, Int.reduceLT, Int.reduceLE, Int.reduceEq, Int.reduceNe, strs_eq, h4, h1, c0, h3, hlt', h20]
    refine w_dreg0 follow ?_ rfl
    have d0 : (addSlots s'.n 28 s' []).cells 0 = some [slc Kd.c s.kinds, slc Ac.c s.acts] := c0
    generalize addSlots s'.n 28 s' [] = s3 at *
    simp only [WS, stepW, evalA, reduceIte, Nat.reduceEqDiff, reduceCtorEq, evalBin, Option.getD, Int.reduceToNat, Nat.reduceMul, Nat.reduceAdd, allocA, rowOf, fillA, partsV, setl, Nat.reduceLeDiff, AV.len, evalUn, Int.reduceLT, Int.reduceLE, Int.reduceEq, Int.reduceNe, strs_eq, h4, h1, d0, h3, hr, A.g0, A.g1, A.g2, hw]
    exact ⟨hlt, _, rfl⟩
  clear h1 c0 h3
  rintro ρ s' ⟨h1, c0, z, h3⟩
  rw [wpC_seq]
  refine w_mid (fun ρ s' => ρ.rd 1 = .ptr 0 0 ∧ s'.cells 0 = some [slc Kd.c s.kinds, slc Ac.c s.acts] ∧ ∃ z, ρ.rd 3 = .int .i64 z) ?_ ?_
  · simp only [WS, stepW, evalA, reduceIte, Nat.reduceEqDiff, reduceCtorEq, evalBin, Option.getD, Int.reduceToNat, Nat.reduceMul, Nat.reduceAdd, allocA, rowOf, fillA, partsV, setl, Nat.reduceLeDiff, AV.len, evalUn, Int.reduceLT, Int.reduceLE, Int.reduceEq, Int.reduceNe, strs_eq, h1, c0, h3]
    refine w_for (fun i ρ s' => ρ.rd 5 = .int .i64 i ∧ ρ.rd 1 = .ptr 0 0 ∧ s'.cells 0 = some [slc Kd.c s.kinds, slc Ac.c s.acts] ∧ ∃ z, ρ.rd 3 = .int .i64 z) s.acts.length ?_ ?_
    · simp only [WS, stepW, evalA, reduceIte, Nat.reduceEqDiff, reduceCtorEq, evalBin, Option.getD, Int.reduceToNat, Nat.reduceMul, Nat.reduceAdd, allocA, rowOf, fillA, partsV, setl, Nat.reduceLeDiff, AV.len, evalUn, Int.reduceLT, Int.reduceLE, Int.reduceEq, Int.reduceNe, strs_eq, h1, c0, h3]
      exact ⟨rfl, _, rfl⟩
    clear h1 c0 h3
    rintro i ρ s' hi ⟨h4, h1, c0, z, h3⟩
    by_cases hlt' : (i : Int) < s.acts.length
    rotate_left
    · simp only [WS, stepW, evalA, reduceIte, Nat.reduceEqDiff, reduceCtorEq, evalBin, Option.getD, Int.reduceToNat, Nat.reduceMul, Nat.reduceAdd, allocA, rowOf, fillA, partsV, setl, Nat.reduceLeDiff, AV.len, evalUn, Int.reduceLT, Int.reduceLE, Int.reduceEq, Int.reduceNe, strs_eq, h4, h1, c0, h3, hlt']
      exact ⟨_, rfl⟩
    by_cases h20 : (i : Int) < 20
    rotate_left
    · simp only [WS, stepW, evalA, reduceIte, Nat.reduceEqDiff, reduceCtorEq, evalBin, Option.getD, Int.reduceToNat, Nat.reduceMul, Nat.reduceAdd, allocA, rowOf, fillA, partsV, setl, Nat.reduceLeDiff, AV.len, evalUn, Int.reduceLT, Int.reduceLE, Int.reduceEq, Int.reduceNe, strs_eq, h4, h1, c0, h3, hlt', h20]
      exact ⟨_, rfl⟩
    have hlt : i < s.acts.length := by omega
    have A := acAt hlt
    have hr := lt_idx hlt
    have hw : IntKind.i64.wrap ((i : Int) + 1) = ((i + 1 : Nat) : Int) := wrap_succ (by omega)
    simp only [WS, stepW, evalA, reduceIte, Nat.reduceEqDiff, reduceCtorEq, evalBin, Option.getD, Int.reduceToNat, Nat.reduceMul, Nat.reduceAdd, allocA, rowOf, fillA, partsV, setl, Nat.reduceLeDiff, AV.len, evalUn, Int.reduceLT, Int.reduceLE, Int.reduceEq, Int.reduceNe, strs_eq, h4, h1, c0, h3, hlt', h20]
    refine w_dreg0 follow ?_ rfl
    have d0 : (addSlots s'.n 28 s' []).cells 0 = some [slc Kd.c s.kinds, slc Ac.c s.acts] := c0
    generalize addSlots s'.n 28 s' [] = s3 at *
    simp only [WS, stepW, evalA, reduceIte, Nat.reduceEqDiff, reduceCtorEq, evalBin, Option.getD, Int.reduceToNat, Nat.reduceMul, Nat.reduceAdd, allocA, rowOf, fillA, partsV, setl, Nat.reduceLeDiff, AV.len, evalUn, Int.reduceLT, Int.reduceLE, Int.reduceEq, Int.reduceNe, strs_eq, h4, h1, d0, h3, hr, A.g0, A.g1, A.g2, hw]
    exact ⟨hlt, _, rfl⟩
  clear h1 c0 h3
  rintro ρ s' ⟨h1, c0, z, h3⟩
  by_cases q1 : z < 3000
  · by_cases q2 : (s.kinds.length : Int) < 20
    · simp only [WS, stepW, evalA, reduceIte, Nat.reduceEqDiff, reduceCtorEq, evalBin, Option.getD, Int.reduceToNat, Nat.reduceMul, Nat.reduceAdd, allocA, rowOf, fillA, partsV, setl, Nat.reduceLeDiff, AV.len, evalUn, Int.reduceLT, Int.reduceLE, Int.reduceEq, Int.reduceNe, strs_eq, h1, c0, h3, q1, q2]
      exact ⟨_, rfl⟩
    · simp only [WS, stepW, evalA, reduceIte, Nat.reduceEqDiff, reduceCtorEq, evalBin, Option.getD, Int.reduceToNat, Nat.reduceMul, Nat.reduceAdd, allocA, rowOf, fillA, partsV, setl, Nat.reduceLeDiff, AV.len, evalUn, Int.reduceLT, Int.reduceLE, Int.reduceEq, Int.reduceNe, strs_eq, h1, c0, h3, q1, q2]
      exact ⟨_, rfl⟩
  · simp only [WS, stepW, evalA, reduceIte, Nat.reduceEqDiff, reduceCtorEq, evalBin, Option.getD, Int.reduceToNat, Nat.reduceMul, Nat.reduceAdd, allocA, rowOf, fillA, partsV, setl, Nat.reduceLeDiff, AV.len, evalUn, Int.reduceLT, Int.reduceLE, Int.reduceEq, Int.reduceNe, strs_eq, h1, c0, h3, q1]
    exact ⟨_, rfl⟩
theorem few_ac {s : Sc} {σ : AState} (hs : s.ok) : AC Try.prog 9 [.agg s.c] σ fun v s' => s' = σ ∧ ∃ b, v = .bool b :=
  AC.share (R := fun v => ∃ b, v = .bool b) (.cons (.agg (Sc.fxd s)) .nil) ((few_st0 hs).mono fun v s' h => by obtain ⟨b, rfl⟩ := h; exact ⟨_, .flat _ rfl, b, rfl⟩)
end Go.Proofs.Ytaokfpjjaejjgaa.Va
