/- Types of fields; a kind: what the program tells of them. Conditions: none. -/
import Derived.Test.YtaokfpjjaejjgaaSch3
set_option maxRecDepth 100000
set_option maxHeartbeats 4000000
set_option linter.all false
namespace Go.Proofs.Ytaokfpjjaejjgaa.Va
open Go.Proofs

theorem typR_ac {s : Sc} {t : Ty} {σ : AState} (hs : s.ok) : AC Try.prog 53 [.agg s.c, .agg t.c] σ fun v s' => s' = σ ∧ v = .int .i64 (kindOfS s.kinds t) :=
  AC.told (.cons (.agg (Sc.fxd s)) (.cons (.agg (Ty.fxd t)) .nil)) rfl (typR_st0 hs)
theorem scSeg (s : Sc) : seg [AV.psl (rowc Kd.c s.kinds) 0 s.kinds.length, AV.psl (rowc Ac.c s.acts) 0 s.acts.length] 0 2 = [AV.psl (rowc Kd.c s.kinds) 0 s.kinds.length, AV.psl (rowc Ac.c s.acts) 0 s.acts.length] := rfl
theorem kindOf_st0 {s : Sc} {t : Ty} (hs : s.ok) : AC Try.prog 51 [.agg s.c, .agg t.c] st0 fun v _ => v = .int .i64 (kindOfS s.kinds t) := by
  refine ac_wp fn51 cf51 cl51 rfl ?_
  simp only [ac51]
  unfold ab51
  simp only [wpC_seq, wpC_skip, wpCK_normal]
  refine w_mid (fun ρ s' => ρ.rd 2 = .ptr 0 0 ∧ ρ.rd 3 = .ptr 1 0 ∧ s'.cells 0 = some [slc Kd.c s.kinds, slc Ac.c s.acts] ∧ s'.cells 1 = some [.int .i64 t.kind, .int .i64 t.of_, .str t.name]) ?_ ?_
  · simp only [WS, stepW, evalA, reduceIte, Nat.reduceEqDiff, reduceCtorEq, evalBin, Option.getD, Int.reduceToNat, Nat.reduceMul, Nat.reduceAdd, allocA, rowOf, fillA, partsV, setl, Nat.reduceLeDiff, AV.len, evalUn, Int.reduceLT, Int.reduceLE, Int.reduceEq, Int.reduceNe, strs_eq, Sc.c_eq, Ty.c_eq]
  rintro ρ s' ⟨h2, h3, c0, c1⟩
  have hkv' := has_ac (s := s) (n := t.name) (σ := s') hs
  rw [Sc.c_eq, slc_eq, slc_eq] at hkv'
  have sg := scSeg s
  by_cases e1 : t.kind < 1
  · simp only [WS, stepW, evalA, reduceIte, Nat.reduceEqDiff, reduceCtorEq, evalBin, Option.getD, Int.reduceToNat, Nat.reduceMul, Nat.reduceAdd, allocA, rowOf, fillA, partsV, setl, Nat.reduceLeDiff, AV.len, evalUn, Int.reduceLT, Int.reduceLE, Int.reduceEq, Int.reduceNe, strs_eq, h2, h3, c0, c1, e1]
    simp [kindOfS, e1]
  by_cases e2 : 5 < t.kind
  · simp only [WS, stepW, evalA, reduceIte, Nat.reduceEqDiff, reduceCtorEq, evalBin, Option.getD, Int.reduceToNat, Nat.reduceMul, Nat.reduceAdd, allocA, rowOf, fillA, partsV, setl, Nat.reduceLeDiff, AV.len, evalUn, Int.reduceLT, Int.reduceLE, Int.reduceEq, Int.reduceNe, strs_eq, h2, h3, c0, c1, e1, e2]
    simp [kindOfS, e1, e2]
  by_cases e5 : t.kind = 5
  · by_cases f1 : t.of_ < 1
    · simp only [WS, stepW, evalA, reduceIte, Nat.reduceEqDiff, reduceCtorEq, evalBin, Option.getD, Int.reduceToNat, Nat.reduceMul, Nat.reduceAdd, allocA, rowOf, fillA, partsV, setl, Nat.reduceLeDiff, AV.len, evalUn, Int.reduceLT, Int.reduceLE, Int.reduceEq, Int.reduceNe, strs_eq, h2, h3, c0, c1, e5, f1]
      simp [kindOfS, e5, f1]
    by_cases f2 : 4 < t.of_
    · simp only [WS, stepW, evalA, reduceIte, Nat.reduceEqDiff, reduceCtorEq, evalBin, Option.getD, Int.reduceToNat, Nat.reduceMul, Nat.reduceAdd, allocA, rowOf, fillA, partsV, setl, Nat.reduceLeDiff, AV.len, evalUn, Int.reduceLT, Int.reduceLE, Int.reduceEq, Int.reduceNe, strs_eq, h2, h3, c0, c1, e5, f1, f2]
      simp [kindOfS, e5, f1, f2]
    by_cases f4 : t.of_ = 4
    · cases hh : hasS s.kinds t.name with
      | true =>
        · simp only [WS, stepW, evalA, reduceIte, Nat.reduceEqDiff, reduceCtorEq, evalBin, Option.getD, Int.reduceToNat, Nat.reduceMul, Nat.reduceAdd, allocA, rowOf, fillA, partsV, setl, Nat.reduceLeDiff, AV.len, evalUn, Int.reduceLT, Int.reduceLE, Int.reduceEq, Int.reduceNe, strs_eq, h2, h3, c0, c1, e5, f4, hh]
          refine hkv'.use ?_
          simp only [WS, stepW, evalA, reduceIte, Nat.reduceEqDiff, reduceCtorEq, evalBin, Option.getD, Int.reduceToNat, Nat.reduceMul, Nat.reduceAdd, allocA, rowOf, fillA, partsV, setl, Nat.reduceLeDiff, AV.len, evalUn, Int.reduceLT, Int.reduceLE, Int.reduceEq, Int.reduceNe, strs_eq, h2, h3, c0, c1, sg, e5, f4, hh]
          simp [kindOfS, e5, f4, hh]
      | false =>
        · simp only [WS, stepW, evalA, reduceIte, Nat.reduceEqDiff, reduceCtorEq, evalBin, Option.getD, Int.reduceToNat, Nat.reduceMul, Nat.reduceAdd, allocA, rowOf, fillA, partsV, setl, Nat.reduceLeDiff, AV.len, evalUn, Int.reduceLT, Int.reduceLE, Int.reduceEq, Int.reduceNe, strs_eq, h2, h3, c0, c1, e5, f4, hh]
          refine hkv'.use ?_
          simp only [WS, stepW, evalA, reduceIte, Nat.reduceEqDiff, reduceCtorEq, evalBin, Option.getD, Int.reduceToNat, Nat.reduceMul, Nat.reduceAdd, allocA, rowOf, fillA, partsV, setl, Nat.reduceLeDiff, AV.len, evalUn, Int.reduceLT, Int.reduceLE, Int.reduceEq, Int.reduceNe, strs_eq, h2, h3, c0, c1, sg, e5, f4, hh]
          simp [kindOfS, e5, f4, hh]
    by_cases hn : t.name = []
    · simp only [WS, stepW, evalA, reduceIte, Nat.reduceEqDiff, reduceCtorEq, evalBin, Option.getD, Int.reduceToNat, Nat.reduceMul, Nat.reduceAdd, allocA, rowOf, fillA, partsV, setl, Nat.reduceLeDiff, AV.len, evalUn, Int.reduceLT, Int.reduceLE, Int.reduceEq, Int.reduceNe, strs_eq, h2, h3, c0, c1, e5, f1, f2, f4, hn]
      simp [kindOfS, e5, f1, f2, f4, hn]
    · simp only [WS, stepW, evalA, reduceIte, Nat.reduceEqDiff, reduceCtorEq, evalBin, Option.getD, Int.reduceToNat, Nat.reduceMul, Nat.reduceAdd, allocA, rowOf, fillA, partsV, setl, Nat.reduceLeDiff, AV.len, evalUn, Int.reduceLT, Int.reduceLE, Int.reduceEq, Int.reduceNe, strs_eq, h2, h3, c0, c1, e5, f1, f2, f4, hn]
      simp [kindOfS, e5, f1, f2, f4, hn]
  by_cases f0 : t.of_ = 0
  · by_cases e4 : t.kind = 4
    · cases hh : hasS s.kinds t.name with
      | true =>
        · simp only [WS, stepW, evalA, reduceIte, Nat.reduceEqDiff, reduceCtorEq, evalBin, Option.getD, Int.reduceToNat, Nat.reduceMul, Nat.reduceAdd, allocA, rowOf, fillA, partsV, setl, Nat.reduceLeDiff, AV.len, evalUn, Int.reduceLT, Int.reduceLE, Int.reduceEq, Int.reduceNe, strs_eq, h2, h3, c0, c1, e4, f0, hh]
          refine hkv'.use ?_
          simp only [WS, stepW, evalA, reduceIte, Nat.reduceEqDiff, reduceCtorEq, evalBin, Option.getD, Int.reduceToNat, Nat.reduceMul, Nat.reduceAdd, allocA, rowOf, fillA, partsV, setl, Nat.reduceLeDiff, AV.len, evalUn, Int.reduceLT, Int.reduceLE, Int.reduceEq, Int.reduceNe, strs_eq, h2, h3, c0, c1, sg, e4, f0, hh]
          simp [kindOfS, e4, f0, hh]
      | false =>
        · simp only [WS, stepW, evalA, reduceIte, Nat.reduceEqDiff, reduceCtorEq, evalBin, Option.getD, Int.reduceToNat, Nat.reduceMul, Nat.reduceAdd, allocA, rowOf, fillA, partsV, setl, Nat.reduceLeDiff, AV.len, evalUn, Int.reduceLT, Int.reduceLE, Int.reduceEq, Int.reduceNe, strs_eq, h2, h3, c0, c1, e4, f0, hh]
          refine hkv'.use ?_
          simp only [WS, stepW, evalA, reduceIte, Nat.reduceEqDiff, reduceCtorEq, evalBin, Option.getD, Int.reduceToNat, Nat.reduceMul, Nat.reduceAdd, allocA, rowOf, fillA, partsV, setl, Nat.reduceLeDiff, AV.len, evalUn, Int.reduceLT, Int.reduceLE, Int.reduceEq, Int.reduceNe, strs_eq, h2, h3, c0, c1, sg, e4, f0, hh]
          simp [kindOfS, e4, f0, hh]
    by_cases hn : t.name = []
    · simp only [WS, stepW, evalA, reduceIte, Nat.reduceEqDiff, reduceCtorEq, evalBin, Option.getD, Int.reduceToNat, Nat.reduceMul, Nat.reduceAdd, allocA, rowOf, fillA, partsV, setl, Nat.reduceLeDiff, AV.len, evalUn, Int.reduceLT, Int.reduceLE, Int.reduceEq, Int.reduceNe, strs_eq, h2, h3, c0, c1, e1, e2, e5, e4, f0, hn]
      simp [kindOfS, e1, e2, e5, e4, f0, hn]
    · simp only [WS, stepW, evalA, reduceIte, Nat.reduceEqDiff, reduceCtorEq, evalBin, Option.getD, Int.reduceToNat, Nat.reduceMul, Nat.reduceAdd, allocA, rowOf, fillA, partsV, setl, Nat.reduceLeDiff, AV.len, evalUn, Int.reduceLT, Int.reduceLE, Int.reduceEq, Int.reduceNe, strs_eq, h2, h3, c0, c1, e1, e2, e5, e4, f0, hn]
      simp [kindOfS, e1, e2, e5, e4, f0, hn]
  by_cases e4 : t.kind = 4
  · simp only [WS, stepW, evalA, reduceIte, Nat.reduceEqDiff, reduceCtorEq, evalBin, Option.getD, Int.reduceToNat, Nat.reduceMul, Nat.reduceAdd, allocA, rowOf, fillA, partsV, setl, Nat.reduceLeDiff, AV.len, evalUn, Int.reduceLT, Int.reduceLE, Int.reduceEq, Int.reduceNe, strs_eq, h2, h3, c0, c1, e4, f0]
    simp [kindOfS, e4, f0]
  · simp only [WS, stepW, evalA, reduceIte, Nat.reduceEqDiff, reduceCtorEq, evalBin, Option.getD, Int.reduceToNat, Nat.reduceMul, Nat.reduceAdd, allocA, rowOf, fillA, partsV, setl, Nat.reduceLeDiff, AV.len, evalUn, Int.reduceLT, Int.reduceLE, Int.reduceEq, Int.reduceNe, strs_eq, h2, h3, c0, c1, e1, e2, e5, e4, f0]
    simp [kindOfS, e1, e2, e5, e4, f0]
theorem kindOf_ac {s : Sc} {t : Ty} {σ : AState} (hs : s.ok) : AC Try.prog 51 [.agg s.c, .agg t.c] σ fun v s' => s' = σ ∧ v = .int .i64 (kindOfS s.kinds t) :=
  AC.told (.cons (.agg (Sc.fxd s)) (.cons (.agg (Ty.fxd t)) .nil)) rfl (kindOf_st0 hs)

/- ------------------------------------------------ a kind -/
def fieldsS (ks : List Kd) : Str → List Fl → Int
  | _, [] => 0
  | last, f :: r =>
    if identS f.name = false then 15
    else if (Op.bytesLess f.name last || f.name == last) = true then 7
    else if kindOfS ks f.ty ≠ 0 then kindOfS ks f.ty
    else fieldsS ks f.name r
def kindS (ks : List Kd) (k : Kd) (last : Str) : Int :=
  if identS k.name = false ∨ resS k.name = true then 15
  else if (Op.bytesLess k.name last || k.name == last) = true then 7
  else if 5 < k.fields.length ∨ 4 < k.parents.length then 4
  else if k.parents.all (hasS ks) = false then 2
  else fieldsS ks [] k.fields
/- Names and texts of a size such as what comes in has. -/
def Fl.tok (f : Fl) : Prop := f.name.length ≤ Most
def Kd.tok (k : Kd) : Prop := k.name.length ≤ Most ∧ ∀ f ∈ k.fields, f.tok

theorem kind_st0 {s : Sc} {k : Kd} {last : Str} (hs : s.ok) (hk : k.ok) (ht : k.tok) : AC Try.prog 31 [.agg s.c, .agg k.c, .str last] st0 fun v _ => v = .int .i64 (kindS s.kinds k last) := by
  refine ac_wp fn31 cf31 cl31 rfl ?_
  simp only [ac31]
  unfold ab31
  simp only [wpC_seq, wpC_skip, wpCK_normal]
  refine w_mid (fun ρ s' => ρ.rd 3 = .ptr 0 0 ∧ ρ.rd 4 = .ptr 1 0 ∧ ρ.rd 2 = .str last ∧ s'.cells 0 = some [slc Kd.c s.kinds, slc Ac.c s.acts] ∧ s'.cells 1 = some [.str k.name, strs k.parents, slc Fl.c k.fields] ∧ s'.n = 2) ?_ ?_
  · simp only [WS, stepW, evalA, reduceIte, Nat.reduceEqDiff, reduceCtorEq, evalBin, Option.getD, Int.reduceToNat, Nat.reduceMul, Nat.reduceAdd, allocA, rowOf, fillA, partsV, setl, Nat.reduceLeDiff, AV.len, evalUn, Int.reduceLT, Int.reduceLE, Int.reduceEq, Int.reduceNe, strs_eq, Sc.c_eq, Kd.c_eq]
  rintro ρ s' ⟨h3, h4, h2, c0, c1, hn⟩
  simp only [wpC_seq, wpC_skip, wpCK_normal]
  have hI := identL_ac (n := k.name) (σ := s') ht.1
  have hR := reserved_ac k.name s'
  refine w_mid (fun ρ s' => ρ.rd 3 = .ptr 0 0 ∧ ρ.rd 4 = .ptr 1 0 ∧ s'.cells 0 = some [slc Kd.c s.kinds, slc Ac.c s.acts] ∧ s'.cells 1 = some [.str k.name, strs k.parents, slc Fl.c k.fields] ∧ s'.n = 2 ∧
    kindS s.kinds k last = if k.parents.all (hasS s.kinds) = false then 2 else fieldsS s.kinds [] k.fields) ?_ ?_
  · simp only [WS, stepW, evalA, reduceIte, Nat.reduceEqDiff, reduceCtorEq, evalBin, Option.getD, Int.reduceToNat, Nat.reduceMul, Nat.reduceAdd, allocA, rowOf, fillA, partsV, setl, Nat.reduceLeDiff, AV.len, evalUn, Int.reduceLT, Int.reduceLE, Int.reduceEq, Int.reduceNe, strs_eq, h3, h4, h2, c0, c1, hn]
    refine hI.use ?_
    cases hi : identS k.name with
    | false => simp only [WS, stepW, evalA, reduceIte, Nat.reduceEqDiff, reduceCtorEq, evalBin, Option.getD, Int.reduceToNat, Nat.reduceMul, Nat.reduceAdd, allocA, rowOf, fillA, partsV, setl, Nat.reduceLeDiff, AV.len, evalUn, Int.reduceLT, Int.reduceLE, Int.reduceEq, Int.reduceNe, strs_eq, h3, h4, h2, c0, c1, hi]; simp [kindS, hi]
    | true =>
      simp only [WS, stepW, evalA, reduceIte, Nat.reduceEqDiff, reduceCtorEq, evalBin, Option.getD, Int.reduceToNat, Nat.reduceMul, Nat.reduceAdd, allocA, rowOf, fillA, partsV, setl, Nat.reduceLeDiff, AV.len, evalUn, Int.reduceLT, Int.reduceLE, Int.reduceEq, Int.reduceNe, strs_eq, h3, h4, h2, c0, c1, hi]
      refine hR.use ?_
      cases hr : resS k.name with
      | true => simp only [WS, stepW, evalA, reduceIte, Nat.reduceEqDiff, reduceCtorEq, evalBin, Option.getD, Int.reduceToNat, Nat.reduceMul, Nat.reduceAdd, allocA, rowOf, fillA, partsV, setl, Nat.reduceLeDiff, AV.len, evalUn, Int.reduceLT, Int.reduceLE, Int.reduceEq, Int.reduceNe, strs_eq, h3, h4, h2, c0, c1, hr]; simp [kindS, hr]
      | false =>
        simp only [WS, stepW, evalA, reduceIte, Nat.reduceEqDiff, reduceCtorEq, evalBin, Option.getD, Int.reduceToNat, Nat.reduceMul, Nat.reduceAdd, allocA, rowOf, fillA, partsV, setl, Nat.reduceLeDiff, AV.len, evalUn, Int.reduceLT, Int.reduceLE, Int.reduceEq, Int.reduceNe, strs_eq, h3, h4, h2, c0, c1, hr]
        cases hl : (Op.bytesLess k.name last || k.name == last) with
        | true => simp only [WS, stepW, evalA, reduceIte, Nat.reduceEqDiff, reduceCtorEq, evalBin, Option.getD, Int.reduceToNat, Nat.reduceMul, Nat.reduceAdd, allocA, rowOf, fillA, partsV, setl, Nat.reduceLeDiff, AV.len, evalUn, Int.reduceLT, Int.reduceLE, Int.reduceEq, Int.reduceNe, strs_eq, h3, h4, h2, c0, c1, hl]; simp [kindS, hi, hr, hl]
        | false =>
          simp only [WS, stepW, evalA, reduceIte, Nat.reduceEqDiff, reduceCtorEq, evalBin, Option.getD, Int.reduceToNat, Nat.reduceMul, Nat.reduceAdd, allocA, rowOf, fillA, partsV, setl, Nat.reduceLeDiff, AV.len, evalUn, Int.reduceLT, Int.reduceLE, Int.reduceEq, Int.reduceNe, strs_eq, h3, h4, h2, c0, c1, hl]
          by_cases hf : (5 : Int) < k.fields.length
          · have hf' : 5 < k.fields.length := by omega
            simp only [WS, stepW, evalA, reduceIte, Nat.reduceEqDiff, reduceCtorEq, evalBin, Option.getD, Int.reduceToNat, Nat.reduceMul, Nat.reduceAdd, allocA, rowOf, fillA, partsV, setl, Nat.reduceLeDiff, AV.len, evalUn, Int.reduceLT, Int.reduceLE, Int.reduceEq, Int.reduceNe, strs_eq, h3, h4, h2, c0, c1, hf]; simp [kindS, hi, hr, hl, hf']
          · have hf' : ¬ 5 < k.fields.length := by omega
            simp only [WS, stepW, evalA, reduceIte, Nat.reduceEqDiff, reduceCtorEq, evalBin, Option.getD, Int.reduceToNat, Nat.reduceMul, Nat.reduceAdd, allocA, rowOf, fillA, partsV, setl, Nat.reduceLeDiff, AV.len, evalUn, Int.reduceLT, Int.reduceLE, Int.reduceEq, Int.reduceNe, strs_eq, h3, h4, h2, c0, c1, hf]
            by_cases hp : (4 : Int) < k.parents.length
            · have hp' : 4 < k.parents.length := by omega
              simp only [WS, stepW, evalA, reduceIte, Nat.reduceEqDiff, reduceCtorEq, evalBin, Option.getD, Int.reduceToNat, Nat.reduceMul, Nat.reduceAdd, allocA, rowOf, fillA, partsV, setl, Nat.reduceLeDiff, AV.len, evalUn, Int.reduceLT, Int.reduceLE, Int.reduceEq, Int.reduceNe, strs_eq, h3, h4, h2, c0, c1, hp]; simp [kindS, hi, hr, hl, hp']
            · have hp' : ¬ 4 < k.parents.length := by omega
              simp only [WS, stepW, evalA, reduceIte, Nat.reduceEqDiff, reduceCtorEq, evalBin, Option.getD, Int.reduceToNat, Nat.reduceMul, Nat.reduceAdd, allocA, rowOf, fillA, partsV, setl, Nat.reduceLeDiff, AV.len, evalUn, Int.reduceLT, Int.reduceLE, Int.reduceEq, Int.reduceNe, strs_eq, h3, h4, h2, c0, c1, hp, hn]
              simp [kindS, hi, hr, hl, hf', hp']
  rintro ρ s' ⟨h3, h4, c0, c1, hn, hspec⟩
  rw [hspec]
  clear hspec hI hR
  have sg := scSeg s
  rw [wpC_seq]
  refine w_mid (fun ρ s' => ρ.rd 3 = .ptr 0 0 ∧ ρ.rd 4 = .ptr 1 0 ∧ s'.cells 0 = some [slc Kd.c s.kinds, slc Ac.c s.acts] ∧ s'.cells 1 = some [.str k.name, strs k.parents, slc Fl.c k.fields] ∧ s'.n = 2 ∧
    k.parents.all (hasS s.kinds) = true) ?_ ?_
  · simp only [WS, stepW, evalA, reduceIte, Nat.reduceEqDiff, reduceCtorEq, evalBin, Option.getD, Int.reduceToNat, Nat.reduceMul, Nat.reduceAdd, allocA, rowOf, fillA, partsV, setl, Nat.reduceLeDiff, AV.len, evalUn, Int.reduceLT, Int.reduceLE, Int.reduceEq, Int.reduceNe, strs_eq, h3, h4, c0, c1, hn]
    refine w_for (fun i ρ s' => ρ.rd 41 = .int .i64 i ∧ ρ.rd 40 = .int .i64 k.parents.length ∧ ρ.rd 39 = strs k.parents ∧ ρ.rd 3 = .ptr 0 0 ∧ ρ.rd 4 = .ptr 1 0 ∧ s'.cells 0 = some [slc Kd.c s.kinds, slc Ac.c s.acts] ∧ s'.cells 1 = some [.str k.name, strs k.parents, slc Fl.c k.fields] ∧ s'.n = 2 ∧
      (k.parents.take i).all (hasS s.kinds) = true) k.parents.length ?_ ?_
    · simp only [WS, stepW, evalA, reduceIte, Nat.reduceEqDiff, reduceCtorEq, evalBin, Option.getD, Int.reduceToNat, Nat.reduceMul, Nat.reduceAdd, allocA, rowOf, fillA, partsV, setl, Nat.reduceLeDiff, AV.len, evalUn, Int.reduceLT, Int.reduceLE, Int.reduceEq, Int.reduceNe, strs_eq, h3, h4, c0, c1, hn, List.take_zero, List.all_nil]
      rfl
    · rintro i ρ s' hi ⟨h41, h40, h39, h3, h4, c0, c1, hn, hall⟩
      simp only [WS, stepW, evalA, reduceIte, Nat.reduceEqDiff, reduceCtorEq, evalBin, Option.getD, Int.reduceToNat, Nat.reduceMul, Nat.reduceAdd, allocA, rowOf, fillA, partsV, setl, Nat.reduceLeDiff, AV.len, evalUn, Int.reduceLT, Int.reduceLE, Int.reduceEq, Int.reduceNe, strs_eq, h41, h40, h39]
      refine Br_dec (fun hlt' => ?_) (fun hge => ?_)
      · have hlt : i < k.parents.length := by omega
        have hr := lt_idx hlt
        have hg := strs_get hlt
        have hw : IntKind.i64.wrap ((i : Int) + 1) = ((i + 1 : Nat) : Int) := wrap_succ (by have : Most = 9223372036854775807 := rfl; have := hk.1; omega)
        have hH := has_ac (s := s) (n := k.parents[i]) (σ := s') hs
        rw [Sc.c_eq, slc_eq, slc_eq] at hH
        simp only [WS, stepW, evalA, reduceIte, Nat.reduceEqDiff, reduceCtorEq, evalBin, Option.getD, Int.reduceToNat, Nat.reduceMul, Nat.reduceAdd, allocA, rowOf, fillA, partsV, setl, Nat.reduceLeDiff, AV.len, evalUn, Int.reduceLT, Int.reduceLE, Int.reduceEq, Int.reduceNe, strs_eq, h41, h40, h39, hr, hg, h3, c0, sg]
        refine hH.use ?_
        cases hh : hasS s.kinds k.parents[i] with
        | true =>
          simp only [WS, stepW, evalA, reduceIte, Nat.reduceEqDiff, reduceCtorEq, evalBin, Option.getD, Int.reduceToNat, Nat.reduceMul, Nat.reduceAdd, allocA, rowOf, fillA, partsV, setl, Nat.reduceLeDiff, AV.len, evalUn, Int.reduceLT, Int.reduceLE, Int.reduceEq, Int.reduceNe, strs_eq, h41, h40, h39, h3, h4, c0, c1, hn, hw, hh]
          refine ⟨hlt, ?_⟩
          rw [List.take_add_one, List.all_append, hall, List.getElem?_eq_getElem hlt]
          simp [hh]
        | false =>
          simp only [WS, stepW, evalA, reduceIte, Nat.reduceEqDiff, reduceCtorEq, evalBin, Option.getD, Int.reduceToNat, Nat.reduceMul, Nat.reduceAdd, allocA, rowOf, fillA, partsV, setl, Nat.reduceLeDiff, AV.len, evalUn, Int.reduceLT, Int.reduceLE, Int.reduceEq, Int.reduceNe, strs_eq, h41, h40, h39, h3, h4, c0, c1, hn, hw, hh]
          have : k.parents.all (hasS s.kinds) = false := by
            rw [List.all_eq_false]; exact ⟨_, List.getElem_mem hlt, by simp [hh]⟩
          simp [this]
      · have : i = k.parents.length := by omega
        subst this
        rw [List.take_length] at hall
        simp only [WS, stepW, evalA, reduceIte, Nat.reduceEqDiff, reduceCtorEq, evalBin, Option.getD, Int.reduceToNat, Nat.reduceMul, Nat.reduceAdd, allocA, rowOf, fillA, partsV, setl, Nat.reduceLeDiff, AV.len, evalUn, Int.reduceLT, Int.reduceLE, Int.reduceEq, Int.reduceNe, strs_eq, h41, h40, h39, h3, h4, c0, c1, hn, hall]
  rintro ρ s' ⟨h3, h4, c0, c1, hn, hall⟩
  rw [hall]
  simp only [WS, stepW, evalA, reduceIte, Nat.reduceEqDiff, reduceCtorEq, evalBin, Option.getD, Int.reduceToNat, Nat.reduceMul, Nat.reduceAdd, allocA, rowOf, fillA, partsV, setl, Nat.reduceLeDiff, AV.len, evalUn, Int.reduceLT, Int.reduceLE, Int.reduceEq, Int.reduceNe, strs_eq, h3, h4, c0, c1, hn]
  refine w_for (fun i ρ s' => ρ.rd 53 = .int .i64 i ∧ ρ.rd 52 = .int .i64 k.fields.length ∧ ρ.rd 51 = slc Fl.c k.fields ∧ ρ.rd 3 = .ptr 0 0 ∧ s'.cells 0 = some [slc Kd.c s.kinds, slc Ac.c s.acts] ∧ 2 ≤ s'.n ∧
      ∃ lst, ρ.rd 2 = .str lst ∧ fieldsS s.kinds [] k.fields = fieldsS s.kinds lst (k.fields.drop i)) k.fields.length ?_ ?_
  · simp only [WS, stepW, evalA, reduceIte, Nat.reduceEqDiff, reduceCtorEq, evalBin, Option.getD, Int.reduceToNat, Nat.reduceMul, Nat.reduceAdd, allocA, rowOf, fillA, partsV, setl, Nat.reduceLeDiff, AV.len, evalUn, Int.reduceLT, Int.reduceLE, Int.reduceEq, Int.reduceNe, strs_eq, h3, h4, c0, c1, hn]
    exact ⟨rfl, [], rfl, rfl⟩
  · rintro i ρ s' hi ⟨h53, h52, h51, h3, c0, hn, lst, h2, hspec⟩
    simp only [WS, stepW, evalA, reduceIte, Nat.reduceEqDiff, reduceCtorEq, evalBin, Option.getD, Int.reduceToNat, Nat.reduceMul, Nat.reduceAdd, allocA, rowOf, fillA, partsV, setl, Nat.reduceLeDiff, AV.len, evalUn, Int.reduceLT, Int.reduceLE, Int.reduceEq, Int.reduceNe, strs_eq, h53, h52, h51]
    refine Br_dec (fun hlt' => ?_) (fun hge => ?_)
    · have hlt : i < k.fields.length := by omega
      have hr := lt_idx hlt
      have A := flAt hlt
      have hw : IntKind.i64.wrap ((i : Int) + 1) = ((i + 1 : Nat) : Int) := wrap_succ (by have : Most = 9223372036854775807 := rfl; have := hk.2; omega)
      simp only [WS, stepW, evalA, reduceIte, Nat.reduceEqDiff, reduceCtorEq, evalBin, Option.getD, Int.reduceToNat, Nat.reduceMul, Nat.reduceAdd, allocA, rowOf, fillA, partsV, setl, Nat.reduceLeDiff, AV.len, evalUn, Int.reduceLT, Int.reduceLE, Int.reduceEq, Int.reduceNe, strs_eq, h53, h52, h51, hr, A.fit, A.all, storeA, sets, setx, List.take_zero, List.drop_succ_cons, List.drop_zero, List.take_succ_cons]
      have n0 : ¬ 0 = s'.n := by omega
      have hfd : fieldsS s.kinds lst (k.fields.drop i) = if identS k.fields[i].name = false then 15 else if (Op.bytesLess k.fields[i].name lst || k.fields[i].name == lst) = true then 7 else if kindOfS s.kinds k.fields[i].ty ≠ 0 then kindOfS s.kinds k.fields[i].ty else fieldsS s.kinds k.fields[i].name (k.fields.drop (i + 1)) := by
        rw [List.drop_eq_getElem_cons hlt, fieldsS]
      refine (identL_ac (ht.2 _ (List.getElem_mem hlt))).use ?_
      cases hi : identS k.fields[i].name with
      | false => simp only [WS, stepW, evalA, reduceIte, Nat.reduceEqDiff, reduceCtorEq, evalBin, Option.getD, Int.reduceToNat, Nat.reduceMul, Nat.reduceAdd, allocA, rowOf, fillA, partsV, setl, Nat.reduceLeDiff, AV.len, evalUn, Int.reduceLT, Int.reduceLE, Int.reduceEq, Int.reduceNe, strs_eq, hi]; rw [hspec, hfd, hi]; simp
      | true =>
        simp only [WS, stepW, evalA, reduceIte, Nat.reduceEqDiff, reduceCtorEq, evalBin, Option.getD, Int.reduceToNat, Nat.reduceMul, Nat.reduceAdd, allocA, rowOf, fillA, partsV, setl, Nat.reduceLeDiff, AV.len, evalUn, Int.reduceLT, Int.reduceLE, Int.reduceEq, Int.reduceNe, strs_eq, hi, h2]
        cases hl : (Op.bytesLess k.fields[i].name lst || k.fields[i].name == lst) with
        | true => simp only [WS, stepW, evalA, reduceIte, Nat.reduceEqDiff, reduceCtorEq, evalBin, Option.getD, Int.reduceToNat, Nat.reduceMul, Nat.reduceAdd, allocA, rowOf, fillA, partsV, setl, Nat.reduceLeDiff, AV.len, evalUn, Int.reduceLT, Int.reduceLE, Int.reduceEq, Int.reduceNe, strs_eq, hl]; rw [hspec, hfd, hi, hl]; simp
        | false =>
          simp only [WS, stepW, evalA, reduceIte, Nat.reduceEqDiff, reduceCtorEq, evalBin, Option.getD, Int.reduceToNat, Nat.reduceMul, Nat.reduceAdd, allocA, rowOf, fillA, partsV, setl, Nat.reduceLeDiff, AV.len, evalUn, Int.reduceLT, Int.reduceLE, Int.reduceEq, Int.reduceNe, strs_eq, hl, h3, c0, n0, sg]
          have sgt : seg [AV.str k.fields[i].name, AV.int .i64 k.fields[i].ty.kind, AV.int .i64 k.fields[i].ty.of_, AV.str k.fields[i].ty.name] 1 3 = k.fields[i].ty.c := rfl
          rw [sgt]
          refine (kindOf_ac (s := s) (t := k.fields[i].ty) hs).use ?_
          simp only [WS, stepW, evalA, reduceIte, Nat.reduceEqDiff, reduceCtorEq, evalBin, Option.getD, Int.reduceToNat, Nat.reduceMul, Nat.reduceAdd, allocA, rowOf, fillA, partsV, setl, Nat.reduceLeDiff, AV.len, evalUn, Int.reduceLT, Int.reduceLE, Int.reduceEq, Int.reduceNe, strs_eq]
          refine Br_dec (fun h0 => ?_) (fun h0 => ?_)
          · simp only [WS, stepW, evalA, reduceIte, Nat.reduceEqDiff, reduceCtorEq, evalBin, Option.getD, Int.reduceToNat, Nat.reduceMul, Nat.reduceAdd, allocA, rowOf, fillA, partsV, setl, Nat.reduceLeDiff, AV.len, evalUn, Int.reduceLT, Int.reduceLE, Int.reduceEq, Int.reduceNe, strs_eq, h0]
            rw [hspec, hfd, hi, hl, if_neg (by simp), if_neg (by simp), if_pos h0]
          · simp only [WS, stepW, evalA, reduceIte, Nat.reduceEqDiff, reduceCtorEq, evalBin, Option.getD, Int.reduceToNat, Nat.reduceMul, Nat.reduceAdd, allocA, rowOf, fillA, partsV, setl, Nat.reduceLeDiff, AV.len, evalUn, Int.reduceLT, Int.reduceLE, Int.reduceEq, Int.reduceNe, strs_eq, h0, h53, h52, h51, h3, c0, n0, hw]
            refine ⟨hlt, by omega, _, rfl, ?_⟩
            rw [hspec, hfd, hi, hl, if_neg (by simp), if_neg (by simp), if_neg h0]
    · have : i = k.fields.length := by omega
      subst this
      rw [hspec, List.drop_length]
      simp only [WS, stepW, evalA, reduceIte, Nat.reduceEqDiff, reduceCtorEq, evalBin, Option.getD, Int.reduceToNat, Nat.reduceMul, Nat.reduceAdd, allocA, rowOf, fillA, partsV, setl, Nat.reduceLeDiff, AV.len, evalUn, Int.reduceLT, Int.reduceLE, Int.reduceEq, Int.reduceNe, strs_eq, h53, h52, h51, h3, fieldsS]
end Go.Proofs.Ytaokfpjjaejjgaa.Va
