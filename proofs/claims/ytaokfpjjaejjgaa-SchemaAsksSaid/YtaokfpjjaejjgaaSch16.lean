/- Requests, told by both. Conditions: none. -/
import Derived.Test.YtaokfpjjaejjgaaSch15
set_option maxRecDepth 100000
set_option maxHeartbeats 4000000
set_option linter.all false
namespace Go.Proofs.Ytaokfpjjaejjgaa.Va
open Go.Proofs
def inS (l : List Str) (n : Str) : Bool := l.any fun x => decide (x = n)
theorem inS_step {l : List Str} {n : Str} {i : Nat} (h : i < l.length) (hno : inS (l.take i) n = false) : inS (l.take (i + 1)) n = decide (l[i] = n) := by
  rw [inS, List.take_add_one, List.any_append, show (l.take i).any (fun x => decide (x = n)) = false from hno, List.getElem?_eq_getElem h]
  simp
theorem inS_yes {l : List Str} {n : Str} {i : Nat} (h : i < l.length) (hy : l[i] = n) : inS l n = true := by
  rw [inS, List.any_eq_true]; exact ⟨_, List.getElem_mem h, by simp [hy]⟩
theorem index_st0 {l : List Str} {n : Str} (hl : l.length ≤ 1000) : AC Try.prog 55 [strs l, .str n] st0 fun v s => ∃ i : Int, v = .int .i64 i ∧ decide (0 ≤ i) = inS l n := by
  refine ac_wp fn55 cf55 cl55 rfl ?_
  simp only [ac55]
  unfold ab55
  simp only [WS, stepW, evalA, reduceIte, Nat.reduceEqDiff, reduceCtorEq, evalBin, Option.getD, Int.reduceToNat, Nat.reduceMul, Nat.reduceAdd, allocA, rowOf, fillA, partsV, setl, Nat.reduceLeDiff, AV.len, evalUn, Int.reduceLT, Int.reduceLE, Int.reduceEq, Int.reduceNe, strs_eq]
  refine w_for (fun i ρ s => ρ.rd 8 = .int .i64 i ∧ ρ.rd 7 = .int .i64 l.length ∧ ρ.rd 0 = strs l ∧ ρ.rd 1 = .str n ∧ inS (l.take i) n = false) l.length ?_ ?_
  · simp only [WS, stepW, evalA, reduceIte, Nat.reduceEqDiff, reduceCtorEq, evalBin, Option.getD, Int.reduceToNat, Nat.reduceMul, Nat.reduceAdd, allocA, rowOf, fillA, partsV, setl, Nat.reduceLeDiff, AV.len, evalUn, Int.reduceLT, Int.reduceLE, Int.reduceEq, Int.reduceNe, strs_eq]
    exact ⟨rfl, rfl⟩
  · rintro i ρ s hi ⟨h8, h7, h0, h1, hno⟩
    simp only [WS, stepW, evalA, reduceIte, Nat.reduceEqDiff, reduceCtorEq, evalBin, Option.getD, Int.reduceToNat, Nat.reduceMul, Nat.reduceAdd, allocA, rowOf, fillA, partsV, setl, Nat.reduceLeDiff, AV.len, evalUn, Int.reduceLT, Int.reduceLE, Int.reduceEq, Int.reduceNe, strs_eq, h8, h7]
    refine Br_dec (fun hlt' => ?_) (fun hge => ?_)
    · have hlt : i < l.length := by omega
      have hr := lt_idx hlt
      have hg := strs_get hlt
      have hw : IntKind.i64.wrap ((i : Int) + 1) = ((i + 1 : Nat) : Int) := wrap_succ (by omega)
      simp only [WS, stepW, evalA, reduceIte, Nat.reduceEqDiff, reduceCtorEq, evalBin, Option.getD, Int.reduceToNat, Nat.reduceMul, Nat.reduceAdd, allocA, rowOf, fillA, partsV, setl, Nat.reduceLeDiff, AV.len, evalUn, Int.reduceLT, Int.reduceLE, Int.reduceEq, Int.reduceNe, strs_eq, h8, h7, h0, h1, hr, hg]
      refine Br_dec (fun hy => ?_) (fun hn => ?_)
      · simp only [WS, stepW, evalA, reduceIte, Nat.reduceEqDiff, reduceCtorEq, evalBin, Option.getD, Int.reduceToNat, Nat.reduceMul, Nat.reduceAdd, allocA, rowOf, fillA, partsV, setl, Nat.reduceLeDiff, AV.len, evalUn, Int.reduceLT, Int.reduceLE, Int.reduceEq, Int.reduceNe, strs_eq, h8]
        refine ⟨_, rfl, ?_⟩
        rw [inS_yes hlt hy.symm]; simp
      · simp only [WS, stepW, evalA, reduceIte, Nat.reduceEqDiff, reduceCtorEq, evalBin, Option.getD, Int.reduceToNat, Nat.reduceMul, Nat.reduceAdd, allocA, rowOf, fillA, partsV, setl, Nat.reduceLeDiff, AV.len, evalUn, Int.reduceLT, Int.reduceLE, Int.reduceEq, Int.reduceNe, strs_eq, h8, h7, h0, h1, hw]
        refine ⟨hlt, ?_⟩
        rw [inS_step hlt hno, decide_eq_false fun e => hn e.symm]
    · have : i = l.length := by omega
      subst this
      rw [List.take_length] at hno
      simp only [WS, stepW, evalA, reduceIte, Nat.reduceEqDiff, reduceCtorEq, evalBin, Option.getD, Int.reduceToNat, Nat.reduceMul, Nat.reduceAdd, allocA, rowOf, fillA, partsV, setl, Nat.reduceLeDiff, AV.len, evalUn, Int.reduceLT, Int.reduceLE, Int.reduceEq, Int.reduceNe, strs_eq, h8]
      exact ⟨_, rfl, by rw [hno]; rfl⟩
theorem index_ac {l : List Str} {n : Str} {σ : AState} (hl : l.length ≤ 1000) : AC Try.prog 55 [strs l, .str n] σ fun v s => s = σ ∧ ∃ i : Int, v = .int .i64 i ∧ decide (0 ≤ i) = inS l n :=
  AC.share (R := fun v => ∃ i : Int, v = .int .i64 i ∧ decide (0 ≤ i) = inS l n) (.cons (strs_fxd l) (.cons (.flat rfl) .nil)) ((index_st0 hl).mono fun v s h => by obtain ⟨i, rfl, hi⟩ := h; exact ⟨_, .flat _ rfl, i, rfl, hi⟩)
theorem cont_ac {l : List Str} {n : Str} {σ : AState} (hl : l.length ≤ 1000) : AC Try.prog 37 [strs l, .str n] σ fun v s => s = σ ∧ v = .bool (inS l n) := by
  refine ac_wp fn37 cf37 cl37 rfl ?_
  simp only [ac37]
  unfold ab37
  have hI := index_ac (n := n) (σ := σ) hl
  rw [strs_eq] at hI
  simp only [WS, stepW, evalA, reduceIte, Nat.reduceEqDiff, reduceCtorEq, evalBin, Option.getD, Int.reduceToNat, Nat.reduceMul, Nat.reduceAdd, allocA, rowOf, fillA, partsV, setl, Nat.reduceLeDiff, AV.len, evalUn, Int.reduceLT, Int.reduceLE, Int.reduceEq, Int.reduceNe, strs_eq]
  refine hI.mono ?_
  rintro v s ⟨rfl, i, rfl, hi⟩
  simp only [WS, stepW, evalA, reduceIte, Nat.reduceEqDiff, reduceCtorEq, evalBin, Option.getD, Int.reduceToNat, Nat.reduceMul, Nat.reduceAdd, allocA, rowOf, fillA, partsV, setl, Nat.reduceLeDiff, AV.len, evalUn, Int.reduceLT, Int.reduceLE, Int.reduceEq, Int.reduceNe, strs_eq, hi]
theorem inR_ac {l : List Str} {n : Str} {σ : AState} (hl : l.length ≤ 1000) : AC Try.prog 47 [strs l, .str n] σ fun v s => s = σ ∧ v = .bool (inS l n) := by
  refine ac_wp fn47 cf47 cl47 rfl ?_
  simp only [ac47]
  unfold ab47
  simp only [WS, stepW, evalA, reduceIte, Nat.reduceEqDiff, reduceCtorEq, evalBin, Option.getD, Int.reduceToNat, Nat.reduceMul, Nat.reduceAdd, allocA, rowOf, fillA, partsV, setl, Nat.reduceLeDiff, AV.len, evalUn, Int.reduceLT, Int.reduceLE, Int.reduceEq, Int.reduceNe, strs_eq]
  refine w_for (fun i ρ s => s = σ ∧ ρ.rd 5 = .int .i64 i ∧ ρ.rd 0 = strs l ∧ ρ.rd 1 = .str n ∧ inS (l.take i) n = false) l.length ?_ ?_
  · simp only [WS, stepW, evalA, reduceIte, Nat.reduceEqDiff, reduceCtorEq, evalBin, Option.getD, Int.reduceToNat, Nat.reduceMul, Nat.reduceAdd, allocA, rowOf, fillA, partsV, setl, Nat.reduceLeDiff, AV.len, evalUn, Int.reduceLT, Int.reduceLE, Int.reduceEq, Int.reduceNe, strs_eq]
    exact ⟨rfl, rfl⟩
  · rintro i ρ s hi ⟨rfl, h5, h0, h1, hno⟩
    simp only [WS, stepW, evalA, reduceIte, Nat.reduceEqDiff, reduceCtorEq, evalBin, Option.getD, Int.reduceToNat, Nat.reduceMul, Nat.reduceAdd, allocA, rowOf, fillA, partsV, setl, Nat.reduceLeDiff, AV.len, evalUn, Int.reduceLT, Int.reduceLE, Int.reduceEq, Int.reduceNe, strs_eq, h5, h0]
    refine Br_dec (fun hlt' => ?_) (fun hge => ?_)
    · have hlt : i < l.length := by omega
      have hr := lt_idx hlt
      have hg := strs_get hlt
      have hw : IntKind.i64.wrap ((i : Int) + 1) = ((i + 1 : Nat) : Int) := wrap_succ (by omega)
      simp only [WS, stepW, evalA, reduceIte, Nat.reduceEqDiff, reduceCtorEq, evalBin, Option.getD, Int.reduceToNat, Nat.reduceMul, Nat.reduceAdd, allocA, rowOf, fillA, partsV, setl, Nat.reduceLeDiff, AV.len, evalUn, Int.reduceLT, Int.reduceLE, Int.reduceEq, Int.reduceNe, strs_eq, h5, h0, h1, hr, hg]
      refine Br_dec (fun hy => ?_) (fun hn => ?_)
      · simp only [WS, stepW, evalA, reduceIte, Nat.reduceEqDiff, reduceCtorEq, evalBin, Option.getD, Int.reduceToNat, Nat.reduceMul, Nat.reduceAdd, allocA, rowOf, fillA, partsV, setl, Nat.reduceLeDiff, AV.len, evalUn, Int.reduceLT, Int.reduceLE, Int.reduceEq, Int.reduceNe, strs_eq]
        rw [inS_yes hlt hy]
      · simp only [WS, stepW, evalA, reduceIte, Nat.reduceEqDiff, reduceCtorEq, evalBin, Option.getD, Int.reduceToNat, Nat.reduceMul, Nat.reduceAdd, allocA, rowOf, fillA, partsV, setl, Nat.reduceLeDiff, AV.len, evalUn, Int.reduceLT, Int.reduceLE, Int.reduceEq, Int.reduceNe, strs_eq, h5, h0, h1, hw]
        refine ⟨hlt, ?_⟩
        rw [inS_step hlt hno, decide_eq_false hn]
    · have : i = l.length := by omega
      subst this
      rw [List.take_length] at hno
      simp only [WS, stepW, evalA, reduceIte, Nat.reduceEqDiff, reduceCtorEq, evalBin, Option.getD, Int.reduceToNat, Nat.reduceMul, Nat.reduceAdd, allocA, rowOf, fillA, partsV, setl, Nat.reduceLeDiff, AV.len, evalUn, Int.reduceLT, Int.reduceLE, Int.reduceEq, Int.reduceNe, strs_eq]
      rw [hno]
/- ------------------------------------------------ requests -/
structure Rq where
  pt : Str
  pi : Str
  at_ : Str
  ai : Str
  rt : Str
  ri : Str
def Rq.c (q : Rq) : List AV := [.str q.pt, .str q.pi, .str q.at_, .str q.ai, .str q.rt, .str q.ri]
theorem Rq.c_eq (q : Rq) : q.c = [.str q.pt, .str q.pi, .str q.at_, .str q.ai, .str q.rt, .str q.ri] := Eq.trans rfl rfl
theorem Rq.fxd (q : Rq) : FxdL q.c := .cons (.flat rfl) (.cons (.flat rfl) (.cons (.flat rfl) (.cons (.flat rfl) (.cons (.flat rfl) (.cons (.flat rfl) .nil)))))
def actionS : Str := [65, 99, 116, 105, 111, 110]
def fitsS (s : Sc) (q : Rq) : Int := match s.acts.find? (fun k => decide (k.name = q.ai)) with
  | none => 15
  | some a => if q.at_ ≠ actionS then 15 else if inS a.prins q.pt = false ∨ inS a.ress q.rt = false then 16 else 0
theorem fits_st0 {s : Sc} {q : Rq} (hs : s.ok) (hg : ∀ k ∈ s.acts, AcG k) : AC Try.prog 17 [.agg s.c, .agg q.c] st0 fun v _ => v = .int .i64 (fitsS s q) := by
  refine ac_wp fn17 cf17 cl17 rfl ?_
  simp only [ac17]
  unfold ab17
  have sg := scSeg s
  have hA : ∀ σ, AC Try.prog 22 [.agg s.c, .str q.ai] σ fun v s' => s' = σ ∧ v = actV s.acts q.ai := fun σ => act22_ac hs hg
  simp only [Sc.c_eq, slc_eq] at hA
  simp only [WS, stepW, evalA, reduceIte, Nat.reduceEqDiff, reduceCtorEq, evalBin, Option.getD, Int.reduceToNat, Nat.reduceMul, Nat.reduceAdd, allocA, rowOf, fillA, partsV, setl, Nat.reduceLeDiff, AV.len, evalUn, Int.reduceLT, Int.reduceLE, Int.reduceEq, Int.reduceNe, strs_eq, Sc.c_eq, Rq.c_eq, sg]
  refine (hA _).use ?_
  unfold actV fitsS
  have hAc : ([65, 99, 116, 105, 111, 110] : List UInt8) = actionS := rfl
  cases hf : s.acts.find? (fun k => decide (k.name = q.ai)) with
  | none =>
    simp only [WS, stepW, evalA, reduceIte, Nat.reduceEqDiff, reduceCtorEq, evalBin, Option.getD, Int.reduceToNat, Nat.reduceMul, Nat.reduceAdd, allocA, rowOf, fillA, partsV, setl, Nat.reduceLeDiff, AV.len, evalUn, Int.reduceLT, Int.reduceLE, Int.reduceEq, Int.reduceNe, strs_eq, hf, storeA, sets, setx, List.take_zero, List.drop_succ_cons, List.drop_zero, List.take_succ_cons]
  | some a =>
    have haG := hg a (List.mem_of_find?_eq_some hf)
    by_cases ht : q.at_ = actionS
    · simp only [WS, stepW, evalA, reduceIte, Nat.reduceEqDiff, reduceCtorEq, evalBin, Option.getD, Int.reduceToNat, Nat.reduceMul, Nat.reduceAdd, allocA, rowOf, fillA, partsV, setl, Nat.reduceLeDiff, AV.len, evalUn, Int.reduceLT, Int.reduceLE, Int.reduceEq, Int.reduceNe, strs_eq, hf, Ac.c_eq, hAc, ht, storeA, sets, setx, List.take_zero, List.drop_succ_cons, List.drop_zero, List.take_succ_cons]
      refine AC.use (cont_ac (l := a.prins) (n := q.pt) (by have := haG.pl; omega)) ?_
      cases h1 : inS a.prins q.pt with
      | false =>
        simp only [WS, stepW, evalA, reduceIte, Nat.reduceEqDiff, reduceCtorEq, evalBin, Option.getD, Int.reduceToNat, Nat.reduceMul, Nat.reduceAdd, allocA, rowOf, fillA, partsV, setl, Nat.reduceLeDiff, AV.len, evalUn, Int.reduceLT, Int.reduceLE, Int.reduceEq, Int.reduceNe, strs_eq, h1]
        simp
      | true =>
        simp only [WS, stepW, evalA, reduceIte, Nat.reduceEqDiff, reduceCtorEq, evalBin, Option.getD, Int.reduceToNat, Nat.reduceMul, Nat.reduceAdd, allocA, rowOf, fillA, partsV, setl, Nat.reduceLeDiff, AV.len, evalUn, Int.reduceLT, Int.reduceLE, Int.reduceEq, Int.reduceNe, strs_eq, h1]
        refine AC.use (cont_ac (l := a.ress) (n := q.rt) (by have := haG.rl; omega)) ?_
        cases h2 : inS a.ress q.rt with
        | false => simp only [WS, stepW, evalA, reduceIte, Nat.reduceEqDiff, reduceCtorEq, evalBin, Option.getD, Int.reduceToNat, Nat.reduceMul, Nat.reduceAdd, allocA, rowOf, fillA, partsV, setl, Nat.reduceLeDiff, AV.len, evalUn, Int.reduceLT, Int.reduceLE, Int.reduceEq, Int.reduceNe, strs_eq, h2]; simp
        | true => simp only [WS, stepW, evalA, reduceIte, Nat.reduceEqDiff, reduceCtorEq, evalBin, Option.getD, Int.reduceToNat, Nat.reduceMul, Nat.reduceAdd, allocA, rowOf, fillA, partsV, setl, Nat.reduceLeDiff, AV.len, evalUn, Int.reduceLT, Int.reduceLE, Int.reduceEq, Int.reduceNe, strs_eq, h2]; simp
    · simp only [WS, stepW, evalA, reduceIte, Nat.reduceEqDiff, reduceCtorEq, evalBin, Option.getD, Int.reduceToNat, Nat.reduceMul, Nat.reduceAdd, allocA, rowOf, fillA, partsV, setl, Nat.reduceLeDiff, AV.len, evalUn, Int.reduceLT, Int.reduceLE, Int.reduceEq, Int.reduceNe, strs_eq, hf, Ac.c_eq, hAc, ht, storeA, sets, setx, List.take_zero, List.drop_succ_cons, List.drop_zero, List.take_succ_cons]
theorem fits_ac {s : Sc} {q : Rq} {σ : AState} (hs : s.ok) (hg : ∀ k ∈ s.acts, AcG k) : AC Try.prog 17 [.agg s.c, .agg q.c] σ fun v s' => s' = σ ∧ v = .int .i64 (fitsS s q) :=
  AC.told (.cons (.agg (Sc.fxd s)) (.cons (.agg (Rq.fxd q)) .nil)) rfl (fits_st0 hs hg)
theorem fitsR_st0 {s : Sc} {q : Rq} (hs : s.ok) (hg : ∀ k ∈ s.acts, AcG k) : AC Try.prog 25 [.agg s.c, .agg q.c] st0 fun v _ => v = .int .i64 (fitsS s q) := by
  refine ac_wp fn25 cf25 cl25 rfl ?_
  simp only [ac25]
  unfold ab25
  have sg := scSeg s
  have hA : ∀ σ, AC Try.prog 16 [.agg s.c, .str q.ai] σ fun v s' => s' = σ ∧ v = actV s.acts q.ai := fun σ => actR_ac hs
  simp only [Sc.c_eq, slc_eq] at hA
  simp only [WS, stepW, evalA, reduceIte, Nat.reduceEqDiff, reduceCtorEq, evalBin, Option.getD, Int.reduceToNat, Nat.reduceMul, Nat.reduceAdd, allocA, rowOf, fillA, partsV, setl, Nat.reduceLeDiff, AV.len, evalUn, Int.reduceLT, Int.reduceLE, Int.reduceEq, Int.reduceNe, strs_eq, Sc.c_eq, Rq.c_eq, sg]
  refine (hA _).use ?_
  unfold actV fitsS
  have hAc : ([65, 99, 116, 105, 111, 110] : List UInt8) = actionS := rfl
  cases hf : s.acts.find? (fun k => decide (k.name = q.ai)) with
  | none =>
    by_cases ht : q.at_ = actionS
    · simp only [WS, stepW, evalA, reduceIte, Nat.reduceEqDiff, reduceCtorEq, evalBin, Option.getD, Int.reduceToNat, Nat.reduceMul, Nat.reduceAdd, allocA, rowOf, fillA, partsV, setl, Nat.reduceLeDiff, AV.len, evalUn, Int.reduceLT, Int.reduceLE, Int.reduceEq, Int.reduceNe, strs_eq, hf, hAc, ht, storeA, sets, setx, List.take_zero, List.drop_succ_cons, List.drop_zero, List.take_succ_cons]
    · simp only [WS, stepW, evalA, reduceIte, Nat.reduceEqDiff, reduceCtorEq, evalBin, Option.getD, Int.reduceToNat, Nat.reduceMul, Nat.reduceAdd, allocA, rowOf, fillA, partsV, setl, Nat.reduceLeDiff, AV.len, evalUn, Int.reduceLT, Int.reduceLE, Int.reduceEq, Int.reduceNe, strs_eq, hf, hAc, ht, storeA, sets, setx, List.take_zero, List.drop_succ_cons, List.drop_zero, List.take_succ_cons]
  | some a =>
    have haG := hg a (List.mem_of_find?_eq_some hf)
    by_cases ht : q.at_ = actionS
    · simp only [WS, stepW, evalA, reduceIte, Nat.reduceEqDiff, reduceCtorEq, evalBin, Option.getD, Int.reduceToNat, Nat.reduceMul, Nat.reduceAdd, allocA, rowOf, fillA, partsV, setl, Nat.reduceLeDiff, AV.len, evalUn, Int.reduceLT, Int.reduceLE, Int.reduceEq, Int.reduceNe, strs_eq, hf, Ac.c_eq, hAc, ht, storeA, sets, setx, List.take_zero, List.drop_succ_cons, List.drop_zero, List.take_succ_cons]
      refine AC.use (inR_ac (l := a.prins) (n := q.pt) (by have := haG.pl; omega)) ?_
      cases h1 : inS a.prins q.pt with
      | false =>
        simp only [WS, stepW, evalA, reduceIte, Nat.reduceEqDiff, reduceCtorEq, evalBin, Option.getD, Int.reduceToNat, Nat.reduceMul, Nat.reduceAdd, allocA, rowOf, fillA, partsV, setl, Nat.reduceLeDiff, AV.len, evalUn, Int.reduceLT, Int.reduceLE, Int.reduceEq, Int.reduceNe, strs_eq, h1]
        simp
      | true =>
        simp only [WS, stepW, evalA, reduceIte, Nat.reduceEqDiff, reduceCtorEq, evalBin, Option.getD, Int.reduceToNat, Nat.reduceMul, Nat.reduceAdd, allocA, rowOf, fillA, partsV, setl, Nat.reduceLeDiff, AV.len, evalUn, Int.reduceLT, Int.reduceLE, Int.reduceEq, Int.reduceNe, strs_eq, h1]
        refine AC.use (inR_ac (l := a.ress) (n := q.rt) (by have := haG.rl; omega)) ?_
        cases h2 : inS a.ress q.rt with
        | false => simp only [WS, stepW, evalA, reduceIte, Nat.reduceEqDiff, reduceCtorEq, evalBin, Option.getD, Int.reduceToNat, Nat.reduceMul, Nat.reduceAdd, allocA, rowOf, fillA, partsV, setl, Nat.reduceLeDiff, AV.len, evalUn, Int.reduceLT, Int.reduceLE, Int.reduceEq, Int.reduceNe, strs_eq, h2]; simp
        | true => simp only [WS, stepW, evalA, reduceIte, Nat.reduceEqDiff, reduceCtorEq, evalBin, Option.getD, Int.reduceToNat, Nat.reduceMul, Nat.reduceAdd, allocA, rowOf, fillA, partsV, setl, Nat.reduceLeDiff, AV.len, evalUn, Int.reduceLT, Int.reduceLE, Int.reduceEq, Int.reduceNe, strs_eq, h2]; simp
    · simp only [WS, stepW, evalA, reduceIte, Nat.reduceEqDiff, reduceCtorEq, evalBin, Option.getD, Int.reduceToNat, Nat.reduceMul, Nat.reduceAdd, allocA, rowOf, fillA, partsV, setl, Nat.reduceLeDiff, AV.len, evalUn, Int.reduceLT, Int.reduceLE, Int.reduceEq, Int.reduceNe, strs_eq, hf, Ac.c_eq, hAc, ht, storeA, sets, setx, List.take_zero, List.drop_succ_cons, List.drop_zero, List.take_succ_cons]
theorem fitsR_ac {s : Sc} {q : Rq} {σ : AState} (hs : s.ok) (hg : ∀ k ∈ s.acts, AcG k) : AC Try.prog 25 [.agg s.c, .agg q.c] σ fun v s' => s' = σ ∧ v = .int .i64 (fitsS s q) :=
  AC.told (.cons (.agg (Sc.fxd s)) (.cons (.agg (Rq.fxd q)) .nil)) rfl (fitsR_st0 hs hg)
/- ------------------------------------------------ the law's own uid -/
theorem idNil_ac {σ : AState} : AC Try.prog 36 [.nils] σ fun v s => v = .str [] ∧ s = σ := by
  have h : (match runF tab 400 36 [.nils] st0 with | some (.str [], _) => true | _ => false) = true := by kernel_rfl
  split at h
  · rename_i s e
    exact AC.plain (a := .str []) rfl (fun x hx => by rw [List.mem_singleton.1 hx]; rfl) ((runs 400 _ _ _ _ _ e).mono fun v' s' hv => hv.1)
  · cases h
def uidT (i : Int) : Str := if i = 0 then [85, 115, 101, 114] else if i = 1 then [71, 114, 111, 117, 112] else if i = 2 then [68, 111, 99] else if i = 3 then [65, 99, 116, 105, 111, 110] else [105, 102]
theorem uid_st0 {n : Int} : AC Try.prog 15 [.int .i64 n, .nils] st0 fun v s => ∃ a, Pur s true v a ∧ a = .agg [.str (uidT (wi n 5)), .str []] := by
  refine ac_wp fn15 cf15 cl15 rfl ?_
  simp only [ac15]
  unfold ab15
  simp only [WS, stepW, evalA, reduceIte, Nat.reduceEqDiff, reduceCtorEq, evalBin, Option.getD, Int.reduceToNat, Nat.reduceMul, Nat.reduceAdd, allocA, rowOf, fillA, partsV, setl, Nat.reduceLeDiff, AV.len, evalUn, Int.reduceLT, Int.reduceLE, Int.reduceEq, Int.reduceNe, strs_eq]
  refine w_dreg follow [(0, [.str [85, 115, 101, 114], .str [71, 114, 111, 117, 112], .str [68, 111, 99], .str [65, 99, 116, 105, 111, 110], .str [105, 102]])] rfl ?_
  have hwr := wi_range n (n := 5) (by decide)
  obtain ⟨k, hk⟩ : ∃ k : Nat, wi n 5 = k := ⟨(wi n 5).toNat, by omega⟩
  rw [hk] at hwr ⊢
  have hr : (0 : Int) ≤ (k : Int) ∧ (k : Int) < ((5 : Nat) : Int) := by omega
  have hg : [AV.str [85, 115, 101, 114], .str [71, 114, 111, 117, 112], .str [68, 111, 99], .str [65, 99, 116, 105, 111, 110], .str [105, 102]][k]? = some (.str (uidT k)) := by
    have : k < 5 := by omega
    match k, this with
    | 0, _ => rfl
    | 1, _ => rfl
    | 2, _ => rfl
    | 3, _ => rfl
    | 4, _ => rfl
  have g0 := slots_get (s := st0.push (.cells [.str [], .str []])) (m := 9) [(0, [.str [85, 115, 101, 114], .str [71, 114, 111, 117, 112], .str [68, 111, 99], .str [65, 99, 116, 105, 111, 110], .str [105, 102]])] 0 [.str [85, 115, 101, 114], .str [71, 114, 111, 117, 112], .str [68, 111, 99], .str [65, 99, 116, 105, 111, 110], .str [105, 102]] rfl
  have c0 : (addSlots (st0.push (.cells [.str [], .str []])).n 9 (st0.push (.cells [.str [], .str []])) [(0, [.str [85, 115, 101, 114], .str [71, 114, 111, 117, 112], .str [68, 111, 99], .str [65, 99, 116, 105, 111, 110], .str [105, 102]])]).cells 0 = some [.str [], .str []] := (slots_old _ (Nat.lt_succ_self _)).trans (push_cells _ _)
  have hnn : 1 < (addSlots (st0.push (.cells [.str [], .str []])).n 9 (st0.push (.cells [.str [], .str []])) [(0, [.str [85, 115, 101, 114], .str [71, 114, 111, 117, 112], .str [68, 111, 99], .str [65, 99, 116, 105, 111, 110], .str [105, 102]])]).n := by simp only [addSlots, push_n, st0_n]; omega
  generalize addSlots (st0.push (.cells [.str [], .str []])).n 9 (st0.push (.cells [.str [], .str []])) [(0, [.str [85, 115, 101, 114], .str [71, 114, 111, 117, 112], .str [68, 111, 99], .str [65, 99, 116, 105, 111, 110], .str [105, 102]])] = s1 at *
  simp only [push_n, st0_n, Nat.zero_add, Nat.add_zero] at g0
  have c1 := cells_of g0
  simp only [WS, stepW, evalA, reduceIte, Nat.reduceEqDiff, reduceCtorEq, evalBin, Option.getD, Int.reduceToNat, Nat.reduceMul, Nat.reduceAdd, allocA, rowOf, fillA, partsV, setl, Nat.reduceLeDiff, AV.len, evalUn, Int.reduceLT, Int.reduceLE, Int.reduceEq, Int.reduceNe, strs_eq, DS, isSl, AOp.pure, AOp.reader, allocD, AOp.quiet, isSlot, Nat.reduceBEq, fillA, rowOf]
  refine (within5_ac (by decide) (by decide)).useD ?_
  rw [hk]
  simp only [WS, stepW, evalA, reduceIte, Nat.reduceEqDiff, reduceCtorEq, evalBin, Option.getD, Int.reduceToNat, Nat.reduceMul, Nat.reduceAdd, allocA, rowOf, fillA, partsV, setl, Nat.reduceLeDiff, AV.len, evalUn, Int.reduceLT, Int.reduceLE, Int.reduceEq, Int.reduceNe, strs_eq, DS, isSl, AOp.pure, AOp.reader, allocD, AOp.quiet, isSlot, Nat.reduceBEq, hr, c1, hg]
  refine (AC.useD' idNil_ac ?_)
  simp only [WS, stepW, evalA, reduceIte, Nat.reduceEqDiff, reduceCtorEq, evalBin, Option.getD, Int.reduceToNat, Nat.reduceMul, Nat.reduceAdd, allocA, rowOf, fillA, partsV, setl, Nat.reduceLeDiff, AV.len, evalUn, Int.reduceLT, Int.reduceLE, Int.reduceEq, Int.reduceNe, strs_eq, DS, isSl, AOp.pure, AOp.reader, allocD, AOp.quiet, isSlot, Nat.reduceBEq, fillA, c0, storeA, sets, setx, List.take_zero, List.drop_succ_cons, List.drop_zero, List.take_succ_cons]
  refine ⟨⟨?_, ?_⟩, _, .agg _ [.str (uidT k), .str []] rfl (fun i hi hi' => ?_), rfl⟩
  · intro l hl c hc hf
    simp only [List.mem_cons, List.mem_nil_iff, List.not_mem_nil, or_false] at hl hc
    rcases hl with rfl <;> rcases hc with rfl | rfl | rfl | rfl <;> dsimp only at hf ⊢ <;> first
      | (exact absurd hf (by decide +kernel))
      | (simp only [WS, stepW, evalA, reduceIte, Nat.reduceEqDiff, reduceCtorEq, evalBin, Option.getD, Int.reduceToNat, Nat.reduceMul, Nat.reduceAdd, allocA, rowOf, fillA, partsV, setl, Nat.reduceLeDiff, AV.len, evalUn, Int.reduceLT, Int.reduceLE, Int.reduceEq, Int.reduceNe, strs_eq, c1, hg]; done)
  · intro sl hsl c hc hf
    simp only [List.mem_cons, List.mem_nil_iff, List.not_mem_nil, or_false] at hsl hc
    subst hsl
    rcases hc with rfl | rfl | rfl | rfl <;> dsimp only at hf ⊢ <;> first
      | (exact absurd hf (by decide +kernel))
      | exact ⟨hnn, g0⟩
      | exact ⟨hnn, (put_h (by omega)).trans g0⟩
  · match i, hi with
    | 0, _ => exact .flat _ rfl
    | 1, _ => exact .flat _ rfl
theorem uid_ac {n : Int} {σ : AState} : AC Try.prog 15 [.int .i64 n, .nils] σ fun v s => s = σ ∧ v = .agg [.str (uidT (wi n 5)), .str []] :=
  AC.share (.cons (.flat rfl) (.cons (.flat rfl) .nil)) uid_st0
end Go.Proofs.Ytaokfpjjaejjgaa.Va
