/- The reference's Same; fields by their names. Conditions: none. -/
import Derived.Test.YtaokfpjjaejjgaaSch18
set_option maxRecDepth 100000
set_option maxHeartbeats 4000000
set_option linter.all false
namespace Go.Proofs.Ytaokfpjjaejjgaa.Va
open Go.Proofs
theorem sameS_k {s t : Sc} (h : ¬ s.kinds = t.kinds) : sameS s t = false := by rw [sameS, decide_eq_false h]; rfl
theorem sameS_a {s t : Sc} (h : ¬ s.acts = t.acts) : sameS s t = false := by rw [sameS, decide_eq_false h, Bool.and_false]
theorem sameR_st0 {s t : Sc} (hs : ScH s) : AC Try.prog 19 [.agg s.c, .agg t.c] st0 fun v _ => v = .bool (sameS s t) := by
  refine ac_wp fn19 cf19 cl19 rfl ?_
  simp only [ac19]
  unfold ab19
  have hkl := hs.kl
  have hal := hs.al
  simp only [wpC_seq, wpC_skip, wpCK_normal]
  refine w_mid (fun ρ σ => ρ.rd 2 = .ptr 0 0 ∧ ρ.rd 3 = .ptr 1 0 ∧ σ.cells 0 = some [slc Kd.c s.kinds, slc Ac.c s.acts] ∧ σ.cells 1 = some [slc Kd.c t.kinds, slc Ac.c t.acts] ∧ 2 ≤ σ.n) ?_ ?_
  · simp only [WS, stepW, evalA, reduceIte, Nat.reduceEqDiff, reduceCtorEq, evalBin, Option.getD, Int.reduceToNat, Nat.reduceMul, Nat.reduceAdd, allocA, rowOf, fillA, partsV, setl, Nat.reduceLeDiff, AV.len, evalUn, Int.reduceLT, Int.reduceLE, Int.reduceEq, Int.reduceNe, strs_eq, Sc.c_eq]
  rintro ρ σ ⟨h2, h3, c0, c1, hn⟩
  rw [wpC_seq]
  refine w_mid (fun ρ σ => ρ.rd 2 = .ptr 0 0 ∧ ρ.rd 3 = .ptr 1 0 ∧ σ.cells 0 = some [slc Kd.c s.kinds, slc Ac.c s.acts] ∧ σ.cells 1 = some [slc Kd.c t.kinds, slc Ac.c t.acts] ∧ 2 ≤ σ.n ∧ (s.kinds.length : Int) = t.kinds.length ∧ (s.acts.length : Int) = t.acts.length) ?_ ?_
  · by_cases hk : (s.kinds.length : Int) = t.kinds.length
    rotate_left
    · simp only [WS, stepW, evalA, reduceIte, Nat.reduceEqDiff, reduceCtorEq, evalBin, Option.getD, Int.reduceToNat, Nat.reduceMul, Nat.reduceAdd, allocA, rowOf, fillA, partsV, setl, Nat.reduceLeDiff, AV.len, evalUn, Int.reduceLT, Int.reduceLE, Int.reduceEq, Int.reduceNe, strs_eq, h2, h3, c0, c1, hk]
      rw [sameS_k (ne_len hk)]
    by_cases ha : (s.acts.length : Int) = t.acts.length
    rotate_left
    · simp only [WS, stepW, evalA, reduceIte, Nat.reduceEqDiff, reduceCtorEq, evalBin, Option.getD, Int.reduceToNat, Nat.reduceMul, Nat.reduceAdd, allocA, rowOf, fillA, partsV, setl, Nat.reduceLeDiff, AV.len, evalUn, Int.reduceLT, Int.reduceLE, Int.reduceEq, Int.reduceNe, strs_eq, h2, h3, c0, c1, hk, ha]
      rw [sameS_a (ne_len ha)]
    simp only [WS, stepW, evalA, reduceIte, Nat.reduceEqDiff, reduceCtorEq, evalBin, Option.getD, Int.reduceToNat, Nat.reduceMul, Nat.reduceAdd, allocA, rowOf, fillA, partsV, setl, Nat.reduceLeDiff, AV.len, evalUn, Int.reduceLT, Int.reduceLE, Int.reduceEq, Int.reduceNe, strs_eq, h2, h3, c0, c1, hk, ha]
    exact hn
  clear h2 h3 c0 c1 hn
  rintro ρ σ ⟨h2, h3, c0, c1, hn, hk, ha⟩
  rw [wpC_seq]
  refine w_mid (fun ρ σ => ρ.rd 2 = .ptr 0 0 ∧ ρ.rd 3 = .ptr 1 0 ∧ σ.cells 0 = some [slc Kd.c s.kinds, slc Ac.c s.acts] ∧ σ.cells 1 = some [slc Kd.c t.kinds, slc Ac.c t.acts] ∧ 2 ≤ σ.n ∧ s.kinds = t.kinds) ?_ ?_
  · simp only [WS, stepW, evalA, reduceIte, Nat.reduceEqDiff, reduceCtorEq, evalBin, Option.getD, Int.reduceToNat, Nat.reduceMul, Nat.reduceAdd, allocA, rowOf, fillA, partsV, setl, Nat.reduceLeDiff, AV.len, evalUn, Int.reduceLT, Int.reduceLE, Int.reduceEq, Int.reduceNe, strs_eq, h2, h3]
    refine w_for (fun i ρ σ => ρ.rd 5 = .int .i64 i ∧ ρ.rd 2 = .ptr 0 0 ∧ ρ.rd 3 = .ptr 1 0 ∧ σ.cells 0 = some [slc Kd.c s.kinds, slc Ac.c s.acts] ∧ σ.cells 1 = some [slc Kd.c t.kinds, slc Ac.c t.acts] ∧ 2 ≤ σ.n ∧ s.kinds.take i = t.kinds.take i) s.kinds.length ?_ ?_
    · simp only [WS, stepW, evalA, reduceIte, Nat.reduceEqDiff, reduceCtorEq, evalBin, Option.getD, Int.reduceToNat, Nat.reduceMul, Nat.reduceAdd, allocA, rowOf, fillA, partsV, setl, Nat.reduceLeDiff, AV.len, evalUn, Int.reduceLT, Int.reduceLE, Int.reduceEq, Int.reduceNe, strs_eq, h2, h3, c0, c1]
      exact ⟨rfl, hn, rfl⟩
    clear h2 h3 c0 c1 hn
    rintro i ρ σ hi ⟨h5, h2, h3, c0, c1, hn, hno⟩
    simp only [WS, stepW, evalA, reduceIte, Nat.reduceEqDiff, reduceCtorEq, evalBin, Option.getD, Int.reduceToNat, Nat.reduceMul, Nat.reduceAdd, allocA, rowOf, fillA, partsV, setl, Nat.reduceLeDiff, AV.len, evalUn, Int.reduceLT, Int.reduceLE, Int.reduceEq, Int.reduceNe, strs_eq, h5, h2, c0]
    refine Br_dec (fun hlt' => ?_) (fun hge => ?_)
    rotate_left
    · have : i = s.kinds.length := by omega
      subst this
      simp only [WS, stepW, evalA, reduceIte, Nat.reduceEqDiff, reduceCtorEq, evalBin, Option.getD, Int.reduceToNat, Nat.reduceMul, Nat.reduceAdd, allocA, rowOf, fillA, partsV, setl, Nat.reduceLeDiff, AV.len, evalUn, Int.reduceLT, Int.reduceLE, Int.reduceEq, Int.reduceNe, strs_eq, h2, h3, c0, c1]
      exact ⟨hn, eq_takes hk hno⟩
    have hlt : i < s.kinds.length := by omega
    have hlt2 : i < t.kinds.length := by omega
    have hr := lt_idx hlt
    have hr2 := lt_idx hlt2
    have A := kdAt hlt
    have D := kdAt hlt2
    have hG := hs.k _ (List.getElem_mem hlt)
    have hw : IntKind.i64.wrap ((i : Int) + 1) = ((i + 1 : Nat) : Int) := wrap_succ (by omega)
    rw [wpC_skip, wpCK_normal, wpC_seq, wpC_block, wpC_seq]
    obtain ⟨u, hu⟩ : ∃ u, u = σ.n + 10 := ⟨_, rfl⟩
    obtain ⟨v, hv⟩ : ∃ v, v = σ.n + 11 := ⟨_, rfl⟩
    refine w_mid (fun ρ σ => ρ.rd 5 = .int .i64 i ∧ ρ.rd 2 = .ptr 0 0 ∧ ρ.rd 3 = .ptr 1 0 ∧ σ.cells 0 = some [slc Kd.c s.kinds, slc Ac.c s.acts] ∧ σ.cells 1 = some [slc Kd.c t.kinds, slc Ac.c t.acts] ∧ 2 ≤ σ.n ∧ ρ.rd 6 = .ptr u 0 ∧ ρ.rd 7 = .ptr v 0 ∧ σ.cells u = some [.str s.kinds[i].name, strs s.kinds[i].parents, slc Fl.c s.kinds[i].fields] ∧ σ.cells v = some [.str t.kinds[i].name, strs t.kinds[i].parents, slc Fl.c t.kinds[i].fields]) ?_ ?_
    · subst hu
      subst hv
      simp only [WS, stepW, evalA, reduceIte, Nat.reduceEqDiff, reduceCtorEq, evalBin, Option.getD, Int.reduceToNat, Nat.reduceMul, Nat.reduceAdd, allocA, rowOf, fillA, partsV, setl, Nat.reduceLeDiff, AV.len, evalUn, Int.reduceLT, Int.reduceLE, Int.reduceEq, Int.reduceNe, strs_eq]
      refine w_dreg follow [(10, [.str [], .nils, .nils]), (11, [.str [], .nils, .nils])] rfl ?_
      have d0 := (slots_old (m := 14) [(10, [.str [], .nils, .nils]), (11, [.str [], .nils, .nils])] (b := 0) (s := σ) (by omega)).trans c0
      have d1 := (slots_old (m := 14) [(10, [.str [], .nils, .nils]), (11, [.str [], .nils, .nils])] (b := 1) (s := σ) (by omega)).trans c1
      have g10 := slots_get (s := σ) (m := 14) [(10, [.str [], .nils, .nils]), (11, [.str [], .nils, .nils])] 10 _ rfl
      have g11 := slots_get (s := σ) (m := 14) [(10, [.str [], .nils, .nils]), (11, [.str [], .nils, .nils])] 11 _ rfl
      have hnA : (addSlots σ.n 14 σ [(10, [.str [], .nils, .nils]), (11, [.str [], .nils, .nils])]).n = σ.n + 14 := rfl
      generalize addSlots σ.n 14 σ [(10, [.str [], .nils, .nils]), (11, [.str [], .nils, .nils])] = s1 at *
      have e10 := cells_of g10
      have e11 := cells_of g11
      have n0 : ¬ 0 = σ.n + 10 := by omega
      have n1 : ¬ 1 = σ.n + 10 := by omega
      have n2 : ¬ 0 = σ.n + 11 := by omega
      have n3 : ¬ 1 = σ.n + 11 := by omega
      have n4 : ¬ σ.n + 10 = σ.n + 11 := by omega
      have n5 : ¬ σ.n + 11 = σ.n + 10 := by omega
      simp only [WS, stepW, evalA, reduceIte, Nat.reduceEqDiff, reduceCtorEq, evalBin, Option.getD, Int.reduceToNat, Nat.reduceMul, Nat.reduceAdd, allocA, rowOf, fillA, partsV, setl, Nat.reduceLeDiff, AV.len, evalUn, Int.reduceLT, Int.reduceLE, Int.reduceEq, Int.reduceNe, strs_eq, DS, isSl, AOp.pure, AOp.reader, allocD, AOp.quiet, isSlot, Nat.reduceBEq, h5, h2, h3, d0, d1, hr, hr2, A.fit, A.all, D.fit, D.all, e10, e11, n4, n5, storeA, sets, setx, List.take_zero, List.drop_succ_cons, List.drop_zero, List.take_succ_cons]
      refine ⟨⟨?_, ?_⟩, ?_⟩
      · intro l hl c hc hf
        simp only [List.mem_cons, List.mem_nil_iff, List.not_mem_nil, or_false] at hl hc
        rcases hl with rfl | rfl | rfl | rfl <;> rcases hc with rfl | rfl | rfl <;> dsimp only at hf ⊢ <;> first
          | (exact absurd hf (by decide +kernel))
          | (simp only [WS, stepW, evalA, reduceIte, Nat.reduceEqDiff, reduceCtorEq, evalBin, Option.getD, Int.reduceToNat, Nat.reduceMul, Nat.reduceAdd, allocA, rowOf, fillA, partsV, setl, Nat.reduceLeDiff, AV.len, evalUn, Int.reduceLT, Int.reduceLE, Int.reduceEq, Int.reduceNe, strs_eq, h5, h2, h3, d0, d1, hr, hr2, A.fit, A.all, D.fit, D.all, n0, n1, n2, n3]; done)
      · intro sl hsl c hc hf
        simp only [List.mem_cons, List.mem_nil_iff, List.not_mem_nil, or_false] at hsl hc
        rcases hsl with rfl | rfl <;> rcases hc with rfl | rfl | rfl <;> dsimp only at hf ⊢ <;> first
          | (exact absurd hf (by decide +kernel))
          | exact ⟨by omega, g10⟩
          | exact ⟨by omega, g11⟩
          | exact ⟨by simp only [put_n]; omega, (put_h (by omega)).trans g10⟩
          | exact ⟨by simp only [put_n]; omega, (put_h (by omega)).trans g11⟩
      · try simp only [WS, stepW, evalA, reduceIte, Nat.reduceEqDiff, reduceCtorEq, evalBin, Option.getD, Int.reduceToNat, Nat.reduceMul, Nat.reduceAdd, allocA, rowOf, fillA, partsV, setl, Nat.reduceLeDiff, AV.len, evalUn, Int.reduceLT, Int.reduceLE, Int.reduceEq, Int.reduceNe, strs_eq, h5, h2, h3, d0, d1, n0, n1, n2, n3, n4, n5]
        omega
    clear h2 h3 c0 c1 hn h5
    rintro ρ σ ⟨h5, h2, h3, c0, c1, hn, h6, h7, cu, cv⟩
    rw [wpC_seq]
    refine w_mid (fun ρ σ => ρ.rd 5 = .int .i64 i ∧ ρ.rd 2 = .ptr 0 0 ∧ ρ.rd 3 = .ptr 1 0 ∧ σ.cells 0 = some [slc Kd.c s.kinds, slc Ac.c s.acts] ∧ σ.cells 1 = some [slc Kd.c t.kinds, slc Ac.c t.acts] ∧ 2 ≤ σ.n ∧ ρ.rd 6 = .ptr u 0 ∧ ρ.rd 7 = .ptr v 0 ∧ σ.cells u = some [.str s.kinds[i].name, strs s.kinds[i].parents, slc Fl.c s.kinds[i].fields] ∧ σ.cells v = some [.str t.kinds[i].name, strs t.kinds[i].parents, slc Fl.c t.kinds[i].fields] ∧ s.kinds[i].name = t.kinds[i].name ∧ s.kinds[i].parents = t.kinds[i].parents ∧ (s.kinds[i].fields.length : Int) = t.kinds[i].fields.length) ?_ ?_
    · by_cases e1 : s.kinds[i].name = t.kinds[i].name
      rotate_left
      · simp only [WS, stepW, evalA, reduceIte, Nat.reduceEqDiff, reduceCtorEq, evalBin, Option.getD, Int.reduceToNat, Nat.reduceMul, Nat.reduceAdd, allocA, rowOf, fillA, partsV, setl, Nat.reduceLeDiff, AV.len, evalUn, Int.reduceLT, Int.reduceLE, Int.reduceEq, Int.reduceNe, strs_eq, h5, h2, h3, c0, c1, hn, h6, h7, cu, cv, e1]
        rw [sameS_k (ne_at hlt hlt2 fun e => e1 (by rw [e]))]
      simp only [WS, stepW, evalA, reduceIte, Nat.reduceEqDiff, reduceCtorEq, evalBin, Option.getD, Int.reduceToNat, Nat.reduceMul, Nat.reduceAdd, allocA, rowOf, fillA, partsV, setl, Nat.reduceLeDiff, AV.len, evalUn, Int.reduceLT, Int.reduceLE, Int.reduceEq, Int.reduceNe, strs_eq, h5, h2, h3, c0, c1, hn, h6, h7, cu, cv, e1]
      refine AC.use (textsR_ac (l := s.kinds[i].parents) (m := t.kinds[i].parents) (by have := hG.pl; omega)) ?_
      by_cases e2 : s.kinds[i].parents = t.kinds[i].parents
      rotate_left
      · simp only [WS, stepW, evalA, reduceIte, Nat.reduceEqDiff, reduceCtorEq, evalBin, Option.getD, Int.reduceToNat, Nat.reduceMul, Nat.reduceAdd, allocA, rowOf, fillA, partsV, setl, Nat.reduceLeDiff, AV.len, evalUn, Int.reduceLT, Int.reduceLE, Int.reduceEq, Int.reduceNe, strs_eq, h5, h2, h3, c0, c1, hn, h6, h7, cu, cv, e2]
        rw [sameS_k (ne_at hlt hlt2 fun e => e2 (by rw [e]))]
      by_cases e3 : (s.kinds[i].fields.length : Int) = t.kinds[i].fields.length
      rotate_left
      · simp only [WS, stepW, evalA, reduceIte, Nat.reduceEqDiff, reduceCtorEq, evalBin, Option.getD, Int.reduceToNat, Nat.reduceMul, Nat.reduceAdd, allocA, rowOf, fillA, partsV, setl, Nat.reduceLeDiff, AV.len, evalUn, Int.reduceLT, Int.reduceLE, Int.reduceEq, Int.reduceNe, strs_eq, h5, h2, h3, c0, c1, hn, h6, h7, cu, cv, e2, e3]
        rw [sameS_k (ne_at hlt hlt2 fun e => e3 (by rw [e]))]
      simp only [WS, stepW, evalA, reduceIte, Nat.reduceEqDiff, reduceCtorEq, evalBin, Option.getD, Int.reduceToNat, Nat.reduceMul, Nat.reduceAdd, allocA, rowOf, fillA, partsV, setl, Nat.reduceLeDiff, AV.len, evalUn, Int.reduceLT, Int.reduceLE, Int.reduceEq, Int.reduceNe, strs_eq, h5, h2, h3, c0, c1, hn, h6, h7, cu, cv, e2, e3]
      rw [e1]
    clear h5 h2 h3 c0 c1 hn h6 h7 cu cv
    rintro ρ σ ⟨h5, h2, h3, c0, c1, hn, h6, h7, cu, cv, e1, e2, e3⟩
    have hfl := hG.fl
    simp only [WS, stepW, evalA, reduceIte, Nat.reduceEqDiff, reduceCtorEq, evalBin, Option.getD, Int.reduceToNat, Nat.reduceMul, Nat.reduceAdd, allocA, rowOf, fillA, partsV, setl, Nat.reduceLeDiff, AV.len, evalUn, Int.reduceLT, Int.reduceLE, Int.reduceEq, Int.reduceNe, strs_eq, h5, h2, h3, c0, c1, hn, h6, h7, cu, cv]
    refine w_for (fun j ρ σ => ρ.rd 8 = .int .i64 j ∧ ρ.rd 5 = .int .i64 i ∧ ρ.rd 2 = .ptr 0 0 ∧ ρ.rd 3 = .ptr 1 0 ∧ σ.cells 0 = some [slc Kd.c s.kinds, slc Ac.c s.acts] ∧ σ.cells 1 = some [slc Kd.c t.kinds, slc Ac.c t.acts] ∧ 2 ≤ σ.n ∧ ρ.rd 6 = .ptr u 0 ∧ ρ.rd 7 = .ptr v 0 ∧ σ.cells u = some [.str s.kinds[i].name, strs s.kinds[i].parents, slc Fl.c s.kinds[i].fields] ∧ σ.cells v = some [.str t.kinds[i].name, strs t.kinds[i].parents, slc Fl.c t.kinds[i].fields] ∧ s.kinds[i].fields.take j = t.kinds[i].fields.take j) s.kinds[i].fields.length ?_ ?_
    · simp only [WS, stepW, evalA, reduceIte, Nat.reduceEqDiff, reduceCtorEq, evalBin, Option.getD, Int.reduceToNat, Nat.reduceMul, Nat.reduceAdd, allocA, rowOf, fillA, partsV, setl, Nat.reduceLeDiff, AV.len, evalUn, Int.reduceLT, Int.reduceLE, Int.reduceEq, Int.reduceNe, strs_eq, h5, h2, h3, c0, c1, hn, h6, h7, cu, cv]
      exact ⟨rfl, rfl⟩
    clear h5 h2 h3 c0 c1 hn h6 h7 cu cv
    rintro j ρ σ hj ⟨h8, h5, h2, h3, c0, c1, hn, h6, h7, cu, cv, hnj⟩
    simp only [WS, stepW, evalA, reduceIte, Nat.reduceEqDiff, reduceCtorEq, evalBin, Option.getD, Int.reduceToNat, Nat.reduceMul, Nat.reduceAdd, allocA, rowOf, fillA, partsV, setl, Nat.reduceLeDiff, AV.len, evalUn, Int.reduceLT, Int.reduceLE, Int.reduceEq, Int.reduceNe, strs_eq, h8, h6, cu]
    refine Br_dec (fun hltj' => ?_) (fun hgej => ?_)
    rotate_left
    · have : j = s.kinds[i].fields.length := by omega
      subst this
      have ef := eq_takes e3 hnj
      have ek : s.kinds[i] = t.kinds[i] := by
        have : decide (s.kinds[i] = t.kinds[i]) = true := by rw [kd_dec, decide_eq_true e1, decide_eq_true e2, decide_eq_true ef]; rfl
        exact of_decide_eq_true this
      simp only [WS, stepW, evalA, reduceIte, Nat.reduceEqDiff, reduceCtorEq, evalBin, Option.getD, Int.reduceToNat, Nat.reduceMul, Nat.reduceAdd, allocA, rowOf, fillA, partsV, setl, Nat.reduceLeDiff, AV.len, evalUn, Int.reduceLT, Int.reduceLE, Int.reduceEq, Int.reduceNe, strs_eq, h5, h2, h3, c0, c1, hn, hw]
      exact ⟨hlt, takes_succ hlt hlt2 hno ek⟩
    have hltj : j < s.kinds[i].fields.length := by omega
    have hltj2 : j < t.kinds[i].fields.length := by omega
    have hrj := lt_idx hltj
    have hrj2 := lt_idx hltj2
    have P := flAt hltj
    have Q := flAt hltj2
    have hE := eqFl s.kinds[i].fields[j] t.kinds[i].fields[j]
    have hwj : IntKind.i64.wrap ((j : Int) + 1) = ((j + 1 : Nat) : Int) := wrap_succ (by omega)
    simp only [WS, stepW, evalA, reduceIte, Nat.reduceEqDiff, reduceCtorEq, evalBin, Option.getD, Int.reduceToNat, Nat.reduceMul, Nat.reduceAdd, allocA, rowOf, fillA, partsV, setl, Nat.reduceLeDiff, AV.len, evalUn, Int.reduceLT, Int.reduceLE, Int.reduceEq, Int.reduceNe, strs_eq]
    refine w_dreg0 follow ?_ rfl
    have d0 : (addSlots σ.n 11 σ []).cells 0 = _ := c0
    have d1 : (addSlots σ.n 11 σ []).cells 1 = _ := c1
    have du : (addSlots σ.n 11 σ []).cells u = _ := cu
    have dv : (addSlots σ.n 11 σ []).cells v = _ := cv
    have hnA : 2 ≤ (addSlots σ.n 11 σ []).n := by simp only [addSlots]; omega
    generalize addSlots σ.n 11 σ [] = s3 at *
    by_cases he : s.kinds[i].fields[j] = t.kinds[i].fields[j]
    · rw [decide_eq_true he] at hE
      simp only [WS, stepW, evalA, reduceIte, Nat.reduceEqDiff, reduceCtorEq, evalBin, Option.getD, Int.reduceToNat, Nat.reduceMul, Nat.reduceAdd, allocA, rowOf, fillA, partsV, setl, Nat.reduceLeDiff, AV.len, evalUn, Int.reduceLT, Int.reduceLE, Int.reduceEq, Int.reduceNe, strs_eq, h8, h5, h2, h3, h6, h7, d0, d1, du, dv, hrj, hrj2, P.fit, P.all, Q.fit, Q.all, hE, hwj]
      exact ⟨hltj, hnA, takes_succ hltj hltj2 hnj he⟩
    · rw [decide_eq_false he] at hE
      simp only [WS, stepW, evalA, reduceIte, Nat.reduceEqDiff, reduceCtorEq, evalBin, Option.getD, Int.reduceToNat, Nat.reduceMul, Nat.reduceAdd, allocA, rowOf, fillA, partsV, setl, Nat.reduceLeDiff, AV.len, evalUn, Int.reduceLT, Int.reduceLE, Int.reduceEq, Int.reduceNe, strs_eq, h8, h5, h2, h3, h6, h7, d0, d1, du, dv, hrj, hrj2, P.fit, P.all, Q.fit, Q.all, hE]
      rw [sameS_k (ne_at hlt hlt2 fun e => (ne_at hltj hltj2 he) (by rw [e]))]
  clear h2 h3 c0 c1 hn
  rintro ρ σ ⟨h2, h3, c0, c1, hn, hke⟩
  rw [wpC_seq]
  refine w_mid (fun ρ σ => s.acts = t.acts) ?_ ?_
  rotate_left
  · rintro ρ σ hae
    have : sameS s t = true := by rw [sameS, decide_eq_true hke, decide_eq_true hae]; rfl
    simp only [WS, stepW, evalA, reduceIte, Nat.reduceEqDiff, reduceCtorEq, evalBin, Option.getD, Int.reduceToNat, Nat.reduceMul, Nat.reduceAdd, allocA, rowOf, fillA, partsV, setl, Nat.reduceLeDiff, AV.len, evalUn, Int.reduceLT, Int.reduceLE, Int.reduceEq, Int.reduceNe, strs_eq]
    rw [this]
  · simp only [WS, stepW, evalA, reduceIte, Nat.reduceEqDiff, reduceCtorEq, evalBin, Option.getD, Int.reduceToNat, Nat.reduceMul, Nat.reduceAdd, allocA, rowOf, fillA, partsV, setl, Nat.reduceLeDiff, AV.len, evalUn, Int.reduceLT, Int.reduceLE, Int.reduceEq, Int.reduceNe, strs_eq, h2, h3]
    refine w_for (fun i ρ σ => ρ.rd 9 = .int .i64 i ∧ ρ.rd 2 = .ptr 0 0 ∧ ρ.rd 3 = .ptr 1 0 ∧ σ.cells 0 = some [slc Kd.c s.kinds, slc Ac.c s.acts] ∧ σ.cells 1 = some [slc Kd.c t.kinds, slc Ac.c t.acts] ∧ 2 ≤ σ.n ∧ s.acts.take i = t.acts.take i) s.acts.length ?_ ?_
    · simp only [WS, stepW, evalA, reduceIte, Nat.reduceEqDiff, reduceCtorEq, evalBin, Option.getD, Int.reduceToNat, Nat.reduceMul, Nat.reduceAdd, allocA, rowOf, fillA, partsV, setl, Nat.reduceLeDiff, AV.len, evalUn, Int.reduceLT, Int.reduceLE, Int.reduceEq, Int.reduceNe, strs_eq, h2, h3, c0, c1]
      exact ⟨rfl, hn, rfl⟩
    clear h2 h3 c0 c1 hn
    rintro i ρ σ hi ⟨h9, h2, h3, c0, c1, hn, hno⟩
    simp only [WS, stepW, evalA, reduceIte, Nat.reduceEqDiff, reduceCtorEq, evalBin, Option.getD, Int.reduceToNat, Nat.reduceMul, Nat.reduceAdd, allocA, rowOf, fillA, partsV, setl, Nat.reduceLeDiff, AV.len, evalUn, Int.reduceLT, Int.reduceLE, Int.reduceEq, Int.reduceNe, strs_eq, h9, h2, c0]
    refine Br_dec (fun hlt' => ?_) (fun hge => ?_)
    rotate_left
    · have : i = s.acts.length := by omega
      subst this
      simp only [WS, stepW, evalA, reduceIte, Nat.reduceEqDiff, reduceCtorEq, evalBin, Option.getD, Int.reduceToNat, Nat.reduceMul, Nat.reduceAdd, allocA, rowOf, fillA, partsV, setl, Nat.reduceLeDiff, AV.len, evalUn, Int.reduceLT, Int.reduceLE, Int.reduceEq, Int.reduceNe, strs_eq]
      exact eq_takes ha hno
    have hlt : i < s.acts.length := by omega
    have hlt2 : i < t.acts.length := by omega
    have hr := lt_idx hlt
    have hr2 := lt_idx hlt2
    have A := acAt hlt
    have D := acAt hlt2
    have hG := hs.a _ (List.getElem_mem hlt)
    have hw : IntKind.i64.wrap ((i : Int) + 1) = ((i + 1 : Nat) : Int) := wrap_succ (by omega)
    rw [wpC_skip, wpCK_normal, wpC_seq, wpC_block, wpC_seq]
    obtain ⟨u, hu⟩ : ∃ u, u = σ.n + 10 := ⟨_, rfl⟩
    obtain ⟨v, hv⟩ : ∃ v, v = σ.n + 11 := ⟨_, rfl⟩
    refine w_mid (fun ρ σ => ρ.rd 9 = .int .i64 i ∧ ρ.rd 2 = .ptr 0 0 ∧ ρ.rd 3 = .ptr 1 0 ∧ σ.cells 0 = some [slc Kd.c s.kinds, slc Ac.c s.acts] ∧ σ.cells 1 = some [slc Kd.c t.kinds, slc Ac.c t.acts] ∧ 2 ≤ σ.n ∧ ρ.rd 10 = .ptr u 0 ∧ ρ.rd 11 = .ptr v 0 ∧ σ.cells u = some [.str s.acts[i].name, strs s.acts[i].prins, strs s.acts[i].ress] ∧ σ.cells v = some [.str t.acts[i].name, strs t.acts[i].prins, strs t.acts[i].ress]) ?_ ?_
    · subst hu
      subst hv
      simp only [WS, stepW, evalA, reduceIte, Nat.reduceEqDiff, reduceCtorEq, evalBin, Option.getD, Int.reduceToNat, Nat.reduceMul, Nat.reduceAdd, allocA, rowOf, fillA, partsV, setl, Nat.reduceLeDiff, AV.len, evalUn, Int.reduceLT, Int.reduceLE, Int.reduceEq, Int.reduceNe, strs_eq]
      refine w_dreg follow [(10, [.str [], .nils, .nils]), (11, [.str [], .nils, .nils])] rfl ?_
      have d0 := (slots_old (m := 14) [(10, [.str [], .nils, .nils]), (11, [.str [], .nils, .nils])] (b := 0) (s := σ) (by omega)).trans c0
      have d1 := (slots_old (m := 14) [(10, [.str [], .nils, .nils]), (11, [.str [], .nils, .nils])] (b := 1) (s := σ) (by omega)).trans c1
      have g10 := slots_get (s := σ) (m := 14) [(10, [.str [], .nils, .nils]), (11, [.str [], .nils, .nils])] 10 _ rfl
      have g11 := slots_get (s := σ) (m := 14) [(10, [.str [], .nils, .nils]), (11, [.str [], .nils, .nils])] 11 _ rfl
      have hnA : (addSlots σ.n 14 σ [(10, [.str [], .nils, .nils]), (11, [.str [], .nils, .nils])]).n = σ.n + 14 := rfl
      generalize addSlots σ.n 14 σ [(10, [.str [], .nils, .nils]), (11, [.str [], .nils, .nils])] = s1 at *
      have e10 := cells_of g10
      have e11 := cells_of g11
      have n0 : ¬ 0 = σ.n + 10 := by omega
      have n1 : ¬ 1 = σ.n + 10 := by omega
      have n2 : ¬ 0 = σ.n + 11 := by omega
      have n3 : ¬ 1 = σ.n + 11 := by omega
      have n4 : ¬ σ.n + 10 = σ.n + 11 := by omega
      have n5 : ¬ σ.n + 11 = σ.n + 10 := by omega
      simp only [WS, stepW, evalA, reduceIte, Nat.reduceEqDiff, reduceCtorEq, evalBin, Option.getD, Int.reduceToNat, Nat.reduceMul, Nat.reduceAdd, allocA, rowOf, fillA, partsV, setl, Nat.reduceLeDiff, AV.len, evalUn, Int.reduceLT, Int.reduceLE, Int.reduceEq, Int.reduceNe, strs_eq, DS, isSl, AOp.pure, AOp.reader, allocD, AOp.quiet, isSlot, Nat.reduceBEq, h9, h2, h3, d0, d1, hr, hr2, A.fit, A.all, D.fit, D.all, e10, e11, n4, n5, storeA, sets, setx, List.take_zero, List.drop_succ_cons, List.drop_zero, List.take_succ_cons]
      refine ⟨⟨?_, ?_⟩, ?_⟩
      · intro l hl c hc hf
        simp only [List.mem_cons, List.mem_nil_iff, List.not_mem_nil, or_false] at hl hc
        rcases hl with rfl | rfl | rfl | rfl <;> rcases hc with rfl | rfl | rfl <;> dsimp only at hf ⊢ <;> first
          | (exact absurd hf (by decide +kernel))
          | (simp only [WS, stepW, evalA, reduceIte, Nat.reduceEqDiff, reduceCtorEq, evalBin, Option.getD, Int.reduceToNat, Nat.reduceMul, Nat.reduceAdd, allocA, rowOf, fillA, partsV, setl, Nat.reduceLeDiff, AV.len, evalUn, Int.reduceLT, Int.reduceLE, Int.reduceEq, Int.reduceNe, strs_eq, h9, h2, h3, d0, d1, hr, hr2, A.fit, A.all, D.fit, D.all, n0, n1, n2, n3]; done)
      · intro sl hsl c hc hf
        simp only [List.mem_cons, List.mem_nil_iff, List.not_mem_nil, or_false] at hsl hc
        rcases hsl with rfl | rfl <;> rcases hc with rfl | rfl | rfl <;> dsimp only at hf ⊢ <;> first
          | (exact absurd hf (by decide +kernel))
          | exact ⟨by omega, g10⟩
          | exact ⟨by omega, g11⟩
          | exact ⟨by simp only [put_n]; omega, (put_h (by omega)).trans g10⟩
          | exact ⟨by simp only [put_n]; omega, (put_h (by omega)).trans g11⟩
      · try simp only [WS, stepW, evalA, reduceIte, Nat.reduceEqDiff, reduceCtorEq, evalBin, Option.getD, Int.reduceToNat, Nat.reduceMul, Nat.reduceAdd, allocA, rowOf, fillA, partsV, setl, Nat.reduceLeDiff, AV.len, evalUn, Int.reduceLT, Int.reduceLE, Int.reduceEq, Int.reduceNe, strs_eq, h9, h2, h3, d0, d1, n0, n1, n2, n3, n4, n5]
        omega
    clear h2 h3 c0 c1 hn h9
    rintro ρ σ ⟨h9, h2, h3, c0, c1, hn, h10, h11, cu, cv⟩
    by_cases e1 : s.acts[i].name = t.acts[i].name
    rotate_left
    · simp only [WS, stepW, evalA, reduceIte, Nat.reduceEqDiff, reduceCtorEq, evalBin, Option.getD, Int.reduceToNat, Nat.reduceMul, Nat.reduceAdd, allocA, rowOf, fillA, partsV, setl, Nat.reduceLeDiff, AV.len, evalUn, Int.reduceLT, Int.reduceLE, Int.reduceEq, Int.reduceNe, strs_eq, h9, h2, h3, c0, c1, hn, h10, h11, cu, cv, e1]
      rw [sameS_a (ne_at hlt hlt2 fun e => e1 (by rw [e]))]
    by_cases e2 : s.acts[i].prins = t.acts[i].prins
    rotate_left
    · simp only [WS, stepW, evalA, reduceIte, Nat.reduceEqDiff, reduceCtorEq, evalBin, Option.getD, Int.reduceToNat, Nat.reduceMul, Nat.reduceAdd, allocA, rowOf, fillA, partsV, setl, Nat.reduceLeDiff, AV.len, evalUn, Int.reduceLT, Int.reduceLE, Int.reduceEq, Int.reduceNe, strs_eq, h9, h2, h3, c0, c1, hn, h10, h11, cu, cv, e1]
      refine AC.use (textsR_ac (l := s.acts[i].prins) (m := t.acts[i].prins) (by have := hG.pl; omega)) ?_
      simp only [WS, stepW, evalA, reduceIte, Nat.reduceEqDiff, reduceCtorEq, evalBin, Option.getD, Int.reduceToNat, Nat.reduceMul, Nat.reduceAdd, allocA, rowOf, fillA, partsV, setl, Nat.reduceLeDiff, AV.len, evalUn, Int.reduceLT, Int.reduceLE, Int.reduceEq, Int.reduceNe, strs_eq, h9, h2, h3, c0, c1, hn, h10, h11, cu, cv, e2]
      rw [sameS_a (ne_at hlt hlt2 fun e => e2 (by rw [e]))]
    by_cases e3 : s.acts[i].ress = t.acts[i].ress
    rotate_left
    · simp only [WS, stepW, evalA, reduceIte, Nat.reduceEqDiff, reduceCtorEq, evalBin, Option.getD, Int.reduceToNat, Nat.reduceMul, Nat.reduceAdd, allocA, rowOf, fillA, partsV, setl, Nat.reduceLeDiff, AV.len, evalUn, Int.reduceLT, Int.reduceLE, Int.reduceEq, Int.reduceNe, strs_eq, h9, h2, h3, c0, c1, hn, h10, h11, cu, cv, e1]
      refine AC.use (textsR_ac (l := s.acts[i].prins) (m := t.acts[i].prins) (by have := hG.pl; omega)) ?_
      simp only [WS, stepW, evalA, reduceIte, Nat.reduceEqDiff, reduceCtorEq, evalBin, Option.getD, Int.reduceToNat, Nat.reduceMul, Nat.reduceAdd, allocA, rowOf, fillA, partsV, setl, Nat.reduceLeDiff, AV.len, evalUn, Int.reduceLT, Int.reduceLE, Int.reduceEq, Int.reduceNe, strs_eq, h9, h2, h3, c0, c1, hn, h10, h11, cu, cv, decide_eq_true e2]
      refine AC.use (textsR_ac (l := s.acts[i].ress) (m := t.acts[i].ress) (by have := hG.rl; omega)) ?_
      simp only [WS, stepW, evalA, reduceIte, Nat.reduceEqDiff, reduceCtorEq, evalBin, Option.getD, Int.reduceToNat, Nat.reduceMul, Nat.reduceAdd, allocA, rowOf, fillA, partsV, setl, Nat.reduceLeDiff, AV.len, evalUn, Int.reduceLT, Int.reduceLE, Int.reduceEq, Int.reduceNe, strs_eq, h9, h2, h3, e3]
      rw [sameS_a (ne_at hlt hlt2 fun e => e3 (by rw [e]))]
    have ek : s.acts[i] = t.acts[i] := by
      have : decide (s.acts[i] = t.acts[i]) = true := by rw [ac_dec, decide_eq_true e1, decide_eq_true e2, decide_eq_true e3]; rfl
      exact of_decide_eq_true this
    simp only [WS, stepW, evalA, reduceIte, Nat.reduceEqDiff, reduceCtorEq, evalBin, Option.getD, Int.reduceToNat, Nat.reduceMul, Nat.reduceAdd, allocA, rowOf, fillA, partsV, setl, Nat.reduceLeDiff, AV.len, evalUn, Int.reduceLT, Int.reduceLE, Int.reduceEq, Int.reduceNe, strs_eq, h9, h2, h3, c0, c1, hn, h10, h11, cu, cv, e1]
    refine AC.use (textsR_ac (l := s.acts[i].prins) (m := t.acts[i].prins) (by have := hG.pl; omega)) ?_
    simp only [WS, stepW, evalA, reduceIte, Nat.reduceEqDiff, reduceCtorEq, evalBin, Option.getD, Int.reduceToNat, Nat.reduceMul, Nat.reduceAdd, allocA, rowOf, fillA, partsV, setl, Nat.reduceLeDiff, AV.len, evalUn, Int.reduceLT, Int.reduceLE, Int.reduceEq, Int.reduceNe, strs_eq, h9, h2, h3, c0, c1, hn, h10, h11, cu, cv, decide_eq_true e2]
    refine AC.use (textsR_ac (l := s.acts[i].ress) (m := t.acts[i].ress) (by have := hG.rl; omega)) ?_
    simp only [WS, stepW, evalA, reduceIte, Nat.reduceEqDiff, reduceCtorEq, evalBin, Option.getD, Int.reduceToNat, Nat.reduceMul, Nat.reduceAdd, allocA, rowOf, fillA, partsV, setl, Nat.reduceLeDiff, AV.len, evalUn, Int.reduceLT, Int.reduceLE, Int.reduceEq, Int.reduceNe, strs_eq, h9, h2, h3, c0, c1, hn, decide_eq_true e3, hw]
    exact ⟨hlt, takes_succ hlt hlt2 hno ek⟩
theorem sameR_own {s t : Sc} {σ : AState} {x y : AV} (hs : ScH s) (hx : Pur σ true x (.agg s.c)) (hy : Pur σ true y (.agg t.c)) : AC Try.prog 19 [x, y] σ fun v s' => s' = σ ∧ v = .bool (sameS s t) :=
  AC.pure (.cons hx (.cons hy .nil)) ((sameR_st0 hs).mono fun v s' e => ⟨_, by rw [e]; exact .flat _ rfl, rfl⟩)
/- ------------------------------------------------ fields -/
def fieldV (fs : List Fl) (n : Str) : AV := match fs.find? (fun f => decide (f.name = n)) with
  | some f => .tup [.agg f.ty.c, .bool true]
  | none => .tup [.agg [.int .i64 0, .int .i64 0, .str []], .bool false]
theorem findF_take {ks : List Fl} {n : Str} {i : Nat} (h : i < ks.length) (hno : (ks.take i).find? (fun k => decide (k.name = n)) = none) :
    ks.find? (fun k => decide (k.name = n)) = if ks[i].name = n then some ks[i] else (ks.drop (i + 1)).find? (fun k => decide (k.name = n)) := by
  conv => lhs; rw [← List.take_append_drop i ks]
  rw [List.find?_append, hno, Option.none_or, List.drop_eq_getElem_cons h, List.find?_cons]
  by_cases hn : ks[i].name = n <;> simp [hn]
theorem findF_next {ks : List Fl} {n : Str} {i : Nat} (h : i < ks.length) (hno : (ks.take i).find? (fun k => decide (k.name = n)) = none) (hn : ¬ ks[i].name = n) :
    (ks.take (i + 1)).find? (fun k => decide (k.name = n)) = none := by
  rw [List.take_add_one, List.find?_append, hno, List.getElem?_eq_getElem h]
  simp [hn]
theorem pur_ty (s : AState) (t : Ty) : Pur s true (.agg t.c) (.agg t.c) := .agg _ _ rfl fun i hi hi' => by
  match i, hi with
  | 0, _ => exact .flat _ rfl
  | 1, _ => exact .flat _ rfl
  | 2, _ => exact .flat _ rfl
theorem field23_st0 {k : Kd} {n : Str} (hl : k.fields.length ≤ 1000) : AC Try.prog 23 [.agg k.c, .str n] st0 fun v s' => ∃ a, Pur s' true v a ∧ a = fieldV k.fields n := by
  refine ac_wp fn23 cf23 cl23 rfl ?_
  simp only [ac23]
  unfold ab23
  simp only [WS, stepW, evalA, reduceIte, Nat.reduceEqDiff, reduceCtorEq, evalBin, Option.getD, Int.reduceToNat, Nat.reduceMul, Nat.reduceAdd, allocA, rowOf, fillA, partsV, setl, Nat.reduceLeDiff, AV.len, evalUn, Int.reduceLT, Int.reduceLE, Int.reduceEq, Int.reduceNe, strs_eq, Kd.c_eq]
  refine w_for (fun i ρ s' => ρ.rd 11 = .int .i64 i ∧ ρ.rd 10 = .int .i64 k.fields.length ∧ ρ.rd 9 = slc Fl.c k.fields ∧ ρ.rd 4 = .ptr 1 0 ∧ ρ.rd 1 = .str n ∧ s'.cells 1 = some [.int .i64 0, .int .i64 0, .str []] ∧ 2 ≤ s'.n ∧ (k.fields.take i).find? (fun k => decide (k.name = n)) = none) k.fields.length ?_ ?_
  · simp only [WS, stepW, evalA, reduceIte, Nat.reduceEqDiff, reduceCtorEq, evalBin, Option.getD, Int.reduceToNat, Nat.reduceMul, Nat.reduceAdd, allocA, rowOf, fillA, partsV, setl, Nat.reduceLeDiff, AV.len, evalUn, Int.reduceLT, Int.reduceLE, Int.reduceEq, Int.reduceNe, strs_eq, List.take_zero, List.find?_nil]
    rfl
  · rintro i ρ s' hi ⟨h11, h10, h9, h4, h1, c1, hn, hno⟩
    simp only [WS, stepW, evalA, reduceIte, Nat.reduceEqDiff, reduceCtorEq, evalBin, Option.getD, Int.reduceToNat, Nat.reduceMul, Nat.reduceAdd, allocA, rowOf, fillA, partsV, setl, Nat.reduceLeDiff, AV.len, evalUn, Int.reduceLT, Int.reduceLE, Int.reduceEq, Int.reduceNe, strs_eq, h11, h10]
    refine Br_dec (fun hlt' => ?_) (fun hge => ?_)
    rotate_left
    · have : i = k.fields.length := by omega
      subst this
      simp only [WS, stepW, evalA, reduceIte, Nat.reduceEqDiff, reduceCtorEq, evalBin, Option.getD, Int.reduceToNat, Nat.reduceMul, Nat.reduceAdd, allocA, rowOf, fillA, partsV, setl, Nat.reduceLeDiff, AV.len, evalUn, Int.reduceLT, Int.reduceLE, Int.reduceEq, Int.reduceNe, strs_eq, h4, h1, c1, storeA, sets, setx, List.take_zero, List.drop_succ_cons, List.drop_zero, List.take_succ_cons]
      refine ⟨_, pur_pair _ _ false (pur_ty _ ⟨0, 0, []⟩), ?_⟩
      rw [List.take_length] at hno
      rw [fieldV, hno]
      rfl
    have hlt : i < k.fields.length := by omega
    have A := flAt hlt
    have hr := lt_idx hlt
    have hw : IntKind.i64.wrap ((i : Int) + 1) = ((i + 1 : Nat) : Int) := wrap_succ (by omega)
    have n1 : ¬ 1 = s'.n := by omega
    have sg : ∀ a b c d : AV, seg [a, b, c, d] 1 3 = [b, c, d] := fun _ _ _ _ => rfl
    simp only [WS, stepW, evalA, reduceIte, Nat.reduceEqDiff, reduceCtorEq, evalBin, Option.getD, Int.reduceToNat, Nat.reduceMul, Nat.reduceAdd, allocA, rowOf, fillA, partsV, setl, Nat.reduceLeDiff, AV.len, evalUn, Int.reduceLT, Int.reduceLE, Int.reduceEq, Int.reduceNe, strs_eq, h11, h10, h9, h4, h1, hr, A.fit, A.all, n1, c1, storeA, sets, setx, List.take_zero, List.drop_succ_cons, List.drop_zero, List.take_succ_cons]
    refine Br_dec (fun hy => ?_) (fun hne => ?_)
    · simp only [WS, stepW, evalA, reduceIte, Nat.reduceEqDiff, reduceCtorEq, evalBin, Option.getD, Int.reduceToNat, Nat.reduceMul, Nat.reduceAdd, allocA, rowOf, fillA, partsV, setl, Nat.reduceLeDiff, AV.len, evalUn, Int.reduceLT, Int.reduceLE, Int.reduceEq, Int.reduceNe, strs_eq, h4, h1, n1, c1, sg, storeA, sets, setx, List.take_zero, List.drop_succ_cons, List.drop_zero, List.take_succ_cons]
      refine ⟨_, pur_pair _ _ true (pur_ty _ k.fields[i].ty), ?_⟩
      rw [fieldV, findF_take hlt hno, if_pos hy]
    · simp only [WS, stepW, evalA, reduceIte, Nat.reduceEqDiff, reduceCtorEq, evalBin, Option.getD, Int.reduceToNat, Nat.reduceMul, Nat.reduceAdd, allocA, rowOf, fillA, partsV, setl, Nat.reduceLeDiff, AV.len, evalUn, Int.reduceLT, Int.reduceLE, Int.reduceEq, Int.reduceNe, strs_eq, h11, h10, h9, h4, h1, c1, n1, hw]
      exact ⟨hlt, by omega, findF_next hlt hno hne⟩
theorem field23_ac {k : Kd} {n : Str} {σ : AState} (hl : k.fields.length ≤ 1000) : AC Try.prog 23 [.agg k.c, .str n] σ fun v s' => s' = σ ∧ v = fieldV k.fields n :=
  AC.share (.cons (.agg (Kd.fxd k)) (.cons (.flat rfl) .nil)) (field23_st0 hl)
theorem fieldR_st0 {k : Kd} {n : Str} (hl : k.fields.length ≤ 1000) : AC Try.prog 24 [.agg k.c, .str n] st0 fun v s' => ∃ a, Pur s' true v a ∧ a = fieldV k.fields n := by
  refine ac_wp fn24 cf24 cl24 rfl ?_
  simp only [ac24]
  unfold ab24
  simp only [WS, stepW, evalA, reduceIte, Nat.reduceEqDiff, reduceCtorEq, evalBin, Option.getD, Int.reduceToNat, Nat.reduceMul, Nat.reduceAdd, allocA, rowOf, fillA, partsV, setl, Nat.reduceLeDiff, AV.len, evalUn, Int.reduceLT, Int.reduceLE, Int.reduceEq, Int.reduceNe, strs_eq, Kd.c_eq]
  refine w_for (fun i ρ s' => ρ.rd 6 = .int .i64 i ∧ ρ.rd 2 = .ptr 0 0 ∧ ρ.rd 4 = .ptr 1 0 ∧ ρ.rd 1 = .str n ∧ s'.cells 0 = some [.str k.name, strs k.parents, slc Fl.c k.fields] ∧ s'.cells 1 = some [.int .i64 0, .int .i64 0, .str []] ∧ (k.fields.take i).find? (fun k => decide (k.name = n)) = none) k.fields.length ?_ ?_
  · simp only [WS, stepW, evalA, reduceIte, Nat.reduceEqDiff, reduceCtorEq, evalBin, Option.getD, Int.reduceToNat, Nat.reduceMul, Nat.reduceAdd, allocA, rowOf, fillA, partsV, setl, Nat.reduceLeDiff, AV.len, evalUn, Int.reduceLT, Int.reduceLE, Int.reduceEq, Int.reduceNe, strs_eq, List.take_zero, List.find?_nil]
    rfl
  · rintro i ρ s' hi ⟨h6, h2, h4, h1, c0, c1, hno⟩
    simp only [WS, stepW, evalA, reduceIte, Nat.reduceEqDiff, reduceCtorEq, evalBin, Option.getD, Int.reduceToNat, Nat.reduceMul, Nat.reduceAdd, allocA, rowOf, fillA, partsV, setl, Nat.reduceLeDiff, AV.len, evalUn, Int.reduceLT, Int.reduceLE, Int.reduceEq, Int.reduceNe, strs_eq, h6, h2, h4, h1, c0, c1]
    refine Br_dec (fun hlt' => ?_) (fun hge => ?_)
    rotate_left
    · have : i = k.fields.length := by omega
      subst this
      simp only [WS, stepW, evalA, reduceIte, Nat.reduceEqDiff, reduceCtorEq, evalBin, Option.getD, Int.reduceToNat, Nat.reduceMul, Nat.reduceAdd, allocA, rowOf, fillA, partsV, setl, Nat.reduceLeDiff, AV.len, evalUn, Int.reduceLT, Int.reduceLE, Int.reduceEq, Int.reduceNe, strs_eq, h4, h1, c1, storeA, sets, setx, List.take_zero, List.drop_succ_cons, List.drop_zero, List.take_succ_cons]
      refine ⟨_, pur_pair _ _ false (pur_ty _ ⟨0, 0, []⟩), ?_⟩
      rw [List.take_length] at hno
      rw [fieldV, hno]
      rfl
    have hlt : i < k.fields.length := by omega
    have A := flAt hlt
    have hr := lt_idx hlt
    have hw : IntKind.i64.wrap ((i : Int) + 1) = ((i + 1 : Nat) : Int) := wrap_succ (by omega)
    have hfit := A.fit1
    have hty := A.ty
    simp only [WS, stepW, evalA, reduceIte, Nat.reduceEqDiff, reduceCtorEq, evalBin, Option.getD, Int.reduceToNat, Nat.reduceMul, Nat.reduceAdd, allocA, rowOf, fillA, partsV, setl, Nat.reduceLeDiff, AV.len, evalUn, Int.reduceLT, Int.reduceLE, Int.reduceEq, Int.reduceNe, strs_eq, h6, h2, h4, h1, c0, c1, hr, A.g0]
    refine Br_dec (fun hy => ?_) (fun hne => ?_)
    · simp only [WS, stepW, evalA, reduceIte, Nat.reduceEqDiff, reduceCtorEq, evalBin, Option.getD, Int.reduceToNat, Nat.reduceMul, Nat.reduceAdd, allocA, rowOf, fillA, partsV, setl, Nat.reduceLeDiff, AV.len, evalUn, Int.reduceLT, Int.reduceLE, Int.reduceEq, Int.reduceNe, strs_eq, h6, h2, h4, h1, c0, c1, hr, hfit, hty, storeA, sets, setx, List.take_zero, List.drop_succ_cons, List.drop_zero, List.take_succ_cons]
      refine ⟨_, pur_pair _ _ true (pur_ty _ k.fields[i].ty), ?_⟩
      rw [fieldV, findF_take hlt hno, if_pos hy]
    · simp only [WS, stepW, evalA, reduceIte, Nat.reduceEqDiff, reduceCtorEq, evalBin, Option.getD, Int.reduceToNat, Nat.reduceMul, Nat.reduceAdd, allocA, rowOf, fillA, partsV, setl, Nat.reduceLeDiff, AV.len, evalUn, Int.reduceLT, Int.reduceLE, Int.reduceEq, Int.reduceNe, strs_eq, h6, h2, h4, h1, c0, c1, hw]
      exact ⟨hlt, findF_next hlt hno hne⟩
theorem fieldR_ac {k : Kd} {n : Str} {σ : AState} (hl : k.fields.length ≤ 1000) : AC Try.prog 24 [.agg k.c, .str n] σ fun v s' => s' = σ ∧ v = fieldV k.fields n :=
  AC.share (.cons (.agg (Kd.fxd k)) (.cons (.flat rfl) .nil)) (fieldR_st0 hl)
end Go.Proofs.Ytaokfpjjaejjgaa.Va
