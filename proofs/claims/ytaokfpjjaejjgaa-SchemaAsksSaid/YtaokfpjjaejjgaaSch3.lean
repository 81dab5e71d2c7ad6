/- Types of fields, told by both. Conditions: none. -/
import Derived.Test.YtaokfpjjaejjgaaSch2
set_option maxRecDepth 100000
set_option maxHeartbeats 4000000
set_option linter.all false
namespace Go.Proofs.Ytaokfpjjaejjgaa.Va
open Go.Proofs

def resS (n : Str) : Bool := decide (n = [65, 99, 116, 105, 111, 110] ∨ n = [66, 111, 111, 108] ∨ n = [76, 111, 110, 103] ∨ n = [83, 116, 114, 105, 110, 103] ∨ n = [83, 101, 116])
theorem reserved_ac (n : Str) (σ : AState) : AC Try.prog 49 [.str n] σ fun v s => s = σ ∧ v = .bool (resS n) := by
  refine ac_wp fn49 cf49 cl49 rfl ?_
  simp only [ac49]
  unfold ab49
  simp only [WS, stepW, evalA, reduceIte, Nat.reduceEqDiff, reduceCtorEq, evalBin, Option.getD, Int.reduceToNat, Nat.reduceMul, Nat.reduceAdd, allocA, rowOf, fillA, partsV, setl, Nat.reduceLeDiff, AV.len, evalUn, Int.reduceLT, Int.reduceLE, Int.reduceEq, Int.reduceNe, strs_eq]
  repeat' (first
    | (refine Br_dec (fun _ => ?_) (fun _ => ?_) <;> (try simp only [WS, stepW, evalA, reduceIte, Nat.reduceEqDiff, reduceCtorEq, evalBin, Option.getD, Int.reduceToNat, Nat.reduceMul, Nat.reduceAdd, allocA, rowOf, fillA, partsV, setl, Nat.reduceLeDiff, AV.len, evalUn, Int.reduceLT, Int.reduceLE, Int.reduceEq, Int.reduceNe, strs_eq, *]))
    | (refine Br_intro (fun _ => ?_) (fun _ => ?_) <;> (try simp only [WS, stepW, evalA, reduceIte, Nat.reduceEqDiff, reduceCtorEq, evalBin, Option.getD, Int.reduceToNat, Nat.reduceMul, Nat.reduceAdd, allocA, rowOf, fillA, partsV, setl, Nat.reduceLeDiff, AV.len, evalUn, Int.reduceLT, Int.reduceLE, Int.reduceEq, Int.reduceNe, strs_eq, *])))
  all_goals (refine congrArg AV.bool (Bool.eq_iff_iff.2 ?_); simp only [resS, decide_eq_true_eq, true_iff, false_iff, Bool.false_eq_true]; simp_all)

/- The reference's kind by a name: the first one, or none. -/
def kindV (ks : List Kd) (n : Str) : AV := match ks.find? (fun k => decide (k.name = n)) with
  | some k => .tup [.agg k.c, .bool true]
  | none => .tup [.agg [.str [], .psl [] 0 0, .psl [] 0 0], .bool false]
theorem kindV_bool (ks : List Kd) (n : Str) : ∃ cs, kindV ks n = .tup [.agg cs, .bool (hasS ks n)] ∧ ∃ a b c, cs = [a, b, c] ∧ a.one = true ∧ b.one = true ∧ c.one = true := by
  unfold kindV hasS
  cases h : ks.find? fun k => decide (k.name = n) with
  | none =>
    have : (ks.any fun k => decide (k.name = n)) = false := by
      rw [List.any_eq_false]; exact List.find?_eq_none.1 h
    rw [this]
    exact ⟨_, rfl, _, _, _, rfl, rfl, rfl, rfl⟩
  | some k =>
    have : (ks.any fun k => decide (k.name = n)) = true := by
      rw [List.any_eq_true]; exact ⟨k, List.mem_of_find?_eq_some h, by simpa using List.find?_some (p := fun k : Kd => decide (k.name = n)) h⟩
    rw [this]
    exact ⟨_, rfl, _, _, _, rfl, rfl, rfl, rfl⟩
theorem find_take {ks : List Kd} {n : Str} {i : Nat} (h : i < ks.length) (hno : (ks.take i).find? (fun k => decide (k.name = n)) = none) :
    ks.find? (fun k => decide (k.name = n)) = if ks[i].name = n then some ks[i] else (ks.drop (i + 1)).find? (fun k => decide (k.name = n)) := by
  conv => lhs; rw [← List.take_append_drop i ks]
  rw [List.find?_append, hno, Option.none_or, List.drop_eq_getElem_cons h, List.find?_cons]
  by_cases hn : ks[i].name = n <;> simp [hn]
theorem find_next {ks : List Kd} {n : Str} {i : Nat} (h : i < ks.length) (hno : (ks.take i).find? (fun k => decide (k.name = n)) = none) (hn : ¬ ks[i].name = n) :
    (ks.take (i + 1)).find? (fun k => decide (k.name = n)) = none := by
  rw [List.take_add_one, List.find?_append, hno, List.getElem?_eq_getElem h]
  simp [hn]
theorem pur_nil_kd (s : AState) : Pur s true (.agg [.str [], .nils, .nils]) (.agg [.str [], .psl [] 0 0, .psl [] 0 0]) :=
  .agg _ _ rfl (fun i hi hi' => by
    match i, hi with
    | 0, _ => exact .flat _ rfl
    | 1, _ => exact .nils _ _
    | 2, _ => exact .nils _ _)
theorem pur_strs (s : AState) (l : List Str) : Pur s true (strs l) (strs l) := .psl rfl _ _ _ _ rfl fun i hi hi' => .flat _ (by simp [AV.flat])
theorem pur_fls (s : AState) (l : List Fl) : Pur s true (slc Fl.c l) (slc Fl.c l) := .psl rfl _ _ _ _ rfl fun i hi hi' => by
  have hm := List.getElem_mem hi
  obtain ⟨x, hx, hm⟩ := List.mem_flatten.1 hm
  obtain ⟨f, _, rfl⟩ := List.mem_map.1 hx
  refine .flat _ ?_
  simp only [Fl.c, List.mem_cons, List.mem_nil_iff, or_false] at hm
  rcases hm with h | h | h | h <;> rw [h] <;> rfl
theorem pur_kd (s : AState) (k : Kd) : Pur s true (.agg k.c) (.agg k.c) := .agg _ _ rfl fun i hi hi' => by
  match i, hi with
  | 0, _ => exact .flat _ rfl
  | 1, _ => exact pur_strs _ _
  | 2, _ => exact pur_fls _ _
theorem pur_pair (s : AState) (al : Bool) {a a' : AV} (b : Bool) (h : Pur s al a a') : Pur s al (.tup [a, .bool b]) (.tup [a', .bool b]) := .tup _ _ rfl fun i hi hi' => by
  match i, hi with
  | 0, _ => exact h
  | 1, _ => exact .flat _ rfl

theorem kindR_st0 {s : Sc} {n : Str} (hs : s.ok) : AC Try.prog 21 [.agg s.c, .str n] st0 fun v s' => ∃ a, Pur s' true v a ∧ a = kindV s.kinds n := by
  refine ac_wp fn21 cf21 cl21 rfl ?_
  simp only [ac21]
  unfold ab21
  simp only [WS, stepW, evalA, reduceIte, Nat.reduceEqDiff, reduceCtorEq, evalBin, Option.getD, Int.reduceToNat, Nat.reduceMul, Nat.reduceAdd, allocA, rowOf, fillA, partsV, setl, Nat.reduceLeDiff, AV.len, evalUn, Int.reduceLT, Int.reduceLE, Int.reduceEq, Int.reduceNe, strs_eq, Sc.c_eq]
  refine w_for (fun i ρ s' => ρ.rd 6 = .int .i64 i ∧ ρ.rd 2 = .ptr 0 0 ∧ ρ.rd 4 = .ptr 1 0 ∧ ρ.rd 1 = .str n ∧ s'.cells 0 = some [slc Kd.c s.kinds, slc Ac.c s.acts] ∧ s'.cells 1 = some [.str [], .nils, .nils] ∧ (s.kinds.take i).find? (fun k => decide (k.name = n)) = none) s.kinds.length ?_ ?_
  · simp only [WS, stepW, evalA, reduceIte, Nat.reduceEqDiff, reduceCtorEq, evalBin, Option.getD, Int.reduceToNat, Nat.reduceMul, Nat.reduceAdd, allocA, rowOf, fillA, partsV, setl, Nat.reduceLeDiff, AV.len, evalUn, Int.reduceLT, Int.reduceLE, Int.reduceEq, Int.reduceNe, strs_eq, List.take_zero, List.find?_nil]
    rfl
  · rintro i ρ s' hi ⟨h6, h2, h4, h1, c0, c1, hno⟩
    simp only [WS, stepW, evalA, reduceIte, Nat.reduceEqDiff, reduceCtorEq, evalBin, Option.getD, Int.reduceToNat, Nat.reduceMul, Nat.reduceAdd, allocA, rowOf, fillA, partsV, setl, Nat.reduceLeDiff, AV.len, evalUn, Int.reduceLT, Int.reduceLE, Int.reduceEq, Int.reduceNe, strs_eq, h6, h2, h4, h1, c0, c1]
    refine Br_dec (fun hlt' => ?_) (fun hge => ?_)
    · have hlt : i < s.kinds.length := by omega
      have A := kdAt hlt
      have hr := lt_idx hlt
      have hw : IntKind.i64.wrap ((i : Int) + 1) = ((i + 1 : Nat) : Int) := wrap_succ (by have : Most = 9223372036854775807 := rfl; have := hs.kl; omega)
      simp only [WS, stepW, evalA, reduceIte, Nat.reduceEqDiff, reduceCtorEq, evalBin, Option.getD, Int.reduceToNat, Nat.reduceMul, Nat.reduceAdd, allocA, rowOf, fillA, partsV, setl, Nat.reduceLeDiff, AV.len, evalUn, Int.reduceLT, Int.reduceLE, Int.reduceEq, Int.reduceNe, strs_eq, h6, h2, h4, h1, c0, c1, hr, A.g0]
      refine Br_dec (fun hy => ?_) (fun hn => ?_)
      · simp only [WS, stepW, evalA, reduceIte, Nat.reduceEqDiff, reduceCtorEq, evalBin, Option.getD, Int.reduceToNat, Nat.reduceMul, Nat.reduceAdd, allocA, rowOf, fillA, partsV, setl, Nat.reduceLeDiff, AV.len, evalUn, Int.reduceLT, Int.reduceLE, Int.reduceEq, Int.reduceNe, strs_eq, h6, h2, h4, h1, c0, c1, hr, A.fit, A.all, storeA, sets, setx, List.take_zero, List.drop_succ_cons, List.drop_zero, List.take_succ_cons]
        refine ⟨_, pur_pair _ _ true (pur_kd _ s.kinds[i]), ?_⟩
        rw [kindV, find_take hlt hno, if_pos hy]
      · simp only [WS, stepW, evalA, reduceIte, Nat.reduceEqDiff, reduceCtorEq, evalBin, Option.getD, Int.reduceToNat, Nat.reduceMul, Nat.reduceAdd, allocA, rowOf, fillA, partsV, setl, Nat.reduceLeDiff, AV.len, evalUn, Int.reduceLT, Int.reduceLE, Int.reduceEq, Int.reduceNe, strs_eq, h6, h2, h4, h1, c0, c1, hw]
        exact ⟨hlt, find_next hlt hno hn⟩
    · have : i = s.kinds.length := by omega
      subst this
      simp only [WS, stepW, evalA, reduceIte, Nat.reduceEqDiff, reduceCtorEq, evalBin, Option.getD, Int.reduceToNat, Nat.reduceMul, Nat.reduceAdd, allocA, rowOf, fillA, partsV, setl, Nat.reduceLeDiff, AV.len, evalUn, Int.reduceLT, Int.reduceLE, Int.reduceEq, Int.reduceNe, strs_eq, h6, h2, h4, h1, c0, c1, storeA, sets, setx, List.take_zero, List.drop_succ_cons, List.drop_zero, List.take_succ_cons]
      refine ⟨_, pur_pair _ _ false (pur_nil_kd _), ?_⟩
      rw [List.take_length] at hno
      rw [kindV, hno]
theorem kindR_ac {s : Sc} {n : Str} {σ : AState} (hs : s.ok) : AC Try.prog 21 [.agg s.c, .str n] σ fun v s' => s' = σ ∧ v = kindV s.kinds n :=
  AC.share (.cons (.agg (Sc.fxd s)) (.cons (.flat rfl) .nil)) (kindR_st0 hs)

theorem typR_st0 {s : Sc} {t : Ty} (hs : s.ok) : AC Try.prog 53 [.agg s.c, .agg t.c] st0 fun v _ => v = .int .i64 (kindOfS s.kinds t) := by
  obtain ⟨cs, hkv, a, b, c, rfl, ha, hb, hc⟩ := kindV_bool s.kinds t.name
  refine ac_wp fn53 cf53 cl53 rfl ?_
  simp only [ac53]
  unfold ab53
  simp only [wpC_seq, wpC_skip, wpCK_normal]
  refine w_mid (fun ρ s' => ρ.rd 2 = .ptr 0 0 ∧ ρ.rd 3 = .ptr 1 0 ∧ s'.cells 0 = some [slc Kd.c s.kinds, slc Ac.c s.acts] ∧ s'.cells 1 = some [.int .i64 t.kind, .int .i64 t.of_, .str t.name]) ?_ ?_
  · simp only [WS, stepW, evalA, reduceIte, Nat.reduceEqDiff, reduceCtorEq, evalBin, Option.getD, Int.reduceToNat, Nat.reduceMul, Nat.reduceAdd, allocA, rowOf, fillA, partsV, setl, Nat.reduceLeDiff, AV.len, evalUn, Int.reduceLT, Int.reduceLE, Int.reduceEq, Int.reduceNe, strs_eq, Sc.c_eq, Ty.c_eq]
  rintro ρ s' ⟨h2, h3, c0, c1⟩
  have hkv' := kindR_ac (s := s) (n := t.name) (σ := s') hs
  rw [hkv, Sc.c_eq, slc_eq, slc_eq] at hkv'
  have sg : seg [AV.psl (rowc Kd.c s.kinds) 0 s.kinds.length, AV.psl (rowc Ac.c s.acts) 0 s.acts.length] 0 2 = [AV.psl (rowc Kd.c s.kinds) 0 s.kinds.length, AV.psl (rowc Ac.c s.acts) 0 s.acts.length] := rfl
  by_cases e1 : t.kind < 1
  · simp only [WS, stepW, evalA, reduceIte, Nat.reduceEqDiff, reduceCtorEq, evalBin, Option.getD, Int.reduceToNat, Nat.reduceMul, Nat.reduceAdd, allocA, rowOf, fillA, partsV, setl, Nat.reduceLeDiff, AV.len, evalUn, Int.reduceLT, Int.reduceLE, Int.reduceEq, Int.reduceNe, strs_eq, h2, h3, c0, c1, e1]
    simp [kindOfS, e1]
  by_cases e2 : 5 < t.kind
  · simp only [WS, stepW, evalA, reduceIte, Nat.reduceEqDiff, reduceCtorEq, evalBin, Option.getD, Int.reduceToNat, Nat.reduceMul, Nat.reduceAdd, allocA, rowOf, fillA, partsV, setl, Nat.reduceLeDiff, AV.len, evalUn, Int.reduceLT, Int.reduceLE, Int.reduceEq, Int.reduceNe, strs_eq, h2, h3, c0, c1, e1, e2]
    simp [kindOfS, e1, e2]
  by_cases e5 : t.kind = 5
  · by_cases f1 : t.of_ < 1
    · simp only [WS, stepW, evalA, reduceIte, Nat.reduceEqDiff, reduceCtorEq, evalBin, Option.getD, Int.reduceToNat, Nat.reduceMul, Nat.reduceAdd, allocA, rowOf, fillA, partsV, setl, Nat.reduceLeDiff, AV.len, evalUn, Int.reduceLT, Int.reduceLE, Int.reduceEq, Int.reduceNe, strs_eq, h2, h3, c0, c1, e5, f1]
      simp [kindOfS, e5, f1]
    by_cases f2 : 4 < t.of_
    · simp only [WS, stepW, evalA, reduceIte, Nat.reduceEqDiff, reduceCtorEq, evalBin, Option.getD, Int.reduceToNat, Nat.reduceMul, Nat.reduceAdd, allocA, rowOf, fillA, partsV, setl, Nat.reduceLeDiff, AV.len, evalUn, Int.reduceLT, Int.reduceLE, Int.reduceEq, Int.reduceNe, strs_eq, h2, h3, c0, c1, e5, f1, f2]
      simp [kindOfS, e5, f1, f2]
    by_cases f4 : t.of_ = 4
    · cases hh : hasS s.kinds t.name with
      | true =>
        · simp only [WS, stepW, evalA, reduceIte, Nat.reduceEqDiff, reduceCtorEq, evalBin, Option.getD, Int.reduceToNat, Nat.reduceMul, Nat.reduceAdd, allocA, rowOf, fillA, partsV, setl, Nat.reduceLeDiff, AV.len, evalUn, Int.reduceLT, Int.reduceLE, Int.reduceEq, Int.reduceNe, strs_eq, h2, h3, c0, c1, e5, f4, hh]
          refine hkv'.use ?_
          simp only [WS, stepW, evalA, reduceIte, Nat.reduceEqDiff, reduceCtorEq, evalBin, Option.getD, Int.reduceToNat, Nat.reduceMul, Nat.reduceAdd, allocA, rowOf, fillA, partsV, setl, Nat.reduceLeDiff, AV.len, evalUn, Int.reduceLT, Int.reduceLE, Int.reduceEq, Int.reduceNe, strs_eq, h2, h3, c0, c1, sg, storeA, sets, setx, List.take_zero, List.drop_succ_cons, List.drop_zero, List.take_succ_cons, ha, hb, hc, e5, f4, hh]
          simp [kindOfS, e5, f4, hh]
      | false =>
        · simp only [WS, stepW, evalA, reduceIte, Nat.reduceEqDiff, reduceCtorEq, evalBin, Option.getD, Int.reduceToNat, Nat.reduceMul, Nat.reduceAdd, allocA, rowOf, fillA, partsV, setl, Nat.reduceLeDiff, AV.len, evalUn, Int.reduceLT, Int.reduceLE, Int.reduceEq, Int.reduceNe, strs_eq, h2, h3, c0, c1, e5, f4, hh]
          refine hkv'.use ?_
          simp only [WS, stepW, evalA, reduceIte, Nat.reduceEqDiff, reduceCtorEq, evalBin, Option.getD, Int.reduceToNat, Nat.reduceMul, Nat.reduceAdd, allocA, rowOf, fillA, partsV, setl, Nat.reduceLeDiff, AV.len, evalUn, Int.reduceLT, Int.reduceLE, Int.reduceEq, Int.reduceNe, strs_eq, h2, h3, c0, c1, sg, storeA, sets, setx, List.take_zero, List.drop_succ_cons, List.drop_zero, List.take_succ_cons, ha, hb, hc, e5, f4, hh]
          simp [kindOfS, e5, f4, hh]
    by_cases hn : t.name = []
    · simp only [WS, stepW, evalA, reduceIte, Nat.reduceEqDiff, reduceCtorEq, evalBin, Option.getD, Int.reduceToNat, Nat.reduceMul, Nat.reduceAdd, allocA, rowOf, fillA, partsV, setl, Nat.reduceLeDiff, AV.len, evalUn, Int.reduceLT, Int.reduceLE, Int.reduceEq, Int.reduceNe, strs_eq, h2, h3, c0, c1, e5, f1, f2, f4, hn]
      simp [kindOfS, e5, f1, f2, f4, hn]
    · simp only [WS, stepW, evalA, reduceIte, Nat.reduceEqDiff, reduceCtorEq, evalBin, Option.getD, Int.reduceToNat, Nat.reduceMul, Nat.reduceAdd, allocA, rowOf, fillA, partsV, setl, Nat.reduceLeDiff, AV.len, evalUn, Int.reduceLT, Int.reduceLE, Int.reduceEq, Int.reduceNe, strs_eq, h2, h3, c0, c1, e5, f1, f2, f4, hn]
      simp [kindOfS, e5, f1, f2, f4, hn]
  by_cases f0 : t.of_ = 0
  · by_cases e4 : t.kind = 4
    · cases hh : hasS s.kinds t.name with
      | true =>
        · simp only [WS, stepW, evalA, reduceIte, Nat.reduceEqDiff, reduceCtorEq, evalBin, Option.getD, Int.reduceToNat, Nat.reduceMul, Nat.reduceAdd, allocA, rowOf, fillA, partsV, setl, Nat.reduceLeDiff, AV.len, evalUn, Int.reduceLT, Int.reduceLE, Int.reduceEq, Int.reduceNe, strs_eq, h2, h3, c0, c1, e4, f0, hh]
          refine hkv'.use ?_
          simp only [WS, stepW, evalA, reduceIte, Nat.reduceEqDiff, reduceCtorEq, evalBin, Option.getD, Int.reduceToNat, Nat.reduceMul, Nat.reduceAdd, allocA, rowOf, fillA, partsV, setl, Nat.reduceLeDiff, AV.len, evalUn, Int.reduceLT, Int.reduceLE, Int.reduceEq, Int.reduceNe, strs_eq, h2, h3, c0, c1, sg, storeA, sets, setx, List.take_zero, List.drop_succ_cons, List.drop_zero, List.take_succ_cons, ha, hb, hc, e4, f0, hh]
          simp [kindOfS, e4, f0, hh]
      | false =>
        · simp only [WS, stepW, evalA, reduceIte, Nat.reduceEqDiff, reduceCtorEq, evalBin, Option.getD, Int.reduceToNat, Nat.reduceMul, Nat.reduceAdd, allocA, rowOf, fillA, partsV, setl, Nat.reduceLeDiff, AV.len, evalUn, Int.reduceLT, Int.reduceLE, Int.reduceEq, Int.reduceNe, strs_eq, h2, h3, c0, c1, e4, f0, hh]
          refine hkv'.use ?_
          simp only [WS, stepW, evalA, reduceIte, Nat.reduceEqDiff, reduceCtorEq, evalBin, Option.getD, Int.reduceToNat, Nat.reduceMul, Nat.reduceAdd, allocA, rowOf, fillA, partsV, setl, Nat.reduceLeDiff, AV.len, evalUn, Int.reduceLT, Int.reduceLE, Int.reduceEq, Int.reduceNe, strs_eq, h2, h3, c0, c1, sg, storeA, sets, setx, List.take_zero, List.drop_succ_cons, List.drop_zero, List.take_succ_cons, ha, hb, hc, e4, f0, hh]
          simp [kindOfS, e4, f0, hh]
    by_cases hn : t.name = []
    · simp only [WS, stepW, evalA, reduceIte, Nat.reduceEqDiff, reduceCtorEq, evalBin, Option.getD, Int.reduceToNat, Nat.reduceMul, Nat.reduceAdd, allocA, rowOf, fillA, partsV, setl, Nat.reduceLeDiff, AV.len, evalUn, Int.reduceLT, Int.reduceLE, Int.reduceEq, Int.reduceNe, strs_eq, h2, h3, c0, c1, e1, e2, e5, e4, f0, hn]
      simp [kindOfS, e1, e2, e5, e4, f0, hn]
    · simp only [WS, stepW, evalA, reduceIte, Nat.reduceEqDiff, reduceCtorEq, evalBin, Option.getD, Int.reduceToNat, Nat.reduceMul, Nat.reduceAdd, allocA, rowOf, fillA, partsV, setl, Nat.reduceLeDiff, AV.len, evalUn, Int.reduceLT, Int.reduceLE, Int.reduceEq, Int.reduceNe, strs_eq, h2, h3, c0, c1, e1, e2, e5, e4, f0, hn]
      simp [kindOfS, e1, e2, e5, e4, f0, hn]
  by_cases e4 : t.kind = 4
  · simp only [WS, stepW, evalA, reduceIte, Nat.reduceEqDiff, reduceCtorEq, evalBin, Option.getD, Int.reduceToNat, Nat.reduceMul, Nat.reduceAdd, allocA, rowOf, fillA, partsV, setl, Nat.reduceLeDiff, AV.len, evalUn, Int.reduceLT, Int.reduceLE, Int.reduceEq, Int.reduceNe, strs_eq, h2, h3, c0, c1, e4, f0]
    simp [kindOfS, e4, f0]
  · simp only [WS, stepW, evalA, reduceIte, Nat.reduceEqDiff, reduceCtorEq, evalBin, Option.getD, Int.reduceToNat, Nat.reduceMul, Nat.reduceAdd, allocA, rowOf, fillA, partsV, setl, Nat.reduceLeDiff, AV.len, evalUn, Int.reduceLT, Int.reduceLE, Int.reduceEq, Int.reduceNe, strs_eq, h2, h3, c0, c1, e1, e2, e5, e4, f0]
    simp [kindOfS, e1, e2, e5, e4, f0]
end Go.Proofs.Ytaokfpjjaejjgaa.Va
