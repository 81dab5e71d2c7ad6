/- Two schemas held against one another, by both. Conditions: none. -/
import Derived.Test.YtaokfpjjaejjgaaSch13
set_option maxRecDepth 100000
set_option maxHeartbeats 4000000
set_option linter.all false
namespace Go.Proofs.Ytaokfpjjaejjgaa.Va
open Go.Proofs
instance : DecidableEq Ty := fun a b => decidable_of_iff (a.kind = b.kind ∧ a.of_ = b.of_ ∧ a.name = b.name) (by cases a; cases b; simp)
instance : DecidableEq Fl := fun a b => decidable_of_iff (a.name = b.name ∧ a.ty = b.ty) (by cases a; cases b; simp)
instance : DecidableEq Kd := fun a b => decidable_of_iff (a.name = b.name ∧ a.parents = b.parents ∧ a.fields = b.fields) (by cases a; cases b; simp)
instance : DecidableEq Ac := fun a b => decidable_of_iff (a.name = b.name ∧ a.prins = b.prins ∧ a.ress = b.ress) (by cases a; cases b; simp)
theorem kd_dec (a b : Kd) : decide (a = b) = (decide (a.name = b.name) && (decide (a.parents = b.parents) && decide (a.fields = b.fields))) := by
  rw [← Bool.decide_and, ← Bool.decide_and]
  exact decide_eq_decide.2 (by cases a; cases b; simp)
theorem ac_dec (a b : Ac) : decide (a = b) = (decide (a.name = b.name) && (decide (a.prins = b.prins) && decide (a.ress = b.ress))) := by
  rw [← Bool.decide_and, ← Bool.decide_and]
  exact decide_eq_decide.2 (by cases a; cases b; simp)
theorem takes_succ {α : Type} {l m : List α} {i : Nat} (h : i < l.length) (h' : i < m.length) (e : l.take i = m.take i) (hi : l[i] = m[i]) : l.take (i + 1) = m.take (i + 1) := by
  rw [List.take_add_one, List.take_add_one, e, List.getElem?_eq_getElem h, List.getElem?_eq_getElem h', hi]
theorem ne_at {α : Type} {l m : List α} {i : Nat} (h : i < l.length) (h' : i < m.length) (hi : ¬ l[i] = m[i]) : ¬ l = m := fun e => by subst e; exact hi rfl
theorem ne_len {α : Type} {l m : List α} (h : ¬ (l.length : Int) = m.length) : ¬ l = m := fun e => h (by rw [e])
theorem eq_takes {α : Type} {l m : List α} (h : (l.length : Int) = m.length) (e : l.take l.length = m.take l.length) : l = m := by
  have h' : l.length = m.length := by omega
  rw [List.take_length, h', List.take_length] at e
  exact e
theorem eqFl (f g : Fl) : evalEq (.agg [.s, .i, .i, .s]) (.agg [.str f.name, .int .i64 f.ty.kind, .int .i64 f.ty.of_, .str f.ty.name]) (.agg [.str g.name, .int .i64 g.ty.kind, .int .i64 g.ty.of_, .str g.ty.name]) = some (decide (f = g)) := by
  have : decide (f = g) = (decide (f.name = g.name) && (decide (f.ty.kind = g.ty.kind) && (decide (f.ty.of_ = g.ty.of_) && decide (f.ty.name = g.ty.name)))) := by
    rw [← Bool.decide_and, ← Bool.decide_and, ← Bool.decide_and]
    exact decide_eq_decide.2 (by obtain ⟨n, t⟩ := f; obtain ⟨n', t'⟩ := g; cases t; cases t'; simp)
  rw [this]
  simp only [evalEq, eqCells, eqCell]
  cases h1 : decide (f.name = g.name) <;> cases h2 : decide (f.ty.kind = g.ty.kind) <;> cases h3 : decide (f.ty.of_ = g.ty.of_) <;> cases h4 : decide (f.ty.name = g.ty.name) <;> simp_all
structure AcL (a : Ac) : Prop where
  pl : a.prins.length ≤ 4
  rl : a.ress.length ≤ 4
theorem equalS_st0 {l m : List Str} (hl : l.length ≤ 1000) : AC Try.prog 40 [strs l, strs m] st0 fun v s => v = .bool (decide (l = m)) := by
  refine ac_wp fn40 cf40 cl40 rfl ?_
  simp only [ac40]
  unfold ab40
  by_cases hlen : (l.length : Int) = m.length
  rotate_left
  · simp only [WS, stepW, evalA, reduceIte, Nat.reduceEqDiff, reduceCtorEq, evalBin, Option.getD, Int.reduceToNat, Nat.reduceMul, Nat.reduceAdd, allocA, rowOf, fillA, partsV, setl, Nat.reduceLeDiff, AV.len, evalUn, Int.reduceLT, Int.reduceLE, Int.reduceEq, Int.reduceNe, strs_eq, hlen]
    rw [decide_eq_false (ne_len hlen)]
  simp only [WS, stepW, evalA, reduceIte, Nat.reduceEqDiff, reduceCtorEq, evalBin, Option.getD, Int.reduceToNat, Nat.reduceMul, Nat.reduceAdd, allocA, rowOf, fillA, partsV, setl, Nat.reduceLeDiff, AV.len, evalUn, Int.reduceLT, Int.reduceLE, Int.reduceEq, Int.reduceNe, strs_eq, hlen]
  refine w_for (fun i ρ s => ρ.rd 13 = .int .i64 i ∧ ρ.rd 12 = .int .i64 l.length ∧ ρ.rd 0 = strs l ∧ ρ.rd 1 = strs m ∧ l.take i = m.take i) l.length ?_ ?_
  · simp only [WS, stepW, evalA, reduceIte, Nat.reduceEqDiff, reduceCtorEq, evalBin, Option.getD, Int.reduceToNat, Nat.reduceMul, Nat.reduceAdd, allocA, rowOf, fillA, partsV, setl, Nat.reduceLeDiff, AV.len, evalUn, Int.reduceLT, Int.reduceLE, Int.reduceEq, Int.reduceNe, strs_eq, hlen]
    exact ⟨rfl, rfl⟩
  · rintro i ρ s hi ⟨h13, h12, h0, h1, hno⟩
    simp only [WS, stepW, evalA, reduceIte, Nat.reduceEqDiff, reduceCtorEq, evalBin, Option.getD, Int.reduceToNat, Nat.reduceMul, Nat.reduceAdd, allocA, rowOf, fillA, partsV, setl, Nat.reduceLeDiff, AV.len, evalUn, Int.reduceLT, Int.reduceLE, Int.reduceEq, Int.reduceNe, strs_eq, h13, h12]
    refine Br_dec (fun hlt' => ?_) (fun hge => ?_)
    rotate_left
    · have : i = l.length := by omega
      subst this
      simp only [WS, stepW, evalA, reduceIte, Nat.reduceEqDiff, reduceCtorEq, evalBin, Option.getD, Int.reduceToNat, Nat.reduceMul, Nat.reduceAdd, allocA, rowOf, fillA, partsV, setl, Nat.reduceLeDiff, AV.len, evalUn, Int.reduceLT, Int.reduceLE, Int.reduceEq, Int.reduceNe, strs_eq]
      rw [decide_eq_true (eq_takes hlen hno)]
    have hlt : i < l.length := by omega
    have hlt2 : i < m.length := by omega
    have hr := lt_idx hlt
    have hr2 := lt_idx hlt2
    have hg := strs_get hlt
    have hg2 := strs_get hlt2
    have hw : IntKind.i64.wrap ((i : Int) + 1) = ((i + 1 : Nat) : Int) := wrap_succ (by omega)
    simp only [WS, stepW, evalA, reduceIte, Nat.reduceEqDiff, reduceCtorEq, evalBin, Option.getD, Int.reduceToNat, Nat.reduceMul, Nat.reduceAdd, allocA, rowOf, fillA, partsV, setl, Nat.reduceLeDiff, AV.len, evalUn, Int.reduceLT, Int.reduceLE, Int.reduceEq, Int.reduceNe, strs_eq, h13]
    refine w_dreg0 follow ?_ rfl
    generalize addSlots s.n 9 s [] = s3 at *
    by_cases he : l[i] = m[i]
    · simp only [WS, stepW, evalA, reduceIte, Nat.reduceEqDiff, reduceCtorEq, evalBin, Option.getD, Int.reduceToNat, Nat.reduceMul, Nat.reduceAdd, allocA, rowOf, fillA, partsV, setl, Nat.reduceLeDiff, AV.len, evalUn, Int.reduceLT, Int.reduceLE, Int.reduceEq, Int.reduceNe, strs_eq, h13, h12, h0, h1, hr, hr2, hg, hg2, he, hw]
      exact ⟨hlt, takes_succ hlt hlt2 hno he⟩
    · simp only [WS, stepW, evalA, reduceIte, Nat.reduceEqDiff, reduceCtorEq, evalBin, Option.getD, Int.reduceToNat, Nat.reduceMul, Nat.reduceAdd, allocA, rowOf, fillA, partsV, setl, Nat.reduceLeDiff, AV.len, evalUn, Int.reduceLT, Int.reduceLE, Int.reduceEq, Int.reduceNe, strs_eq, h13, h12, h0, h1, hr, hr2, hg, hg2, he]
      rw [decide_eq_false (ne_at hlt hlt2 he)]
theorem equalS_ac {l m : List Str} {σ : AState} (hl : l.length ≤ 1000) : AC Try.prog 40 [strs l, strs m] σ fun v s => s = σ ∧ v = .bool (decide (l = m)) :=
  AC.told (.cons (strs_fxd l) (.cons (strs_fxd m) .nil)) rfl (equalS_st0 hl)
theorem textsR_st0 {l m : List Str} (hl : l.length ≤ 1000) : AC Try.prog 44 [strs l, strs m] st0 fun v s => v = .bool (decide (l = m)) := by
  refine ac_wp fn44 cf44 cl44 rfl ?_
  simp only [ac44]
  unfold ab44
  by_cases hlen : (l.length : Int) = m.length
  rotate_left
  · simp only [WS, stepW, evalA, reduceIte, Nat.reduceEqDiff, reduceCtorEq, evalBin, Option.getD, Int.reduceToNat, Nat.reduceMul, Nat.reduceAdd, allocA, rowOf, fillA, partsV, setl, Nat.reduceLeDiff, AV.len, evalUn, Int.reduceLT, Int.reduceLE, Int.reduceEq, Int.reduceNe, strs_eq, hlen]
    rw [decide_eq_false (ne_len hlen)]
  simp only [WS, stepW, evalA, reduceIte, Nat.reduceEqDiff, reduceCtorEq, evalBin, Option.getD, Int.reduceToNat, Nat.reduceMul, Nat.reduceAdd, allocA, rowOf, fillA, partsV, setl, Nat.reduceLeDiff, AV.len, evalUn, Int.reduceLT, Int.reduceLE, Int.reduceEq, Int.reduceNe, strs_eq, hlen]
  refine w_for (fun i ρ s => ρ.rd 5 = .int .i64 i ∧ ρ.rd 0 = strs l ∧ ρ.rd 1 = strs m ∧ l.take i = m.take i) l.length ?_ ?_
  · simp only [WS, stepW, evalA, reduceIte, Nat.reduceEqDiff, reduceCtorEq, evalBin, Option.getD, Int.reduceToNat, Nat.reduceMul, Nat.reduceAdd, allocA, rowOf, fillA, partsV, setl, Nat.reduceLeDiff, AV.len, evalUn, Int.reduceLT, Int.reduceLE, Int.reduceEq, Int.reduceNe, strs_eq, hlen]
    exact ⟨rfl, rfl⟩
  · rintro i ρ s hi ⟨h5, h0, h1, hno⟩
    simp only [WS, stepW, evalA, reduceIte, Nat.reduceEqDiff, reduceCtorEq, evalBin, Option.getD, Int.reduceToNat, Nat.reduceMul, Nat.reduceAdd, allocA, rowOf, fillA, partsV, setl, Nat.reduceLeDiff, AV.len, evalUn, Int.reduceLT, Int.reduceLE, Int.reduceEq, Int.reduceNe, strs_eq, h5, h0]
    refine Br_dec (fun hlt' => ?_) (fun hge => ?_)
    rotate_left
    · have : i = l.length := by omega
      subst this
      simp only [WS, stepW, evalA, reduceIte, Nat.reduceEqDiff, reduceCtorEq, evalBin, Option.getD, Int.reduceToNat, Nat.reduceMul, Nat.reduceAdd, allocA, rowOf, fillA, partsV, setl, Nat.reduceLeDiff, AV.len, evalUn, Int.reduceLT, Int.reduceLE, Int.reduceEq, Int.reduceNe, strs_eq]
      rw [decide_eq_true (eq_takes hlen hno)]
    have hlt : i < l.length := by omega
    have hlt2 : i < m.length := by omega
    have hr := lt_idx hlt
    have hr2 := lt_idx hlt2
    have hg := strs_get hlt
    have hg2 := strs_get hlt2
    have hw : IntKind.i64.wrap ((i : Int) + 1) = ((i + 1 : Nat) : Int) := wrap_succ (by omega)
    simp only [WS, stepW, evalA, reduceIte, Nat.reduceEqDiff, reduceCtorEq, evalBin, Option.getD, Int.reduceToNat, Nat.reduceMul, Nat.reduceAdd, allocA, rowOf, fillA, partsV, setl, Nat.reduceLeDiff, AV.len, evalUn, Int.reduceLT, Int.reduceLE, Int.reduceEq, Int.reduceNe, strs_eq]
    refine w_dreg0 follow ?_ rfl
    generalize addSlots s.n 9 s [] = s3 at *
    by_cases he : l[i] = m[i]
    · simp only [WS, stepW, evalA, reduceIte, Nat.reduceEqDiff, reduceCtorEq, evalBin, Option.getD, Int.reduceToNat, Nat.reduceMul, Nat.reduceAdd, allocA, rowOf, fillA, partsV, setl, Nat.reduceLeDiff, AV.len, evalUn, Int.reduceLT, Int.reduceLE, Int.reduceEq, Int.reduceNe, strs_eq, h5, h0, h1, hr, hr2, hg, hg2, he, hw]
      exact ⟨hlt, takes_succ hlt hlt2 hno he⟩
    · simp only [WS, stepW, evalA, reduceIte, Nat.reduceEqDiff, reduceCtorEq, evalBin, Option.getD, Int.reduceToNat, Nat.reduceMul, Nat.reduceAdd, allocA, rowOf, fillA, partsV, setl, Nat.reduceLeDiff, AV.len, evalUn, Int.reduceLT, Int.reduceLE, Int.reduceEq, Int.reduceNe, strs_eq, h5, h0, h1, hr, hr2, hg, hg2, he]
      rw [decide_eq_false (ne_at hlt hlt2 he)]
theorem textsR_ac {l m : List Str} {σ : AState} (hl : l.length ≤ 1000) : AC Try.prog 44 [strs l, strs m] σ fun v s => s = σ ∧ v = .bool (decide (l = m)) :=
  AC.told (.cons (strs_fxd l) (.cons (strs_fxd m) .nil)) rfl (textsR_st0 hl)
theorem equalF_st0 {l m : List Fl} (hl : l.length ≤ 1000) : AC Try.prog 41 [slc Fl.c l, slc Fl.c m] st0 fun v s => v = .bool (decide (l = m)) := by
  refine ac_wp fn41 cf41 cl41 rfl ?_
  simp only [ac41]
  unfold ab41
  by_cases hlen : (l.length : Int) = m.length
  rotate_left
  · simp only [WS, stepW, evalA, reduceIte, Nat.reduceEqDiff, reduceCtorEq, evalBin, Option.getD, Int.reduceToNat, Nat.reduceMul, Nat.reduceAdd, allocA, rowOf, fillA, partsV, setl, Nat.reduceLeDiff, AV.len, evalUn, Int.reduceLT, Int.reduceLE, Int.reduceEq, Int.reduceNe, strs_eq, hlen]
    rw [decide_eq_false (ne_len hlen)]
  simp only [WS, stepW, evalA, reduceIte, Nat.reduceEqDiff, reduceCtorEq, evalBin, Option.getD, Int.reduceToNat, Nat.reduceMul, Nat.reduceAdd, allocA, rowOf, fillA, partsV, setl, Nat.reduceLeDiff, AV.len, evalUn, Int.reduceLT, Int.reduceLE, Int.reduceEq, Int.reduceNe, strs_eq, hlen]
  refine w_for (fun i ρ s => ρ.rd 13 = .int .i64 i ∧ ρ.rd 12 = .int .i64 l.length ∧ ρ.rd 0 = slc Fl.c l ∧ ρ.rd 1 = slc Fl.c m ∧ l.take i = m.take i) l.length ?_ ?_
  · simp only [WS, stepW, evalA, reduceIte, Nat.reduceEqDiff, reduceCtorEq, evalBin, Option.getD, Int.reduceToNat, Nat.reduceMul, Nat.reduceAdd, allocA, rowOf, fillA, partsV, setl, Nat.reduceLeDiff, AV.len, evalUn, Int.reduceLT, Int.reduceLE, Int.reduceEq, Int.reduceNe, strs_eq, hlen]
    exact ⟨rfl, rfl⟩
  · rintro i ρ s hi ⟨h13, h12, h0, h1, hno⟩
    simp only [WS, stepW, evalA, reduceIte, Nat.reduceEqDiff, reduceCtorEq, evalBin, Option.getD, Int.reduceToNat, Nat.reduceMul, Nat.reduceAdd, allocA, rowOf, fillA, partsV, setl, Nat.reduceLeDiff, AV.len, evalUn, Int.reduceLT, Int.reduceLE, Int.reduceEq, Int.reduceNe, strs_eq, h13, h12]
    refine Br_dec (fun hlt' => ?_) (fun hge => ?_)
    rotate_left
    · have : i = l.length := by omega
      subst this
      simp only [WS, stepW, evalA, reduceIte, Nat.reduceEqDiff, reduceCtorEq, evalBin, Option.getD, Int.reduceToNat, Nat.reduceMul, Nat.reduceAdd, allocA, rowOf, fillA, partsV, setl, Nat.reduceLeDiff, AV.len, evalUn, Int.reduceLT, Int.reduceLE, Int.reduceEq, Int.reduceNe, strs_eq]
      rw [decide_eq_true (eq_takes hlen hno)]
    have hlt : i < l.length := by omega
    have hlt2 : i < m.length := by omega
    have hr := lt_idx hlt
    have hr2 := lt_idx hlt2
    have A := flAt hlt
    have B := flAt hlt2
    have hw : IntKind.i64.wrap ((i : Int) + 1) = ((i + 1 : Nat) : Int) := wrap_succ (by omega)
    have hE := eqFl l[i] m[i]
    simp only [WS, stepW, evalA, reduceIte, Nat.reduceEqDiff, reduceCtorEq, evalBin, Option.getD, Int.reduceToNat, Nat.reduceMul, Nat.reduceAdd, allocA, rowOf, fillA, partsV, setl, Nat.reduceLeDiff, AV.len, evalUn, Int.reduceLT, Int.reduceLE, Int.reduceEq, Int.reduceNe, strs_eq, h13]
    refine w_dreg0 follow ?_ rfl
    generalize addSlots s.n 9 s [] = s3 at *
    by_cases he : l[i] = m[i]
    · rw [decide_eq_true he] at hE
      simp only [WS, stepW, evalA, reduceIte, Nat.reduceEqDiff, reduceCtorEq, evalBin, Option.getD, Int.reduceToNat, Nat.reduceMul, Nat.reduceAdd, allocA, rowOf, fillA, partsV, setl, Nat.reduceLeDiff, AV.len, evalUn, Int.reduceLT, Int.reduceLE, Int.reduceEq, Int.reduceNe, strs_eq, h13, h12, h0, h1, hr, hr2, A.fit, A.all, B.fit, B.all, hE, hw]
      exact ⟨hlt, takes_succ hlt hlt2 hno he⟩
    · rw [decide_eq_false he] at hE
      simp only [WS, stepW, evalA, reduceIte, Nat.reduceEqDiff, reduceCtorEq, evalBin, Option.getD, Int.reduceToNat, Nat.reduceMul, Nat.reduceAdd, allocA, rowOf, fillA, partsV, setl, Nat.reduceLeDiff, AV.len, evalUn, Int.reduceLT, Int.reduceLE, Int.reduceEq, Int.reduceNe, strs_eq, h13, h12, h0, h1, hr, hr2, A.fit, A.all, B.fit, B.all, hE]
      rw [decide_eq_false (ne_at hlt hlt2 he)]
theorem equalF_ac {l m : List Fl} {σ : AState} (hl : l.length ≤ 1000) : AC Try.prog 41 [slc Fl.c l, slc Fl.c m] σ fun v s => s = σ ∧ v = .bool (decide (l = m)) :=
  AC.told (.cons (slc_fxd Fl.fxd l) (.cons (slc_fxd Fl.fxd m) .nil)) rfl (equalF_st0 hl)
/- ------------------------------------------------ one kind, one action -/
theorem sameK_st0 {a b : Kd} (ha : KdG a) : AC Try.prog 39 [.agg a.c, .agg b.c] st0 fun v s => v = .bool (decide (a = b)) := by
  refine ac_wp fn39 cf39 cl39 rfl ?_
  simp only [ac39]
  unfold ab39
  rw [kd_dec]
  by_cases hn : a.name = b.name
  rotate_left
  · simp only [WS, stepW, evalA, reduceIte, Nat.reduceEqDiff, reduceCtorEq, evalBin, Option.getD, Int.reduceToNat, Nat.reduceMul, Nat.reduceAdd, allocA, rowOf, fillA, partsV, setl, Nat.reduceLeDiff, AV.len, evalUn, Int.reduceLT, Int.reduceLE, Int.reduceEq, Int.reduceNe, strs_eq, Kd.c_eq, hn]
    rfl
  simp only [WS, stepW, evalA, reduceIte, Nat.reduceEqDiff, reduceCtorEq, evalBin, Option.getD, Int.reduceToNat, Nat.reduceMul, Nat.reduceAdd, allocA, rowOf, fillA, partsV, setl, Nat.reduceLeDiff, AV.len, evalUn, Int.reduceLT, Int.reduceLE, Int.reduceEq, Int.reduceNe, strs_eq, Kd.c_eq, hn]
  refine AC.use (equalS_ac (l := a.parents) (m := b.parents) (by have := ha.pl; omega)) ?_
  by_cases hp : a.parents = b.parents
  rotate_left
  · simp only [WS, stepW, evalA, reduceIte, Nat.reduceEqDiff, reduceCtorEq, evalBin, Option.getD, Int.reduceToNat, Nat.reduceMul, Nat.reduceAdd, allocA, rowOf, fillA, partsV, setl, Nat.reduceLeDiff, AV.len, evalUn, Int.reduceLT, Int.reduceLE, Int.reduceEq, Int.reduceNe, strs_eq, hp]
    rfl
  simp only [WS, stepW, evalA, reduceIte, Nat.reduceEqDiff, reduceCtorEq, evalBin, Option.getD, Int.reduceToNat, Nat.reduceMul, Nat.reduceAdd, allocA, rowOf, fillA, partsV, setl, Nat.reduceLeDiff, AV.len, evalUn, Int.reduceLT, Int.reduceLE, Int.reduceEq, Int.reduceNe, strs_eq, hp]
  refine AC.use (equalF_ac (l := a.fields) (m := b.fields) (by have := ha.fl; omega)) ?_
  simp only [WS, stepW, evalA, reduceIte, Nat.reduceEqDiff, reduceCtorEq, evalBin, Option.getD, Int.reduceToNat, Nat.reduceMul, Nat.reduceAdd, allocA, rowOf, fillA, partsV, setl, Nat.reduceLeDiff, AV.len, evalUn, Int.reduceLT, Int.reduceLE, Int.reduceEq, Int.reduceNe, strs_eq]
theorem sameA_st0 {a b : Ac} (ha : AcL a) : AC Try.prog 43 [.agg a.c, .agg b.c] st0 fun v s => v = .bool (decide (a = b)) := by
  refine ac_wp fn43 cf43 cl43 rfl ?_
  simp only [ac43]
  unfold ab43
  rw [ac_dec]
  by_cases hn : a.name = b.name
  rotate_left
  · simp only [WS, stepW, evalA, reduceIte, Nat.reduceEqDiff, reduceCtorEq, evalBin, Option.getD, Int.reduceToNat, Nat.reduceMul, Nat.reduceAdd, allocA, rowOf, fillA, partsV, setl, Nat.reduceLeDiff, AV.len, evalUn, Int.reduceLT, Int.reduceLE, Int.reduceEq, Int.reduceNe, strs_eq, Ac.c_eq, hn]
    rfl
  simp only [WS, stepW, evalA, reduceIte, Nat.reduceEqDiff, reduceCtorEq, evalBin, Option.getD, Int.reduceToNat, Nat.reduceMul, Nat.reduceAdd, allocA, rowOf, fillA, partsV, setl, Nat.reduceLeDiff, AV.len, evalUn, Int.reduceLT, Int.reduceLE, Int.reduceEq, Int.reduceNe, strs_eq, Ac.c_eq, hn]
  refine AC.use (equalS_ac (l := a.prins) (m := b.prins) (by have := ha.pl; omega)) ?_
  by_cases hp : a.prins = b.prins
  rotate_left
  · simp only [WS, stepW, evalA, reduceIte, Nat.reduceEqDiff, reduceCtorEq, evalBin, Option.getD, Int.reduceToNat, Nat.reduceMul, Nat.reduceAdd, allocA, rowOf, fillA, partsV, setl, Nat.reduceLeDiff, AV.len, evalUn, Int.reduceLT, Int.reduceLE, Int.reduceEq, Int.reduceNe, strs_eq, hp]
    rfl
  simp only [WS, stepW, evalA, reduceIte, Nat.reduceEqDiff, reduceCtorEq, evalBin, Option.getD, Int.reduceToNat, Nat.reduceMul, Nat.reduceAdd, allocA, rowOf, fillA, partsV, setl, Nat.reduceLeDiff, AV.len, evalUn, Int.reduceLT, Int.reduceLE, Int.reduceEq, Int.reduceNe, strs_eq, hp]
  refine AC.use (equalS_ac (l := a.ress) (m := b.ress) (by have := ha.rl; omega)) ?_
  simp only [WS, stepW, evalA, reduceIte, Nat.reduceEqDiff, reduceCtorEq, evalBin, Option.getD, Int.reduceToNat, Nat.reduceMul, Nat.reduceAdd, allocA, rowOf, fillA, partsV, setl, Nat.reduceLeDiff, AV.len, evalUn, Int.reduceLT, Int.reduceLE, Int.reduceEq, Int.reduceNe, strs_eq]
theorem sameK_ac {a b : Kd} {σ : AState} (ha : KdG a) : AC Try.prog 39 [.agg a.c, .agg b.c] σ fun v s => s = σ ∧ v = .bool (decide (a = b)) :=
  AC.told (.cons (.agg (Kd.fxd a)) (.cons (.agg (Kd.fxd b)) .nil)) rfl (sameK_st0 ha)
theorem sameA_ac {a b : Ac} {σ : AState} (ha : AcL a) : AC Try.prog 43 [.agg a.c, .agg b.c] σ fun v s => s = σ ∧ v = .bool (decide (a = b)) :=
  AC.told (.cons (.agg (Ac.fxd a)) (.cons (.agg (Ac.fxd b)) .nil)) rfl (sameA_st0 ha)
theorem eqFuncK_st0 {l m : List Kd} (hl : l.length ≤ 1000) (hg : ∀ k ∈ l, KdG k) : AC Try.prog 38 [slc Kd.c l, slc Kd.c m, .fn 39 []] st0 fun v s => v = .bool (decide (l = m)) := by
  refine ac_wp fn38 cf38 cl38 rfl ?_
  simp only [ac38]
  unfold ab38
  by_cases hlen : (l.length : Int) = m.length
  rotate_left
  · simp only [WS, stepW, evalA, reduceIte, Nat.reduceEqDiff, reduceCtorEq, evalBin, Option.getD, Int.reduceToNat, Nat.reduceMul, Nat.reduceAdd, allocA, rowOf, fillA, partsV, setl, Nat.reduceLeDiff, AV.len, evalUn, Int.reduceLT, Int.reduceLE, Int.reduceEq, Int.reduceNe, strs_eq, hlen]
    rw [decide_eq_false (ne_len hlen)]
  simp only [WS, stepW, evalA, reduceIte, Nat.reduceEqDiff, reduceCtorEq, evalBin, Option.getD, Int.reduceToNat, Nat.reduceMul, Nat.reduceAdd, allocA, rowOf, fillA, partsV, setl, Nat.reduceLeDiff, AV.len, evalUn, Int.reduceLT, Int.reduceLE, Int.reduceEq, Int.reduceNe, strs_eq, hlen]
  refine w_for (fun i ρ s => ρ.rd 17 = .int .i64 i ∧ ρ.rd 16 = .int .i64 l.length ∧ ρ.rd 15 = slc Kd.c l ∧ ρ.rd 1 = slc Kd.c m ∧ ρ.rd 2 = .fn 39 [] ∧ l.take i = m.take i) l.length ?_ ?_
  · simp only [WS, stepW, evalA, reduceIte, Nat.reduceEqDiff, reduceCtorEq, evalBin, Option.getD, Int.reduceToNat, Nat.reduceMul, Nat.reduceAdd, allocA, rowOf, fillA, partsV, setl, Nat.reduceLeDiff, AV.len, evalUn, Int.reduceLT, Int.reduceLE, Int.reduceEq, Int.reduceNe, strs_eq, hlen]
    exact ⟨rfl, rfl⟩
  · rintro i ρ s hi ⟨h17, h16, h15, h1, h2, hno⟩
    simp only [WS, stepW, evalA, reduceIte, Nat.reduceEqDiff, reduceCtorEq, evalBin, Option.getD, Int.reduceToNat, Nat.reduceMul, Nat.reduceAdd, allocA, rowOf, fillA, partsV, setl, Nat.reduceLeDiff, AV.len, evalUn, Int.reduceLT, Int.reduceLE, Int.reduceEq, Int.reduceNe, strs_eq, h17, h16]
    refine Br_dec (fun hlt' => ?_) (fun hge => ?_)
    rotate_left
    · have : i = l.length := by omega
      subst this
      simp only [WS, stepW, evalA, reduceIte, Nat.reduceEqDiff, reduceCtorEq, evalBin, Option.getD, Int.reduceToNat, Nat.reduceMul, Nat.reduceAdd, allocA, rowOf, fillA, partsV, setl, Nat.reduceLeDiff, AV.len, evalUn, Int.reduceLT, Int.reduceLE, Int.reduceEq, Int.reduceNe, strs_eq]
      rw [decide_eq_true (eq_takes hlen hno)]
    have hlt : i < l.length := by omega
    have hlt2 : i < m.length := by omega
    have hr := lt_idx hlt
    have hr2 := lt_idx hlt2
    have A := kdAt hlt
    have B := kdAt hlt2
    have hw : IntKind.i64.wrap ((i : Int) + 1) = ((i + 1 : Nat) : Int) := wrap_succ (by omega)
    have sg3 : ∀ a b c : AV, seg [a, b, c] 0 3 = [a, b, c] := fun _ _ _ => rfl
    have n1 : ¬ s.n = s.n + 1 := by omega
    simp only [WS, stepW, evalA, reduceIte, Nat.reduceEqDiff, reduceCtorEq, evalBin, Option.getD, Int.reduceToNat, Nat.reduceMul, Nat.reduceAdd, allocA, rowOf, fillA, partsV, setl, Nat.reduceLeDiff, AV.len, evalUn, Int.reduceLT, Int.reduceLE, Int.reduceEq, Int.reduceNe, strs_eq, h17, h16, h15, h1, h2, hr, hr2, A.fit, A.all, B.fit, B.all, sg3, n1, storeA, sets, setx, List.take_zero, List.drop_succ_cons, List.drop_zero, List.take_succ_cons, Nat.left_eq_add]
    refine AC.use (sameK_ac (a := l[i]) (b := m[i]) (hg _ (List.getElem_mem hlt))) ?_
    by_cases he : l[i] = m[i]
    · simp only [WS, stepW, evalA, reduceIte, Nat.reduceEqDiff, reduceCtorEq, evalBin, Option.getD, Int.reduceToNat, Nat.reduceMul, Nat.reduceAdd, allocA, rowOf, fillA, partsV, setl, Nat.reduceLeDiff, AV.len, evalUn, Int.reduceLT, Int.reduceLE, Int.reduceEq, Int.reduceNe, strs_eq, h17, h16, h15, h1, h2, he, hw]
      exact ⟨hlt, takes_succ hlt hlt2 hno he⟩
    · simp only [WS, stepW, evalA, reduceIte, Nat.reduceEqDiff, reduceCtorEq, evalBin, Option.getD, Int.reduceToNat, Nat.reduceMul, Nat.reduceAdd, allocA, rowOf, fillA, partsV, setl, Nat.reduceLeDiff, AV.len, evalUn, Int.reduceLT, Int.reduceLE, Int.reduceEq, Int.reduceNe, strs_eq, he]
      rw [decide_eq_false (ne_at hlt hlt2 he)]
theorem eqFuncA_st0 {l m : List Ac} (hl : l.length ≤ 1000) (hg : ∀ k ∈ l, AcL k) : AC Try.prog 42 [slc Ac.c l, slc Ac.c m, .fn 43 []] st0 fun v s => v = .bool (decide (l = m)) := by
  refine ac_wp fn42 cf42 cl42 rfl ?_
  simp only [ac42]
  unfold ab42
  by_cases hlen : (l.length : Int) = m.length
  rotate_left
  · simp only [WS, stepW, evalA, reduceIte, Nat.reduceEqDiff, reduceCtorEq, evalBin, Option.getD, Int.reduceToNat, Nat.reduceMul, Nat.reduceAdd, allocA, rowOf, fillA, partsV, setl, Nat.reduceLeDiff, AV.len, evalUn, Int.reduceLT, Int.reduceLE, Int.reduceEq, Int.reduceNe, strs_eq, hlen]
    rw [decide_eq_false (ne_len hlen)]
  simp only [WS, stepW, evalA, reduceIte, Nat.reduceEqDiff, reduceCtorEq, evalBin, Option.getD, Int.reduceToNat, Nat.reduceMul, Nat.reduceAdd, allocA, rowOf, fillA, partsV, setl, Nat.reduceLeDiff, AV.len, evalUn, Int.reduceLT, Int.reduceLE, Int.reduceEq, Int.reduceNe, strs_eq, hlen]
  refine w_for (fun i ρ s => ρ.rd 17 = .int .i64 i ∧ ρ.rd 16 = .int .i64 l.length ∧ ρ.rd 15 = slc Ac.c l ∧ ρ.rd 1 = slc Ac.c m ∧ ρ.rd 2 = .fn 43 [] ∧ l.take i = m.take i) l.length ?_ ?_
  · simp only [WS, stepW, evalA, reduceIte, Nat.reduceEqDiff, reduceCtorEq, evalBin, Option.getD, Int.reduceToNat, Nat.reduceMul, Nat.reduceAdd, allocA, rowOf, fillA, partsV, setl, Nat.reduceLeDiff, AV.len, evalUn, Int.reduceLT, Int.reduceLE, Int.reduceEq, Int.reduceNe, strs_eq, hlen]
    exact ⟨rfl, rfl⟩
  · rintro i ρ s hi ⟨h17, h16, h15, h1, h2, hno⟩
    simp only [WS, stepW, evalA, reduceIte, Nat.reduceEqDiff, reduceCtorEq, evalBin, Option.getD, Int.reduceToNat, Nat.reduceMul, Nat.reduceAdd, allocA, rowOf, fillA, partsV, setl, Nat.reduceLeDiff, AV.len, evalUn, Int.reduceLT, Int.reduceLE, Int.reduceEq, Int.reduceNe, strs_eq, h17, h16]
    refine Br_dec (fun hlt' => ?_) (fun hge => ?_)
    rotate_left
    · have : i = l.length := by omega
      subst this
      simp only [WS, stepW, evalA, reduceIte, Nat.reduceEqDiff, reduceCtorEq, evalBin, Option.getD, Int.reduceToNat, Nat.reduceMul, Nat.reduceAdd, allocA, rowOf, fillA, partsV, setl, Nat.reduceLeDiff, AV.len, evalUn, Int.reduceLT, Int.reduceLE, Int.reduceEq, Int.reduceNe, strs_eq]
      rw [decide_eq_true (eq_takes hlen hno)]
    have hlt : i < l.length := by omega
    have hlt2 : i < m.length := by omega
    have hr := lt_idx hlt
    have hr2 := lt_idx hlt2
    have A := acAt hlt
    have B := acAt hlt2
    have hw : IntKind.i64.wrap ((i : Int) + 1) = ((i + 1 : Nat) : Int) := wrap_succ (by omega)
    have sg3 : ∀ a b c : AV, seg [a, b, c] 0 3 = [a, b, c] := fun _ _ _ => rfl
    have n1 : ¬ s.n = s.n + 1 := by omega
    simp only [WS, stepW, evalA, reduceIte, Nat.reduceEqDiff, reduceCtorEq, evalBin, Option.getD, Int.reduceToNat, Nat.reduceMul, Nat.reduceAdd, allocA, rowOf, fillA, partsV, setl, Nat.reduceLeDiff, AV.len, evalUn, Int.reduceLT, Int.reduceLE, Int.reduceEq, Int.reduceNe, strs_eq, h17, h16, h15, h1, h2, hr, hr2, A.fit, A.all, B.fit, B.all, sg3, n1, storeA, sets, setx, List.take_zero, List.drop_succ_cons, List.drop_zero, List.take_succ_cons, Nat.left_eq_add]
    refine AC.use (sameA_ac (a := l[i]) (b := m[i]) (hg _ (List.getElem_mem hlt))) ?_
    by_cases he : l[i] = m[i]
    · simp only [WS, stepW, evalA, reduceIte, Nat.reduceEqDiff, reduceCtorEq, evalBin, Option.getD, Int.reduceToNat, Nat.reduceMul, Nat.reduceAdd, allocA, rowOf, fillA, partsV, setl, Nat.reduceLeDiff, AV.len, evalUn, Int.reduceLT, Int.reduceLE, Int.reduceEq, Int.reduceNe, strs_eq, h17, h16, h15, h1, h2, he, hw]
      exact ⟨hlt, takes_succ hlt hlt2 hno he⟩
    · simp only [WS, stepW, evalA, reduceIte, Nat.reduceEqDiff, reduceCtorEq, evalBin, Option.getD, Int.reduceToNat, Nat.reduceMul, Nat.reduceAdd, allocA, rowOf, fillA, partsV, setl, Nat.reduceLeDiff, AV.len, evalUn, Int.reduceLT, Int.reduceLE, Int.reduceEq, Int.reduceNe, strs_eq, he]
      rw [decide_eq_false (ne_at hlt hlt2 he)]
theorem eqFuncK_ac {l m : List Kd} {σ : AState} (hl : l.length ≤ 1000) (hg : ∀ k ∈ l, KdG k) : AC Try.prog 38 [slc Kd.c l, slc Kd.c m, .fn 39 []] σ fun v s => s = σ ∧ v = .bool (decide (l = m)) :=
  AC.told (.cons (slc_fxd Kd.fxd l) (.cons (slc_fxd Kd.fxd m) (.cons (.fn .nil) .nil))) rfl (eqFuncK_st0 hl hg)
theorem eqFuncA_ac {l m : List Ac} {σ : AState} (hl : l.length ≤ 1000) (hg : ∀ k ∈ l, AcL k) : AC Try.prog 42 [slc Ac.c l, slc Ac.c m, .fn 43 []] σ fun v s => s = σ ∧ v = .bool (decide (l = m)) :=
  AC.told (.cons (slc_fxd Ac.fxd l) (.cons (slc_fxd Ac.fxd m) (.cons (.fn .nil) .nil))) rfl (eqFuncA_st0 hl hg)
/- ------------------------------------------------ two schemas -/
def sameS (s t : Sc) : Bool := decide (s.kinds = t.kinds) && decide (s.acts = t.acts)
structure ScH (s : Sc) : Prop where
  kl : s.kinds.length ≤ 1000
  al : s.acts.length ≤ 1000
  k : ∀ k ∈ s.kinds, KdG k
  a : ∀ k ∈ s.acts, AcL k
theorem same_st0 {s t : Sc} (hs : ScH s) : AC Try.prog 18 [.agg s.c, .agg t.c] st0 fun v _ => v = .bool (sameS s t) := by
  refine ac_wp fn18 cf18 cl18 rfl ?_
  simp only [ac18]
  unfold ab18
  unfold sameS
  simp only [WS, stepW, evalA, reduceIte, Nat.reduceEqDiff, reduceCtorEq, evalBin, Option.getD, Int.reduceToNat, Nat.reduceMul, Nat.reduceAdd, allocA, rowOf, fillA, partsV, setl, Nat.reduceLeDiff, AV.len, evalUn, Int.reduceLT, Int.reduceLE, Int.reduceEq, Int.reduceNe, strs_eq, Sc.c_eq]
  refine AC.use (eqFuncK_ac (l := s.kinds) (m := t.kinds) hs.kl hs.k) ?_
  by_cases hk : s.kinds = t.kinds
  rotate_left
  · simp only [WS, stepW, evalA, reduceIte, Nat.reduceEqDiff, reduceCtorEq, evalBin, Option.getD, Int.reduceToNat, Nat.reduceMul, Nat.reduceAdd, allocA, rowOf, fillA, partsV, setl, Nat.reduceLeDiff, AV.len, evalUn, Int.reduceLT, Int.reduceLE, Int.reduceEq, Int.reduceNe, strs_eq, hk]
    rfl
  simp only [WS, stepW, evalA, reduceIte, Nat.reduceEqDiff, reduceCtorEq, evalBin, Option.getD, Int.reduceToNat, Nat.reduceMul, Nat.reduceAdd, allocA, rowOf, fillA, partsV, setl, Nat.reduceLeDiff, AV.len, evalUn, Int.reduceLT, Int.reduceLE, Int.reduceEq, Int.reduceNe, strs_eq, hk]
  refine AC.use (eqFuncA_ac (l := s.acts) (m := t.acts) hs.al hs.a) ?_
  simp only [WS, stepW, evalA, reduceIte, Nat.reduceEqDiff, reduceCtorEq, evalBin, Option.getD, Int.reduceToNat, Nat.reduceMul, Nat.reduceAdd, allocA, rowOf, fillA, partsV, setl, Nat.reduceLeDiff, AV.len, evalUn, Int.reduceLT, Int.reduceLE, Int.reduceEq, Int.reduceNe, strs_eq]
theorem same_own {s t : Sc} {σ : AState} {x y : AV} (hs : ScH s) (hx : Pur σ true x (.agg s.c)) (hy : Pur σ true y (.agg t.c)) : AC Try.prog 18 [x, y] σ fun v s' => s' = σ ∧ v = .bool (sameS s t) :=
  AC.pure (.cons hx (.cons hy .nil)) ((same_st0 hs).mono fun v s' e => ⟨_, by rw [e]; exact .flat _ rfl, rfl⟩)
end Go.Proofs.Ytaokfpjjaejjgaa.Va
