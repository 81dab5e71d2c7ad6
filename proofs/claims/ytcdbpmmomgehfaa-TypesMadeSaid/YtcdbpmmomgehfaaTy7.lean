/- Fields by their names; equality. Conditions: none. -/
import Derived.Test.YtcdbpmmomgehfaaTy6
set_option maxRecDepth 100000
set_option maxHeartbeats 4000000
set_option linter.all false
namespace Go.Proofs.Ytcdbpmmomgehfaa.Va
open Go.Proofs
instance : DecidableEq Ty := fun a b => decidable_of_iff (a.kind = b.kind ∧ a.of_ = b.of_ ∧ a.name = b.name) (by cases a; cases b; simp)
instance : DecidableEq Fl := fun a b => decidable_of_iff (a.name = b.name ∧ a.ty = b.ty) (by cases a; cases b; simp)
def fieldV (fs : List Fl) (n : Str) : AV := match fs.find? (fun f => decide (f.name = n)) with
  | some f => .tup [.agg f.ty.c, .bool true]
  | none => .tup [.agg [.int .i64 0, .int .i64 0, .str []], .bool false]
theorem findF_take {ks : List Fl} {n : Str} {i : Nat} (h : i < ks.length) (hno : (ks.take i).find? (fun k => decide (k.name = n)) = none) :
    ks.find? (fun k => decide (k.name = n)) = if ks[i].name = n then some ks[i] else (ks.drop (i + 1)).find? (fun k => decide (k.name = n)) := by
  conv => lhs; rw [← List.take_append_drop i ks]
  rw [List.find?_append, hno, Option.none_or, List.drop_eq_getElem_cons h, List.find?_cons]
  by_cases hn : ks[i].name = n <;> simp [hn]
theorem findF_next {ks : List Fl} {n : Str} {i : Nat} (h : i < ks.length) (hno : (ks.take i).find? (fun k => decide (k.name = n)) = none) (hn : ¬ ks[i].name = n) :
    (ks.take (i + 1)).find? (fun k => decide (k.name = n)) = none := by
  rw [List.take_add_one, List.find?_append, hno, List.getElem?_eq_getElem h]
  simp [hn]
theorem pur_ty (s : AState) (t : Ty) : Pur s true (.agg t.c) (.agg t.c) := .agg _ _ rfl fun i hi hi' => by
  match i, hi with
  | 0, _ => exact .flat _ rfl
  | 1, _ => exact .flat _ rfl
  | 2, _ => exact .flat _ rfl
theorem field23_st0 {k : Kd} {n : Str} (hl : k.fields.length ≤ 1000) : AC Try.prog 72 [.agg k.c, .str n] st0 fun v s' => ∃ a, Pur s' true v a ∧ a = fieldV k.fields n := by
  refine ac_wp fn72 cf72 cl72 rfl ?_
  simp only [ac72]
  unfold ab72
  simp only [WS, seval, stepW, evalA, evalBin, Option.getD, allocA, rowOf, fillA, partsV, setl, AV.len, evalUn, strs_eq, Kd.c_eq]
  refine w_for (fun i ρ s' => ρ.rd 11 = .int .i64 i ∧ ρ.rd 10 = .int .i64 k.fields.length ∧ ρ.rd 9 = slc Fl.c k.fields ∧ ρ.rd 4 = .ptr 1 0 ∧ ρ.rd 1 = .str n ∧ s'.cells 1 = some [.int .i64 0, .int .i64 0, .str []] ∧ 2 ≤ s'.n ∧ (k.fields.take i).find? (fun k => decide (k.name = n)) = none) k.fields.length ?_ ?_
  · simp only [WS, seval, stepW, evalA, evalBin, Option.getD, allocA, rowOf, fillA, partsV, setl, AV.len, evalUn, strs_eq, List.take_zero, List.find?_nil]
    first | done | rfl
  · rintro i ρ s' hi ⟨h11, h10, h9, h4, h1, c1, hn, hno⟩
    simp only [WS, seval, stepW, evalA, evalBin, Option.getD, allocA, rowOf, fillA, partsV, setl, AV.len, evalUn, strs_eq, h11, h10]
    refine Br_dec (fun hlt' => ?_) (fun hge => ?_)
    rotate_left
    · have : i = k.fields.length := by omega
      subst this
      simp only [WS, seval, stepW, evalA, evalBin, Option.getD, allocA, rowOf, fillA, partsV, setl, AV.len, evalUn, strs_eq, h4, h1, c1, storeA, sets, setx, TS]
      refine ⟨_, pur_pair _ _ false (pur_ty _ ⟨0, 0, []⟩), ?_⟩
      rw [List.take_length] at hno
      rw [fieldV, hno]
      rfl
    have hlt : i < k.fields.length := by omega
    have A := flAt hlt
    have hr := lt_idx hlt
    have hw : IntKind.i64.wrap ((i : Int) + 1) = ((i + 1 : Nat) : Int) := wrap_succ (by omega)
    have n1 : ¬ 1 = s'.n := by omega
    have sg : ∀ a b c d : AV, seg [a, b, c, d] 1 3 = [b, c, d] := fun _ _ _ _ => rfl
    simp only [WS, seval, stepW, evalA, evalBin, Option.getD, allocA, rowOf, fillA, partsV, setl, AV.len, evalUn, strs_eq, h11, h10, h9, h4, h1, hr, A.fit, A.all, n1, c1, storeA, sets, setx, TS]
    refine Br_dec (fun hy => ?_) (fun hne => ?_)
    · simp only [WS, seval, stepW, evalA, evalBin, Option.getD, allocA, rowOf, fillA, partsV, setl, AV.len, evalUn, strs_eq, h4, h1, n1, c1, sg, storeA, sets, setx, TS]
      refine ⟨_, pur_pair _ _ true (pur_ty _ k.fields[i].ty), ?_⟩
      rw [fieldV, findF_take hlt hno, if_pos hy]
    · simp only [WS, seval, stepW, evalA, evalBin, Option.getD, allocA, rowOf, fillA, partsV, setl, AV.len, evalUn, strs_eq, h11, h10, h9, h4, h1, c1, n1, hw]
      exact ⟨hlt, by omega, findF_next hlt hno hne⟩
theorem field23_ac {k : Kd} {n : Str} {σ : AState} (hl : k.fields.length ≤ 1000) : AC Try.prog 72 [.agg k.c, .str n] σ fun v s' => s' = σ ∧ v = fieldV k.fields n :=
  AC.share (.cons (.agg (Kd.fxd k)) (.cons (.flat rfl) .nil)) (field23_st0 hl)
theorem fieldR_st0 {k : Kd} {n : Str} (hl : k.fields.length ≤ 1000) : AC Try.prog 66 [.agg k.c, .str n] st0 fun v s' => ∃ a, Pur s' true v a ∧ a = fieldV k.fields n := by
  refine ac_wp fn66 cf66 cl66 rfl ?_
  simp only [ac66]
  unfold ab66
  simp only [WS, seval, stepW, evalA, evalBin, Option.getD, allocA, rowOf, fillA, partsV, setl, AV.len, evalUn, strs_eq, Kd.c_eq]
  refine w_for (fun i ρ s' => ρ.rd 6 = .int .i64 i ∧ ρ.rd 2 = .ptr 0 0 ∧ ρ.rd 4 = .ptr 1 0 ∧ ρ.rd 1 = .str n ∧ s'.cells 0 = some [.str k.name, strs k.parents, slc Fl.c k.fields] ∧ s'.cells 1 = some [.int .i64 0, .int .i64 0, .str []] ∧ (k.fields.take i).find? (fun k => decide (k.name = n)) = none) k.fields.length ?_ ?_
  · simp only [WS, seval, stepW, evalA, evalBin, Option.getD, allocA, rowOf, fillA, partsV, setl, AV.len, evalUn, strs_eq, List.take_zero, List.find?_nil]
    first | done | rfl
  · rintro i ρ s' hi ⟨h6, h2, h4, h1, c0, c1, hno⟩
    simp only [WS, seval, stepW, evalA, evalBin, Option.getD, allocA, rowOf, fillA, partsV, setl, AV.len, evalUn, strs_eq, h6, h2, h4, h1, c0, c1]
    refine Br_dec (fun hlt' => ?_) (fun hge => ?_)
    rotate_left
    · have : i = k.fields.length := by omega
      subst this
      simp only [WS, seval, stepW, evalA, evalBin, Option.getD, allocA, rowOf, fillA, partsV, setl, AV.len, evalUn, strs_eq, h4, h1, c1, storeA, sets, setx, TS]
      refine ⟨_, pur_pair _ _ false (pur_ty _ ⟨0, 0, []⟩), ?_⟩
      rw [List.take_length] at hno
      rw [fieldV, hno]
      rfl
    have hlt : i < k.fields.length := by omega
    have A := flAt hlt
    have hr := lt_idx hlt
    have hw : IntKind.i64.wrap ((i : Int) + 1) = ((i + 1 : Nat) : Int) := wrap_succ (by omega)
    have hfit := A.fit1
    have hty := A.ty
    simp only [WS, seval, stepW, evalA, evalBin, Option.getD, allocA, rowOf, fillA, partsV, setl, AV.len, evalUn, strs_eq, h6, h2, h4, h1, c0, c1, hr, A.g0]
    refine Br_dec (fun hy => ?_) (fun hne => ?_)
    · simp only [WS, seval, stepW, evalA, evalBin, Option.getD, allocA, rowOf, fillA, partsV, setl, AV.len, evalUn, strs_eq, h6, h2, h4, h1, c0, c1, hr, hfit, hty, storeA, sets, setx, TS]
      refine ⟨_, pur_pair _ _ true (pur_ty _ k.fields[i].ty), ?_⟩
      rw [fieldV, findF_take hlt hno, if_pos hy]
    · simp only [WS, seval, stepW, evalA, evalBin, Option.getD, allocA, rowOf, fillA, partsV, setl, AV.len, evalUn, strs_eq, h6, h2, h4, h1, c0, c1, hw]
      exact ⟨hlt, findF_next hlt hno hne⟩
theorem fieldR_ac {k : Kd} {n : Str} {σ : AState} (hl : k.fields.length ≤ 1000) : AC Try.prog 66 [.agg k.c, .str n] σ fun v s' => s' = σ ∧ v = fieldV k.fields n :=
  AC.share (.cons (.agg (Kd.fxd k)) (.cons (.flat rfl) .nil)) (fieldR_st0 hl)
theorem eqTy (t : Ty) : evalEq (.agg [.i, .i, .s]) (.agg [.int .i64 t.kind, .int .i64 t.of_, .str t.name]) (.agg [.int .i64 t.kind, .int .i64 t.of_, .str t.name]) = some true := by
  simp [evalEq, eqCells, eqCell]
theorem fieldV_ex (fs : List Fl) (n : Str) : ∃ (X : Ty) (b : Bool), fieldV fs n = .tup [.agg X.c, .bool b] := by
  unfold fieldV
  cases hf : fs.find? (fun k => decide (k.name = n)) with
  | none => exact ⟨⟨0, 0, []⟩, false, rfl⟩
  | some k => exact ⟨k.ty, true, rfl⟩
theorem Frz.sc {N : Nat} {Q : Env → AState → Prop} {ρ : Env} {σ : AState} {p p' : Nat → Prop} {x y : AV} {S : Sc} {q : Nat} (hq : σ.cells q = some [x, y]) (hx : RowP p σ x (rowc Kd.c S.kinds) S.kinds.length 3) (hy : RowP p' σ y (rowc Ac.c S.acts) S.acts.length 3)
    (hp : ¬ p q) (hp' : ¬ p' q) (hpp : ∀ b, p b → ¬ p' b) (h : ∀ s, s.n = σ.n → s.cells q = some [slc Kd.c S.kinds, slc Ac.c S.acts] → (∀ b, b ≠ q → ¬ p b → ¬ p' b → s.h.get b = σ.h.get b) → Q ρ s) : Frz N Q ρ σ := by
  refine Frz.trans (Frz.row hx hq hp (i := 0) rfl fun s h1 h2 h3 => ?_)
  have hne : ∀ b, p' b → b ≠ q := fun b hb e => hp' (e ▸ hb)
  have hnp : ∀ b, p' b → ¬ p b := fun b hb e => hpp b e hb
  refine Frz.row (hy.keep (Nat.le_of_eq h1.symm) fun b _ hb => get_cells (h3 b (hne b hb) (hnp b hb))) h2 hp' (i := 1) rfl fun s' g1 g2 g3 => ?_
  refine h s' (g1.trans h1) (by rw [g2]; rfl) fun b hb hb1 hb2 => (g3 b hb hb2).trans (h3 b hb hb1)
end Go.Proofs.Ytcdbpmmomgehfaa.Va
