/- The law's own makers: within, kind, name. Conditions: none. -/
import Derived.Test.YtaokfpjjaejjgaaSch7
set_option maxRecDepth 100000
set_option maxHeartbeats 4000000
set_option linter.all false
namespace Go.Proofs.Ytaokfpjjaejjgaa.Va
open Go.Proofs
theorem within5_ac {n k : Int} {σ : AState} (hk : 0 < k) (hk' : k < 4611686018427387904) : AC Try.prog 27 [.int .i64 n, .int .i64 k] σ fun v s' => s' = σ ∧ v = .int .i64 (wi n k) :=
  (within_ac (P := Try.prog) fn27 cf27 cl27 (x := n) (σ := σ) hk hk').mono fun _ _ h => ⟨h.2, h.1⟩
theorem within10_ac {n k : Int} {σ : AState} (hk : 0 < k) (hk' : k < 4611686018427387904) : AC Try.prog 14 [.int .i64 n, .int .i64 k] σ fun v s' => s' = σ ∧ v = .int .i64 (wi n k) :=
  (within_ac (P := Try.prog) fn14 cf14 cl14 (x := n) (σ := σ) hk hk').mono fun _ _ h => ⟨h.2, h.1⟩
theorem wi_4 (n : Int) : wi n 4 = 0 ∨ wi n 4 = 1 ∨ wi n 4 = 2 ∨ wi n 4 = 3 := by have := wi_range n (n := 4) (by decide); omega
theorem wi_7 (n : Int) : wi n 7 = 0 ∨ wi n 7 = 1 ∨ wi n 7 = 2 ∨ wi n 7 = 3 ∨ wi n 7 = 4 ∨ wi n 7 = 5 ∨ wi n 7 = 6 := by have := wi_range n (n := 7) (by decide); omega
def kindN (i : Int) : Str := if i = 0 then [85, 115, 101, 114] else if i = 1 then [71, 114, 111, 117, 112] else if i = 2 then [68, 111, 99] else [84, 101, 97, 109]
def nameN (i : Int) : Str := if i = 0 then [97] else if i = 1 then [97, 103, 101] else if i = 2 then [105, 102] else if i = 3 then [99, 111, 110, 116, 97, 105, 110, 115] else if i = 4 then [112, 114, 105, 110, 99, 105, 112, 97, 108] else if i = 5 then [95, 120] else [110, 97, 109, 101]
theorem fx_int (n : Int) : Fxd (.int .i64 n) := .flat rfl
theorem kind5_ac {n : Int} {σ : AState} : AC Try.prog 26 [.int .i64 n] σ fun v s' => s' = σ ∧ v = .str (kindN (wi n 4)) := by
  refine AC.told (.cons (fx_int n) .nil) rfl ?_
  refine ac_wp fn26 cf26 cl26 rfl ?_
  simp only [ac26]
  unfold ab26
  simp only [WS, stepW, evalA, reduceIte, Nat.reduceEqDiff, reduceCtorEq, evalBin, Option.getD, Int.reduceToNat, Nat.reduceMul, Nat.reduceAdd, allocA, rowOf, fillA, partsV, setl, Nat.reduceLeDiff, AV.len, evalUn, Int.reduceLT, Int.reduceLE, Int.reduceEq, Int.reduceNe, strs_eq]
  refine (within5_ac (by decide) (by decide)).use ?_
  have q0 : (0 : Int) < ((4 : Nat) : Int) := by decide
  have q1 : (1 : Int) < ((4 : Nat) : Int) := by decide
  have q2 : (2 : Int) < ((4 : Nat) : Int) := by decide
  have q3 : (3 : Int) < ((4 : Nat) : Int) := by decide
  rcases wi_4 n with h | h | h | h <;> simp only [WS, stepW, evalA, reduceIte, Nat.reduceEqDiff, reduceCtorEq, evalBin, Option.getD, Int.reduceToNat, Nat.reduceMul, Nat.reduceAdd, allocA, rowOf, fillA, partsV, setl, Nat.reduceLeDiff, AV.len, evalUn, Int.reduceLT, Int.reduceLE, Int.reduceEq, Int.reduceNe, strs_eq, h, q0, q1, q2, q3, push_cells]
  all_goals (first | rfl | trace_state)
theorem name5_ac {n : Int} {σ : AState} : AC Try.prog 28 [.int .i64 n] σ fun v s' => s' = σ ∧ v = .str (nameN (wi n 7)) := by
  refine AC.told (.cons (fx_int n) .nil) rfl ?_
  refine ac_wp fn28 cf28 cl28 rfl ?_
  simp only [ac28]
  unfold ab28
  simp only [WS, stepW, evalA, reduceIte, Nat.reduceEqDiff, reduceCtorEq, evalBin, Option.getD, Int.reduceToNat, Nat.reduceMul, Nat.reduceAdd, allocA, rowOf, fillA, partsV, setl, Nat.reduceLeDiff, AV.len, evalUn, Int.reduceLT, Int.reduceLE, Int.reduceEq, Int.reduceNe, strs_eq]
  refine (within5_ac (by decide) (by decide)).use ?_
  have q0 : (0 : Int) < ((7 : Nat) : Int) := by decide
  have q1 : (1 : Int) < ((7 : Nat) : Int) := by decide
  have q2 : (2 : Int) < ((7 : Nat) : Int) := by decide
  have q3 : (3 : Int) < ((7 : Nat) : Int) := by decide
  have q4 : (4 : Int) < ((7 : Nat) : Int) := by decide
  have q5 : (5 : Int) < ((7 : Nat) : Int) := by decide
  have q6 : (6 : Int) < ((7 : Nat) : Int) := by decide
  rcases wi_7 n with h | h | h | h | h | h | h <;> simp only [WS, stepW, evalA, reduceIte, Nat.reduceEqDiff, reduceCtorEq, evalBin, Option.getD, Int.reduceToNat, Nat.reduceMul, Nat.reduceAdd, allocA, rowOf, fillA, partsV, setl, Nat.reduceLeDiff, AV.len, evalUn, Int.reduceLT, Int.reduceLE, Int.reduceEq, Int.reduceNe, strs_eq, h, q0, q1, q2, q3, q4, q5, q6, push_cells]
  all_goals (first | rfl | trace_state)
end Go.Proofs.Ytaokfpjjaejjgaa.Va
