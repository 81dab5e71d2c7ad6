/- A command written by pack.Cmd. Conditions: none. -/
import Derived.Test.YthobpdfchhihnaaPkC
import Derived.Test.YthobpdfchhihnaaPk2
set_option maxRecDepth 100000
set_option maxHeartbeats 4000000
set_option linter.all false
namespace Go.Proofs.Ythobpdfchhihnaa.Va
open Go.Proofs
/- Bytes of a row that was just made. -/
theorem bytes_lit {k b0 : Nat} {σ : AState} {l m : List UInt8} (h : RW (fun b => k ≤ b) b0 σ l) (hb0 : b0 < k) (hk : k ≤ σ.n) (hm : l.length ≤ 1000000) (hm' : m.length ≤ 1000000) :
    AC Try.prog 24 [.ptr b0 0, .sl σ.n 0 m.length none 1] (σ.push (.cells (ofU8s m))) fun v s => RW (fun b => k ≤ b) b0 s (l ++ (lenS m.length ++ m)) ∧ Kp (fun b => k ≤ b) b0 σ s := by
  obtain ⟨⟨x, hc, hrow⟩, hlt⟩ := h
  have hn : (σ.push (.cells (ofU8s m))).n = σ.n + 1 := rfl
  have h' : RW (fun b => k ≤ b ∧ b ≠ σ.n) b0 (σ.push (.cells (ofU8s m))) l := ⟨⟨x, by rw [push_get, if_neg (by omega)]; exact hc, (hrow.mono fun b h1 h2 => ⟨h1, by omega⟩).push _⟩, Nat.lt_succ_of_lt hlt⟩
  refine (bytes_ac h' (fun b hb => by omega) (by omega) hm hm' (.inr (.inr ⟨σ.n, _, rfl, Nat.lt_succ_self _, by omega, by omega, push_cells _ _⟩))).mono fun v s h => ?_
  obtain ⟨⟨⟨y, hc, hrow⟩, hlt⟩, hk1, hk2⟩ := h
  refine ⟨⟨⟨y, hc, hrow.mono fun b h1 _ => h1.1⟩, hlt⟩, by omega, fun b h1 h2 h3 => ?_⟩
  rw [hk2 b (by omega) (by omega) h3, push_h h1]
/- The command of ours, and the row that grows. -/
structure CI (c : Cm) (ρ : Env) (s : AState) (l : List UInt8) : Prop where
  r1 : ρ.rd 1 = .ptr 0 0
  r5 : ρ.rd 5 = .ptr 1 0
  c0 : s.cells 0 = some c.c
  w : RW (fun b => 2 ≤ b) 1 s l
  n : 2 ≤ s.n
theorem CI.next {c : Cm} {ρ ρ' : Env} {s s' : AState} {l l' : List UInt8} (h : CI c ρ s l) (r1 : ρ'.rd 1 = .ptr 0 0) (r5 : ρ'.rd 5 = .ptr 1 0) (w : RW (fun b => 2 ≤ b) 1 s' l') (hk : Kp (fun b => 2 ≤ b) 1 s s') : CI c ρ' s' l' :=
  ⟨r1, r5, (hk.cells (by have := h.n; omega) (by omega) (by omega)).trans h.c0, w, Nat.le_trans h.n hk.1⟩
def cmdV (c : Cm) : AV := match wrongS c with | 0 => tupB (cmdS c) 0 | e => tupB [] e
theorem map_u8 (l : List UInt8) : l.map (fun b => AV.int .u8 (b.toNat : Int)) = ofU8s l := Eq.trans rfl rfl
theorem cmd_st0 {c : Cm} (hn : c.name.length ≤ 1000) (ht : c.text.length ≤ 1000) : AC Try.prog 14 [.agg c.c] st0 fun v s => ∃ a, Pur s false v a ∧ a = cmdV c := by
  refine ac_wp fn14 cf14 cl14 rfl ?_
  simp only [ac14]
  unfold ab14
  simp only [wpC_seq, wpC_skip, wpCK_normal]
  refine w_mid (fun ρ s => ρ.rd 1 = .ptr 0 0 ∧ s.n = 1 ∧ s.cells 0 = some c.c) ?_ ?_
  · simp only [WS, stepW, evalA, reduceIte, Nat.reduceEqDiff, reduceCtorEq, evalBin, Option.getD, Int.reduceToNat, Nat.reduceMul, Nat.reduceAdd, allocA, rowOf, fillA, partsV, setl, Nat.reduceLeDiff, AV.len, evalUn, Int.reduceLT, Int.reduceLE, Int.reduceEq, Int.reduceNe, Cm.c_eq]
  rintro ρ s ⟨g1, hn1, c0⟩
  rw [Cm.c_eq] at c0
  by_cases hw : wrongS c = 0
  rotate_left
  · simp only [WS, stepW, evalA, reduceIte, Nat.reduceEqDiff, reduceCtorEq, evalBin, Option.getD, Int.reduceToNat, Nat.reduceMul, Nat.reduceAdd, allocA, rowOf, fillA, partsV, setl, Nat.reduceLeDiff, AV.len, evalUn, Int.reduceLT, Int.reduceLE, Int.reduceEq, Int.reduceNe, g1, c0]
    refine (wrong_ac c _).use ?_
    simp only [WS, stepW, evalA, reduceIte, Nat.reduceEqDiff, reduceCtorEq, evalBin, Option.getD, Int.reduceToNat, Nat.reduceMul, Nat.reduceAdd, allocA, rowOf, fillA, partsV, setl, Nat.reduceLeDiff, AV.len, evalUn, Int.reduceLT, Int.reduceLE, Int.reduceEq, Int.reduceNe, ne_eq, hw, not_false_eq_true, decide_true]
    refine ⟨tupB [] (wrongS c), .tup _ _ rfl fun i hi hi' => ?_, ?_⟩
    · match i, hi with
      | 0, _ => exact .nils _ _
      | 1, _ => exact .flat _ rfl
    · unfold cmdV
      split
      · rename_i h; exact absurd h hw
      · rfl
  rw [wpC_seq]
  refine w_mid (fun ρ s => ρ.rd 1 = .ptr 0 0 ∧ s.n = 1 ∧ s.cells 0 = some c.c) ?_ ?_
  · simp only [WS, stepW, evalA, reduceIte, Nat.reduceEqDiff, reduceCtorEq, evalBin, Option.getD, Int.reduceToNat, Nat.reduceMul, Nat.reduceAdd, allocA, rowOf, fillA, partsV, setl, Nat.reduceLeDiff, AV.len, evalUn, Int.reduceLT, Int.reduceLE, Int.reduceEq, Int.reduceNe, g1, c0]
    refine (wrong_ac c _).use ?_
    simp only [WS, stepW, evalA, reduceIte, Nat.reduceEqDiff, reduceCtorEq, evalBin, Option.getD, Int.reduceToNat, Nat.reduceMul, Nat.reduceAdd, allocA, rowOf, fillA, partsV, setl, Nat.reduceLeDiff, AV.len, evalUn, Int.reduceLT, Int.reduceLE, Int.reduceEq, Int.reduceNe, g1, c0, hn1, ne_eq, hw, not_true_eq_false, decide_false, Cm.c_eq]
  clear g1 hn1 c0
  rintro ρ s ⟨g1, hn1, c0⟩
  rw [wpC_seq]
  refine w_mid (fun ρ s => CI c ρ s []) ?_ ?_
  · simp only [WS, stepW, evalA, reduceIte, Nat.reduceEqDiff, reduceCtorEq, evalBin, Option.getD, Int.reduceToNat, Nat.reduceMul, Nat.reduceAdd, allocA, rowOf, fillA, partsV, setl, Nat.reduceLeDiff, AV.len, evalUn, Int.reduceLT, Int.reduceLE, Int.reduceEq, Int.reduceNe, g1]
    refine ⟨?_, ?_, ?_, ⟨⟨.nils, ?_, RowP.nil _ _ _⟩, ?_⟩, ?_⟩
    · simp only [WS, stepW, evalA, reduceIte, Nat.reduceEqDiff, reduceCtorEq, evalBin, Option.getD, Int.reduceToNat, Nat.reduceMul, Nat.reduceAdd, allocA, rowOf, fillA, partsV, setl, Nat.reduceLeDiff, AV.len, evalUn, Int.reduceLT, Int.reduceLE, Int.reduceEq, Int.reduceNe, g1]
    · simp only [WS, stepW, evalA, reduceIte, Nat.reduceEqDiff, reduceCtorEq, evalBin, Option.getD, Int.reduceToNat, Nat.reduceMul, Nat.reduceAdd, allocA, rowOf, fillA, partsV, setl, Nat.reduceLeDiff, AV.len, evalUn, Int.reduceLT, Int.reduceLE, Int.reduceEq, Int.reduceNe, g1, hn1]
    · rw [push_get, if_neg (by omega)]; exact c0
    · rw [push_get, if_pos (by omega)]
    · show 1 < s.n + 1
      omega
    · show 2 ≤ s.n + 1
      omega
  clear g1 hn1 c0
  intro ρ s m
  rw [wpC_seq]
  refine w_mid (fun ρ s => CI c ρ s ([] ++ [b8 c.client])) ?_ ?_
  · obtain ⟨g1, g5, c0, w, hn2⟩ := id m
    rw [Cm.c_eq] at c0
    simp only [WS, stepW, evalA, reduceIte, Nat.reduceEqDiff, reduceCtorEq, evalBin, Option.getD, Int.reduceToNat, Nat.reduceMul, Nat.reduceAdd, allocA, rowOf, fillA, partsV, setl, Nat.reduceLeDiff, AV.len, evalUn, Int.reduceLT, Int.reduceLE, Int.reduceEq, Int.reduceNe, g1, g5, c0]
    refine (byte_ac w (fun b hb => by omega) (by omega) (by decide)).mono ?_
    rintro v s' ⟨w', hk⟩
    simp only [WS, stepW, evalA, reduceIte, Nat.reduceEqDiff, reduceCtorEq, evalBin, Option.getD, Int.reduceToNat, Nat.reduceMul, Nat.reduceAdd, allocA, rowOf, fillA, partsV, setl, Nat.reduceLeDiff, AV.len, evalUn, Int.reduceLT, Int.reduceLE, Int.reduceEq, Int.reduceNe]
    refine m.next ?_ ?_ w' hk
    · simp only [WS, stepW, evalA, reduceIte, Nat.reduceEqDiff, reduceCtorEq, evalBin, Option.getD, Int.reduceToNat, Nat.reduceMul, Nat.reduceAdd, allocA, rowOf, fillA, partsV, setl, Nat.reduceLeDiff, AV.len, evalUn, Int.reduceLT, Int.reduceLE, Int.reduceEq, Int.reduceNe, g1]
    · simp only [WS, stepW, evalA, reduceIte, Nat.reduceEqDiff, reduceCtorEq, evalBin, Option.getD, Int.reduceToNat, Nat.reduceMul, Nat.reduceAdd, allocA, rowOf, fillA, partsV, setl, Nat.reduceLeDiff, AV.len, evalUn, Int.reduceLT, Int.reduceLE, Int.reduceEq, Int.reduceNe, g5]
  rw [List.nil_append]
  intro ρ s m
  rw [wpC_seq]
  refine w_mid (fun ρ s => CI c ρ s ([b8 c.client] ++ numsS [c.seq])) ?_ ?_
  · obtain ⟨g1, g5, c0, w, hn2⟩ := id m
    rw [Cm.c_eq] at c0
    simp only [WS, stepW, evalA, reduceIte, Nat.reduceEqDiff, reduceCtorEq, evalBin, Option.getD, Int.reduceToNat, Nat.reduceMul, Nat.reduceAdd, allocA, rowOf, fillA, partsV, setl, Nat.reduceLeDiff, AV.len, evalUn, Int.reduceLT, Int.reduceLE, Int.reduceEq, Int.reduceNe, g1, g5, c0]
    obtain ⟨hac, w', hk⟩ := ints_lit (ns := [c.seq]) w (by omega) hn2 (by simp) (by simp)
    refine hac.use ?_
    simp only [WS, stepW, evalA, reduceIte, Nat.reduceEqDiff, reduceCtorEq, evalBin, Option.getD, Int.reduceToNat, Nat.reduceMul, Nat.reduceAdd, allocA, rowOf, fillA, partsV, setl, Nat.reduceLeDiff, AV.len, evalUn, Int.reduceLT, Int.reduceLE, Int.reduceEq, Int.reduceNe]
    refine m.next ?_ ?_ w' hk
    · simp only [WS, stepW, evalA, reduceIte, Nat.reduceEqDiff, reduceCtorEq, evalBin, Option.getD, Int.reduceToNat, Nat.reduceMul, Nat.reduceAdd, allocA, rowOf, fillA, partsV, setl, Nat.reduceLeDiff, AV.len, evalUn, Int.reduceLT, Int.reduceLE, Int.reduceEq, Int.reduceNe, g1]
    · simp only [WS, stepW, evalA, reduceIte, Nat.reduceEqDiff, reduceCtorEq, evalBin, Option.getD, Int.reduceToNat, Nat.reduceMul, Nat.reduceAdd, allocA, rowOf, fillA, partsV, setl, Nat.reduceLeDiff, AV.len, evalUn, Int.reduceLT, Int.reduceLE, Int.reduceEq, Int.reduceNe, g5]
  have e1 : numsS [c.seq] = numS c.seq := by simp [numsS]
  rw [e1]
  intro ρ s m
  rw [wpC_seq]
  refine w_mid (fun ρ s => CI c ρ s ([b8 c.client] ++ numS c.seq ++ [b8 c.kind])) ?_ ?_
  · obtain ⟨g1, g5, c0, w, hn2⟩ := id m
    rw [Cm.c_eq] at c0
    simp only [WS, stepW, evalA, reduceIte, Nat.reduceEqDiff, reduceCtorEq, evalBin, Option.getD, Int.reduceToNat, Nat.reduceMul, Nat.reduceAdd, allocA, rowOf, fillA, partsV, setl, Nat.reduceLeDiff, AV.len, evalUn, Int.reduceLT, Int.reduceLE, Int.reduceEq, Int.reduceNe, g1, g5, c0]
    refine (byte_ac w (fun b hb => by omega) (by omega) (by simp [numS])).mono ?_
    rintro v s' ⟨w', hk⟩
    simp only [WS, stepW, evalA, reduceIte, Nat.reduceEqDiff, reduceCtorEq, evalBin, Option.getD, Int.reduceToNat, Nat.reduceMul, Nat.reduceAdd, allocA, rowOf, fillA, partsV, setl, Nat.reduceLeDiff, AV.len, evalUn, Int.reduceLT, Int.reduceLE, Int.reduceEq, Int.reduceNe]
    refine m.next ?_ ?_ w' hk
    · simp only [WS, stepW, evalA, reduceIte, Nat.reduceEqDiff, reduceCtorEq, evalBin, Option.getD, Int.reduceToNat, Nat.reduceMul, Nat.reduceAdd, allocA, rowOf, fillA, partsV, setl, Nat.reduceLeDiff, AV.len, evalUn, Int.reduceLT, Int.reduceLE, Int.reduceEq, Int.reduceNe, g1]
    · simp only [WS, stepW, evalA, reduceIte, Nat.reduceEqDiff, reduceCtorEq, evalBin, Option.getD, Int.reduceToNat, Nat.reduceMul, Nat.reduceAdd, allocA, rowOf, fillA, partsV, setl, Nat.reduceLeDiff, AV.len, evalUn, Int.reduceLT, Int.reduceLE, Int.reduceEq, Int.reduceNe, g5]
  have e2 : cmdS c = [b8 c.client] ++ numS c.seq ++ [b8 c.kind] ++ (lenS c.name.length ++ c.name) ++ (lenS c.text.length ++ c.text) := rfl
  have hL : ([b8 c.client] ++ numS c.seq ++ [b8 c.kind]).length = 10 := rfl
  generalize [b8 c.client] ++ numS c.seq ++ [b8 c.kind] = L at *
  intro ρ s m
  rw [wpC_seq]
  refine w_mid (fun ρ s => CI c ρ s (L ++ (lenS c.name.length ++ c.name))) ?_ ?_
  · obtain ⟨g1, g5, c0, w, hn2⟩ := id m
    rw [Cm.c_eq] at c0
    simp only [WS, stepW, evalA, reduceIte, Nat.reduceEqDiff, reduceCtorEq, evalBin, Option.getD, Int.reduceToNat, Nat.reduceMul, Nat.reduceAdd, allocA, rowOf, fillA, partsV, setl, Nat.reduceLeDiff, AV.len, evalUn, Int.reduceLT, Int.reduceLE, Int.reduceEq, Int.reduceNe, g1, g5, c0, allocD, map_u8]
    refine (bytes_lit w (by omega) hn2 (by omega) (by omega)).mono ?_
    rintro v s' ⟨w', hk⟩
    simp only [WS, stepW, evalA, reduceIte, Nat.reduceEqDiff, reduceCtorEq, evalBin, Option.getD, Int.reduceToNat, Nat.reduceMul, Nat.reduceAdd, allocA, rowOf, fillA, partsV, setl, Nat.reduceLeDiff, AV.len, evalUn, Int.reduceLT, Int.reduceLE, Int.reduceEq, Int.reduceNe]
    refine m.next ?_ ?_ w' hk
    · simp only [WS, stepW, evalA, reduceIte, Nat.reduceEqDiff, reduceCtorEq, evalBin, Option.getD, Int.reduceToNat, Nat.reduceMul, Nat.reduceAdd, allocA, rowOf, fillA, partsV, setl, Nat.reduceLeDiff, AV.len, evalUn, Int.reduceLT, Int.reduceLE, Int.reduceEq, Int.reduceNe, g1]
    · simp only [WS, stepW, evalA, reduceIte, Nat.reduceEqDiff, reduceCtorEq, evalBin, Option.getD, Int.reduceToNat, Nat.reduceMul, Nat.reduceAdd, allocA, rowOf, fillA, partsV, setl, Nat.reduceLeDiff, AV.len, evalUn, Int.reduceLT, Int.reduceLE, Int.reduceEq, Int.reduceNe, g5]
  have hL2 : (L ++ (lenS c.name.length ++ c.name)).length = 12 + c.name.length := by
    have : (lenS (c.name.length : Int)).length = 2 := rfl
    simp only [List.length_append]; omega
  generalize L ++ (lenS c.name.length ++ c.name) = L2 at *
  intro ρ s m
  rw [wpC_seq]
  refine w_mid (fun ρ s => CI c ρ s (cmdS c)) ?_ ?_
  · obtain ⟨g1, g5, c0, w, hn2⟩ := id m
    rw [Cm.c_eq] at c0
    simp only [WS, stepW, evalA, reduceIte, Nat.reduceEqDiff, reduceCtorEq, evalBin, Option.getD, Int.reduceToNat, Nat.reduceMul, Nat.reduceAdd, allocA, rowOf, fillA, partsV, setl, Nat.reduceLeDiff, AV.len, evalUn, Int.reduceLT, Int.reduceLE, Int.reduceEq, Int.reduceNe, g1, g5, c0, allocD, map_u8]
    refine (bytes_lit w (by omega) hn2 (by omega) (by omega)).mono ?_
    rintro v s' ⟨w', hk⟩
    simp only [WS, stepW, evalA, reduceIte, Nat.reduceEqDiff, reduceCtorEq, evalBin, Option.getD, Int.reduceToNat, Nat.reduceMul, Nat.reduceAdd, allocA, rowOf, fillA, partsV, setl, Nat.reduceLeDiff, AV.len, evalUn, Int.reduceLT, Int.reduceLE, Int.reduceEq, Int.reduceNe]
    rw [e2]
    refine m.next ?_ ?_ w' hk
    · simp only [WS, stepW, evalA, reduceIte, Nat.reduceEqDiff, reduceCtorEq, evalBin, Option.getD, Int.reduceToNat, Nat.reduceMul, Nat.reduceAdd, allocA, rowOf, fillA, partsV, setl, Nat.reduceLeDiff, AV.len, evalUn, Int.reduceLT, Int.reduceLE, Int.reduceEq, Int.reduceNe, g1]
    · simp only [WS, stepW, evalA, reduceIte, Nat.reduceEqDiff, reduceCtorEq, evalBin, Option.getD, Int.reduceToNat, Nat.reduceMul, Nat.reduceAdd, allocA, rowOf, fillA, partsV, setl, Nat.reduceLeDiff, AV.len, evalUn, Int.reduceLT, Int.reduceLE, Int.reduceEq, Int.reduceNe, g5]
  rintro ρ s ⟨g1, g5, c0, ⟨⟨x, hc, hrow⟩, _⟩, hn2⟩
  simp only [WS, stepW, evalA, reduceIte, Nat.reduceEqDiff, reduceCtorEq, evalBin, Option.getD, Int.reduceToNat, Nat.reduceMul, Nat.reduceAdd, allocA, rowOf, fillA, partsV, setl, Nat.reduceLeDiff, AV.len, evalUn, Int.reduceLT, Int.reduceLE, Int.reduceEq, Int.reduceNe, g5, hc]
  refine ⟨tupB (cmdS c) 0, .tup _ _ rfl fun i hi hi' => ?_, ?_⟩
  · match i, hi with
    | 0, _ => exact hrow.pur false rfl fun j hj hj' => .flat _ (ofU8s_flat hj)
    | 1, _ => exact .flat _ rfl
  · rw [cmdV, hw]; rfl
theorem Cm.pur (c : Cm) {s : AState} {al : Bool} : Pur s al (.agg c.c) (.agg c.c) := .agg _ _ rfl fun i hi hi' => by
  match i, hi with
  | 0, _ => exact .flat _ rfl
  | 1, _ => exact .flat _ rfl
  | 2, _ => exact .flat _ rfl
  | 3, _ => exact .flat _ rfl
  | 4, _ => exact .flat _ rfl
theorem cmd_ac {c : Cm} (hn : c.name.length ≤ 1000) (ht : c.text.length ≤ 1000) (σ : AState) : AC Try.prog 14 [.agg c.c] σ fun v s => s = σ ∧ v = cmdV c :=
  AC.pure (.cons (c.pur) .nil) (cmd_st0 hn ht)
end Go.Proofs.Ythobpdfchhihnaa.Va
