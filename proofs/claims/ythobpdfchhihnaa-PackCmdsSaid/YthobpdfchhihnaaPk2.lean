/- A message that may be written: pack.bad, pack.Msg. Conditions: none. -/
import Derived.Test.YthobpdfchhihnaaPk1
set_option maxRecDepth 100000
set_option maxHeartbeats 4000000
set_option linter.all false
namespace Go.Proofs.Ythobpdfchhihnaa.Va
open Go.Proofs
theorem row_bytes (n : Nat) : rowOf [.int .u8 0] n = ofU8s (List.replicate n 0) := by
  induction n with
  | zero => rfl
  | succ n ih => rw [rowOf, ih]; rfl
def byV (l : List UInt8) : AV := .psl (ofU8s l) 0 l.length
theorem byV_eq (l : List UInt8) : byV l = .psl (ofU8s l) 0 l.length := Eq.trans rfl rfl
def byC (l : List UInt8) : List AV := [byV l]
theorem byC_len (l : List UInt8) : (byC l).length = 1 := rfl
theorem byC_get {E : List (List UInt8)} {i : Nat} (h : i < E.length) : (rowc byC E)[i]? = some (byV E[i]) := by
  have := rowc_get0 byC_len h (by decide)
  rw [Nat.mul_one] at this
  rw [this]; rfl
theorem byV_fxd (l : List UInt8) : Fxd (byV l) := .psl fun a ha => by
  obtain ⟨x, _, rfl⟩ := List.mem_map.1 ha
  exact .flat rfl
theorem byC_fxd (E : List (List UInt8)) : Fxd (slc byC E) := slc_fxd (fun x => fun a ha => by cases (List.mem_singleton.1 ha); exact byV_fxd x) E
def inV (l : List Int) : AV := .psl (ofInts l) 0 l.length
theorem inV_eq (l : List Int) : inV l = .psl (ofInts l) 0 l.length := Eq.trans rfl rfl
theorem inV_fxd (l : List Int) : Fxd (inV l) := .psl fun a ha => by
  obtain ⟨x, _, rfl⟩ := List.mem_map.1 ha
  exact .flat rfl

theorem big_ac {l : List UInt8} (h : l.length ≤ 700) (σ : AState) : AC Try.prog 39 [byV l] σ fun v s => v = .bool false ∧ s = σ := by
  refine ac_wp fn39 cf39 cl39 rfl ?_
  simp only [ac39]
  unfold ab39
  have : ¬ (l.length : Int) > 700 := by omega
  simp only [WS, stepW, evalA, reduceIte, Nat.reduceEqDiff, reduceCtorEq, evalBin, Option.getD, Int.reduceToNat, Nat.reduceMul, Nat.reduceAdd, allocA, rowOf, fillA, partsV, setl, Nat.reduceLeDiff, AV.len, evalUn, Int.reduceLT, Int.reduceLE, Int.reduceEq, Int.reduceNe, byV_eq, this, decide_false]
theorem index_ac {E : List (List UInt8)} (h : ∀ b ∈ E, b.length ≤ 700) (hm : E.length ≤ 64) (σ : AState) : AC Try.prog 40 [slc byC E, .fn 39 []] σ fun v s => v = .int .i64 (-1) ∧ s = σ := by
  refine ac_wp fn40 cf40 cl40 rfl ?_
  simp only [ac40]
  unfold ab40
  simp only [WS, stepW, evalA, reduceIte, Nat.reduceEqDiff, reduceCtorEq, evalBin, Option.getD, Int.reduceToNat, Nat.reduceMul, Nat.reduceAdd, allocA, rowOf, fillA, partsV, setl, Nat.reduceLeDiff, AV.len, evalUn, Int.reduceLT, Int.reduceLE, Int.reduceEq, Int.reduceNe, slc_eq]
  refine w_for (fun i ρ s => s = σ ∧ ρ.rd 7 = .int .i64 E.length ∧ ρ.rd 8 = .int .i64 i ∧ ρ.rd 0 = slc byC E ∧ ρ.rd 1 = .fn 39 []) E.length ?_ ?_
  · simp only [WS, stepW, evalA, reduceIte, Nat.reduceEqDiff, reduceCtorEq, evalBin, Option.getD, Int.reduceToNat, Nat.reduceMul, Nat.reduceAdd, allocA, rowOf, fillA, partsV, setl, Nat.reduceLeDiff, AV.len, evalUn, Int.reduceLT, Int.reduceLE, Int.reduceEq, Int.reduceNe, slc_eq]
    rfl
  rintro i ρ s hi ⟨rfl, g7, g8, g0, g1⟩
  by_cases hlt : (i : Int) < E.length
  · have hlt' : i < E.length := by omega
    have hr := lt_idx hlt'
    have hwj : IntKind.i64.wrap ((i : Int) + 1) = ((i + 1 : Nat) : Int) := wrap_succ (by omega)
    simp only [WS, stepW, evalA, reduceIte, Nat.reduceEqDiff, reduceCtorEq, evalBin, Option.getD, Int.reduceToNat, Nat.reduceMul, Nat.reduceAdd, allocA, rowOf, fillA, partsV, setl, Nat.reduceLeDiff, AV.len, evalUn, Int.reduceLT, Int.reduceLE, Int.reduceEq, Int.reduceNe, g7, g8, g0, g1, slc_eq, hlt, hr, byC_get hlt']
    refine (big_ac (h _ (List.getElem_mem hlt')) _).use' ?_
    simp only [WS, stepW, evalA, reduceIte, Nat.reduceEqDiff, reduceCtorEq, evalBin, Option.getD, Int.reduceToNat, Nat.reduceMul, Nat.reduceAdd, allocA, rowOf, fillA, partsV, setl, Nat.reduceLeDiff, AV.len, evalUn, Int.reduceLT, Int.reduceLE, Int.reduceEq, Int.reduceNe, g7, g8, g0, g1, slc_eq, hwj]
    exact hlt'
  · simp only [WS, stepW, evalA, reduceIte, Nat.reduceEqDiff, reduceCtorEq, evalBin, Option.getD, Int.reduceToNat, Nat.reduceMul, Nat.reduceAdd, allocA, rowOf, fillA, partsV, setl, Nat.reduceLeDiff, AV.len, evalUn, Int.reduceLT, Int.reduceLE, Int.reduceEq, Int.reduceNe, g7, g8, g0, g1, slc_eq, hlt]
theorem contains_ac {E : List (List UInt8)} (h : ∀ b ∈ E, b.length ≤ 700) (hm : E.length ≤ 64) (σ : AState) : AC Try.prog 38 [slc byC E, .fn 39 []] σ fun v s => v = .bool false ∧ s = σ := by
  refine ac_wp fn38 cf38 cl38 rfl ?_
  simp only [ac38]
  unfold ab38
  simp only [WS, stepW, evalA, reduceIte, Nat.reduceEqDiff, reduceCtorEq, evalBin, Option.getD, Int.reduceToNat, Nat.reduceMul, Nat.reduceAdd, allocA, rowOf, fillA, partsV, setl, Nat.reduceLeDiff, AV.len, evalUn, Int.reduceLT, Int.reduceLE, Int.reduceEq, Int.reduceNe]
  refine (index_ac h hm _).use' ?_
  simp only [WS, stepW, evalA, reduceIte, Nat.reduceEqDiff, reduceCtorEq, evalBin, Option.getD, Int.reduceToNat, Nat.reduceMul, Nat.reduceAdd, allocA, rowOf, fillA, partsV, setl, Nat.reduceLeDiff, AV.len, evalUn, Int.reduceLT, Int.reduceLE, Int.reduceEq, Int.reduceNe]

/- A message that may be written: of kind 1, the numbers 0, no members. -/
def msC (t k : List Int) (e : List (List UInt8)) (d : List UInt8) : List AV :=
  [.int .i64 0, .int .i64 0, .int .i64 1, .int .i64 0, .int .i64 0, .int .i64 0, .int .i64 0, .int .i64 0, .bool false, inV t, inV k, slc byC e, .nils, byV d]
structure MsG (t k : List Int) (e : List (List UInt8)) (d : List UInt8) : Prop where
  tl : t.length = e.length
  kl : k.length = e.length
  el : e.length ≤ 64
  e : ∀ b ∈ e, b.length ≤ 700
  d : d.length ≤ 60000
theorem bad_ac {t k : List Int} {e : List (List UInt8)} {d : List UInt8} (g : MsG t k e d) (σ : AState) : AC Try.prog 36 [.agg (msC t k e d)] σ fun v s => s = σ ∧ v = .int .i64 0 := by
  refine AC.told ?_ rfl ?_
  · intro a ha
    cases List.mem_singleton.1 ha
    refine .agg fun a ha => ?_
    simp only [msC, List.mem_cons, List.not_mem_nil, or_false] at ha
    rcases ha with rfl | rfl | rfl | rfl | rfl | rfl | rfl | rfl | rfl | rfl | rfl | rfl | rfl | rfl
    all_goals first
      | exact inV_fxd _
      | exact byV_fxd _
      | exact byC_fxd _
      | exact .flat rfl
  · refine ac_wp fn36 cf36 cl36 rfl ?_
    simp only [ac36]
    unfold ab36
    have h1 : (t.length : Int) = e.length := by have := g.tl; omega
    have h2 : (k.length : Int) = e.length := by have := g.kl; omega
    have h3 : ¬ (e.length : Int) > 64 := by have := g.el; omega
    have h4 : ¬ (d.length : Int) > 60000 := by have := g.d; omega
    simp only [WS, stepW, evalA, reduceIte, Nat.reduceEqDiff, reduceCtorEq, evalBin, Option.getD, Int.reduceToNat, Nat.reduceMul, Nat.reduceAdd, allocA, rowOf, fillA, partsV, setl, Nat.reduceLeDiff, AV.len, evalUn, Int.reduceLT, Int.reduceLE, Int.reduceEq, Int.reduceNe, msC, inV_eq, byV_eq, slc_eq, h1, h2, h3]
    refine (contains_ac g.e g.el _).use' ?_
    simp only [WS, stepW, evalA, reduceIte, Nat.reduceEqDiff, reduceCtorEq, evalBin, Option.getD, Int.reduceToNat, Nat.reduceMul, Nat.reduceAdd, allocA, rowOf, fillA, partsV, setl, Nat.reduceLeDiff, AV.len, evalUn, Int.reduceLT, Int.reduceLE, Int.reduceEq, Int.reduceNe, msC, inV_eq, byV_eq, slc_eq, h4]

theorem RW.slots {p : Nat → Prop} {b0 : Nat} {σ : AState} {l : List UInt8} (h : RW p b0 σ l) (m : Nat) : RW p b0 (addSlots σ.n m σ []) l := by
  obtain ⟨⟨x, hc, hrow⟩, hlt⟩ := h
  exact ⟨⟨x, hc, hrow.slots m⟩, Nat.lt_of_lt_of_le hlt (Nat.le_add_right _ _)⟩
/- The message of ours, and the row that grows. -/
structure MI (t k : List Int) (e : List (List UInt8)) (d : List UInt8) (ρ : Env) (s : AState) (l : List UInt8) : Prop where
  r1 : ρ.rd 1 = .ptr 0 0
  r5 : ρ.rd 5 = .ptr 1 0
  c0 : s.cells 0 = some (msC t k e d)
  w : RW (fun b => 2 ≤ b) 1 s l
  n : 2 ≤ s.n
theorem MI.next {t k : List Int} {e : List (List UInt8)} {d : List UInt8} {ρ ρ' : Env} {s s' : AState} {l l' : List UInt8} (h : MI t k e d ρ s l) (r1 : ρ'.rd 1 = .ptr 0 0) (r5 : ρ'.rd 5 = .ptr 1 0) (w : RW (fun b => 2 ≤ b) 1 s' l') (hk : Kp (fun b => 2 ≤ b) 1 s s') : MI t k e d ρ' s' l' :=
  ⟨r1, r5, (hk.cells (by have := h.n; omega) (by omega) (by omega)).trans h.c0, w, Nat.le_trans h.n hk.1⟩
/- Numbers of a row that was just made. -/
theorem ints_lit {k b0 : Nat} {σ : AState} {l : List UInt8} {ns : List Int} (h : RW (fun b => k ≤ b) b0 σ l) (hb0 : b0 < k) (hk : k ≤ σ.n) (hm : l.length ≤ 1000000) (hm' : ns.length ≤ 1000) :
    (AC Try.prog 23 [.ptr b0 0, .sl σ.n 0 ns.length (some ns.length) 1] (σ.push (.cells (ofInts ns))) fun v s => s = pushL b0 (σ.push (.cells (ofInts ns))) (numsS ns) ∧ v = .tup []) ∧
    RW (fun b => k ≤ b) b0 (pushL b0 (σ.push (.cells (ofInts ns))) (numsS ns)) (l ++ numsS ns) ∧ Kp (fun b => k ≤ b) b0 σ (pushL b0 (σ.push (.cells (ofInts ns))) (numsS ns)) := by
  obtain ⟨⟨x, hc, hrow⟩, hlt⟩ := h
  have hn : (σ.push (.cells (ofInts ns))).n = σ.n + 1 := rfl
  have h' : RW (fun b => k ≤ b ∧ b ≠ σ.n) b0 (σ.push (.cells (ofInts ns))) l := ⟨⟨x, by rw [push_get, if_neg (by omega)]; exact hc, (hrow.mono fun b h1 h2 => ⟨h1, by omega⟩).push _⟩, Nat.lt_succ_of_lt hlt⟩
  have hp : ∀ b, (σ.push (.cells (ofInts ns))).n ≤ b → k ≤ b ∧ b ≠ σ.n := fun b hb => by omega
  refine ⟨int_ac h' hp (by omega) hm hm' (.inr (.inr ⟨σ.n, _, rfl, Nat.lt_succ_self _, by omega, by omega, push_cells _ _⟩)), ?_⟩
  obtain ⟨⟨⟨y, hc, hrow⟩, hlt⟩, hk1, hk2⟩ := pushL_ok (p := fun b => k ≤ b ∧ b ≠ σ.n) (by omega) (numsS ns) h' hp (by rw [numsS_len]; omega)
  refine ⟨⟨⟨y, hc, hrow.mono fun b h1 _ => h1.1⟩, hlt⟩, by omega, fun b h1 h2 h3 => ?_⟩
  rw [hk2 b (by omega) (by omega) h3, push_h h1]
theorem Kp.push (p : Nat → Prop) (b0 : Nat) (σ : AState) (cs : List AV) : Kp p b0 σ (σ.push (.cells cs)) := ⟨Nat.le_succ _, fun b h _ _ => push_h h⟩
theorem msg_st0 {t k : List Int} {e : List (List UInt8)} {d : List UInt8} (g : MsG t k e d) : AC Try.prog 18 [.agg (msC t k e d)] st0 fun v s => ∃ l, Pur s false v (.tup [byV l, .int .i64 0]) := by
  have el := g.el
  have tl := g.tl
  have kl := g.kl
  have dl := g.d
  refine ac_wp fn18 cf18 cl18 rfl ?_
  simp only [ac18]
  unfold ab18
  simp only [wpC_seq, wpC_skip, wpCK_normal]
  refine w_mid (fun ρ s => ρ.rd 1 = .ptr 0 0 ∧ s.n = 1 ∧ s.cells 0 = some (msC t k e d)) ?_ ?_
  · simp only [WS, stepW, evalA, reduceIte, Nat.reduceEqDiff, reduceCtorEq, evalBin, Option.getD, Int.reduceToNat, Nat.reduceMul, Nat.reduceAdd, allocA, rowOf, fillA, partsV, setl, Nat.reduceLeDiff, AV.len, evalUn, Int.reduceLT, Int.reduceLE, Int.reduceEq, Int.reduceNe, msC, inV_eq, byV_eq, slc_eq]
  rintro ρ s ⟨g1, hn, c0⟩
  rw [wpC_seq]
  refine w_mid (fun ρ s => ρ.rd 1 = .ptr 0 0 ∧ s.n = 1 ∧ s.cells 0 = some (msC t k e d)) ?_ ?_
  · simp only [WS, stepW, evalA, reduceIte, Nat.reduceEqDiff, reduceCtorEq, evalBin, Option.getD, Int.reduceToNat, Nat.reduceMul, Nat.reduceAdd, allocA, rowOf, fillA, partsV, setl, Nat.reduceLeDiff, AV.len, evalUn, Int.reduceLT, Int.reduceLE, Int.reduceEq, Int.reduceNe, g1, c0, msC]
    refine (bad_ac g _).use ?_
    simp only [WS, stepW, evalA, reduceIte, Nat.reduceEqDiff, reduceCtorEq, evalBin, Option.getD, Int.reduceToNat, Nat.reduceMul, Nat.reduceAdd, allocA, rowOf, fillA, partsV, setl, Nat.reduceLeDiff, AV.len, evalUn, Int.reduceLT, Int.reduceLE, Int.reduceEq, Int.reduceNe, g1, c0, hn, msC]
  clear g1 hn c0
  rintro ρ s ⟨g1, hn, c0⟩
  rw [wpC_seq]
  refine w_mid (fun ρ s => MI t k e d ρ s []) ?_ ?_
  · simp only [WS, stepW, evalA, reduceIte, Nat.reduceEqDiff, reduceCtorEq, evalBin, Option.getD, Int.reduceToNat, Nat.reduceMul, Nat.reduceAdd, allocA, rowOf, fillA, partsV, setl, Nat.reduceLeDiff, AV.len, evalUn, Int.reduceLT, Int.reduceLE, Int.reduceEq, Int.reduceNe, g1]
    refine ⟨?_, ?_, ?_, ⟨⟨.nils, ?_, RowP.nil _ _ _⟩, ?_⟩, ?_⟩
    · simp only [WS, stepW, evalA, reduceIte, Nat.reduceEqDiff, reduceCtorEq, evalBin, Option.getD, Int.reduceToNat, Nat.reduceMul, Nat.reduceAdd, allocA, rowOf, fillA, partsV, setl, Nat.reduceLeDiff, AV.len, evalUn, Int.reduceLT, Int.reduceLE, Int.reduceEq, Int.reduceNe, g1]
    · simp only [WS, stepW, evalA, reduceIte, Nat.reduceEqDiff, reduceCtorEq, evalBin, Option.getD, Int.reduceToNat, Nat.reduceMul, Nat.reduceAdd, allocA, rowOf, fillA, partsV, setl, Nat.reduceLeDiff, AV.len, evalUn, Int.reduceLT, Int.reduceLE, Int.reduceEq, Int.reduceNe, g1, hn]
    · rw [push_get, if_neg (by omega)]; exact c0
    · rw [push_get, if_pos (by omega)]
    · show 1 < s.n + 1
      omega
    · show 2 ≤ s.n + 1
      omega
  clear g1 hn c0
  intro ρ s m
  rw [wpC_seq]
  refine w_mid (fun ρ s => MI t k e d ρ s (numsS [0, 0])) ?_ ?_
  · obtain ⟨g1, g5, c0, w, hn⟩ := id m
    simp only [WS, stepW, evalA, reduceIte, Nat.reduceEqDiff, reduceCtorEq, evalBin, Option.getD, Int.reduceToNat, Nat.reduceMul, Nat.reduceAdd, allocA, rowOf, fillA, partsV, setl, Nat.reduceLeDiff, AV.len, evalUn, Int.reduceLT, Int.reduceLE, Int.reduceEq, Int.reduceNe, g1, g5, c0, msC, inV_eq, byV_eq, slc_eq]
    obtain ⟨hac, w', hk⟩ := ints_lit (ns := [0, 0]) w (by omega) hn (by decide) (by decide)
    refine hac.use ?_
    simp only [WS, stepW, evalA, reduceIte, Nat.reduceEqDiff, reduceCtorEq, evalBin, Option.getD, Int.reduceToNat, Nat.reduceMul, Nat.reduceAdd, allocA, rowOf, fillA, partsV, setl, Nat.reduceLeDiff, AV.len, evalUn, Int.reduceLT, Int.reduceLE, Int.reduceEq, Int.reduceNe]
    refine m.next ?_ ?_ w' hk
    · simp only [WS, stepW, evalA, reduceIte, Nat.reduceEqDiff, reduceCtorEq, evalBin, Option.getD, Int.reduceToNat, Nat.reduceMul, Nat.reduceAdd, allocA, rowOf, fillA, partsV, setl, Nat.reduceLeDiff, AV.len, evalUn, Int.reduceLT, Int.reduceLE, Int.reduceEq, Int.reduceNe, g1]
    · simp only [WS, stepW, evalA, reduceIte, Nat.reduceEqDiff, reduceCtorEq, evalBin, Option.getD, Int.reduceToNat, Nat.reduceMul, Nat.reduceAdd, allocA, rowOf, fillA, partsV, setl, Nat.reduceLeDiff, AV.len, evalUn, Int.reduceLT, Int.reduceLE, Int.reduceEq, Int.reduceNe, g5]
  intro ρ s m
  rw [wpC_seq]
  refine w_mid (fun ρ s => MI t k e d ρ s (numsS [0, 0] ++ [b8 1])) ?_ ?_
  · obtain ⟨g1, g5, c0, w, hn⟩ := id m
    simp only [WS, stepW, evalA, reduceIte, Nat.reduceEqDiff, reduceCtorEq, evalBin, Option.getD, Int.reduceToNat, Nat.reduceMul, Nat.reduceAdd, allocA, rowOf, fillA, partsV, setl, Nat.reduceLeDiff, AV.len, evalUn, Int.reduceLT, Int.reduceLE, Int.reduceEq, Int.reduceNe, g1, g5, c0, msC, inV_eq, byV_eq, slc_eq]
    refine (byte_ac w (fun b hb => by omega) (by omega) (by decide)).mono ?_
    rintro v s' ⟨w', hk⟩
    simp only [WS, stepW, evalA, reduceIte, Nat.reduceEqDiff, reduceCtorEq, evalBin, Option.getD, Int.reduceToNat, Nat.reduceMul, Nat.reduceAdd, allocA, rowOf, fillA, partsV, setl, Nat.reduceLeDiff, AV.len, evalUn, Int.reduceLT, Int.reduceLE, Int.reduceEq, Int.reduceNe]
    refine m.next ?_ ?_ w' hk
    · simp only [WS, stepW, evalA, reduceIte, Nat.reduceEqDiff, reduceCtorEq, evalBin, Option.getD, Int.reduceToNat, Nat.reduceMul, Nat.reduceAdd, allocA, rowOf, fillA, partsV, setl, Nat.reduceLeDiff, AV.len, evalUn, Int.reduceLT, Int.reduceLE, Int.reduceEq, Int.reduceNe, g1]
    · simp only [WS, stepW, evalA, reduceIte, Nat.reduceEqDiff, reduceCtorEq, evalBin, Option.getD, Int.reduceToNat, Nat.reduceMul, Nat.reduceAdd, allocA, rowOf, fillA, partsV, setl, Nat.reduceLeDiff, AV.len, evalUn, Int.reduceLT, Int.reduceLE, Int.reduceEq, Int.reduceNe, g5]
  intro ρ s m
  rw [wpC_seq]
  refine w_mid (fun ρ s => MI t k e d ρ s ((numsS [0, 0] ++ [b8 1]) ++ numsS [0, 0, 0, 0, 0])) ?_ ?_
  · obtain ⟨g1, g5, c0, w, hn⟩ := id m
    simp only [WS, stepW, evalA, reduceIte, Nat.reduceEqDiff, reduceCtorEq, evalBin, Option.getD, Int.reduceToNat, Nat.reduceMul, Nat.reduceAdd, allocA, rowOf, fillA, partsV, setl, Nat.reduceLeDiff, AV.len, evalUn, Int.reduceLT, Int.reduceLE, Int.reduceEq, Int.reduceNe, g1, g5, c0, msC, inV_eq, byV_eq, slc_eq]
    obtain ⟨hac, w', hk⟩ := ints_lit (ns := [0, 0, 0, 0, 0]) w (by omega) hn (by decide) (by decide)
    refine hac.use ?_
    simp only [WS, stepW, evalA, reduceIte, Nat.reduceEqDiff, reduceCtorEq, evalBin, Option.getD, Int.reduceToNat, Nat.reduceMul, Nat.reduceAdd, allocA, rowOf, fillA, partsV, setl, Nat.reduceLeDiff, AV.len, evalUn, Int.reduceLT, Int.reduceLE, Int.reduceEq, Int.reduceNe]
    refine m.next ?_ ?_ w' hk
    · simp only [WS, stepW, evalA, reduceIte, Nat.reduceEqDiff, reduceCtorEq, evalBin, Option.getD, Int.reduceToNat, Nat.reduceMul, Nat.reduceAdd, allocA, rowOf, fillA, partsV, setl, Nat.reduceLeDiff, AV.len, evalUn, Int.reduceLT, Int.reduceLE, Int.reduceEq, Int.reduceNe, g1]
    · simp only [WS, stepW, evalA, reduceIte, Nat.reduceEqDiff, reduceCtorEq, evalBin, Option.getD, Int.reduceToNat, Nat.reduceMul, Nat.reduceAdd, allocA, rowOf, fillA, partsV, setl, Nat.reduceLeDiff, AV.len, evalUn, Int.reduceLT, Int.reduceLE, Int.reduceEq, Int.reduceNe, g5]
  intro ρ s m
  have hl0 : (((numsS [0, 0] ++ [b8 1]) ++ numsS [0, 0, 0, 0, 0])).length = 57 := rfl
  generalize ((numsS [0, 0] ++ [b8 1]) ++ numsS [0, 0, 0, 0, 0]) = L at *
  rw [wpC_seq]
  refine w_mid (fun ρ s => ρ.rd 6 = .int .i64 0 ∧ MI t k e d ρ s L) ?_ ?_
  · obtain ⟨g1, g5, c0, w, hn⟩ := id m
    simp only [WS, stepW, evalA, reduceIte, Nat.reduceEqDiff, reduceCtorEq, evalBin, Option.getD, Int.reduceToNat, Nat.reduceMul, Nat.reduceAdd, allocA, rowOf, fillA, partsV, setl, Nat.reduceLeDiff, AV.len, evalUn, Int.reduceLT, Int.reduceLE, Int.reduceEq, Int.reduceNe, g1, g5, c0, msC, inV_eq, byV_eq, slc_eq]
    refine m.next ?_ ?_ w (Kp.refl _ _ _)
    · simp only [WS, stepW, evalA, reduceIte, Nat.reduceEqDiff, reduceCtorEq, evalBin, Option.getD, Int.reduceToNat, Nat.reduceMul, Nat.reduceAdd, allocA, rowOf, fillA, partsV, setl, Nat.reduceLeDiff, AV.len, evalUn, Int.reduceLT, Int.reduceLE, Int.reduceEq, Int.reduceNe, g1]
    · simp only [WS, stepW, evalA, reduceIte, Nat.reduceEqDiff, reduceCtorEq, evalBin, Option.getD, Int.reduceToNat, Nat.reduceMul, Nat.reduceAdd, allocA, rowOf, fillA, partsV, setl, Nat.reduceLeDiff, AV.len, evalUn, Int.reduceLT, Int.reduceLE, Int.reduceEq, Int.reduceNe, g5]
  rintro ρ s ⟨g6, m⟩
  rw [wpC_seq]
  refine w_mid (fun ρ s => ρ.rd 6 = .int .i64 0 ∧ MI t k e d ρ s L) ?_ ?_
  · obtain ⟨g1, g5, c0, w, hn⟩ := id m
    simp only [WS, stepW, evalA, reduceIte, Nat.reduceEqDiff, reduceCtorEq, evalBin, Option.getD, Int.reduceToNat, Nat.reduceMul, Nat.reduceAdd, allocA, rowOf, fillA, partsV, setl, Nat.reduceLeDiff, AV.len, evalUn, Int.reduceLT, Int.reduceLE, Int.reduceEq, Int.reduceNe, g1, g5, g6, c0, msC, inV_eq, byV_eq, slc_eq]
    refine m.next ?_ ?_ w (Kp.refl _ _ _)
    · simp only [WS, stepW, evalA, reduceIte, Nat.reduceEqDiff, reduceCtorEq, evalBin, Option.getD, Int.reduceToNat, Nat.reduceMul, Nat.reduceAdd, allocA, rowOf, fillA, partsV, setl, Nat.reduceLeDiff, AV.len, evalUn, Int.reduceLT, Int.reduceLE, Int.reduceEq, Int.reduceNe, g1]
    · simp only [WS, stepW, evalA, reduceIte, Nat.reduceEqDiff, reduceCtorEq, evalBin, Option.getD, Int.reduceToNat, Nat.reduceMul, Nat.reduceAdd, allocA, rowOf, fillA, partsV, setl, Nat.reduceLeDiff, AV.len, evalUn, Int.reduceLT, Int.reduceLE, Int.reduceEq, Int.reduceNe, g5]
  clear g6
  rintro ρ s ⟨g6, m⟩
  rw [wpC_seq]
  refine w_mid (fun ρ s => MI t k e d ρ s (L ++ [b8 0])) ?_ ?_
  · obtain ⟨g1, g5, c0, w, hn⟩ := id m
    simp only [WS, stepW, evalA, reduceIte, Nat.reduceEqDiff, reduceCtorEq, evalBin, Option.getD, Int.reduceToNat, Nat.reduceMul, Nat.reduceAdd, allocA, rowOf, fillA, partsV, setl, Nat.reduceLeDiff, AV.len, evalUn, Int.reduceLT, Int.reduceLE, Int.reduceEq, Int.reduceNe, g1, g5, g6, c0, msC, inV_eq, byV_eq, slc_eq]
    refine (byte_ac w (fun b hb => by omega) (by omega) (by omega)).mono ?_
    rintro v s' ⟨w', hk⟩
    simp only [WS, stepW, evalA, reduceIte, Nat.reduceEqDiff, reduceCtorEq, evalBin, Option.getD, Int.reduceToNat, Nat.reduceMul, Nat.reduceAdd, allocA, rowOf, fillA, partsV, setl, Nat.reduceLeDiff, AV.len, evalUn, Int.reduceLT, Int.reduceLE, Int.reduceEq, Int.reduceNe]
    refine m.next ?_ ?_ w' hk
    · simp only [WS, stepW, evalA, reduceIte, Nat.reduceEqDiff, reduceCtorEq, evalBin, Option.getD, Int.reduceToNat, Nat.reduceMul, Nat.reduceAdd, allocA, rowOf, fillA, partsV, setl, Nat.reduceLeDiff, AV.len, evalUn, Int.reduceLT, Int.reduceLE, Int.reduceEq, Int.reduceNe, g1]
    · simp only [WS, stepW, evalA, reduceIte, Nat.reduceEqDiff, reduceCtorEq, evalBin, Option.getD, Int.reduceToNat, Nat.reduceMul, Nat.reduceAdd, allocA, rowOf, fillA, partsV, setl, Nat.reduceLeDiff, AV.len, evalUn, Int.reduceLT, Int.reduceLE, Int.reduceEq, Int.reduceNe, g5]
  clear g6
  intro ρ s m
  rw [wpC_seq]
  refine w_mid (fun ρ s => MI t k e d ρ s (L ++ [b8 0] ++ [b8 e.length])) ?_ ?_
  · obtain ⟨g1, g5, c0, w, hn⟩ := id m
    simp only [WS, stepW, evalA, reduceIte, Nat.reduceEqDiff, reduceCtorEq, evalBin, Option.getD, Int.reduceToNat, Nat.reduceMul, Nat.reduceAdd, allocA, rowOf, fillA, partsV, setl, Nat.reduceLeDiff, AV.len, evalUn, Int.reduceLT, Int.reduceLE, Int.reduceEq, Int.reduceNe, g1, g5, c0, msC, inV_eq, byV_eq, slc_eq]
    refine (byte_ac w (fun b hb => by omega) (by omega) (by simp; omega)).mono ?_
    rintro v s' ⟨w', hk⟩
    simp only [WS, stepW, evalA, reduceIte, Nat.reduceEqDiff, reduceCtorEq, evalBin, Option.getD, Int.reduceToNat, Nat.reduceMul, Nat.reduceAdd, allocA, rowOf, fillA, partsV, setl, Nat.reduceLeDiff, AV.len, evalUn, Int.reduceLT, Int.reduceLE, Int.reduceEq, Int.reduceNe]
    refine m.next ?_ ?_ w' hk
    · simp only [WS, stepW, evalA, reduceIte, Nat.reduceEqDiff, reduceCtorEq, evalBin, Option.getD, Int.reduceToNat, Nat.reduceMul, Nat.reduceAdd, allocA, rowOf, fillA, partsV, setl, Nat.reduceLeDiff, AV.len, evalUn, Int.reduceLT, Int.reduceLE, Int.reduceEq, Int.reduceNe, g1]
    · simp only [WS, stepW, evalA, reduceIte, Nat.reduceEqDiff, reduceCtorEq, evalBin, Option.getD, Int.reduceToNat, Nat.reduceMul, Nat.reduceAdd, allocA, rowOf, fillA, partsV, setl, Nat.reduceLeDiff, AV.len, evalUn, Int.reduceLT, Int.reduceLE, Int.reduceEq, Int.reduceNe, g5]
  intro ρ s m
  have hl1 : (L ++ [b8 0] ++ [b8 e.length]).length = 59 := by simp; omega
  generalize L ++ [b8 0] ++ [b8 e.length] = L1 at *
  rw [wpC_seq]
  refine w_mid (fun ρ s => ∃ l, l.length ≤ 59 + 64 * 718 ∧ MI t k e d ρ s l) ?_ ?_
  · obtain ⟨g1, g5, c0, w, hn⟩ := id m
    simp only [WS, stepW, evalA, reduceIte, Nat.reduceEqDiff, reduceCtorEq, evalBin, Option.getD, Int.reduceToNat, Nat.reduceMul, Nat.reduceAdd, allocA, rowOf, fillA, partsV, setl, Nat.reduceLeDiff, AV.len, evalUn, Int.reduceLT, Int.reduceLE, Int.reduceEq, Int.reduceNe, g1, g5, c0, msC, inV_eq, byV_eq, slc_eq]
    refine w_for (fun i ρ s => ρ.rd 51 = slc byC e ∧ ρ.rd 52 = .int .i64 e.length ∧ ρ.rd 53 = .int .i64 i ∧ ∃ l, l.length ≤ 59 + i * 718 ∧ MI t k e d ρ s l) e.length ?_ ?_
    · simp only [WS, stepW, evalA, reduceIte, Nat.reduceEqDiff, reduceCtorEq, evalBin, Option.getD, Int.reduceToNat, Nat.reduceMul, Nat.reduceAdd, allocA, rowOf, fillA, partsV, setl, Nat.reduceLeDiff, AV.len, evalUn, Int.reduceLT, Int.reduceLE, Int.reduceEq, Int.reduceNe, g1, g5, c0, msC, inV_eq, byV_eq, slc_eq]
      refine ⟨rfl, L1, by omega, m.next ?_ ?_ w (Kp.refl _ _ _)⟩
      · simp only [WS, stepW, evalA, reduceIte, Nat.reduceEqDiff, reduceCtorEq, evalBin, Option.getD, Int.reduceToNat, Nat.reduceMul, Nat.reduceAdd, allocA, rowOf, fillA, partsV, setl, Nat.reduceLeDiff, AV.len, evalUn, Int.reduceLT, Int.reduceLE, Int.reduceEq, Int.reduceNe, g1]
      · simp only [WS, stepW, evalA, reduceIte, Nat.reduceEqDiff, reduceCtorEq, evalBin, Option.getD, Int.reduceToNat, Nat.reduceMul, Nat.reduceAdd, allocA, rowOf, fillA, partsV, setl, Nat.reduceLeDiff, AV.len, evalUn, Int.reduceLT, Int.reduceLE, Int.reduceEq, Int.reduceNe, g5]
    clear m g1 g5 c0 w hn
    rintro i ρ s hi ⟨h51, h52, h53, l, hl, m⟩
    obtain ⟨g1, g5, c0, w, hn⟩ := id m
    by_cases hlt : (i : Int) < e.length
    rotate_left
    · simp only [WS, stepW, evalA, reduceIte, Nat.reduceEqDiff, reduceCtorEq, evalBin, Option.getD, Int.reduceToNat, Nat.reduceMul, Nat.reduceAdd, allocA, rowOf, fillA, partsV, setl, Nat.reduceLeDiff, AV.len, evalUn, Int.reduceLT, Int.reduceLE, Int.reduceEq, Int.reduceNe, g1, g5, h51, h52, h53, hlt]
      refine ⟨l, by omega, m.next ?_ ?_ w (Kp.refl _ _ _)⟩
      · simp only [WS, stepW, evalA, reduceIte, Nat.reduceEqDiff, reduceCtorEq, evalBin, Option.getD, Int.reduceToNat, Nat.reduceMul, Nat.reduceAdd, allocA, rowOf, fillA, partsV, setl, Nat.reduceLeDiff, AV.len, evalUn, Int.reduceLT, Int.reduceLE, Int.reduceEq, Int.reduceNe, g1]
      · simp only [WS, stepW, evalA, reduceIte, Nat.reduceEqDiff, reduceCtorEq, evalBin, Option.getD, Int.reduceToNat, Nat.reduceMul, Nat.reduceAdd, allocA, rowOf, fillA, partsV, setl, Nat.reduceLeDiff, AV.len, evalUn, Int.reduceLT, Int.reduceLE, Int.reduceEq, Int.reduceNe, g5]
    have hi' : i < e.length := by omega
    have hr := lt_idx hi'
    have hit : i < t.length := by omega
    have hik : i < k.length := by omega
    have hrt := lt_idx hit
    have hrk := lt_idx hik
    have hw : IntKind.i64.wrap ((i : Int) + 1) = ((i + 1 : Nat) : Int) := wrap_succ (by omega)
    rw [wpC_seq]
    refine w_mid (fun ρ s => ρ.rd 54 = .bool true ∧ ρ.rd 51 = slc byC e ∧ ρ.rd 52 = .int .i64 e.length ∧ ρ.rd 53 = .int .i64 i ∧ MI t k e d ρ s l) ?_ ?_
    · simp only [WS, stepW, evalA, reduceIte, Nat.reduceEqDiff, reduceCtorEq, evalBin, Option.getD, Int.reduceToNat, Nat.reduceMul, Nat.reduceAdd, allocA, rowOf, fillA, partsV, setl, Nat.reduceLeDiff, AV.len, evalUn, Int.reduceLT, Int.reduceLE, Int.reduceEq, Int.reduceNe, g1, g5, h51, h52, h53, hlt, decide_true]
      refine m.next ?_ ?_ w (Kp.refl _ _ _)
      · simp only [WS, stepW, evalA, reduceIte, Nat.reduceEqDiff, reduceCtorEq, evalBin, Option.getD, Int.reduceToNat, Nat.reduceMul, Nat.reduceAdd, allocA, rowOf, fillA, partsV, setl, Nat.reduceLeDiff, AV.len, evalUn, Int.reduceLT, Int.reduceLE, Int.reduceEq, Int.reduceNe, g1]
      · simp only [WS, stepW, evalA, reduceIte, Nat.reduceEqDiff, reduceCtorEq, evalBin, Option.getD, Int.reduceToNat, Nat.reduceMul, Nat.reduceAdd, allocA, rowOf, fillA, partsV, setl, Nat.reduceLeDiff, AV.len, evalUn, Int.reduceLT, Int.reduceLE, Int.reduceEq, Int.reduceNe, g5]
    clear m g1 g5 c0 w hn h51 h52 h53
    rintro ρ s ⟨h54, h51, h52, h53, m⟩
    rw [wpC_seq]
    refine w_mid (fun ρ s => ρ.rd 51 = slc byC e ∧ ρ.rd 52 = .int .i64 e.length ∧ ρ.rd 53 = .int .i64 i ∧ MI t k e d ρ s l) ?_ ?_
    · obtain ⟨g1, g5, c0, w, hn⟩ := id m
      simp only [WS, stepW, evalA, reduceIte, Nat.reduceEqDiff, reduceCtorEq, evalBin, Option.getD, Int.reduceToNat, Nat.reduceMul, Nat.reduceAdd, allocA, rowOf, fillA, partsV, setl, Nat.reduceLeDiff, AV.len, evalUn, Int.reduceLT, Int.reduceLE, Int.reduceEq, Int.reduceNe, g1, g5, h51, h52, h53, h54]
      exact m
    clear h51 h52 h53 h54
    rintro ρ s ⟨h51, h52, h53, m⟩
    rw [wpC_seq, wpC_block, wpC_seq]
    refine w_mid (fun ρ s => ρ.rd 51 = slc byC e ∧ ρ.rd 52 = .int .i64 e.length ∧ ρ.rd 53 = .int .i64 i ∧ ρ.rd 7 = .int .i64 i ∧ ρ.rd 8 = byV e[i] ∧ MI t k e d ρ s l) ?_ ?_
    · obtain ⟨g1, g5, c0, w, hn⟩ := id m
      simp only [WS, stepW, evalA, reduceIte, Nat.reduceEqDiff, reduceCtorEq, evalBin, Option.getD, Int.reduceToNat, Nat.reduceMul, Nat.reduceAdd, allocA, rowOf, fillA, partsV, setl, Nat.reduceLeDiff, AV.len, evalUn, Int.reduceLT, Int.reduceLE, Int.reduceEq, Int.reduceNe, g1, g5, h51, h52, h53, slc_eq, hr, byC_get hi', byV_eq]
      refine m.next ?_ ?_ w (Kp.refl _ _ _)
      · simp only [WS, stepW, evalA, reduceIte, Nat.reduceEqDiff, reduceCtorEq, evalBin, Option.getD, Int.reduceToNat, Nat.reduceMul, Nat.reduceAdd, allocA, rowOf, fillA, partsV, setl, Nat.reduceLeDiff, AV.len, evalUn, Int.reduceLT, Int.reduceLE, Int.reduceEq, Int.reduceNe, g1]
      · simp only [WS, stepW, evalA, reduceIte, Nat.reduceEqDiff, reduceCtorEq, evalBin, Option.getD, Int.reduceToNat, Nat.reduceMul, Nat.reduceAdd, allocA, rowOf, fillA, partsV, setl, Nat.reduceLeDiff, AV.len, evalUn, Int.reduceLT, Int.reduceLE, Int.reduceEq, Int.reduceNe, g5]
    clear h51 h52 h53
    rintro ρ s ⟨h51, h52, h53, h7, h8, m⟩
    rw [wpC_seq]
    refine w_mid (fun ρ s => ρ.rd 51 = slc byC e ∧ ρ.rd 52 = .int .i64 e.length ∧ ρ.rd 53 = .int .i64 i ∧ ρ.rd 8 = byV e[i] ∧ MI t k e d ρ s (l ++ numsS [t[i], k[i]])) ?_ ?_
    · obtain ⟨g1, g5, c0, w, hn⟩ := id m
      simp only [WS, stepW, evalA, reduceIte, Nat.reduceEqDiff, reduceCtorEq, evalBin, Option.getD, Int.reduceToNat, Nat.reduceMul, Nat.reduceAdd, allocA, rowOf, fillA, partsV, setl, Nat.reduceLeDiff, AV.len, evalUn, Int.reduceLT, Int.reduceLE, Int.reduceEq, Int.reduceNe]
      refine w_dreg follow [] rfl ?_
      have c0' : (addSlots s.n 13 s []).cells 0 = some (msC t k e d) := c0
      have w1 := w.slots 13
      have hn1 : 2 ≤ (addSlots s.n 13 s []).n := by simp only [addSlots]; omega
      have hk1 : Kp (fun b => 2 ≤ b) 1 s (addSlots s.n 13 s []) := ⟨by simp only [addSlots]; omega, fun b _ _ _ => rfl⟩
      generalize addSlots s.n 13 s [] = s1 at *
      have ne1 : ¬ 0 = s1.n := by omega
      obtain ⟨hac, w', hk⟩ := ints_lit (ns := [t[i], k[i]]) w1 (by omega) hn1 (by omega) (by decide : (2 : Nat) ≤ 1000)
      simp only [msC, inV_eq, byV_eq, slc_eq] at c0'
      simp only [WS, stepW, evalA, reduceIte, Nat.reduceEqDiff, reduceCtorEq, evalBin, Option.getD, Int.reduceToNat, Nat.reduceMul, Nat.reduceAdd, allocA, rowOf, fillA, partsV, setl, Nat.reduceLeDiff, AV.len, evalUn, Int.reduceLT, Int.reduceLE, Int.reduceEq, Int.reduceNe, DS, isSl, AOp.pure, AOp.reader, allocD, AOp.quiet, isSlot, Nat.reduceBEq, g1, g5, h7, c0', hrt, hrk, ints_get hit, ints_get hik]
      refine hac.useD ?_
      simp only [WS, stepW, evalA, reduceIte, Nat.reduceEqDiff, reduceCtorEq, evalBin, Option.getD, Int.reduceToNat, Nat.reduceMul, Nat.reduceAdd, allocA, rowOf, fillA, partsV, setl, Nat.reduceLeDiff, AV.len, evalUn, Int.reduceLT, Int.reduceLE, Int.reduceEq, Int.reduceNe, DS, isSl, AOp.pure, AOp.reader, allocD, AOp.quiet, isSlot, Nat.reduceBEq, g1, g5, h7, c0', hrt, hrk, ints_get hit, ints_get hik]
      have c13 := (hk.cells (b := 0) (by omega) (by omega) (by omega)).trans c0'
      refine ⟨⟨?_, fun sl hsl => by simp at hsl⟩, h51, h52, h53, h8, m.next ?_ ?_ w' (hk1.trans hk)⟩
      · intro l hl c hc hf
        simp only [List.mem_cons, List.mem_nil_iff, List.not_mem_nil, or_false] at hl hc
        rcases hl with rfl | rfl | rfl | rfl <;> rcases hc with rfl | rfl | rfl <;> dsimp only at hf ⊢ <;> first
          | (exact absurd hf (by decide +kernel))
          | (simp only [WS, stepW, evalA, reduceIte, Nat.reduceEqDiff, reduceCtorEq, evalBin, Option.getD, Int.reduceToNat, Nat.reduceMul, Nat.reduceAdd, allocA, rowOf, fillA, partsV, setl, Nat.reduceLeDiff, AV.len, evalUn, Int.reduceLT, Int.reduceLE, Int.reduceEq, Int.reduceNe, c0', c13, ne1, ints_get hit, ints_get hik]; done)
      · simp only [WS, stepW, evalA, reduceIte, Nat.reduceEqDiff, reduceCtorEq, evalBin, Option.getD, Int.reduceToNat, Nat.reduceMul, Nat.reduceAdd, allocA, rowOf, fillA, partsV, setl, Nat.reduceLeDiff, AV.len, evalUn, Int.reduceLT, Int.reduceLE, Int.reduceEq, Int.reduceNe, g1]
      · simp only [WS, stepW, evalA, reduceIte, Nat.reduceEqDiff, reduceCtorEq, evalBin, Option.getD, Int.reduceToNat, Nat.reduceMul, Nat.reduceAdd, allocA, rowOf, fillA, partsV, setl, Nat.reduceLeDiff, AV.len, evalUn, Int.reduceLT, Int.reduceLE, Int.reduceEq, Int.reduceNe, g5]
    clear h51 h52 h53 h7 h8 m
    rintro ρ s ⟨h51, h52, h53, h8, m⟩
    obtain ⟨g1, g5, c0, w, hn⟩ := id m
    simp only [WS, stepW, evalA, reduceIte, Nat.reduceEqDiff, reduceCtorEq, evalBin, Option.getD, Int.reduceToNat, Nat.reduceMul, Nat.reduceAdd, allocA, rowOf, fillA, partsV, setl, Nat.reduceLeDiff, AV.len, evalUn, Int.reduceLT, Int.reduceLE, Int.reduceEq, Int.reduceNe, g1, g5, h8]
    have he := g.e _ (List.getElem_mem hi')
    have hl2 : (l ++ numsS [t[i], k[i]]).length = l.length + 16 := by rw [List.length_append, numsS_len]; rfl
    refine (bytes_ac (m := e[i]) w (fun b hb => by omega) (by omega) (by omega) (by omega) (.inl (byV_eq _))).mono ?_
    rintro v s' ⟨w', hk⟩
    simp only [WS, stepW, evalA, reduceIte, Nat.reduceEqDiff, reduceCtorEq, evalBin, Option.getD, Int.reduceToNat, Nat.reduceMul, Nat.reduceAdd, allocA, rowOf, fillA, partsV, setl, Nat.reduceLeDiff, AV.len, evalUn, Int.reduceLT, Int.reduceLE, Int.reduceEq, Int.reduceNe, g1, g5, h51, h52, h53, hw]
    refine ⟨hi', _, ?_, m.next ?_ ?_ w' hk⟩
    · rw [List.length_append, hl2, List.length_append]
      have : (lenS (e[i].length : Int)).length = 2 := rfl
      omega
    · simp only [WS, stepW, evalA, reduceIte, Nat.reduceEqDiff, reduceCtorEq, evalBin, Option.getD, Int.reduceToNat, Nat.reduceMul, Nat.reduceAdd, allocA, rowOf, fillA, partsV, setl, Nat.reduceLeDiff, AV.len, evalUn, Int.reduceLT, Int.reduceLE, Int.reduceEq, Int.reduceNe, g1]
    · simp only [WS, stepW, evalA, reduceIte, Nat.reduceEqDiff, reduceCtorEq, evalBin, Option.getD, Int.reduceToNat, Nat.reduceMul, Nat.reduceAdd, allocA, rowOf, fillA, partsV, setl, Nat.reduceLeDiff, AV.len, evalUn, Int.reduceLT, Int.reduceLE, Int.reduceEq, Int.reduceNe, g5]
  clear m
  rintro ρ s ⟨l, hl, m⟩
  rw [wpC_seq]
  refine w_mid (fun ρ s => ∃ l, l.length ≤ 59 + 64 * 718 + 1 ∧ MI t k e d ρ s l) ?_ ?_
  · obtain ⟨g1, g5, c0, w, hn⟩ := id m
    simp only [WS, stepW, evalA, reduceIte, Nat.reduceEqDiff, reduceCtorEq, evalBin, Option.getD, Int.reduceToNat, Nat.reduceMul, Nat.reduceAdd, allocA, rowOf, fillA, partsV, setl, Nat.reduceLeDiff, AV.len, evalUn, Int.reduceLT, Int.reduceLE, Int.reduceEq, Int.reduceNe, g1, g5, c0, msC, inV_eq, byV_eq, slc_eq]
    refine (byte_ac (n := 0) w (fun b hb => by omega) (by omega) (by omega)).mono ?_
    rintro v s' ⟨w', hk⟩
    simp only [WS, stepW, evalA, reduceIte, Nat.reduceEqDiff, reduceCtorEq, evalBin, Option.getD, Int.reduceToNat, Nat.reduceMul, Nat.reduceAdd, allocA, rowOf, fillA, partsV, setl, Nat.reduceLeDiff, AV.len, evalUn, Int.reduceLT, Int.reduceLE, Int.reduceEq, Int.reduceNe]
    refine ⟨_, ?_, m.next ?_ ?_ w' hk⟩
    · simp only [List.length_append, List.length_cons, List.length_nil]; omega
    · simp only [WS, stepW, evalA, reduceIte, Nat.reduceEqDiff, reduceCtorEq, evalBin, Option.getD, Int.reduceToNat, Nat.reduceMul, Nat.reduceAdd, allocA, rowOf, fillA, partsV, setl, Nat.reduceLeDiff, AV.len, evalUn, Int.reduceLT, Int.reduceLE, Int.reduceEq, Int.reduceNe, g1]
    · simp only [WS, stepW, evalA, reduceIte, Nat.reduceEqDiff, reduceCtorEq, evalBin, Option.getD, Int.reduceToNat, Nat.reduceMul, Nat.reduceAdd, allocA, rowOf, fillA, partsV, setl, Nat.reduceLeDiff, AV.len, evalUn, Int.reduceLT, Int.reduceLE, Int.reduceEq, Int.reduceNe, g5]
  clear hl m
  rintro ρ s ⟨l, hl, m⟩
  rw [wpC_seq]
  refine w_mid (fun ρ s => ∃ l, l.length ≤ 59 + 64 * 718 + 1 ∧ MI t k e d ρ s l) ?_ ?_
  · obtain ⟨g1, g5, c0, w, hn⟩ := id m
    simp only [WS, stepW, evalA, reduceIte, Nat.reduceEqDiff, reduceCtorEq, evalBin, Option.getD, Int.reduceToNat, Nat.reduceMul, Nat.reduceAdd, allocA, rowOf, fillA, partsV, setl, Nat.reduceLeDiff, AV.len, evalUn, Int.reduceLT, Int.reduceLE, Int.reduceEq, Int.reduceNe, g1, g5, c0, msC, inV_eq, byV_eq, slc_eq]
    refine (int_ac (ns := []) w (fun b hb => by omega) (by omega) (by omega) (by decide) (.inr (.inl ⟨rfl, rfl⟩))).use ?_
    simp only [WS, stepW, evalA, reduceIte, Nat.reduceEqDiff, reduceCtorEq, evalBin, Option.getD, Int.reduceToNat, Nat.reduceMul, Nat.reduceAdd, allocA, rowOf, fillA, partsV, setl, Nat.reduceLeDiff, AV.len, evalUn, Int.reduceLT, Int.reduceLE, Int.reduceEq, Int.reduceNe]
    refine ⟨l, hl, m.next ?_ ?_ w (Kp.refl _ _ _)⟩
    · simp only [WS, stepW, evalA, reduceIte, Nat.reduceEqDiff, reduceCtorEq, evalBin, Option.getD, Int.reduceToNat, Nat.reduceMul, Nat.reduceAdd, allocA, rowOf, fillA, partsV, setl, Nat.reduceLeDiff, AV.len, evalUn, Int.reduceLT, Int.reduceLE, Int.reduceEq, Int.reduceNe, g1]
    · simp only [WS, stepW, evalA, reduceIte, Nat.reduceEqDiff, reduceCtorEq, evalBin, Option.getD, Int.reduceToNat, Nat.reduceMul, Nat.reduceAdd, allocA, rowOf, fillA, partsV, setl, Nat.reduceLeDiff, AV.len, evalUn, Int.reduceLT, Int.reduceLE, Int.reduceEq, Int.reduceNe, g5]
  clear hl m
  rintro ρ s ⟨l, hl, m⟩
  obtain ⟨g1, g5, c0, w, hn⟩ := id m
  simp only [WS, stepW, evalA, reduceIte, Nat.reduceEqDiff, reduceCtorEq, evalBin, Option.getD, Int.reduceToNat, Nat.reduceMul, Nat.reduceAdd, allocA, rowOf, fillA, partsV, setl, Nat.reduceLeDiff, AV.len, evalUn, Int.reduceLT, Int.reduceLE, Int.reduceEq, Int.reduceNe, g1, g5, c0, msC, inV_eq, byV_eq, slc_eq]
  refine (bytes_ac (m := d) w (fun b hb => by omega) (by omega) (by omega) (by omega) (.inl (byV_eq _))).mono ?_
  rintro v s' ⟨⟨⟨x, hc, hrow⟩, _⟩, hk⟩
  simp only [WS, stepW, evalA, reduceIte, Nat.reduceEqDiff, reduceCtorEq, evalBin, Option.getD, Int.reduceToNat, Nat.reduceMul, Nat.reduceAdd, allocA, rowOf, fillA, partsV, setl, Nat.reduceLeDiff, AV.len, evalUn, Int.reduceLT, Int.reduceLE, Int.reduceEq, Int.reduceNe, g5, hc]
  refine ⟨l ++ (lenS d.length ++ d), ?_⟩
  rw [← byV_eq]
  refine .tup _ _ rfl fun i hi hi' => ?_
  match i, hi with
  | 0, _ => exact hrow.pur false rfl fun j hj hj' => .flat _ (ofU8s_flat hj)
  | 1, _ => exact .flat _ rfl

/- Messages that may not be written. -/
theorem msg_ac {t k : List Int} {e : List (List UInt8)} {d : List UInt8} (g : MsG t k e d) {σ : AState} {x : AV} (hx : Pur σ true x (.agg (msC t k e d))) : AC Try.prog 18 [x] σ fun v s => s = σ ∧ ∃ l, v = .tup [byV l, .int .i64 0] :=
  AC.pure (.cons hx .nil) ((msg_st0 g).mono fun v s ⟨l, h⟩ => ⟨_, h, l, rfl⟩)
theorem msC_fxd (t k : List Int) (e : List (List UInt8)) (d : List UInt8) : FxdL [AV.agg (msC t k e d)] := by
  intro a ha
  cases List.mem_singleton.1 ha
  refine .agg fun a ha => ?_
  simp only [msC, List.mem_cons, List.not_mem_nil, or_false] at ha
  rcases ha with rfl | rfl | rfl | rfl | rfl | rfl | rfl | rfl | rfl | rfl | rfl | rfl | rfl | rfl
  all_goals first
    | exact inV_fxd _
    | exact byV_fxd _
    | exact byC_fxd _
    | exact .flat rfl
theorem bad_many {t k : List Int} {e : List (List UInt8)} {d : List UInt8} (tl : t.length = e.length) (kl : k.length = e.length) (el : 64 < e.length) (σ : AState) : AC Try.prog 36 [.agg (msC t k e d)] σ fun v s => s = σ ∧ v = .int .i64 4 := by
  refine AC.told (msC_fxd _ _ _ _) rfl ?_
  refine ac_wp fn36 cf36 cl36 rfl ?_
  simp only [ac36]
  unfold ab36
  have h1 : (t.length : Int) = e.length := by omega
  have h2 : (k.length : Int) = e.length := by omega
  have h3 : (e.length : Int) > 64 := by omega
  simp only [WS, stepW, evalA, reduceIte, Nat.reduceEqDiff, reduceCtorEq, evalBin, Option.getD, Int.reduceToNat, Nat.reduceMul, Nat.reduceAdd, allocA, rowOf, fillA, partsV, setl, Nat.reduceLeDiff, AV.len, evalUn, Int.reduceLT, Int.reduceLE, Int.reduceEq, Int.reduceNe, msC, inV_eq, byV_eq, slc_eq, h1, h2, h3, decide_true]
theorem bad_long {d : List UInt8} (dl : 60000 < d.length) (σ : AState) : AC Try.prog 36 [.agg (msC [] [] [] d)] σ fun v s => s = σ ∧ v = .int .i64 5 := by
  refine AC.told (msC_fxd _ _ _ _) rfl ?_
  refine ac_wp fn36 cf36 cl36 rfl ?_
  simp only [ac36]
  unfold ab36
  have h4 : (d.length : Int) > 60000 := by omega
  simp only [WS, stepW, evalA, reduceIte, Nat.reduceEqDiff, reduceCtorEq, evalBin, Option.getD, Int.reduceToNat, Nat.reduceMul, Nat.reduceAdd, allocA, rowOf, fillA, partsV, setl, Nat.reduceLeDiff, AV.len, evalUn, Int.reduceLT, Int.reduceLE, Int.reduceEq, Int.reduceNe, msC, inV_eq, byV_eq, slc_eq, List.length_nil]
  refine (contains_ac (E := []) (fun b hb => by cases hb) (by decide) _).use' ?_
  simp only [WS, stepW, evalA, reduceIte, Nat.reduceEqDiff, reduceCtorEq, evalBin, Option.getD, Int.reduceToNat, Nat.reduceMul, Nat.reduceAdd, allocA, rowOf, fillA, partsV, setl, Nat.reduceLeDiff, AV.len, evalUn, Int.reduceLT, Int.reduceLE, Int.reduceEq, Int.reduceNe, msC, inV_eq, byV_eq, slc_eq, h4, decide_true]
theorem msg_err {t k : List Int} {e : List (List UInt8)} {d : List UInt8} {c : Int} (hc : c ≠ 0) (h : ∀ σ, AC Try.prog 36 [.agg (msC t k e d)] σ fun v s => s = σ ∧ v = .int .i64 c) {σ : AState} {x : AV} (hx : Pur σ true x (.agg (msC t k e d))) : AC Try.prog 18 [x] σ fun v s => s = σ ∧ v = .tup [.nils, .int .i64 c] := by
  refine AC.pure (.cons hx .nil) (AC.mono (Q := fun v s => v = .tup [.nils, .int .i64 c]) ?_ ?_)
  · refine ac_wp fn18 cf18 cl18 rfl ?_
    simp only [ac18]
    unfold ab18
    simp only [wpC_seq, wpC_skip, wpCK_normal]
    refine w_mid (fun ρ s => ρ.rd 1 = .ptr 0 0 ∧ s.cells 0 = some (msC t k e d)) ?_ ?_
    · simp only [WS, stepW, evalA, reduceIte, Nat.reduceEqDiff, reduceCtorEq, evalBin, Option.getD, Int.reduceToNat, Nat.reduceMul, Nat.reduceAdd, allocA, rowOf, fillA, partsV, setl, Nat.reduceLeDiff, AV.len, evalUn, Int.reduceLT, Int.reduceLE, Int.reduceEq, Int.reduceNe, msC, inV_eq, byV_eq, slc_eq]
    rintro ρ s ⟨g1, c0⟩
    simp only [WS, stepW, evalA, reduceIte, Nat.reduceEqDiff, reduceCtorEq, evalBin, Option.getD, Int.reduceToNat, Nat.reduceMul, Nat.reduceAdd, allocA, rowOf, fillA, partsV, setl, Nat.reduceLeDiff, AV.len, evalUn, Int.reduceLT, Int.reduceLE, Int.reduceEq, Int.reduceNe, g1, c0, msC]
    refine (h _).use ?_
    simp only [WS, stepW, evalA, reduceIte, Nat.reduceEqDiff, reduceCtorEq, evalBin, Option.getD, Int.reduceToNat, Nat.reduceMul, Nat.reduceAdd, allocA, rowOf, fillA, partsV, setl, Nat.reduceLeDiff, AV.len, evalUn, Int.reduceLT, Int.reduceLE, Int.reduceEq, Int.reduceNe, ne_eq, hc, not_false_eq_true, decide_true]
  · rintro v s rfl
    exact ⟨_, .tup _ _ rfl fun i hi hi' => by
      match i, hi with
      | 0, _ => exact .flat _ rfl
      | 1, _ => exact .flat _ rfl, rfl⟩
end Go.Proofs.Ythobpdfchhihnaa.Va
