/- The law 'PackBounds' returns true at each input. Conditions: none. -/
import Derived.Test.YthobpdfchhihnaaPk2
import Derived.Test.YthobpdfchhihnaaPackBoundsRuna
set_option maxRecDepth 100000
set_option maxHeartbeats 4000000
set_option linter.all false
namespace Go.Proofs.Ythobpdfchhihnaa.Va
open Go.Proofs
theorem frame_long {l : List UInt8} (hm : 65000 < l.length) {σ : AState} {x : AV} (hx : IsB σ x l) : AC Try.prog 7 [x] σ fun v s => s = σ ∧ v = .tup [.nils, .int .i64 5] := by
  refine AC.pure (.cons hx .nil) (AC.mono (Q := fun v s => v = .tup [.nils, .int .i64 5]) ?_ ?_)
  · refine ac_wp fn7 cf7 cl7 rfl ?_
    simp only [ac7]
    unfold ab7
    have hd : decide ((65000 : Int) < l.length) = true := by simp; omega
    simp only [WS, stepW, evalA, reduceIte, Nat.reduceEqDiff, reduceCtorEq, evalBin, Option.getD, Int.reduceToNat, Nat.reduceMul, Nat.reduceAdd, allocA, rowOf, fillA, partsV, setl, Nat.reduceLeDiff, AV.len, evalUn, Int.reduceLT, Int.reduceLE, Int.reduceEq, Int.reduceNe, hd]
  · rintro v s rfl
    exact ⟨_, .tup _ _ rfl fun i hi hi' => by
      match i, hi with
      | 0, _ => exact .flat _ rfl
      | 1, _ => exact .flat _ rfl, rfl⟩
theorem wrap_nat {n : Nat} (h : n < 9223372036854775808) : IntKind.i64.wrap (n : Int) = n := by
  have h1 : IntKind.i64.wrap (n : Int) = if (true && decide ((n : Int) % 2 ^ 64 ≥ 2 ^ (64 - 1))) = true then (n : Int) % 2 ^ 64 - 2 ^ 64 else (n : Int) % 2 ^ 64 := rfl
  rw [h1, if_neg (by simp; omega)]
  omega
theorem row_ints (n : Nat) : rowOf [.int .i64 0] n = ofInts (List.replicate n 0) := by
  induction n with
  | zero => rfl
  | succ n ih => rw [rowOf, ih]; rfl
theorem row_bytes (n : Nat) : rowOf [.int .u8 0] n = ofU8s (List.replicate n 0) := by
  induction n with
  | zero => rfl
  | succ n ih => rw [rowOf, ih]; rfl
theorem row_nils (n : Nat) : rowOf [.nils] n = List.replicate n .nils := by
  induction n with
  | zero => rfl
  | succ n ih => rw [rowOf, ih]; rfl

theorem sim_mid0 {P : Program} {N : Nat} {c : ACode} {Q : AExit → Env → AState → Prop} {ρ : Env} {σ : AState} (M : Env → AState → Prop) (h1 : M ρ σ) (h2 : ∀ ρ σ, M ρ σ → SimA P N c Q ρ σ) : SimA P N c Q ρ σ := h2 _ _ h1
def z14 (t k e d : AV) : List AV := [.int .i64 0, .int .i64 0, .int .i64 1, .int .i64 0, .int .i64 0, .int .i64 0, .int .i64 0, .int .i64 0, .bool false, t, k, e, .nils, d]
theorem pur_z14 {s : AState} {t k e d : AV} {t' k' : List Int} {e' : List (List UInt8)} {d' : List UInt8} (h1 : Pur s true t (inV t')) (h2 : Pur s true k (inV k')) (h3 : Pur s true e (slc byC e')) (h4 : Pur s true d (byV d')) : Pur s true (.agg (z14 t k e d)) (.agg (msC t' k' e' d')) :=
  .agg _ _ rfl fun i hi hi' => by
    match i, hi with
    | 0, _ => exact .flat _ rfl
    | 1, _ => exact .flat _ rfl
    | 2, _ => exact .flat _ rfl
    | 3, _ => exact .flat _ rfl
    | 4, _ => exact .flat _ rfl
    | 5, _ => exact .flat _ rfl
    | 6, _ => exact .flat _ rfl
    | 7, _ => exact .flat _ rfl
    | 8, _ => exact .flat _ rfl
    | 9, _ => exact h1
    | 10, _ => exact h2
    | 11, _ => exact h3
    | 12, _ => exact .flat _ rfl
    | 13, _ => exact h4
theorem pur_nils0 {s : AState} : Pur s true .nils (inV []) := .nils _ _
theorem pur_nilsB {s : AState} : Pur s true .nils (byV []) := .nils _ _
theorem pur_nilsE {s : AState} : Pur s true .nils (slc byC []) := .nils _ _
theorem pur_ints {s : AState} {b N : Nat} {cap : Option Nat} (h : s.cells b = some (ofInts (List.replicate N 0))) : Pur s true (.sl b 0 N cap 1) (inV (List.replicate N 0)) := by
  have := Pur.sl (al := true) b 0 N cap 1 _ (ofInts (List.replicate N 0)) h (by simp [ofInts]) (by simp [ofInts]) fun i hi hi' => by
    simp only [Nat.zero_add]; simp only [ofInts, List.getElem_map]; exact .flat _ rfl
  rw [inV_eq, List.length_replicate]; exact this
theorem pur_rows {s : AState} {b N : Nat} {cap : Option Nat} (h : s.cells b = some (List.replicate N .nils)) : Pur s true (.sl b 0 N cap 1) (slc byC (List.replicate N [])) := by
  have hl : (rowc byC (List.replicate N [])).length = N * 1 := by rw [rowc_length byC_len, List.length_replicate]
  rw [slc_eq, List.length_replicate]
  refine .sl b 0 N cap 1 _ _ h (by simp) (by rw [hl]) fun i hi hi' => ?_
  have hiN : i < (List.replicate N ([] : List UInt8)).length := by rw [hl] at hi'; simp; omega
  have e1 := byC_get hiN
  rw [List.getElem?_eq_getElem hi'] at e1
  rw [Option.some.inj e1]
  simp only [List.getElem_replicate]
  exact .nils _ _
theorem AC.gen {P : Program} {f : FuncId} {args : List AV} {σ : AState} {k : AV → AState → Prop} (b : Nat) {cs : List AV} (h1 : σ.cells b = some cs) (h : ∀ s, s.cells b = some cs → AC P f args s k) : AC P f args σ k := h σ h1
theorem packBounds_ac (x0 x1 : Int) : AC Try.prog 5 [.int .i64 x0, .int .i64 x1] st0 fun v _ => v = .bool true := by
  have h1 := wi_range x1 (n := 4) (by decide)
  have h0 := wi_range x0 (n := 7) (by decide)
  by_cases c0 : wi x0 7 = 0
  · refine packBounds_of_run x0 x1 ?_
    rw [c0]
    exact packBounds_m0 x0 x1 _ h1
  by_cases c1 : wi x0 7 = 1
  · refine packBounds_of_run x0 x1 ?_
    rw [c1]
    exact packBounds_m1 x0 x1 _ h1
  by_cases c2 : wi x0 7 = 2
  · refine packBounds_of_run x0 x1 ?_
    rw [c2]
    exact packBounds_m2 x0 x1 _ h1
  by_cases c4 : wi x0 7 = 4
  · refine packBounds_of_run x0 x1 ?_
    rw [c4]
    exact packBounds_m3 x0 x1 _ h1
  refine ac_wp fn5 cf5 cl5 rfl ?_
  simp only [ac5]
  unfold ab5
  simp only [WS, stepW, evalA, reduceIte, Nat.reduceEqDiff, reduceCtorEq, evalBin, Option.getD, Int.reduceToNat, Nat.reduceMul, Nat.reduceAdd, allocA, rowOf, fillA, partsV, setl, Nat.reduceLeDiff, AV.len, evalUn, Int.reduceLT, Int.reduceLE, Int.reduceEq, Int.reduceNe]
  refine (known_ac st0).use' ?_
  simp only [WS, stepW, evalA, reduceIte, Nat.reduceEqDiff, reduceCtorEq, evalBin, Option.getD, Int.reduceToNat, Nat.reduceMul, Nat.reduceAdd, allocA, rowOf, fillA, partsV, setl, Nat.reduceLeDiff, AV.len, evalUn, Int.reduceLT, Int.reduceLE, Int.reduceEq, Int.reduceNe, evalUn]
  refine (within_ac (σ := st0) fn13 cf13 cl13 (by omega) (by omega)).use' ?_
  obtain ⟨m, hm, hm4⟩ : ∃ m : Nat, wi x1 4 = m ∧ m < 4 := ⟨(wi x1 4).toNat, by omega, by omega⟩
  rw [hm]
  simp only [WS, stepW, evalA, reduceIte, Nat.reduceEqDiff, reduceCtorEq, evalBin, Option.getD, Int.reduceToNat, Nat.reduceMul, Nat.reduceAdd, allocA, rowOf, fillA, partsV, setl, Nat.reduceLeDiff, AV.len, evalUn, Int.reduceLT, Int.reduceLE, Int.reduceEq, Int.reduceNe, storeA, sets, setx, TS]
  refine (within_ac fn13 cf13 cl13 (by omega) (by omega)).use' ?_
  have c5 : wi x0 7 = 3 ∨ wi x0 7 = 5 ∨ wi x0 7 = 6 := by omega
  rcases c5 with c5 | c5 | c5 <;> rw [c5]
  · obtain ⟨N, hN⟩ : ∃ N : Nat, N = 63 + m := ⟨_, rfl⟩
    have hw : IntKind.i64.wrap (63 + (m : Int)) = (N : Int) := by rw [show (63 + (m : Int)) = (N : Int) by omega, wrap_nat (by omega)]
    simp only [WS, stepW, evalA, reduceIte, Nat.reduceEqDiff, reduceCtorEq, evalBin, Option.getD, Int.reduceToNat, Nat.reduceMul, Nat.reduceAdd, allocA, rowOf, fillA, partsV, setl, Nat.reduceLeDiff, AV.len, evalUn, Int.reduceLT, Int.reduceLE, Int.reduceEq, Int.reduceNe, hw]
    have q0 : (0 : Int) ≤ N := by omega
    have q1 : (N : Int) < 4611686018427387904 := by omega
    have q2 : ((8 : Nat) : Int) * N ≤ 140737488355328 := by omega
    have q3 : ((24 : Nat) : Int) * N ≤ 140737488355328 := by omega
    refine sim_mid0 (fun ρ s => ρ.rd 1 = .int .i64 m ∧ ρ.rd 6 = .ptr 1 0 ∧ ρ.rd 9 = .int .i64 N ∧ s.n = 2 ∧ s.cells 1 = some (z14 .nils .nils .nils .nils)) ?_ ?_
    · simp only [WS, stepW, evalA, reduceIte, Nat.reduceEqDiff, reduceCtorEq, evalBin, Option.getD, Int.reduceToNat, Nat.reduceMul, Nat.reduceAdd, allocA, rowOf, fillA, partsV, setl, Nat.reduceLeDiff, AV.len, evalUn, Int.reduceLT, Int.reduceLE, Int.reduceEq, Int.reduceNe, storeA, sets, setx, TS]
      rfl
    rintro ρ s ⟨g1, g6, g9, hn, c1⟩
    refine w_dreg follow [(1, ofInts (List.replicate N 0)), (3, ofInts (List.replicate N 0)), (5, List.replicate N .nils)] rfl ?_
    have d1 : (addSlots s.n 12 s [(1, ofInts (List.replicate N 0)), (3, ofInts (List.replicate N 0)), (5, List.replicate N .nils)]).cells 1 = some (z14 .nils .nils .nils .nils) := (slots_old _ (by omega)).trans c1
    have k1 := slots_get (s := s) (m := 12) [(1, ofInts (List.replicate N 0)), (3, ofInts (List.replicate N 0)), (5, List.replicate N .nils)] 1 _ rfl
    have k3 := slots_get (s := s) (m := 12) [(1, ofInts (List.replicate N 0)), (3, ofInts (List.replicate N 0)), (5, List.replicate N .nils)] 3 _ rfl
    have k5 := slots_get (s := s) (m := 12) [(1, ofInts (List.replicate N 0)), (3, ofInts (List.replicate N 0)), (5, List.replicate N .nils)] 5 _ rfl
    have hnA : (addSlots s.n 12 s [(1, ofInts (List.replicate N 0)), (3, ofInts (List.replicate N 0)), (5, List.replicate N .nils)]).n = s.n + 12 := rfl
    generalize addSlots s.n 12 s [(1, ofInts (List.replicate N 0)), (3, ofInts (List.replicate N 0)), (5, List.replicate N .nils)] = s2 at *
    rw [hn] at k1 k3 k5 hnA ⊢
    have b3 := cells_of k1
    have b5 := cells_of k3
    have b7 := cells_of k5
    simp only [z14] at d1
    simp only [WS, stepW, evalA, reduceIte, Nat.reduceEqDiff, reduceCtorEq, evalBin, Option.getD, Int.reduceToNat, Nat.reduceMul, Nat.reduceAdd, allocA, rowOf, fillA, partsV, setl, Nat.reduceLeDiff, AV.len, evalUn, Int.reduceLT, Int.reduceLE, Int.reduceEq, Int.reduceNe, DS, isSl, AOp.pure, AOp.reader, allocD, AOp.quiet, isSlot, Nat.reduceBEq, g1, g6, g9, d1, q0, q1, q2, q3, row_ints, row_nils, Int.le_refl, storeA, sets, setx, TS]
    refine ⟨⟨fun l hl => by simp at hl, fun sl hs c hc _ => ?_⟩, ?_⟩
    · have hcut : c.2.n = s2.n ∧ ∀ b, b ≠ 1 → c.2.h.get b = s2.h.get b := by
        simp only [List.mem_cons, List.not_mem_nil, or_false] at hc
        rcases hc with rfl | rfl | rfl | rfl
        all_goals exact ⟨rfl, fun b hb => by simp only [put_h hb]⟩
      simp only [List.mem_cons, List.not_mem_nil, or_false] at hs
      rcases hs with rfl | rfl | rfl
      · exact ⟨by rw [hcut.1, hnA]; simp, (hcut.2 _ (by simp)).trans k1⟩
      · exact ⟨by rw [hcut.1, hnA]; simp, (hcut.2 _ (by simp)).trans k3⟩
      · exact ⟨by rw [hcut.1, hnA]; simp, (hcut.2 _ (by simp)).trans k5⟩
    generalize hs3 : (((s2.put 1 _).put 1 _).put 1 _) = s3
    have hk3 : ∀ b, b ≠ 1 → s3.h.get b = s2.h.get b := fun b hb => by rw [← hs3, put_h hb, put_h hb, put_h hb]
    have hx : Pur s3 true (.agg (z14 (.sl 3 0 N (some N) 1) (.sl 5 0 N (some N) 1) (.sl 7 0 N (some N) 1) .nils)) (.agg (msC (List.replicate N 0) (List.replicate N 0) (List.replicate N []) [])) :=
      pur_z14 (pur_ints ((get_cells (hk3 3 (by decide))).trans b3)) (pur_ints ((get_cells (hk3 5 (by decide))).trans b5)) (pur_rows ((get_cells (hk3 7 (by decide))).trans b7)) pur_nilsB
    by_cases hm1 : m ≤ 1
    · refine (msg_ac ⟨by simp, by simp, by simp; omega, fun b hb => by rw [(List.mem_replicate.1 hb).2]; decide, by decide⟩ hx).mono ?_
      rintro v s4 ⟨rfl, l, rfl⟩
      have z1 : (m : Int) ≤ 1 := by omega
      simp only [WS, stepW, evalA, reduceIte, Nat.reduceEqDiff, reduceCtorEq, evalBin, Option.getD, Int.reduceToNat, Nat.reduceMul, Nat.reduceAdd, allocA, rowOf, fillA, partsV, setl, Nat.reduceLeDiff, AV.len, evalUn, Int.reduceLT, Int.reduceLE, Int.reduceEq, Int.reduceNe, g1, z1, decide_true]
    · refine (msg_err (c := 4) (by decide) (bad_many (by simp) (by simp) (by simp; omega)) hx).use ?_
      have z1 : ¬ (m : Int) ≤ 1 := by omega
      have z2 : (m : Int) > 1 := by omega
      simp only [WS, stepW, evalA, reduceIte, Nat.reduceEqDiff, reduceCtorEq, evalBin, Option.getD, Int.reduceToNat, Nat.reduceMul, Nat.reduceAdd, allocA, rowOf, fillA, partsV, setl, Nat.reduceLeDiff, AV.len, evalUn, Int.reduceLT, Int.reduceLE, Int.reduceEq, Int.reduceNe, g1, z1, z2, decide_true, decide_false]
  · obtain ⟨N, hN⟩ : ∃ N : Nat, N = 59999 + m := ⟨_, rfl⟩
    have hw : IntKind.i64.wrap (59999 + (m : Int)) = (N : Int) := by rw [show (59999 + (m : Int)) = (N : Int) by omega, wrap_nat (by omega)]
    have q0 : (0 : Int) ≤ N := by omega
    have q1 : (N : Int) < 4611686018427387904 := by omega
    have q2 : ((1 : Nat) : Int) * N ≤ 140737488355328 := by omega
    simp only [WS, stepW, evalA, reduceIte, Nat.reduceEqDiff, reduceCtorEq, evalBin, Option.getD, Int.reduceToNat, Nat.reduceMul, Nat.reduceAdd, allocA, rowOf, fillA, partsV, setl, Nat.reduceLeDiff, AV.len, evalUn, Int.reduceLT, Int.reduceLE, Int.reduceEq, Int.reduceNe, hw, q0, q1, q2, Int.le_refl, row_bytes, allocD, storeA, sets, setx, TS]
    refine AC.gen 2 (cs := ofU8s (List.replicate N 0)) (by rw [put_get, if_neg (by decide)]; exact push_cells _ _) ?_
    intro s3 c2
    have hy : Pur s3 true (.sl 2 0 N (some N) 1) (byV (List.replicate N 0)) := by
      have := isB_sl s3 (List.replicate N 0) 2 (some N) c2
      rw [List.length_replicate] at this
      exact this
    have hx : Pur s3 true (.agg (z14 .nils .nils .nils (.sl 2 0 N (some N) 1))) (.agg (msC [] [] [] (List.replicate N 0))) :=
      pur_z14 pur_nils0 pur_nils0 pur_nilsE hy
    by_cases hm1 : m ≤ 1
    · refine (msg_ac ⟨rfl, rfl, by decide, fun b hb => (by cases hb), by simp; omega⟩ hx).mono ?_
      rintro v s4 ⟨rfl, l, rfl⟩
      have z1 : (m : Int) ≤ 1 := by omega
      simp only [WS, stepW, evalA, reduceIte, Nat.reduceEqDiff, reduceCtorEq, evalBin, Option.getD, Int.reduceToNat, Nat.reduceMul, Nat.reduceAdd, allocA, rowOf, fillA, partsV, setl, Nat.reduceLeDiff, AV.len, evalUn, Int.reduceLT, Int.reduceLE, Int.reduceEq, Int.reduceNe, z1, decide_true]
    · refine (msg_err (c := 5) (by decide) (bad_long (by simp; omega)) hx).use ?_
      have z1 : ¬ (m : Int) ≤ 1 := by omega
      have z2 : (m : Int) > 1 := by omega
      simp only [WS, stepW, evalA, reduceIte, Nat.reduceEqDiff, reduceCtorEq, evalBin, Option.getD, Int.reduceToNat, Nat.reduceMul, Nat.reduceAdd, allocA, rowOf, fillA, partsV, setl, Nat.reduceLeDiff, AV.len, evalUn, Int.reduceLT, Int.reduceLE, Int.reduceEq, Int.reduceNe, z1, z2, decide_true, decide_false]
  · obtain ⟨N, hN⟩ : ∃ N : Nat, N = 64999 + m := ⟨_, rfl⟩
    have hw : IntKind.i64.wrap (64999 + (m : Int)) = (N : Int) := by rw [show (64999 + (m : Int)) = (N : Int) by omega, wrap_nat (by omega)]
    have q0 : (0 : Int) ≤ N := by omega
    have q1 : (N : Int) < 4611686018427387904 := by omega
    have q2 : ((1 : Nat) : Int) * N ≤ 140737488355328 := by omega
    simp only [WS, stepW, evalA, reduceIte, Nat.reduceEqDiff, reduceCtorEq, evalBin, Option.getD, Int.reduceToNat, Nat.reduceMul, Nat.reduceAdd, allocA, rowOf, fillA, partsV, setl, Nat.reduceLeDiff, AV.len, evalUn, Int.reduceLT, Int.reduceLE, Int.reduceEq, Int.reduceNe, hw, q0, q1, q2, Int.le_refl, row_bytes, allocD, storeA, sets, setx, TS]
    refine AC.gen 2 (cs := ofU8s (List.replicate N 0)) (push_cells _ _) ?_
    intro s3 c2
    have hy : IsB s3 (.sl 2 0 N (some N) 1) (List.replicate N 0) := by
      have := isB_sl s3 (List.replicate N 0) 2 (some N) c2
      rw [List.length_replicate] at this
      exact this
    by_cases hm1 : m ≤ 1
    · refine (frame_ac (by simp; omega) hy).use ?_
      have z1 : (m : Int) ≤ 1 := by omega
      simp only [WS, stepW, evalA, reduceIte, Nat.reduceEqDiff, reduceCtorEq, evalBin, Option.getD, Int.reduceToNat, Nat.reduceMul, Nat.reduceAdd, allocA, rowOf, fillA, partsV, setl, Nat.reduceLeDiff, AV.len, evalUn, Int.reduceLT, Int.reduceLE, Int.reduceEq, Int.reduceNe, tupB, z1, decide_true]
    · refine (frame_long (by simp; omega) hy).use ?_
      have z1 : ¬ (m : Int) ≤ 1 := by omega
      have z2 : (m : Int) > 1 := by omega
      simp only [WS, stepW, evalA, reduceIte, Nat.reduceEqDiff, reduceCtorEq, evalBin, Option.getD, Int.reduceToNat, Nat.reduceMul, Nat.reduceAdd, allocA, rowOf, fillA, partsV, setl, Nat.reduceLeDiff, AV.len, evalUn, Int.reduceLT, Int.reduceLE, Int.reduceEq, Int.reduceNe, z1, z2, decide_true, decide_false]
end Go.Proofs.Ythobpdfchhihnaa.Va
