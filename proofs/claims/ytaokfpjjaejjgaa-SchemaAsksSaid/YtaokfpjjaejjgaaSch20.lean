/- The law SchemaAsks. Conditions: none. -/
import Derived.Test.YtaokfpjjaejjgaaSch19
import Derived.Test.YtaokfpjjaejjgaaSch17
set_option maxRecDepth 100000
set_option maxHeartbeats 4000000
set_option linter.all false
namespace Go.Proofs.Ytaokfpjjaejjgaa.Va
open Go.Proofs
theorem eqTy (t : Ty) : evalEq (.agg [.i, .i, .s]) (.agg [.int .i64 t.kind, .int .i64 t.of_, .str t.name]) (.agg [.int .i64 t.kind, .int .i64 t.of_, .str t.name]) = some true := by
  simp [evalEq, eqCells, eqCell]
theorem kindV_ex (ks : List Kd) (n : Str) (h : ∀ k ∈ ks, KdG k) : ∃ (X : Kd) (b : Bool), kindV ks n = .tup [.agg X.c, .bool b] ∧ KdG X := by
  unfold kindV
  cases hf : ks.find? (fun k => decide (k.name = n)) with
  | none => exact ⟨⟨[], [], []⟩, false, rfl, ⟨Nat.zero_le _, Nat.zero_le _, Nat.zero_le _, (fun f hf => by cases hf)⟩⟩
  | some k => exact ⟨k, true, rfl, h k (List.mem_of_find?_eq_some hf)⟩
theorem actV_ex (ks : List Ac) (n : Str) (h : ∀ k ∈ ks, AcG k) : ∃ (X : Ac) (b : Bool), actV ks n = .tup [.agg X.c, .bool b] ∧ AcL X := by
  unfold actV
  cases hf : ks.find? (fun k => decide (k.name = n)) with
  | none => exact ⟨⟨[], [], []⟩, false, rfl, ⟨Nat.zero_le _, Nat.zero_le _⟩⟩
  | some k => exact ⟨k, true, rfl, ⟨(h k (List.mem_of_find?_eq_some hf)).pl.2, (h k (List.mem_of_find?_eq_some hf)).rl.2⟩⟩
theorem fieldV_ex (fs : List Fl) (n : Str) : ∃ (X : Ty) (b : Bool), fieldV fs n = .tup [.agg X.c, .bool b] := by
  unfold fieldV
  cases hf : fs.find? (fun k => decide (k.name = n)) with
  | none => exact ⟨⟨0, 0, []⟩, false, rfl⟩
  | some k => exact ⟨k.ty, true, rfl⟩
theorem sameS_self (s : Sc) : sameS s s = true := by simp [sameS]
def nineS : List Str := [[85, 115, 101, 114], [71, 114, 111, 117, 112], [68, 111, 99], [84, 101, 97, 109], [114, 101, 97, 100], [111, 119, 110], [97], [97, 103, 101], []]
theorem ScN.h {s : Sc} (h : ScN s) : ScH s := ⟨by have := h.kl; omega, by have := h.al; omega, h.k, fun a ha => ⟨(h.a a ha).pl.2, (h.a a ha).rl.2⟩⟩
theorem schemaAsks_ac {ks : List RKd} {ac : List RAc} {other : List RKd} {names : List Str} {r : List Int} :
    AC Try.prog 7 [slc RKd.c ks, slc RAc.c ac, slc RKd.c other, strs names, ints r] st0 fun v _ => v = .bool true := by
  refine ac_wp fn7 cf7 cl7 rfl ?_
  simp only [ac7]
  unfold ab7
  simp only [wpC_seq, wpC_skip, wpCK_normal]
  refine w_mid (fun ρ s => ρ.rd 0 = slc RKd.c ks ∧ ρ.rd 1 = slc RAc.c ac ∧ ρ.rd 2 = slc RKd.c other ∧ ρ.rd 3 = strs names ∧ ρ.rd 4 = ints r ∧ s = st0) ?_ ?_
  · simp only [WS, stepW, evalA, reduceIte, Nat.reduceEqDiff, reduceCtorEq, evalBin, Option.getD, Int.reduceToNat, Nat.reduceMul, Nat.reduceAdd, allocA, rowOf, fillA, partsV, setl, Nat.reduceLeDiff, AV.len, evalUn, Int.reduceLT, Int.reduceLE, Int.reduceEq, Int.reduceNe, strs_eq, ints_eq]
  rintro ρ s ⟨h0, h1, h2, h3, h4, rfl⟩
  rw [wpC_seq]
  refine w_mid (fun ρ s => ρ.rd 0 = slc RKd.c ks ∧ ρ.rd 1 = slc RAc.c ac ∧ ρ.rd 2 = slc RKd.c other ∧ ρ.rd 3 = strs names ∧ ρ.rd 4 = ints r ∧ s = st0) ?_ ?_
  · simp only [WS, stepW, evalA, reduceIte, Nat.reduceEqDiff, reduceCtorEq, evalBin, Option.getD, Int.reduceToNat, Nat.reduceMul, Nat.reduceAdd, allocA, rowOf, fillA, partsV, setl, Nat.reduceLeDiff, AV.len, evalUn, Int.reduceLT, Int.reduceLE, Int.reduceEq, Int.reduceNe, strs_eq]
    refine known10_ac.use ?_
    simp only [WS, stepW, evalA, reduceIte, Nat.reduceEqDiff, reduceCtorEq, evalBin, Option.getD, Int.reduceToNat, Nat.reduceMul, Nat.reduceAdd, allocA, rowOf, fillA, partsV, setl, Nat.reduceLeDiff, AV.len, evalUn, Int.reduceLT, Int.reduceLE, Int.reduceEq, Int.reduceNe, strs_eq, h0, h1, h2, h3, h4]
  clear h0 h1 h2 h3 h4
  rintro ρ s ⟨h0, h1, h2, h3, h4, rfl⟩
  rw [wpC_seq]
  refine w_mid (fun ρ s => ρ.rd 0 = slc RKd.c ks ∧ ρ.rd 1 = slc RAc.c ac ∧ ρ.rd 2 = slc RKd.c other ∧ ρ.rd 3 = strs names ∧ ρ.rd 4 = ints r ∧ s = st0 ∧ names.length ≤ 10) ?_ ?_
  · by_cases hn : (10 : Int) < names.length
    · simp only [WS, stepW, evalA, reduceIte, Nat.reduceEqDiff, reduceCtorEq, evalBin, Option.getD, Int.reduceToNat, Nat.reduceMul, Nat.reduceAdd, allocA, rowOf, fillA, partsV, setl, Nat.reduceLeDiff, AV.len, evalUn, Int.reduceLT, Int.reduceLE, Int.reduceEq, Int.reduceNe, strs_eq, h3, hn]
    · simp only [WS, stepW, evalA, reduceIte, Nat.reduceEqDiff, reduceCtorEq, evalBin, Option.getD, Int.reduceToNat, Nat.reduceMul, Nat.reduceAdd, allocA, rowOf, fillA, partsV, setl, Nat.reduceLeDiff, AV.len, evalUn, Int.reduceLT, Int.reduceLE, Int.reduceEq, Int.reduceNe, strs_eq, h0, h1, h2, h3, h4, hn]
      omega
  clear h0 h1 h2 h3 h4
  rintro ρ s ⟨h0, h1, h2, h3, h4, rfl, hn10⟩
  simp only [wpC_seq, wpC_skip, wpCK_normal]
  refine w_mid (fun ρ s => ρ.rd 3 = strs names ∧ ρ.rd 4 = ints r ∧ ∃ q m1 m2 m3 S O x y x2 y2, ρ.rd 11 = .ptr q 0 ∧ ρ.rd 12 = .ptr (q + 1) 0 ∧ s.cells q = some [x, y] ∧ s.cells (q + 1) = some [x2, y2] ∧ s.n = q + 2 ∧ m1 ≤ m2 ∧ m2 ≤ m3 ∧ m3 ≤ q ∧
      RowP (fun b => b < m1) s x (rowc Kd.c S.kinds) S.kinds.length 3 ∧ RowP (fun b => m1 ≤ b ∧ b < m2) s y (rowc Ac.c S.acts) S.acts.length 3 ∧ RowP (fun b => m2 ≤ b ∧ b < m3) s x2 (rowc Kd.c O.kinds) O.kinds.length 3 ∧ RowP (fun b => m3 ≤ b ∧ b < q) s y2 (rowc Ac.c O.acts) O.acts.length 3 ∧ ScN S ∧ ScN O) ?_ ?_
  · simp only [WS, stepW, evalA, reduceIte, Nat.reduceEqDiff, reduceCtorEq, evalBin, Option.getD, Int.reduceToNat, Nat.reduceMul, Nat.reduceAdd, allocA, rowOf, fillA, partsV, setl, Nat.reduceLeDiff, AV.len, evalUn, Int.reduceLT, Int.reduceLE, Int.reduceEq, Int.reduceNe, strs_eq, h0, h1]
    refine good_ac.mono ?_
    rintro v s1 ⟨hk, m1, S, x, y, rfl, _, hms, hrx, hry, hS⟩
    simp only [WS, stepW, evalA, reduceIte, Nat.reduceEqDiff, reduceCtorEq, evalBin, Option.getD, Int.reduceToNat, Nat.reduceMul, Nat.reduceAdd, allocA, rowOf, fillA, partsV, setl, Nat.reduceLeDiff, AV.len, evalUn, Int.reduceLT, Int.reduceLE, Int.reduceEq, Int.reduceNe, strs_eq, h1, h2]
    refine good_ac.mono ?_
    rintro v s2 ⟨hk2, m3, O, x2, y2, rfl, hm3, hms3, hrx2, hry2, hO⟩
    have hkn := hk2.1
    have hrx' := (hrx.mono (q := fun b => b < m1) fun b hb _ => hb.2).keeps hk2 fun b hb => by omega
    have hry' := (hry.mono (q := fun b => m1 ≤ b ∧ b < s1.n) fun b hb hb' => ⟨hb, hb'⟩).keeps hk2 fun b hb => hb.2
    have hry2' := hry2.mono (q := fun b => m3 ≤ b ∧ b < s2.n) fun b hb hb' => ⟨hb, hb'⟩
    have hxy : x.one = true ∧ y.one = true := by
      constructor
      · rcases hrx.form with rfl | ⟨_, _, rfl⟩ <;> rfl
      · rcases hry.form with rfl | ⟨_, _, rfl⟩ <;> rfl
    have hxy2 : x2.one = true ∧ y2.one = true := by
      constructor
      · rcases hrx2.form with rfl | ⟨_, _, rfl⟩ <;> rfl
      · rcases hry2.form with rfl | ⟨_, _, rfl⟩ <;> rfl
    simp only [WS, stepW, evalA, reduceIte, Nat.reduceEqDiff, reduceCtorEq, evalBin, Option.getD, Int.reduceToNat, Nat.reduceMul, Nat.reduceAdd, allocA, rowOf, fillA, partsV, setl, Nat.reduceLeDiff, AV.len, evalUn, Int.reduceLT, Int.reduceLE, Int.reduceEq, Int.reduceNe, strs_eq, h3, h4, hxy, hxy2, ints_eq, Nat.left_eq_add, Nat.add_eq_left, storeA, sets, setx, List.take_zero, List.drop_succ_cons, List.drop_zero, List.take_succ_cons]
    refine ⟨s2.n, m1, s1.n, m3, S, O, x, y, x2, y2, rfl, rfl, by simp, by simp, rfl, hms, hm3, by omega, ?_, ?_, ?_, ?_, hS, hO⟩
    · exact ((((hrx'.push _).push _).put (by omega) _).put (by omega) _)
    · exact ((((hry'.push _).push _).put (by omega) _).put (by omega) _)
    · exact ((((hrx2.push _).push _).put (by omega) _).put (by omega) _)
    · exact ((((hry2'.push _).push _).put (by omega) _).put (by omega) _)
  clear h0 h1 h2 h3 h4
  rintro ρ s ⟨h3, h4, q, m1, m2, m3, S, O, x, y, x2, y2, h11, h12, cq, cq2, hn, hm12, hm23, hm3, hrx, hry, hrx2, hry2, hS, hO⟩
  rw [wpC_seq]
  refine w_mid (fun ρ s => ρ.rd 3 = strs names ∧ ρ.rd 4 = ints r ∧ ρ.rd 11 = .ptr q 0 ∧ s.cells q = some [slc Kd.c S.kinds, slc Ac.c S.acts] ∧ q < s.n) ?_ ?_
  · simp only [WS, stepW, evalA, reduceIte, Nat.reduceEqDiff, reduceCtorEq, evalBin, Option.getD, Int.reduceToNat, Nat.reduceMul, Nat.reduceAdd, allocA, rowOf, fillA, partsV, setl, Nat.reduceLeDiff, AV.len, evalUn, Int.reduceLT, Int.reduceLE, Int.reduceEq, Int.reduceNe, strs_eq]
    refine SimA.frz ?_
    refine w_dreg follow [] rfl ?_
    have dq : (addSlots s.n 13 s []).cells q = some [x, y] := cq
    have dq2 : (addSlots s.n 13 s []).cells (q + 1) = some [x2, y2] := cq2
    have hrxA := hrx.slots 13
    have hryA := hry.slots 13
    have hrx2A := hrx2.slots 13
    have hry2A := hry2.slots 13
    have hnA : (addSlots s.n 13 s []).n = s.n + 13 := rfl
    generalize addSlots s.n 13 s [] = s3 at *
    have hpS : Pur s3 true (.agg [x, y]) (.agg S.c) := .agg _ _ rfl fun j hj hj' => match j, hj with
      | 0, _ => hrxA.self (rowc_pur Kd.pur S.kinds)
      | 1, _ => hryA.self (rowc_pur Ac.pur S.acts)
    have hpO : Pur s3 true (.agg [x2, y2]) (.agg O.c) := .agg _ _ rfl fun j hj hj' => match j, hj with
      | 0, _ => hrx2A.self (rowc_pur Kd.pur O.kinds)
      | 1, _ => hry2A.self (rowc_pur Ac.pur O.acts)
    have sg2 : ∀ a b : AV, seg [a, b] 0 2 = [a, b] := fun _ _ => rfl
    have hself : ∀ b : Bool, evalBin .neq .bool (.bool b) (.bool b) = some (.bool false) := fun b => by cases b <;> rfl
    simp only [WS, stepW, evalA, reduceIte, Nat.reduceEqDiff, reduceCtorEq, evalBin, Option.getD, Int.reduceToNat, Nat.reduceMul, Nat.reduceAdd, allocA, rowOf, fillA, partsV, setl, Nat.reduceLeDiff, AV.len, evalUn, Int.reduceLT, Int.reduceLE, Int.reduceEq, Int.reduceNe, strs_eq, DS, isSl, AOp.pure, AOp.reader, allocD, AOp.quiet, isSlot, Nat.reduceBEq, h11, h12, dq, dq2, sg2]
    refine (same_own hS.h hpS hpO).useD ?_
    simp only [WS, stepW, evalA, reduceIte, Nat.reduceEqDiff, reduceCtorEq, evalBin, Option.getD, Int.reduceToNat, Nat.reduceMul, Nat.reduceAdd, allocA, rowOf, fillA, partsV, setl, Nat.reduceLeDiff, AV.len, evalUn, Int.reduceLT, Int.reduceLE, Int.reduceEq, Int.reduceNe, strs_eq, DS, isSl, AOp.pure, AOp.reader, allocD, AOp.quiet, isSlot, Nat.reduceBEq, h11, h12, dq, dq2, sg2]
    refine (sameR_own hS.h hpS hpO).useD ?_
    have hbb : (sameS S O == sameS S O) = true := by simp
    simp only [WS, stepW, evalA, reduceIte, Nat.reduceEqDiff, reduceCtorEq, evalBin, Option.getD, Int.reduceToNat, Nat.reduceMul, Nat.reduceAdd, allocA, rowOf, fillA, partsV, setl, Nat.reduceLeDiff, AV.len, evalUn, Int.reduceLT, Int.reduceLE, Int.reduceEq, Int.reduceNe, strs_eq, DS, isSl, AOp.pure, AOp.reader, allocD, AOp.quiet, isSlot, Nat.reduceBEq, h11, h12, dq, dq2, sg2, evalEq, hbb]
    refine (same_own hS.h hpS hpS).useD ?_
    rw [sameS_self]
    simp only [WS, stepW, evalA, reduceIte, Nat.reduceEqDiff, reduceCtorEq, evalBin, Option.getD, Int.reduceToNat, Nat.reduceMul, Nat.reduceAdd, allocA, rowOf, fillA, partsV, setl, Nat.reduceLeDiff, AV.len, evalUn, Int.reduceLT, Int.reduceLE, Int.reduceEq, Int.reduceNe, strs_eq, DS, isSl, AOp.pure, AOp.reader, allocD, AOp.quiet, isSlot, Nat.reduceBEq, h11, h12, dq, dq2, sg2, evalEq, hbb]
    refine ⟨⟨?_, ?_⟩, ?_⟩
    · intro l hl c hc hf
      simp only [List.mem_cons, List.mem_nil_iff, List.not_mem_nil, or_false] at hl hc
      rcases hl with rfl | rfl | rfl | rfl | rfl | rfl <;> rcases hc with rfl | rfl | rfl | rfl <;> dsimp only at hf ⊢ <;> first
        | (exact absurd hf (by decide +kernel))
        | (simp only [WS, stepW, evalA, reduceIte, Nat.reduceEqDiff, reduceCtorEq, evalBin, Option.getD, Int.reduceToNat, Nat.reduceMul, Nat.reduceAdd, allocA, rowOf, fillA, partsV, setl, Nat.reduceLeDiff, AV.len, evalUn, Int.reduceLT, Int.reduceLE, Int.reduceEq, Int.reduceNe, strs_eq, h11, h12, dq, dq2, sg2, evalEq, hbb]; done)
    · intro sl hsl; simp at hsl
    · refine Frz.sc dq hrxA hryA (by omega) (by omega) (fun b hb hb' => by omega) fun s2 e1 e2 e3 => ?_
      simp only [WS, stepW, evalA, reduceIte, Nat.reduceEqDiff, reduceCtorEq, evalBin, Option.getD, Int.reduceToNat, Nat.reduceMul, Nat.reduceAdd, allocA, rowOf, fillA, partsV, setl, Nat.reduceLeDiff, AV.len, evalUn, Int.reduceLT, Int.reduceLE, Int.reduceEq, Int.reduceNe, strs_eq, h3, h4, h11, ints_eq]
      exact ⟨by simpa [slc_eq] using e2, by omega⟩
  clear h3 h4 h11 h12 cq cq2 hn hrx hry hrx2 hry2
  rintro ρ s ⟨h3, h4, h11, cq, hq⟩
  generalize hall : nineS ++ names = all
  have hal : all.length = 9 + names.length := by rw [← hall]; simp [nineS]; omega
  simp only [wpC_seq, wpC_skip, wpCK_normal]
  refine w_mid (fun ρ s => ρ.rd 4 = ints r ∧ ρ.rd 11 = .ptr q 0 ∧ s.cells q = some [slc Kd.c S.kinds, slc Ac.c S.acts] ∧ q < s.n ∧ ∃ b cap cs, ρ.rd 13 = .sl b 0 all.length cap 1 ∧ b < s.n ∧ s.cells b = some cs ∧ ∀ i (h : i < all.length), cs[i]? = some (.str all[i])) ?_ ?_
  · have hrow0 : RowP (fun b => s.n ≤ b) (s.push (.cells (nineS.map .str))) (.sl s.n 0 9 (some 9) 1) (nineS.map .str) 9 1 := .of (Nat.le_refl _) (Nat.lt_succ_self _) (push_cells _ _) rfl
    obtain ⟨b6, cap6, s6, happ6, hrow6, hn6, hk6⟩ := app_rowS (bytes := 16) hrow0 (Nat.le_succ _) (y := .psl (names.map .str) 0 names.length) (k := names.length) rfl (firstA_psl' (by simp)) (strs_all _) (by simp) (by omega) (by omega)
    simp only [push_n] at hn6 hk6
    have hcall : nineS.map AV.str ++ names.map AV.str = all.map AV.str := by rw [← hall, List.map_append]
    rw [hcall, ← hal] at hrow6
    rw [← hal] at happ6
    have e6 := (get_cells ((hk6 q (by omega) (by omega)).trans (push_h hq))).trans cq
    obtain ⟨b, cap, cs, hS6⟩ := hrow6.some (by omega)
    have hnine : [AV.str [85, 115, 101, 114], .str [71, 114, 111, 117, 112], .str [68, 111, 99], .str [84, 101, 97, 109], .str [114, 101, 97, 100], .str [111, 119, 110], .str [97], .str [97, 103, 101], .str []] = nineS.map AV.str := rfl
    simp only [WS, stepW, evalA, reduceIte, Nat.reduceEqDiff, reduceCtorEq, evalBin, Option.getD, Int.reduceToNat, Nat.reduceMul, Nat.reduceAdd, allocA, rowOf, fillA, partsV, setl, Nat.reduceLeDiff, AV.len, evalUn, Int.reduceLT, Int.reduceLE, Int.reduceEq, Int.reduceNe, strs_eq, h3, h4, h11, cq, hq, fillA, rowOf]
    rw [hnine, happ6]
    simp only [WS, stepW, evalA, reduceIte, Nat.reduceEqDiff, reduceCtorEq, evalBin, Option.getD, Int.reduceToNat, Nat.reduceMul, Nat.reduceAdd, allocA, rowOf, fillA, partsV, setl, Nat.reduceLeDiff, AV.len, evalUn, Int.reduceLT, Int.reduceLE, Int.reduceEq, Int.reduceNe, strs_eq, h4, h11, cq, hq, e6, ints_eq]
    have heq := hS6.eq
    rw [heq]
    refine ⟨by omega, b, cap, cs, rfl, hS6.lt, hS6.cells, fun i hi => ?_⟩
    rw [hS6.get (by omega)]
    simp [hi]
  clear h3 h4 h11 cq hq
  rintro ρ s ⟨h4, h11, cq, hq, b13, cap13, cs13, h13, hb13, c13, hget⟩
  rw [wpC_seq]
  refine w_mid (fun ρ s => ρ.rd 4 = ints r ∧ ρ.rd 11 = .ptr q 0 ∧ s.cells q = some [slc Kd.c S.kinds, slc Ac.c S.acts] ∧ q < s.n) ?_ ?_
  · simp only [WS, stepW, evalA, reduceIte, Nat.reduceEqDiff, reduceCtorEq, evalBin, Option.getD, Int.reduceToNat, Nat.reduceMul, Nat.reduceAdd, allocA, rowOf, fillA, partsV, setl, Nat.reduceLeDiff, AV.len, evalUn, Int.reduceLT, Int.reduceLE, Int.reduceEq, Int.reduceNe, strs_eq, h4, h11, cq, hq, h13]
    refine w_for (fun i ρ s => ρ.rd 14 = .int .i64 i ∧ ρ.rd 4 = ints r ∧ ρ.rd 11 = .ptr q 0 ∧ s.cells q = some [slc Kd.c S.kinds, slc Ac.c S.acts] ∧ q < s.n ∧ ρ.rd 13 = .sl b13 0 all.length cap13 1 ∧ b13 < s.n ∧ s.cells b13 = some cs13) all.length ?_ ?_
    · simp only [WS, stepW, evalA, reduceIte, Nat.reduceEqDiff, reduceCtorEq, evalBin, Option.getD, Int.reduceToNat, Nat.reduceMul, Nat.reduceAdd, allocA, rowOf, fillA, partsV, setl, Nat.reduceLeDiff, AV.len, evalUn, Int.reduceLT, Int.reduceLE, Int.reduceEq, Int.reduceNe, strs_eq, h4, h11, cq, hq, h13, c13]
      exact ⟨rfl, hb13⟩
    clear h4 h11 cq hq h13 hb13 c13
    rintro i ρ s hi ⟨h14, h4, h11, cq, hq, h13, hb13, c13⟩
    simp only [WS, stepW, evalA, reduceIte, Nat.reduceEqDiff, reduceCtorEq, evalBin, Option.getD, Int.reduceToNat, Nat.reduceMul, Nat.reduceAdd, allocA, rowOf, fillA, partsV, setl, Nat.reduceLeDiff, AV.len, evalUn, Int.reduceLT, Int.reduceLE, Int.reduceEq, Int.reduceNe, strs_eq, h14, h13]
    refine Br_dec (fun hlt' => ?_) (fun hge => ?_)
    rotate_left
    · simp only [WS, stepW, evalA, reduceIte, Nat.reduceEqDiff, reduceCtorEq, evalBin, Option.getD, Int.reduceToNat, Nat.reduceMul, Nat.reduceAdd, allocA, rowOf, fillA, partsV, setl, Nat.reduceLeDiff, AV.len, evalUn, Int.reduceLT, Int.reduceLE, Int.reduceEq, Int.reduceNe, strs_eq, h4, h11, cq, hq]
    have hlt : i < all.length := by omega
    have hr := lt_idx hlt
    have hg := hget i hlt
    have hw : IntKind.i64.wrap ((i : Int) + 1) = ((i + 1 : Nat) : Int) := wrap_succ (by omega)
    have sg2 : ∀ a b : AV, seg [a, b] 0 2 = [a, b] := fun _ _ => rfl
    have sg3 : ∀ a b c : AV, seg [a, b, c] 0 3 = [a, b, c] := fun _ _ _ => rfl
    obtain ⟨KX, kb, hKV, hKG⟩ := kindV_ex S.kinds all[i] hS.k
    obtain ⟨AX, ab, hAV, hAG⟩ := actV_ex S.acts all[i] hS.a
    rw [wpC_skip, wpCK_normal, wpC_seq, wpC_block]
    rw [wpC_seq]
    obtain ⟨u1, eu1⟩ : ∃ u, u = s.n + 9 := ⟨_, rfl⟩
    refine w_mid (fun ρ s => ρ.rd 14 = .int .i64 i ∧ ρ.rd 4 = ints r ∧ ρ.rd 11 = .ptr q 0 ∧ s.cells q = some [slc Kd.c S.kinds, slc Ac.c S.acts] ∧ q < s.n ∧ ρ.rd 13 = .sl b13 0 all.length cap13 1 ∧ b13 < s.n ∧ s.cells b13 = some cs13 ∧ ρ.rd 15 = .ptr u1 0 ∧ u1 < s.n ∧ s.cells u1 = some [.str KX.name, strs KX.parents, slc Fl.c KX.fields] ∧ ρ.rd 16 = .bool kb) ?_ ?_
    · subst eu1
      simp only [WS, stepW, evalA, reduceIte, Nat.reduceEqDiff, reduceCtorEq, evalBin, Option.getD, Int.reduceToNat, Nat.reduceMul, Nat.reduceAdd, allocA, rowOf, fillA, partsV, setl, Nat.reduceLeDiff, AV.len, evalUn, Int.reduceLT, Int.reduceLE, Int.reduceEq, Int.reduceNe, strs_eq]
      refine w_dreg follow [(9, [.str [], .nils, .nils])] rfl ?_
      have g9 := slots_get (s := s) (m := 12) [(9, [.str [], .nils, .nils])] 9 _ rfl
      have c9 := cells_of g9
      have dq := (slots_old (m := 12) [(9, [.str [], .nils, .nils])] hq).trans cq
      have d13 := (slots_old (m := 12) [(9, [.str [], .nils, .nils])] hb13).trans c13
      have hnA : (addSlots s.n 12 s [(9, [.str [], .nils, .nils])]).n = s.n + 12 := rfl
      generalize addSlots s.n 12 s [(9, [.str [], .nils, .nils])] = s1 at *
      have hC := kind20_ac (n := all[i]) (σ := s1) hS.g.ok hS.k
      rw [hKV, Sc.c_eq, slc_eq, slc_eq, Kd.c_eq] at hC
      have nq : ¬ q = s.n + 9 := by omega
      have n13 : ¬ b13 = s.n + 9 := by omega
      simp only [WS, stepW, evalA, reduceIte, Nat.reduceEqDiff, reduceCtorEq, evalBin, Option.getD, Int.reduceToNat, Nat.reduceMul, Nat.reduceAdd, allocA, rowOf, fillA, partsV, setl, Nat.reduceLeDiff, AV.len, evalUn, Int.reduceLT, Int.reduceLE, Int.reduceEq, Int.reduceNe, strs_eq, DS, isSl, AOp.pure, AOp.reader, allocD, AOp.quiet, isSlot, Nat.reduceBEq, h14, h4, h11, h13, dq, d13, sg2, hr, hg]
      refine hC.useD ?_
      simp only [WS, stepW, evalA, reduceIte, Nat.reduceEqDiff, reduceCtorEq, evalBin, Option.getD, Int.reduceToNat, Nat.reduceMul, Nat.reduceAdd, allocA, rowOf, fillA, partsV, setl, Nat.reduceLeDiff, AV.len, evalUn, Int.reduceLT, Int.reduceLE, Int.reduceEq, Int.reduceNe, strs_eq, DS, isSl, AOp.pure, AOp.reader, allocD, AOp.quiet, isSlot, Nat.reduceBEq, h14, h4, h11, h13, dq, d13, sg2, hr, hg, c9, storeA, sets, setx, List.take_zero, List.drop_succ_cons, List.drop_zero, List.take_succ_cons]
      refine ⟨⟨?_, ?_⟩, ?_⟩
      · intro l hl c hc hf
        simp only [List.mem_cons, List.mem_nil_iff, List.not_mem_nil, or_false] at hl hc
        rcases hl with rfl | rfl <;> rcases hc with rfl | rfl | rfl <;> dsimp only at hf ⊢ <;> first
          | (exact absurd hf (by decide +kernel))
          | (simp only [WS, stepW, evalA, reduceIte, Nat.reduceEqDiff, reduceCtorEq, evalBin, Option.getD, Int.reduceToNat, Nat.reduceMul, Nat.reduceAdd, allocA, rowOf, fillA, partsV, setl, Nat.reduceLeDiff, AV.len, evalUn, Int.reduceLT, Int.reduceLE, Int.reduceEq, Int.reduceNe, strs_eq, h14, h4, h11, h13, dq, d13, sg2, hr, hg]; done)
      · intro sl hsl c hc hf
        simp only [List.mem_cons, List.mem_nil_iff, List.not_mem_nil, or_false] at hsl hc
        subst hsl
        rcases hc with rfl | rfl | rfl <;> dsimp only at hf ⊢ <;> first
          | (exact absurd hf (by decide +kernel))
          | exact ⟨by omega, g9⟩
      · simp only [WS, stepW, evalA, reduceIte, Nat.reduceEqDiff, reduceCtorEq, evalBin, Option.getD, Int.reduceToNat, Nat.reduceMul, Nat.reduceAdd, allocA, rowOf, fillA, partsV, setl, Nat.reduceLeDiff, AV.len, evalUn, Int.reduceLT, Int.reduceLE, Int.reduceEq, Int.reduceNe, strs_eq, h14, h4, h11, h13, dq, d13, nq, n13]
        try simp only [put_n]
        repeat' (first | omega | apply And.intro)
    clear h14 h4 h11 cq hq h13 hb13 c13
    rintro ρ s ⟨h14, h4, h11, cq, hq, h13, hb13, c13, pu1, lu1, cu1, tu1⟩
    rw [wpC_seq]
    obtain ⟨u2, eu2⟩ : ∃ u, u = s.n + 9 := ⟨_, rfl⟩
    refine w_mid (fun ρ s => ρ.rd 14 = .int .i64 i ∧ ρ.rd 4 = ints r ∧ ρ.rd 11 = .ptr q 0 ∧ s.cells q = some [slc Kd.c S.kinds, slc Ac.c S.acts] ∧ q < s.n ∧ ρ.rd 13 = .sl b13 0 all.length cap13 1 ∧ b13 < s.n ∧ s.cells b13 = some cs13 ∧ ρ.rd 15 = .ptr u1 0 ∧ u1 < s.n ∧ s.cells u1 = some [.str KX.name, strs KX.parents, slc Fl.c KX.fields] ∧ ρ.rd 16 = .bool kb ∧ ρ.rd 17 = .ptr u2 0 ∧ u2 < s.n ∧ s.cells u2 = some [.str KX.name, strs KX.parents, slc Fl.c KX.fields] ∧ ρ.rd 18 = .bool kb) ?_ ?_
    · subst eu2
      simp only [WS, stepW, evalA, reduceIte, Nat.reduceEqDiff, reduceCtorEq, evalBin, Option.getD, Int.reduceToNat, Nat.reduceMul, Nat.reduceAdd, allocA, rowOf, fillA, partsV, setl, Nat.reduceLeDiff, AV.len, evalUn, Int.reduceLT, Int.reduceLE, Int.reduceEq, Int.reduceNe, strs_eq]
      refine w_dreg follow [(9, [.str [], .nils, .nils])] rfl ?_
      have g9 := slots_get (s := s) (m := 12) [(9, [.str [], .nils, .nils])] 9 _ rfl
      have c9 := cells_of g9
      have dq := (slots_old (m := 12) [(9, [.str [], .nils, .nils])] hq).trans cq
      have d13 := (slots_old (m := 12) [(9, [.str [], .nils, .nils])] hb13).trans c13
      have du1 := (slots_old (m := 12) [(9, [.str [], .nils, .nils])] lu1).trans cu1
      have hnA : (addSlots s.n 12 s [(9, [.str [], .nils, .nils])]).n = s.n + 12 := rfl
      generalize addSlots s.n 12 s [(9, [.str [], .nils, .nils])] = s1 at *
      have hC := kindR_ac (n := all[i]) (σ := s1) hS.g.ok
      rw [hKV, Sc.c_eq, slc_eq, slc_eq, Kd.c_eq] at hC
      have nq : ¬ q = s.n + 9 := by omega
      have n13 : ¬ b13 = s.n + 9 := by omega
      have nu1 : ¬ u1 = s.n + 9 := by omega
      simp only [WS, stepW, evalA, reduceIte, Nat.reduceEqDiff, reduceCtorEq, evalBin, Option.getD, Int.reduceToNat, Nat.reduceMul, Nat.reduceAdd, allocA, rowOf, fillA, partsV, setl, Nat.reduceLeDiff, AV.len, evalUn, Int.reduceLT, Int.reduceLE, Int.reduceEq, Int.reduceNe, strs_eq, DS, isSl, AOp.pure, AOp.reader, allocD, AOp.quiet, isSlot, Nat.reduceBEq, h14, h4, h11, h13, dq, d13, sg2, hr, hg]
      refine hC.useD ?_
      simp only [WS, stepW, evalA, reduceIte, Nat.reduceEqDiff, reduceCtorEq, evalBin, Option.getD, Int.reduceToNat, Nat.reduceMul, Nat.reduceAdd, allocA, rowOf, fillA, partsV, setl, Nat.reduceLeDiff, AV.len, evalUn, Int.reduceLT, Int.reduceLE, Int.reduceEq, Int.reduceNe, strs_eq, DS, isSl, AOp.pure, AOp.reader, allocD, AOp.quiet, isSlot, Nat.reduceBEq, h14, h4, h11, h13, dq, d13, sg2, hr, hg, c9, storeA, sets, setx, List.take_zero, List.drop_succ_cons, List.drop_zero, List.take_succ_cons]
      refine ⟨⟨?_, ?_⟩, ?_⟩
      · intro l hl c hc hf
        simp only [List.mem_cons, List.mem_nil_iff, List.not_mem_nil, or_false] at hl hc
        rcases hl with rfl | rfl <;> rcases hc with rfl | rfl | rfl <;> dsimp only at hf ⊢ <;> first
          | (exact absurd hf (by decide +kernel))
          | (simp only [WS, stepW, evalA, reduceIte, Nat.reduceEqDiff, reduceCtorEq, evalBin, Option.getD, Int.reduceToNat, Nat.reduceMul, Nat.reduceAdd, allocA, rowOf, fillA, partsV, setl, Nat.reduceLeDiff, AV.len, evalUn, Int.reduceLT, Int.reduceLE, Int.reduceEq, Int.reduceNe, strs_eq, h14, h4, h11, h13, dq, d13, sg2, hr, hg]; done)
      · intro sl hsl c hc hf
        simp only [List.mem_cons, List.mem_nil_iff, List.not_mem_nil, or_false] at hsl hc
        subst hsl
        rcases hc with rfl | rfl | rfl <;> dsimp only at hf ⊢ <;> first
          | (exact absurd hf (by decide +kernel))
          | exact ⟨by omega, g9⟩
      · simp only [WS, stepW, evalA, reduceIte, Nat.reduceEqDiff, reduceCtorEq, evalBin, Option.getD, Int.reduceToNat, Nat.reduceMul, Nat.reduceAdd, allocA, rowOf, fillA, partsV, setl, Nat.reduceLeDiff, AV.len, evalUn, Int.reduceLT, Int.reduceLE, Int.reduceEq, Int.reduceNe, strs_eq, h14, h4, h11, h13, dq, d13, nq, n13, du1, nu1, pu1, tu1]
        try simp only [put_n]
        repeat' (first | omega | apply And.intro)
    clear h14 h4 h11 cq hq h13 hb13 c13 pu1 lu1 cu1 tu1
    rintro ρ s ⟨h14, h4, h11, cq, hq, h13, hb13, c13, pu1, lu1, cu1, tu1, pu2, lu2, cu2, tu2⟩
    rw [wpC_seq]
    obtain ⟨u3, eu3⟩ : ∃ u, u = s.n + 9 := ⟨_, rfl⟩
    refine w_mid (fun ρ s => ρ.rd 14 = .int .i64 i ∧ ρ.rd 4 = ints r ∧ ρ.rd 11 = .ptr q 0 ∧ s.cells q = some [slc Kd.c S.kinds, slc Ac.c S.acts] ∧ q < s.n ∧ ρ.rd 13 = .sl b13 0 all.length cap13 1 ∧ b13 < s.n ∧ s.cells b13 = some cs13 ∧ ρ.rd 15 = .ptr u1 0 ∧ u1 < s.n ∧ s.cells u1 = some [.str KX.name, strs KX.parents, slc Fl.c KX.fields] ∧ ρ.rd 16 = .bool kb ∧ ρ.rd 17 = .ptr u2 0 ∧ u2 < s.n ∧ s.cells u2 = some [.str KX.name, strs KX.parents, slc Fl.c KX.fields] ∧ ρ.rd 18 = .bool kb ∧ ρ.rd 19 = .ptr u3 0 ∧ u3 < s.n ∧ s.cells u3 = some [.str AX.name, strs AX.prins, strs AX.ress] ∧ ρ.rd 20 = .bool ab) ?_ ?_
    · subst eu3
      simp only [WS, stepW, evalA, reduceIte, Nat.reduceEqDiff, reduceCtorEq, evalBin, Option.getD, Int.reduceToNat, Nat.reduceMul, Nat.reduceAdd, allocA, rowOf, fillA, partsV, setl, Nat.reduceLeDiff, AV.len, evalUn, Int.reduceLT, Int.reduceLE, Int.reduceEq, Int.reduceNe, strs_eq]
      refine w_dreg follow [(9, [.str [], .nils, .nils])] rfl ?_
      have g9 := slots_get (s := s) (m := 12) [(9, [.str [], .nils, .nils])] 9 _ rfl
      have c9 := cells_of g9
      have dq := (slots_old (m := 12) [(9, [.str [], .nils, .nils])] hq).trans cq
      have d13 := (slots_old (m := 12) [(9, [.str [], .nils, .nils])] hb13).trans c13
      have du1 := (slots_old (m := 12) [(9, [.str [], .nils, .nils])] lu1).trans cu1
      have du2 := (slots_old (m := 12) [(9, [.str [], .nils, .nils])] lu2).trans cu2
      have hnA : (addSlots s.n 12 s [(9, [.str [], .nils, .nils])]).n = s.n + 12 := rfl
      generalize addSlots s.n 12 s [(9, [.str [], .nils, .nils])] = s1 at *
      have hC := act22_ac (n := all[i]) (σ := s1) hS.g.ok hS.a
      rw [hAV, Sc.c_eq, slc_eq, slc_eq, Ac.c_eq] at hC
      have nq : ¬ q = s.n + 9 := by omega
      have n13 : ¬ b13 = s.n + 9 := by omega
      have nu1 : ¬ u1 = s.n + 9 := by omega
      have nu2 : ¬ u2 = s.n + 9 := by omega
      simp only [WS, stepW, evalA, reduceIte, Nat.reduceEqDiff, reduceCtorEq, evalBin, Option.getD, Int.reduceToNat, Nat.reduceMul, Nat.reduceAdd, allocA, rowOf, fillA, partsV, setl, Nat.reduceLeDiff, AV.len, evalUn, Int.reduceLT, Int.reduceLE, Int.reduceEq, Int.reduceNe, strs_eq, DS, isSl, AOp.pure, AOp.reader, allocD, AOp.quiet, isSlot, Nat.reduceBEq, h14, h4, h11, h13, dq, d13, sg2, hr, hg]
      refine hC.useD ?_
      simp only [WS, stepW, evalA, reduceIte, Nat.reduceEqDiff, reduceCtorEq, evalBin, Option.getD, Int.reduceToNat, Nat.reduceMul, Nat.reduceAdd, allocA, rowOf, fillA, partsV, setl, Nat.reduceLeDiff, AV.len, evalUn, Int.reduceLT, Int.reduceLE, Int.reduceEq, Int.reduceNe, strs_eq, DS, isSl, AOp.pure, AOp.reader, allocD, AOp.quiet, isSlot, Nat.reduceBEq, h14, h4, h11, h13, dq, d13, sg2, hr, hg, c9, storeA, sets, setx, List.take_zero, List.drop_succ_cons, List.drop_zero, List.take_succ_cons]
      refine ⟨⟨?_, ?_⟩, ?_⟩
      · intro l hl c hc hf
        simp only [List.mem_cons, List.mem_nil_iff, List.not_mem_nil, or_false] at hl hc
        rcases hl with rfl | rfl <;> rcases hc with rfl | rfl | rfl <;> dsimp only at hf ⊢ <;> first
          | (exact absurd hf (by decide +kernel))
          | (simp only [WS, stepW, evalA, reduceIte, Nat.reduceEqDiff, reduceCtorEq, evalBin, Option.getD, Int.reduceToNat, Nat.reduceMul, Nat.reduceAdd, allocA, rowOf, fillA, partsV, setl, Nat.reduceLeDiff, AV.len, evalUn, Int.reduceLT, Int.reduceLE, Int.reduceEq, Int.reduceNe, strs_eq, h14, h4, h11, h13, dq, d13, sg2, hr, hg]; done)
      · intro sl hsl c hc hf
        simp only [List.mem_cons, List.mem_nil_iff, List.not_mem_nil, or_false] at hsl hc
        subst hsl
        rcases hc with rfl | rfl | rfl <;> dsimp only at hf ⊢ <;> first
          | (exact absurd hf (by decide +kernel))
          | exact ⟨by omega, g9⟩
      · simp only [WS, stepW, evalA, reduceIte, Nat.reduceEqDiff, reduceCtorEq, evalBin, Option.getD, Int.reduceToNat, Nat.reduceMul, Nat.reduceAdd, allocA, rowOf, fillA, partsV, setl, Nat.reduceLeDiff, AV.len, evalUn, Int.reduceLT, Int.reduceLE, Int.reduceEq, Int.reduceNe, strs_eq, h14, h4, h11, h13, dq, d13, nq, n13, du1, nu1, du2, nu2, pu1, tu1, pu2, tu2]
        try simp only [put_n]
        repeat' (first | omega | apply And.intro)
    clear h14 h4 h11 cq hq h13 hb13 c13 pu1 lu1 cu1 tu1 pu2 lu2 cu2 tu2
    rintro ρ s ⟨h14, h4, h11, cq, hq, h13, hb13, c13, pu1, lu1, cu1, tu1, pu2, lu2, cu2, tu2, pu3, lu3, cu3, tu3⟩
    rw [wpC_seq]
    obtain ⟨u4, eu4⟩ : ∃ u, u = s.n + 9 := ⟨_, rfl⟩
    refine w_mid (fun ρ s => ρ.rd 14 = .int .i64 i ∧ ρ.rd 4 = ints r ∧ ρ.rd 11 = .ptr q 0 ∧ s.cells q = some [slc Kd.c S.kinds, slc Ac.c S.acts] ∧ q < s.n ∧ ρ.rd 13 = .sl b13 0 all.length cap13 1 ∧ b13 < s.n ∧ s.cells b13 = some cs13 ∧ ρ.rd 15 = .ptr u1 0 ∧ u1 < s.n ∧ s.cells u1 = some [.str KX.name, strs KX.parents, slc Fl.c KX.fields] ∧ ρ.rd 16 = .bool kb ∧ ρ.rd 17 = .ptr u2 0 ∧ u2 < s.n ∧ s.cells u2 = some [.str KX.name, strs KX.parents, slc Fl.c KX.fields] ∧ ρ.rd 18 = .bool kb ∧ ρ.rd 19 = .ptr u3 0 ∧ u3 < s.n ∧ s.cells u3 = some [.str AX.name, strs AX.prins, strs AX.ress] ∧ ρ.rd 20 = .bool ab ∧ ρ.rd 21 = .ptr u4 0 ∧ u4 < s.n ∧ s.cells u4 = some [.str AX.name, strs AX.prins, strs AX.ress] ∧ ρ.rd 22 = .bool ab) ?_ ?_
    · subst eu4
      simp only [WS, stepW, evalA, reduceIte, Nat.reduceEqDiff, reduceCtorEq, evalBin, Option.getD, Int.reduceToNat, Nat.reduceMul, Nat.reduceAdd, allocA, rowOf, fillA, partsV, setl, Nat.reduceLeDiff, AV.len, evalUn, Int.reduceLT, Int.reduceLE, Int.reduceEq, Int.reduceNe, strs_eq]
      refine w_dreg follow [(9, [.str [], .nils, .nils])] rfl ?_
      have g9 := slots_get (s := s) (m := 12) [(9, [.str [], .nils, .nils])] 9 _ rfl
      have c9 := cells_of g9
      have dq := (slots_old (m := 12) [(9, [.str [], .nils, .nils])] hq).trans cq
      have d13 := (slots_old (m := 12) [(9, [.str [], .nils, .nils])] hb13).trans c13
      have du1 := (slots_old (m := 12) [(9, [.str [], .nils, .nils])] lu1).trans cu1
      have du2 := (slots_old (m := 12) [(9, [.str [], .nils, .nils])] lu2).trans cu2
      have du3 := (slots_old (m := 12) [(9, [.str [], .nils, .nils])] lu3).trans cu3
      have hnA : (addSlots s.n 12 s [(9, [.str [], .nils, .nils])]).n = s.n + 12 := rfl
      generalize addSlots s.n 12 s [(9, [.str [], .nils, .nils])] = s1 at *
      have hC := actR_ac (n := all[i]) (σ := s1) hS.g.ok
      rw [hAV, Sc.c_eq, slc_eq, slc_eq, Ac.c_eq] at hC
      have nq : ¬ q = s.n + 9 := by omega
      have n13 : ¬ b13 = s.n + 9 := by omega
      have nu1 : ¬ u1 = s.n + 9 := by omega
      have nu2 : ¬ u2 = s.n + 9 := by omega
      have nu3 : ¬ u3 = s.n + 9 := by omega
      simp only [WS, stepW, evalA, reduceIte, Nat.reduceEqDiff, reduceCtorEq, evalBin, Option.getD, Int.reduceToNat, Nat.reduceMul, Nat.reduceAdd, allocA, rowOf, fillA, partsV, setl, Nat.reduceLeDiff, AV.len, evalUn, Int.reduceLT, Int.reduceLE, Int.reduceEq, Int.reduceNe, strs_eq, DS, isSl, AOp.pure, AOp.reader, allocD, AOp.quiet, isSlot, Nat.reduceBEq, h14, h4, h11, h13, dq, d13, sg2, hr, hg]
      refine hC.useD ?_
      simp only [WS, stepW, evalA, reduceIte, Nat.reduceEqDiff, reduceCtorEq, evalBin, Option.getD, Int.reduceToNat, Nat.reduceMul, Nat.reduceAdd, allocA, rowOf, fillA, partsV, setl, Nat.reduceLeDiff, AV.len, evalUn, Int.reduceLT, Int.reduceLE, Int.reduceEq, Int.reduceNe, strs_eq, DS, isSl, AOp.pure, AOp.reader, allocD, AOp.quiet, isSlot, Nat.reduceBEq, h14, h4, h11, h13, dq, d13, sg2, hr, hg, c9, storeA, sets, setx, List.take_zero, List.drop_succ_cons, List.drop_zero, List.take_succ_cons]
      refine ⟨⟨?_, ?_⟩, ?_⟩
      · intro l hl c hc hf
        simp only [List.mem_cons, List.mem_nil_iff, List.not_mem_nil, or_false] at hl hc
        rcases hl with rfl | rfl <;> rcases hc with rfl | rfl | rfl <;> dsimp only at hf ⊢ <;> first
          | (exact absurd hf (by decide +kernel))
          | (simp only [WS, stepW, evalA, reduceIte, Nat.reduceEqDiff, reduceCtorEq, evalBin, Option.getD, Int.reduceToNat, Nat.reduceMul, Nat.reduceAdd, allocA, rowOf, fillA, partsV, setl, Nat.reduceLeDiff, AV.len, evalUn, Int.reduceLT, Int.reduceLE, Int.reduceEq, Int.reduceNe, strs_eq, h14, h4, h11, h13, dq, d13, sg2, hr, hg]; done)
      · intro sl hsl c hc hf
        simp only [List.mem_cons, List.mem_nil_iff, List.not_mem_nil, or_false] at hsl hc
        subst hsl
        rcases hc with rfl | rfl | rfl <;> dsimp only at hf ⊢ <;> first
          | (exact absurd hf (by decide +kernel))
          | exact ⟨by omega, g9⟩
      · simp only [WS, stepW, evalA, reduceIte, Nat.reduceEqDiff, reduceCtorEq, evalBin, Option.getD, Int.reduceToNat, Nat.reduceMul, Nat.reduceAdd, allocA, rowOf, fillA, partsV, setl, Nat.reduceLeDiff, AV.len, evalUn, Int.reduceLT, Int.reduceLE, Int.reduceEq, Int.reduceNe, strs_eq, h14, h4, h11, h13, dq, d13, nq, n13, du1, nu1, du2, nu2, du3, nu3, pu1, tu1, pu2, tu2, pu3, tu3]
        try simp only [put_n]
        repeat' (first | omega | apply And.intro)
    clear h14 h4 h11 cq hq h13 hb13 c13 pu1 lu1 cu1 tu1 pu2 lu2 cu2 tu2 pu3 lu3 cu3 tu3
    rintro ρ s ⟨h14, h4, h11, cq, hq, h13, hb13, c13, pu1, lu1, cu1, tu1, pu2, lu2, cu2, tu2, pu3, lu3, cu3, tu3, pu4, lu4, cu4, tu4⟩
    rw [wpC_seq]
    refine w_mid (fun ρ s => ρ.rd 14 = .int .i64 i ∧ ρ.rd 4 = ints r ∧ ρ.rd 11 = .ptr q 0 ∧ s.cells q = some [slc Kd.c S.kinds, slc Ac.c S.acts] ∧ q < s.n ∧ ρ.rd 13 = .sl b13 0 all.length cap13 1 ∧ b13 < s.n ∧ s.cells b13 = some cs13) ?_ ?_
    · have hbk : (kb == kb) = true := by simp
      have hba : (ab == ab) = true := by simp
      have nn : ∀ w, w < s.n → ¬ w = s.n ∧ ¬ w = s.n + 1 ∧ ¬ w = s.n + 2 ∧ ¬ w = s.n + 3 := fun w hw => by omega
      have nu1 := nn u1 lu1
      have nu2 := nn u2 lu2
      have nu3 := nn u3 lu3
      have nu4 := nn u4 lu4
      have nq := nn q hq
      have n13 := nn b13 hb13
      have hT : ScH ⟨[KX], [AX]⟩ := ⟨by show 1 ≤ 1000; omega, by show 1 ≤ 1000; omega, fun k hk => by rw [List.mem_singleton.1 hk]; exact hKG, fun k hk => by rw [List.mem_singleton.1 hk]; exact hAG⟩
      obtain ⟨s4, hs4⟩ : ∃ s4, s4 = (((s.push (.cells [.str KX.name, strs KX.parents, slc Fl.c KX.fields])).push (.cells [.str AX.name, strs AX.prins, strs AX.ress])).push (.cells [.str KX.name, strs KX.parents, slc Fl.c KX.fields])).push (.cells [.str AX.name, strs AX.prins, strs AX.ress]) := ⟨_, rfl⟩
      have k0 : s4.cells s.n = some [.str KX.name, strs KX.parents, slc Fl.c KX.fields] := by rw [hs4]; simp only [push_get, push_n]; rw [if_neg (by omega), if_neg (by omega), if_neg (by omega), if_pos trivial]
      have k1 : s4.cells (s.n + 1) = some [.str AX.name, strs AX.prins, strs AX.ress] := by rw [hs4]; simp only [push_get, push_n]; rw [if_neg (by omega), if_neg (by omega), if_pos trivial]
      have k2 : s4.cells (s.n + 1 + 1) = some [.str KX.name, strs KX.parents, slc Fl.c KX.fields] := by rw [hs4]; simp only [push_get, push_n]; rw [if_neg (by omega), if_pos trivial]
      have k3 : s4.cells (s.n + 1 + 1 + 1) = some [.str AX.name, strs AX.prins, strs AX.ress] := by rw [hs4]; simp only [push_get, push_n]; rw [if_pos trivial]
      have pK := PurL.self (s := s4) (Kd.pur KX)
      have pA := PurL.self (s := s4) (Ac.pur AX)
      have hpx : Pur s4 true (.agg [.sl s.n 0 1 (some 1) 3, .sl (s.n + 1) 0 1 (some 1) 3]) (.agg (Sc.c ⟨[KX], [AX]⟩)) := .agg _ _ rfl fun j hj hj' => match j, hj with
        | 0, _ => .lit (n := 1) (c' := KX.c) k0 rfl pK
        | 1, _ => .lit (n := 1) (c' := AX.c) k1 rfl pA
      have hpy : Pur s4 true (.agg [.sl (s.n + 1 + 1) 0 1 (some 1) 3, .sl (s.n + 1 + 1 + 1) 0 1 (some 1) 3]) (.agg (Sc.c ⟨[KX], [AX]⟩)) := .agg _ _ rfl fun j hj hj' => match j, hj with
        | 0, _ => .lit (n := 1) (c' := KX.c) k2 rfl pK
        | 1, _ => .lit (n := 1) (c' := AX.c) k3 rfl pA
      have hC := sameR_own hT hpx hpy
      rw [sameS_self, hs4] at hC
      simp only [strs_eq, slc_eq] at hC
      simp only [WS, stepW, evalA, reduceIte, Nat.reduceEqDiff, reduceCtorEq, evalBin, Option.getD, Int.reduceToNat, Nat.reduceMul, Nat.reduceAdd, allocA, rowOf, fillA, partsV, setl, Nat.reduceLeDiff, AV.len, evalUn, Int.reduceLT, Int.reduceLE, Int.reduceEq, Int.reduceNe, strs_eq, h14, h4, h11, cq, hq, h13, hb13, c13, pu1, cu1, tu1, pu2, cu2, tu2, pu3, cu3, tu3, pu4, cu4, tu4, nu1, nu2, nu3, nu4, evalEq, hbk, hba, sg3, fillA]
      refine hC.use ?_
      simp only [WS, stepW, evalA, reduceIte, Nat.reduceEqDiff, reduceCtorEq, evalBin, Option.getD, Int.reduceToNat, Nat.reduceMul, Nat.reduceAdd, allocA, rowOf, fillA, partsV, setl, Nat.reduceLeDiff, AV.len, evalUn, Int.reduceLT, Int.reduceLE, Int.reduceEq, Int.reduceNe, strs_eq, h14, h4, h11, cq, hq, h13, hb13, c13, nq, n13]
      try simp only [push_n]
      repeat' (first | omega | apply And.intro)
    clear h14 h4 h11 cq hq h13 hb13 c13 pu1 lu1 cu1 tu1 pu2 lu2 cu2 tu2 pu3 lu3 cu3 tu3 pu4 lu4 cu4 tu4
    rintro ρ s ⟨h14, h4, h11, cq, hq, h13, hb13, c13⟩
    have hkl := hS.kl
    simp only [WS, stepW, evalA, reduceIte, Nat.reduceEqDiff, reduceCtorEq, evalBin, Option.getD, Int.reduceToNat, Nat.reduceMul, Nat.reduceAdd, allocA, rowOf, fillA, partsV, setl, Nat.reduceLeDiff, AV.len, evalUn, Int.reduceLT, Int.reduceLE, Int.reduceEq, Int.reduceNe, strs_eq]
    refine w_for (fun j ρ s => ρ.rd 23 = .int .i64 j ∧ ρ.rd 14 = .int .i64 i ∧ ρ.rd 4 = ints r ∧ ρ.rd 11 = .ptr q 0 ∧ s.cells q = some [slc Kd.c S.kinds, slc Ac.c S.acts] ∧ q < s.n ∧ ρ.rd 13 = .sl b13 0 all.length cap13 1 ∧ b13 < s.n ∧ s.cells b13 = some cs13) S.kinds.length ?_ ?_
    · simp only [WS, stepW, evalA, reduceIte, Nat.reduceEqDiff, reduceCtorEq, evalBin, Option.getD, Int.reduceToNat, Nat.reduceMul, Nat.reduceAdd, allocA, rowOf, fillA, partsV, setl, Nat.reduceLeDiff, AV.len, evalUn, Int.reduceLT, Int.reduceLE, Int.reduceEq, Int.reduceNe, strs_eq, h14, h4, h11, cq, hq, h13, hb13, c13]
      rfl
    clear h14 h4 h11 cq hq h13 hb13 c13
    rintro j ρ s hj ⟨h23, h14, h4, h11, cq, hq, h13, hb13, c13⟩
    simp only [WS, stepW, evalA, reduceIte, Nat.reduceEqDiff, reduceCtorEq, evalBin, Option.getD, Int.reduceToNat, Nat.reduceMul, Nat.reduceAdd, allocA, rowOf, fillA, partsV, setl, Nat.reduceLeDiff, AV.len, evalUn, Int.reduceLT, Int.reduceLE, Int.reduceEq, Int.reduceNe, strs_eq, h23, h11, cq]
    refine Br_dec (fun hltj' => ?_) (fun hgej => ?_)
    rotate_left
    · simp only [WS, stepW, evalA, reduceIte, Nat.reduceEqDiff, reduceCtorEq, evalBin, Option.getD, Int.reduceToNat, Nat.reduceMul, Nat.reduceAdd, allocA, rowOf, fillA, partsV, setl, Nat.reduceLeDiff, AV.len, evalUn, Int.reduceLT, Int.reduceLE, Int.reduceEq, Int.reduceNe, strs_eq, h14, h4, h11, cq, hq, h13, hb13, c13, hw]
      exact hlt
    · have hltj : j < S.kinds.length := by omega
      have hrj := lt_idx hltj
      have A := kdAt hltj
      have hGj := (hS.k _ (List.getElem_mem hltj)).fl
      have hwj : IntKind.i64.wrap ((j : Int) + 1) = ((j + 1 : Nat) : Int) := wrap_succ (by omega)
      obtain ⟨FX, fb, hFV⟩ := fieldV_ex S.kinds[j].fields all[i]
      rw [wpC_skip, wpCK_normal, wpC_seq, wpC_block]
      rw [wpC_seq]
      obtain ⟨w1, ew1⟩ : ∃ w1, w1 = s.n + 13 := ⟨_, rfl⟩
      refine w_mid (fun ρ s => ρ.rd 23 = .int .i64 j ∧ ρ.rd 14 = .int .i64 i ∧ ρ.rd 4 = ints r ∧ ρ.rd 11 = .ptr q 0 ∧ s.cells q = some [slc Kd.c S.kinds, slc Ac.c S.acts] ∧ q < s.n ∧ ρ.rd 13 = .sl b13 0 all.length cap13 1 ∧ b13 < s.n ∧ s.cells b13 = some cs13 ∧ ρ.rd 24 = .ptr w1 0 ∧ w1 < s.n ∧ s.cells w1 = some [.int .i64 FX.kind, .int .i64 FX.of_, .str FX.name] ∧ ρ.rd 25 = .bool fb) ?_ ?_
      · subst ew1
        simp only [WS, stepW, evalA, reduceIte, Nat.reduceEqDiff, reduceCtorEq, evalBin, Option.getD, Int.reduceToNat, Nat.reduceMul, Nat.reduceAdd, allocA, rowOf, fillA, partsV, setl, Nat.reduceLeDiff, AV.len, evalUn, Int.reduceLT, Int.reduceLE, Int.reduceEq, Int.reduceNe, strs_eq]
        refine w_dreg follow [(13, [.int .i64 0, .int .i64 0, .str []])] rfl ?_
        have g13 := slots_get (s := s) (m := 16) [(13, [.int .i64 0, .int .i64 0, .str []])] 13 _ rfl
        have cg := cells_of g13
        have dq := (slots_old (m := 16) [(13, [.int .i64 0, .int .i64 0, .str []])] hq).trans cq
        have d13 := (slots_old (m := 16) [(13, [.int .i64 0, .int .i64 0, .str []])] hb13).trans c13
        have hnA : (addSlots s.n 16 s [(13, [.int .i64 0, .int .i64 0, .str []])]).n = s.n + 16 := rfl
        generalize addSlots s.n 16 s [(13, [.int .i64 0, .int .i64 0, .str []])] = s1 at *
        have hC := field23_ac (k := S.kinds[j]) (n := all[i]) (σ := s1) (by omega)
        rw [hFV, Kd.c_eq, strs_eq, slc_eq, Ty.c_eq] at hC
        have nq : ¬ q = s.n + 13 := by omega
        have n13 : ¬ b13 = s.n + 13 := by omega
        simp only [WS, stepW, evalA, reduceIte, Nat.reduceEqDiff, reduceCtorEq, evalBin, Option.getD, Int.reduceToNat, Nat.reduceMul, Nat.reduceAdd, allocA, rowOf, fillA, partsV, setl, Nat.reduceLeDiff, AV.len, evalUn, Int.reduceLT, Int.reduceLE, Int.reduceEq, Int.reduceNe, strs_eq, DS, isSl, AOp.pure, AOp.reader, allocD, AOp.quiet, isSlot, Nat.reduceBEq, h23, h14, h4, h11, h13, dq, d13, hr, hg, hrj, A.fit, A.all, strs_eq, slc_eq]
        refine hC.useD ?_
        simp only [WS, stepW, evalA, reduceIte, Nat.reduceEqDiff, reduceCtorEq, evalBin, Option.getD, Int.reduceToNat, Nat.reduceMul, Nat.reduceAdd, allocA, rowOf, fillA, partsV, setl, Nat.reduceLeDiff, AV.len, evalUn, Int.reduceLT, Int.reduceLE, Int.reduceEq, Int.reduceNe, strs_eq, DS, isSl, AOp.pure, AOp.reader, allocD, AOp.quiet, isSlot, Nat.reduceBEq, h23, h14, h4, h11, h13, dq, d13, hr, hg, cg, storeA, sets, setx, List.take_zero, List.drop_succ_cons, List.drop_zero, List.take_succ_cons]
        refine ⟨⟨?_, ?_⟩, ?_⟩
        · intro l hl c hc hf
          simp only [List.mem_cons, List.mem_nil_iff, List.not_mem_nil, or_false] at hl hc
          rcases hl with rfl | rfl | rfl <;> rcases hc with rfl | rfl | rfl <;> dsimp only at hf ⊢ <;> first
            | (exact absurd hf (by decide +kernel))
            | (simp only [WS, stepW, evalA, reduceIte, Nat.reduceEqDiff, reduceCtorEq, evalBin, Option.getD, Int.reduceToNat, Nat.reduceMul, Nat.reduceAdd, allocA, rowOf, fillA, partsV, setl, Nat.reduceLeDiff, AV.len, evalUn, Int.reduceLT, Int.reduceLE, Int.reduceEq, Int.reduceNe, strs_eq, h23, h14, h4, h11, h13, dq, d13, hr, hg, hrj, A.fit, A.all, strs_eq, slc_eq]; done)
        · intro sl hsl c hc hf
          simp only [List.mem_cons, List.mem_nil_iff, List.not_mem_nil, or_false] at hsl hc
          subst hsl
          rcases hc with rfl | rfl | rfl <;> dsimp only at hf ⊢ <;> first
            | (exact absurd hf (by decide +kernel))
            | exact ⟨by omega, g13⟩
        · simp only [WS, stepW, evalA, reduceIte, Nat.reduceEqDiff, reduceCtorEq, evalBin, Option.getD, Int.reduceToNat, Nat.reduceMul, Nat.reduceAdd, allocA, rowOf, fillA, partsV, setl, Nat.reduceLeDiff, AV.len, evalUn, Int.reduceLT, Int.reduceLE, Int.reduceEq, Int.reduceNe, strs_eq, h23, h14, h4, h11, h13, dq, d13, nq, n13]
          try simp only [put_n]
          repeat' (first | omega | apply And.intro)
      clear h14 h4 h11 cq hq h13 hb13 c13 h23 
      rintro ρ s ⟨h23, h14, h4, h11, cq, hq, h13, hb13, c13, pw1, lw1, cw1, tw1⟩
      rw [wpC_seq]
      obtain ⟨w2, ew2⟩ : ∃ w2, w2 = s.n + 13 := ⟨_, rfl⟩
      refine w_mid (fun ρ s => ρ.rd 23 = .int .i64 j ∧ ρ.rd 14 = .int .i64 i ∧ ρ.rd 4 = ints r ∧ ρ.rd 11 = .ptr q 0 ∧ s.cells q = some [slc Kd.c S.kinds, slc Ac.c S.acts] ∧ q < s.n ∧ ρ.rd 13 = .sl b13 0 all.length cap13 1 ∧ b13 < s.n ∧ s.cells b13 = some cs13 ∧ ρ.rd 24 = .ptr w1 0 ∧ w1 < s.n ∧ s.cells w1 = some [.int .i64 FX.kind, .int .i64 FX.of_, .str FX.name] ∧ ρ.rd 25 = .bool fb ∧ ρ.rd 26 = .ptr w2 0 ∧ w2 < s.n ∧ s.cells w2 = some [.int .i64 FX.kind, .int .i64 FX.of_, .str FX.name] ∧ ρ.rd 27 = .bool fb) ?_ ?_
      · subst ew2
        simp only [WS, stepW, evalA, reduceIte, Nat.reduceEqDiff, reduceCtorEq, evalBin, Option.getD, Int.reduceToNat, Nat.reduceMul, Nat.reduceAdd, allocA, rowOf, fillA, partsV, setl, Nat.reduceLeDiff, AV.len, evalUn, Int.reduceLT, Int.reduceLE, Int.reduceEq, Int.reduceNe, strs_eq]
        refine w_dreg follow [(13, [.int .i64 0, .int .i64 0, .str []])] rfl ?_
        have g13 := slots_get (s := s) (m := 16) [(13, [.int .i64 0, .int .i64 0, .str []])] 13 _ rfl
        have cg := cells_of g13
        have dq := (slots_old (m := 16) [(13, [.int .i64 0, .int .i64 0, .str []])] hq).trans cq
        have d13 := (slots_old (m := 16) [(13, [.int .i64 0, .int .i64 0, .str []])] hb13).trans c13
        have dw1 := (slots_old (m := 16) [(13, [.int .i64 0, .int .i64 0, .str []])] lw1).trans cw1
        have nw1 : ¬ w1 = s.n + 13 := by omega
        have hnA : (addSlots s.n 16 s [(13, [.int .i64 0, .int .i64 0, .str []])]).n = s.n + 16 := rfl
        generalize addSlots s.n 16 s [(13, [.int .i64 0, .int .i64 0, .str []])] = s1 at *
        have hC := fieldR_ac (k := S.kinds[j]) (n := all[i]) (σ := s1) (by omega)
        rw [hFV, Kd.c_eq, strs_eq, slc_eq, Ty.c_eq] at hC
        have nq : ¬ q = s.n + 13 := by omega
        have n13 : ¬ b13 = s.n + 13 := by omega
        simp only [WS, stepW, evalA, reduceIte, Nat.reduceEqDiff, reduceCtorEq, evalBin, Option.getD, Int.reduceToNat, Nat.reduceMul, Nat.reduceAdd, allocA, rowOf, fillA, partsV, setl, Nat.reduceLeDiff, AV.len, evalUn, Int.reduceLT, Int.reduceLE, Int.reduceEq, Int.reduceNe, strs_eq, DS, isSl, AOp.pure, AOp.reader, allocD, AOp.quiet, isSlot, Nat.reduceBEq, h23, h14, h4, h11, h13, dq, d13, hr, hg, hrj, A.fit, A.all, strs_eq, slc_eq]
        refine hC.useD ?_
        simp only [WS, stepW, evalA, reduceIte, Nat.reduceEqDiff, reduceCtorEq, evalBin, Option.getD, Int.reduceToNat, Nat.reduceMul, Nat.reduceAdd, allocA, rowOf, fillA, partsV, setl, Nat.reduceLeDiff, AV.len, evalUn, Int.reduceLT, Int.reduceLE, Int.reduceEq, Int.reduceNe, strs_eq, DS, isSl, AOp.pure, AOp.reader, allocD, AOp.quiet, isSlot, Nat.reduceBEq, h23, h14, h4, h11, h13, dq, d13, hr, hg, cg, storeA, sets, setx, List.take_zero, List.drop_succ_cons, List.drop_zero, List.take_succ_cons]
        refine ⟨⟨?_, ?_⟩, ?_⟩
        · intro l hl c hc hf
          simp only [List.mem_cons, List.mem_nil_iff, List.not_mem_nil, or_false] at hl hc
          rcases hl with rfl | rfl | rfl <;> rcases hc with rfl | rfl | rfl <;> dsimp only at hf ⊢ <;> first
            | (exact absurd hf (by decide +kernel))
            | (simp only [WS, stepW, evalA, reduceIte, Nat.reduceEqDiff, reduceCtorEq, evalBin, Option.getD, Int.reduceToNat, Nat.reduceMul, Nat.reduceAdd, allocA, rowOf, fillA, partsV, setl, Nat.reduceLeDiff, AV.len, evalUn, Int.reduceLT, Int.reduceLE, Int.reduceEq, Int.reduceNe, strs_eq, h23, h14, h4, h11, h13, dq, d13, hr, hg, hrj, A.fit, A.all, strs_eq, slc_eq]; done)
        · intro sl hsl c hc hf
          simp only [List.mem_cons, List.mem_nil_iff, List.not_mem_nil, or_false] at hsl hc
          subst hsl
          rcases hc with rfl | rfl | rfl <;> dsimp only at hf ⊢ <;> first
            | (exact absurd hf (by decide +kernel))
            | exact ⟨by omega, g13⟩
        · simp only [WS, stepW, evalA, reduceIte, Nat.reduceEqDiff, reduceCtorEq, evalBin, Option.getD, Int.reduceToNat, Nat.reduceMul, Nat.reduceAdd, allocA, rowOf, fillA, partsV, setl, Nat.reduceLeDiff, AV.len, evalUn, Int.reduceLT, Int.reduceLE, Int.reduceEq, Int.reduceNe, strs_eq, h23, h14, h4, h11, h13, dq, d13, nq, n13, dw1, nw1, pw1, tw1]
          try simp only [put_n]
          repeat' (first | omega | apply And.intro)
      clear h14 h4 h11 cq hq h13 hb13 c13 h23 pw1 lw1 cw1 tw1
      rintro ρ s ⟨h23, h14, h4, h11, cq, hq, h13, hb13, c13, pw1, lw1, cw1, tw1, pw2, lw2, cw2, tw2⟩
      have hE : eqCells [.i, .i, .s] [.int .i64 FX.kind, .int .i64 FX.of_, .str FX.name] [.int .i64 FX.kind, .int .i64 FX.of_, .str FX.name] = some true := eqTy FX
      have hbf : (fb == fb) = true := by simp
      simp only [WS, stepW, evalA, reduceIte, Nat.reduceEqDiff, reduceCtorEq, evalBin, Option.getD, Int.reduceToNat, Nat.reduceMul, Nat.reduceAdd, allocA, rowOf, fillA, partsV, setl, Nat.reduceLeDiff, AV.len, evalUn, Int.reduceLT, Int.reduceLE, Int.reduceEq, Int.reduceNe, strs_eq, h23, h14, h4, h11, cq, hq, h13, hb13, c13, pw1, cw1, tw1, pw2, cw2, tw2, sg3, hE, evalEq, hbf, hwj]
      repeat' (first | exact hltj | exact hq | exact hb13 | rfl | apply And.intro)
  clear h4 h11 cq hq h13 hb13 c13
  rintro ρ s ⟨h4, h11, cq, hq⟩
  rw [wpC_seq]
  refine w_mid (fun ρ s => ρ.rd 4 = ints r ∧ ρ.rd 11 = .ptr q 0 ∧ s.cells q = some [slc Kd.c S.kinds, slc Ac.c S.acts] ∧ q < s.n ∧ 4 ≤ r.length) ?_ ?_
  · by_cases h4' : (r.length : Int) < 4
    · simp only [WS, stepW, evalA, reduceIte, Nat.reduceEqDiff, reduceCtorEq, evalBin, Option.getD, Int.reduceToNat, Nat.reduceMul, Nat.reduceAdd, allocA, rowOf, fillA, partsV, setl, Nat.reduceLeDiff, AV.len, evalUn, Int.reduceLT, Int.reduceLE, Int.reduceEq, Int.reduceNe, strs_eq, h4, h4', ints_eq]
    · simp only [WS, stepW, evalA, reduceIte, Nat.reduceEqDiff, reduceCtorEq, evalBin, Option.getD, Int.reduceToNat, Nat.reduceMul, Nat.reduceAdd, allocA, rowOf, fillA, partsV, setl, Nat.reduceLeDiff, AV.len, evalUn, Int.reduceLT, Int.reduceLE, Int.reduceEq, Int.reduceNe, strs_eq, h4, h11, cq, hq, h4', ints_eq]
      omega
  clear h4 h11 cq hq
  rintro ρ s ⟨h4, h11, cq, hq, hr4⟩
  have l0 : 0 < r.length := by omega
  have l1 : 1 < r.length := by omega
  have l2 : 2 < r.length := by omega
  have l3 : 3 < r.length := by omega
  have i0 : (0 : Int) < (r.length : Int) := by omega
  have i1 : (1 : Int) < (r.length : Int) := by omega
  have i2 : (2 : Int) < (r.length : Int) := by omega
  have i3 : (3 : Int) < (r.length : Int) := by omega
  have r0 := ints_get l0
  have r1 := ints_get l1
  have r2 := ints_get l2
  have r3 := ints_get l3
  have hwp := wi_range r[1] (n := 4) (by decide)
  obtain ⟨k, hk⟩ : ∃ k : Nat, wi r[1] 4 = k := ⟨(wi r[1] 4).toNat, by omega⟩
  rw [hk] at hwp
  have hrk : (0 : Int) ≤ (k : Int) ∧ (k : Int) < ((4 : Nat) : Int) := by omega
  have hg := aid_get (k := k) (by omega)
  have t1 : (1 : Int).toNat = 1 := rfl
  have t2 : (2 : Int).toNat = 2 := rfl
  have t3 : (3 : Int).toNat = 3 := rfl
  rw [wpC_seq]
  generalize hQ : (Rq.mk (uidT (wi r[0] 5)) [] actionS (aidN k) (uidT (wi r[2] 5)) []) = Q0
  refine w_mid (fun ρ s => ρ.rd 4 = ints r ∧ ρ.rd 11 = .ptr q 0 ∧ s.cells q = some [slc Kd.c S.kinds, slc Ac.c S.acts] ∧ q < s.n ∧ ∃ w, ¬ q = w ∧ w < s.n ∧ ρ.rd 28 = .ptr w 0 ∧ s.cells w = some Q0.c) ?_ ?_
  · rw [← hQ]
    simp only [WS, stepW, evalA, reduceIte, Nat.reduceEqDiff, reduceCtorEq, evalBin, Option.getD, Int.reduceToNat, Nat.reduceMul, Nat.reduceAdd, allocA, rowOf, fillA, partsV, setl, Nat.reduceLeDiff, AV.len, evalUn, Int.reduceLT, Int.reduceLE, Int.reduceEq, Int.reduceNe, strs_eq]
    refine w_dreg follow [(4, [.str [114, 101, 97, 100], .str [119, 114, 105, 116, 101], .str [111, 119, 110], .str [120]]), (17, [.str [], .str [], .str [], .str [], .str [], .str []])] rfl ?_
    have g2 := slots_get (s := s) (m := 19) [(4, [.str [114, 101, 97, 100], .str [119, 114, 105, 116, 101], .str [111, 119, 110], .str [120]]), (17, [.str [], .str [], .str [], .str [], .str [], .str []])] 4 _ rfl
    have g11 := slots_get (s := s) (m := 19) [(4, [.str [114, 101, 97, 100], .str [119, 114, 105, 116, 101], .str [111, 119, 110], .str [120]]), (17, [.str [], .str [], .str [], .str [], .str [], .str []])] 17 _ rfl
    have dq := (slots_old (m := 19) [(4, [.str [114, 101, 97, 100], .str [119, 114, 105, 116, 101], .str [111, 119, 110], .str [120]]), (17, [.str [], .str [], .str [], .str [], .str [], .str []])] hq).trans cq
    have hnA : (addSlots s.n 19 s [(4, [.str [114, 101, 97, 100], .str [119, 114, 105, 116, 101], .str [111, 119, 110], .str [120]]), (17, [.str [], .str [], .str [], .str [], .str [], .str []])]).n = s.n + 19 := rfl
    generalize addSlots s.n 19 s [(4, [.str [114, 101, 97, 100], .str [119, 114, 105, 116, 101], .str [111, 119, 110], .str [120]]), (17, [.str [], .str [], .str [], .str [], .str [], .str []])] = s1 at *
    have c2 := cells_of g2
    have c11 := cells_of g11
    have nq : ¬ q = s.n + 17 := by omega
    simp only [WS, stepW, evalA, reduceIte, Nat.reduceEqDiff, reduceCtorEq, evalBin, Option.getD, Int.reduceToNat, Nat.reduceMul, Nat.reduceAdd, allocA, rowOf, fillA, partsV, setl, Nat.reduceLeDiff, AV.len, evalUn, Int.reduceLT, Int.reduceLE, Int.reduceEq, Int.reduceNe, strs_eq, DS, isSl, AOp.pure, AOp.reader, allocD, AOp.quiet, isSlot, Nat.reduceBEq, h4, h11, ints_eq, i0, r0]
    refine uid_ac.useD ?_
    simp only [WS, stepW, evalA, reduceIte, Nat.reduceEqDiff, reduceCtorEq, evalBin, Option.getD, Int.reduceToNat, Nat.reduceMul, Nat.reduceAdd, allocA, rowOf, fillA, partsV, setl, Nat.reduceLeDiff, AV.len, evalUn, Int.reduceLT, Int.reduceLE, Int.reduceEq, Int.reduceNe, strs_eq, DS, isSl, AOp.pure, AOp.reader, allocD, AOp.quiet, isSlot, Nat.reduceBEq, h4, h11, ints_eq, i1, r1, t1, fillA, rowOf]
    refine (within10_ac (by decide) (by decide)).useD ?_
    rw [hk]
    simp only [WS, stepW, evalA, reduceIte, Nat.reduceEqDiff, reduceCtorEq, evalBin, Option.getD, Int.reduceToNat, Nat.reduceMul, Nat.reduceAdd, allocA, rowOf, fillA, partsV, setl, Nat.reduceLeDiff, AV.len, evalUn, Int.reduceLT, Int.reduceLE, Int.reduceEq, Int.reduceNe, strs_eq, DS, isSl, AOp.pure, AOp.reader, allocD, AOp.quiet, isSlot, Nat.reduceBEq, h4, h11, ints_eq, i2, r2, t2, fillA, hrk, c2, hg]
    refine uid_ac.useD ?_
    simp only [WS, stepW, evalA, reduceIte, Nat.reduceEqDiff, reduceCtorEq, evalBin, Option.getD, Int.reduceToNat, Nat.reduceMul, Nat.reduceAdd, allocA, rowOf, fillA, partsV, setl, Nat.reduceLeDiff, AV.len, evalUn, Int.reduceLT, Int.reduceLE, Int.reduceEq, Int.reduceNe, strs_eq, DS, isSl, AOp.pure, AOp.reader, allocD, AOp.quiet, isSlot, Nat.reduceBEq, h4, h11, fillA, c11, storeA, sets, setx, List.take_zero, List.drop_succ_cons, List.drop_zero, List.take_succ_cons]
    refine ⟨⟨?_, ?_⟩, ?_⟩
    · intro l hl c hc hf
      simp only [List.mem_cons, List.mem_nil_iff, List.not_mem_nil, or_false] at hl hc
      rcases hl with rfl | rfl | rfl | rfl <;> rcases hc with rfl | rfl | rfl | rfl | rfl <;> dsimp only at hf ⊢ <;> first
        | (exact absurd hf (by decide +kernel))
        | (simp only [WS, stepW, evalA, reduceIte, Nat.reduceEqDiff, reduceCtorEq, evalBin, Option.getD, Int.reduceToNat, Nat.reduceMul, Nat.reduceAdd, allocA, rowOf, fillA, partsV, setl, Nat.reduceLeDiff, AV.len, evalUn, Int.reduceLT, Int.reduceLE, Int.reduceEq, Int.reduceNe, strs_eq, h4, h11, ints_eq, c2, hg, r0, r1, r2]; done)
    · intro sl hsl c hc hf
      simp only [List.mem_cons, List.mem_nil_iff, List.not_mem_nil, or_false] at hsl hc
      rcases hsl with rfl | rfl <;> rcases hc with rfl | rfl | rfl | rfl | rfl <;> dsimp only at hf ⊢ <;> first
        | (exact absurd hf (by decide +kernel))
        | exact ⟨by omega, g2⟩
        | exact ⟨by omega, g11⟩
        | exact ⟨by simp only [put_n]; omega, (put_h (by omega)).trans g2⟩
    · simp only [WS, stepW, evalA, reduceIte, Nat.reduceEqDiff, reduceCtorEq, evalBin, Option.getD, Int.reduceToNat, Nat.reduceMul, Nat.reduceAdd, allocA, rowOf, fillA, partsV, setl, Nat.reduceLeDiff, AV.len, evalUn, Int.reduceLT, Int.reduceLE, Int.reduceEq, Int.reduceNe, strs_eq, h4, h11, dq, nq, ints_eq]
      refine ⟨by omega, s.n + 17, nq, by omega, rfl, ?_⟩
      simp [Rq.c_eq, actionS]
  clear h4 h11 cq hq
  rintro ρ s ⟨h4, h11, cq, hq, w, nqw, hws, h28, cw⟩
  simp only [Rq.c_eq] at cw
  rw [wpC_seq]
  refine w_mid (fun ρ s => ρ.rd 4 = ints r ∧ ρ.rd 11 = .ptr q 0 ∧ s.cells q = some [slc Kd.c S.kinds, slc Ac.c S.acts] ∧ q < s.n ∧ ρ.rd 28 = .ptr w 0 ∧ ∃ Q1 : Rq, s.cells w = some Q1.c) ?_ ?_
  · have hrem : evalInt .rem .i64 r[3] 9 = some (.int .i64 (r[3].tmod 9)) := by simp [evalInt]
    by_cases h8 : r[3].tmod 9 = 8
    · simp only [WS, stepW, evalA, reduceIte, Nat.reduceEqDiff, reduceCtorEq, evalBin, Option.getD, Int.reduceToNat, Nat.reduceMul, Nat.reduceAdd, allocA, rowOf, fillA, partsV, setl, Nat.reduceLeDiff, AV.len, evalUn, Int.reduceLT, Int.reduceLE, Int.reduceEq, Int.reduceNe, strs_eq, h4, h11, cq, hq, h28, cw, i3, r3, t3, ints_eq, hrem, h8, nqw, storeA, sets, setx, List.take_zero, List.drop_succ_cons, List.drop_zero, List.take_succ_cons]
      exact ⟨⟨Q0.pt, Q0.pi, [85, 115, 101, 114], Q0.ai, Q0.rt, Q0.ri⟩, rfl⟩
    · simp only [WS, stepW, evalA, reduceIte, Nat.reduceEqDiff, reduceCtorEq, evalBin, Option.getD, Int.reduceToNat, Nat.reduceMul, Nat.reduceAdd, allocA, rowOf, fillA, partsV, setl, Nat.reduceLeDiff, AV.len, evalUn, Int.reduceLT, Int.reduceLE, Int.reduceEq, Int.reduceNe, strs_eq, h4, h11, cq, hq, h28, cw, i3, r3, t3, ints_eq, hrem, h8]
      exact ⟨Q0, rfl⟩
  clear h4 h11 cq hq h28 cw
  rintro ρ s ⟨h4, h11, cq, hq, h28, Q1, cw⟩
  simp only [Rq.c_eq] at cw
  have sgS := scSeg S
  have sg6 : ∀ a b c d e f : AV, seg [a, b, c, d, e, f] 0 6 = [a, b, c, d, e, f] := fun _ _ _ _ _ _ => rfl
  simp only [WS, stepW, evalA, reduceIte, Nat.reduceEqDiff, reduceCtorEq, evalBin, Option.getD, Int.reduceToNat, Nat.reduceMul, Nat.reduceAdd, allocA, rowOf, fillA, partsV, setl, Nat.reduceLeDiff, AV.len, evalUn, Int.reduceLT, Int.reduceLE, Int.reduceEq, Int.reduceNe, strs_eq]
  refine w_dreg follow [] rfl ?_
  have dq : (addSlots s.n 8 s []).cells q = some [slc Kd.c S.kinds, slc Ac.c S.acts] := cq
  have dw : (addSlots s.n 8 s []).cells w = _ := cw
  generalize addSlots s.n 8 s [] = s3 at *
  have hF := fits_ac (s := S) (q := Q1) (σ := s3) hS.g.ok hS.a
  have hF2 := fitsR_ac (s := S) (q := Q1) (σ := s3) hS.g.ok hS.a
  rw [Sc.c_eq, Rq.c_eq, slc_eq, slc_eq] at hF hF2
  simp only [WS, stepW, evalA, reduceIte, Nat.reduceEqDiff, reduceCtorEq, evalBin, Option.getD, Int.reduceToNat, Nat.reduceMul, Nat.reduceAdd, allocA, rowOf, fillA, partsV, setl, Nat.reduceLeDiff, AV.len, evalUn, Int.reduceLT, Int.reduceLE, Int.reduceEq, Int.reduceNe, strs_eq, DS, isSl, AOp.pure, AOp.reader, allocD, AOp.quiet, isSlot, Nat.reduceBEq, h11, h28, dq, dw, sgS, sg6]
  refine hF.useD ?_
  simp only [WS, stepW, evalA, reduceIte, Nat.reduceEqDiff, reduceCtorEq, evalBin, Option.getD, Int.reduceToNat, Nat.reduceMul, Nat.reduceAdd, allocA, rowOf, fillA, partsV, setl, Nat.reduceLeDiff, AV.len, evalUn, Int.reduceLT, Int.reduceLE, Int.reduceEq, Int.reduceNe, strs_eq, DS, isSl, AOp.pure, AOp.reader, allocD, AOp.quiet, isSlot, Nat.reduceBEq, h11, h28, dq, dw, sgS, sg6]
  refine hF2.useD ?_
  simp only [WS, stepW, evalA, reduceIte, Nat.reduceEqDiff, reduceCtorEq, evalBin, Option.getD, Int.reduceToNat, Nat.reduceMul, Nat.reduceAdd, allocA, rowOf, fillA, partsV, setl, Nat.reduceLeDiff, AV.len, evalUn, Int.reduceLT, Int.reduceLE, Int.reduceEq, Int.reduceNe, strs_eq, DS, isSl, AOp.pure, AOp.reader, allocD, AOp.quiet, isSlot, Nat.reduceBEq, h11, h28, dq, dw, sgS, sg6]
  refine ⟨?_, ?_⟩
  · intro l hl c hc hf
    simp only [List.mem_cons, List.mem_nil_iff, List.not_mem_nil, or_false] at hl hc
    rcases hl with rfl | rfl | rfl | rfl <;> rcases hc with rfl | rfl | rfl <;> dsimp only at hf ⊢ <;> first
      | (exact absurd hf (by decide +kernel))
      | (simp only [WS, stepW, evalA, reduceIte, Nat.reduceEqDiff, reduceCtorEq, evalBin, Option.getD, Int.reduceToNat, Nat.reduceMul, Nat.reduceAdd, allocA, rowOf, fillA, partsV, setl, Nat.reduceLeDiff, AV.len, evalUn, Int.reduceLT, Int.reduceLE, Int.reduceEq, Int.reduceNe, strs_eq, h11, h28, dq, dw, sgS, sg6]; done)
  · intro sl hsl; simp at hsl
end Go.Proofs.Ytaokfpjjaejjgaa.Va
