/- Plain trees of a type: the walk. Conditions: none. -/
import Derived.Test.YtcdbpmmomgehfaaTM
import Derived.Test.YtcdbpmmomgehfaaTy32
set_option maxRecDepth 100000
set_option maxHeartbeats 4000000
set_option linter.all false
namespace Go.Proofs.Ytcdbpmmomgehfaa.Va
open Go.Proofs
theorem within11G_ac {x : Int} {σ : AState} : AC Try.prog 21 [.int .i64 x, .int .i64 4611686018427387904] σ fun v s => s = σ ∧ v = .int .i64 (bigN x) := by
  have hr := ei_rem .i64 x 4611686018427387904 (by decide)
  unfold bigN
  by_cases h : x.tmod 4611686018427387904 < 0
  · rw [if_pos h]
    refine ac_wp fn21 cf21 cl21 rfl ?_
    simp only [ac21]
    unfold ab21
    simp only [WS, seval, stepW, evalA, evalBin, Option.getD, allocA, rowOf, fillA, partsV, setl, AV.len, evalUn, strs_eq, hr, h]
  · rw [if_neg h]
    refine ac_wp fn21 cf21 cl21 rfl ?_
    simp only [ac21]
    unfold ab21
    simp only [WS, seval, stepW, evalA, evalBin, Option.getD, allocA, rowOf, fillA, partsV, setl, AV.len, evalUn, strs_eq, hr, h]
theorem mk_fxd {S : Sc} {p a r : Str} {t : Ty} {w : Rw} : FxdL [.agg S.c, .agg [.str p, .str a, .str r], .agg t.c, .agg w.c] :=
  .cons (.agg (Sc.fxd S)) (.cons (.agg (env_fxd p a r)) (.cons (.agg (Ty.fxd t)) (.cons (.agg (Rw.fxd w)) .nil)))
theorem plainB_st0 {S : Sc} {p a r : Str} {t : Ty} {w : Rw} (ht : TyB S t) (hw : w.ok) : AC Try.prog 49 [.agg S.c, .agg [.str p, .str a, .str r], .agg t.c, .agg w.c] st0 fun v s => ∃ x, Pur s true v x ∧ x = .agg (leafM p r t w).c := by
  obtain ⟨wo, wn, wsx, wk⟩ := w
  rw [Rw.ok_eq] at hw
  have hk := ht.k
  simp only [Rw.c_eq, Sc.c_eq, Ty.c_eq, ints_eq, slc_eq]
  by_cases h1 : t.kind = 1
  · have hv : leafM p r t (.mk wo wn wsx wk) = .mk 1 (decide (wn.tmod 2 = 0)) 0 [] [] [] [] := by rw [leafM, if_pos h1]
    rw [hv]
    have he := ei_rem .i64 wn 2 (by decide)
    refine ac_wp fn49 cf49 cl49 rfl ?_
    simp only [ac49]
    unfold ab49
    simp only [WS, seval, stepW, evalA, evalBin, Option.getD, allocA, rowOf, fillA, partsV, setl, AV.len, evalUn, strs_eq, h1, he, sg07, storeA, sets, setx, TS]
    exact ⟨_, pur_leafX, rfl⟩
  by_cases h2 : t.kind = 2
  · have hv : leafM p r t (.mk wo wn wsx wk) = .mk 2 false (bigN wn) [] [] [] [] := by rw [leafM, if_neg h1, if_pos h2]
    rw [hv]
    refine ac_wp fn49 cf49 cl49 rfl ?_
    simp only [ac49]
    unfold ab49
    simp only [WS, seval, stepW, evalA, evalBin, Option.getD, allocA, rowOf, fillA, partsV, setl, AV.len, evalUn, strs_eq, h2]
    refine within11G_ac.use ?_
    simp only [WS, seval, stepW, evalA, evalBin, Option.getD, allocA, rowOf, fillA, partsV, setl, AV.len, evalUn, strs_eq, sg07, storeA, sets, setx, TS]
    exact ⟨_, pur_leafX, rfl⟩
  by_cases h3 : t.kind = 3
  · have hv : leafM p r t (.mk wo wn wsx wk) = .mk 3 false 0 (idS wsx) [] [] [] := by rw [leafM, if_neg h1, if_neg h2, if_pos h3]
    rw [hv]
    have hI : ∀ σ, AC Try.prog 23 [.int .i64 0, ints wsx] σ fun v s' => s' = σ ∧ v = .agg [.str (uidT (wi 0 5)), .str (idS wsx)] := fun σ => uidL_ac hw.1
    simp only [ints_eq] at hI
    refine ac_wp fn49 cf49 cl49 rfl ?_
    simp only [ac49]
    unfold ab49
    simp only [WS, seval, stepW, evalA, evalBin, Option.getD, allocA, rowOf, fillA, partsV, setl, AV.len, evalUn, strs_eq, h3]
    refine (hI _).use ?_
    simp only [WS, seval, stepW, evalA, evalBin, Option.getD, allocA, rowOf, fillA, partsV, setl, AV.len, evalUn, strs_eq, sg07, storeA, sets, setx, TS]
    exact ⟨_, pur_leafX, rfl⟩
  have h4 : t.kind = 4 := by omega
  have h5 : ¬ t.kind = 5 := by omega
  have he := ei_rem .i64 wn 3 (by decide)
  by_cases c1 : t.name = p ∧ wn.tmod 3 = 0
  · have hv : leafM p r t (.mk wo wn wsx wk) = .mk 5 false 0 prinS [] [] [] := by rw [leafM, if_neg h1, if_neg h2, if_neg h3, if_pos c1]
    rw [hv]
    refine ac_wp fn49 cf49 cl49 rfl ?_
    simp only [ac49]
    unfold ab49
    simp only [WS, seval, stepW, evalA, evalBin, Option.getD, allocA, rowOf, fillA, partsV, setl, AV.len, evalUn, strs_eq, h4, he, decide_eq_true c1.1, decide_eq_true c1.2, sg07, storeA, sets, setx, TS]
    exact ⟨_, pur_leafX, rfl⟩
  by_cases c2 : t.name = r ∧ wn.tmod 3 = 1
  · have hv : leafM p r t (.mk wo wn wsx wk) = .mk 5 false 0 resoS [] [] [] := by rw [leafM, if_neg h1, if_neg h2, if_neg h3, if_neg c1, if_pos c2]
    rw [hv]
    have hn0 : ¬ wn.tmod 3 = 0 := by omega
    by_cases e1 : t.name = p
    · refine ac_wp fn49 cf49 cl49 rfl ?_
      simp only [ac49]
      unfold ab49
      simp only [WS, seval, stepW, evalA, evalBin, Option.getD, allocA, rowOf, fillA, partsV, setl, AV.len, evalUn, strs_eq, h4, he, decide_eq_true e1, decide_eq_false hn0, decide_eq_true c2.1, decide_eq_true c2.2, sg07, storeA, sets, setx, TS]
      exact ⟨_, pur_leafX, rfl⟩
    · refine ac_wp fn49 cf49 cl49 rfl ?_
      simp only [ac49]
      unfold ab49
      simp only [WS, seval, stepW, evalA, evalBin, Option.getD, allocA, rowOf, fillA, partsV, setl, AV.len, evalUn, strs_eq, h4, he, decide_eq_false e1, decide_eq_true c2.1, decide_eq_true c2.2, sg07, storeA, sets, setx, TS]
      exact ⟨_, pur_leafX, rfl⟩
  have hv : leafM p r t (.mk wo wn wsx wk) = .mk 4 false 0 [] t.name [chB wn] [] := by rw [leafM, if_neg h1, if_neg h2, if_neg h3, if_neg c1, if_neg c2]
  rw [hv]
  have hq := ei_quo wn 3 (by decide)
  have hu8 : u8s [.int .u8 (chB wn).toNat] = some [chB wn] := u8s_of [chB wn]
  by_cases e1 : t.name = p
  · have hn0 : ¬ wn.tmod 3 = 0 := fun h => c1 ⟨e1, h⟩
    by_cases e2 : t.name = r
    · have hn1 : ¬ wn.tmod 3 = 1 := fun h => c2 ⟨e2, h⟩
      refine ac_wp fn49 cf49 cl49 rfl ?_
      simp only [ac49]
      unfold ab49
      simp only [WS, seval, stepW, evalA, evalBin, Option.getD, allocA, rowOf, fillA, partsV, setl, AV.len, evalUn, strs_eq, h4, he, decide_eq_true e1, decide_eq_false hn0, decide_eq_true e2, decide_eq_false hn1]
      refine w_dreg follow [] rfl ?_
      generalize hs1 : addSlots _ 13 _ [] = s1
      have k1 : s1.cells 1 = some [.str p, .str a, .str r] := by rw [← hs1]; simp [sl_cells, push_get, push_n, st0_n]
      have k2 : s1.cells 2 = some [.int .i64 t.kind, .int .i64 t.of_, .str t.name] := by rw [← hs1]; simp [sl_cells, push_get, push_n, st0_n, h4]
      have k3 : s1.cells 3 = some [.int .i64 wo, .int .i64 wn, .psl (ofInts wsx) 0 wsx.length, .psl (rowc Rw.c wk) 0 wk.length] := by rw [← hs1]; simp [sl_cells, push_get, push_n, st0_n]
      have k4 : s1.cells 4 = some [.int .i64 0, .bool false, .int .i64 0, .str [], .str [], .str [], .nils] := by rw [← hs1]; simp [sl_cells, push_get, push_n, st0_n]
      have kn : s1.n = 18 := by rw [← hs1]; rfl
      clear hs1
      have f1 : firstA (s1.push (.cells [.int .u8 (chB wn).toNat])) 1 1 (.sl 18 0 1 (some 1) 1) = some [.int .u8 (chB wn).toNat] := firstA_own (cs := [.int .u8 (chB wn).toNat]) (by rw [push_get, if_pos kn.symm]) (by simp)
      have f2 : ∀ cs, firstA ((s1.push (.cells [.int .u8 (chB wn).toNat])).put 4 cs) 1 1 (.sl 18 0 1 (some 1) 1) = some [.int .u8 (chB wn).toNat] := fun cs => firstA_own (cs := [.int .u8 (chB wn).toNat]) (by rw [put_get, if_neg (by decide), push_get, if_pos kn.symm]) (by simp)
      have hch : b8 (IntKind.i64.wrap (97 + wi (quoI wn 3) 5)) = chB wn := rfl
      simp only [WS, seval, stepW, evalA, evalBin, Option.getD, allocA, rowOf, fillA, partsV, setl, AV.len, evalUn, strs_eq, DS, isSl, AOp.pure, AOp.reader, allocD, AOp.quiet, isSlot, Nat.reduceBEq, k1, k2, k3, hq]
      refine (within11_ac (by decide) (by decide)).useD ?_
      simp only [WS, seval, stepW, evalA, evalBin, Option.getD, allocA, rowOf, fillA, partsV, setl, AV.len, evalUn, strs_eq, DS, isSl, AOp.pure, AOp.reader, allocD, AOp.quiet, isSlot, Nat.reduceBEq, fillA, b8_eq, hch, kn, f1, hu8, k4, storeA, sets, setx, TS]
      refine ⟨⟨?_, ?_⟩, ?_⟩
      · intro l hl c hc hf
        simp only [List.mem_cons, List.mem_nil_iff, List.not_mem_nil, or_false] at hl hc
        rcases hl with rfl | rfl | rfl <;> rcases hc with rfl | rfl | rfl | rfl <;> dsimp only at hf ⊢ <;> first
          | (exact absurd hf (by decide +kernel))
          | (simp only [WS, seval, stepW, evalA, evalBin, Option.getD, allocA, rowOf, fillA, partsV, setl, AV.len, evalUn, strs_eq, k2, k3, kn, f1, f2, hu8]; done)
      · intro sl hsl; simp at hsl
      · simp only [WS, seval, stepW, evalA, evalBin, Option.getD, allocA, rowOf, fillA, partsV, setl, AV.len, evalUn, strs_eq, sg07]
        exact ⟨_, pur_leafX, rfl⟩
    · refine ac_wp fn49 cf49 cl49 rfl ?_
      simp only [ac49]
      unfold ab49
      simp only [WS, seval, stepW, evalA, evalBin, Option.getD, allocA, rowOf, fillA, partsV, setl, AV.len, evalUn, strs_eq, h4, he, decide_eq_true e1, decide_eq_false hn0, decide_eq_false e2]
      refine w_dreg follow [] rfl ?_
      generalize hs1 : addSlots _ 13 _ [] = s1
      have k1 : s1.cells 1 = some [.str p, .str a, .str r] := by rw [← hs1]; simp [sl_cells, push_get, push_n, st0_n]
      have k2 : s1.cells 2 = some [.int .i64 t.kind, .int .i64 t.of_, .str t.name] := by rw [← hs1]; simp [sl_cells, push_get, push_n, st0_n, h4]
      have k3 : s1.cells 3 = some [.int .i64 wo, .int .i64 wn, .psl (ofInts wsx) 0 wsx.length, .psl (rowc Rw.c wk) 0 wk.length] := by rw [← hs1]; simp [sl_cells, push_get, push_n, st0_n]
      have k4 : s1.cells 4 = some [.int .i64 0, .bool false, .int .i64 0, .str [], .str [], .str [], .nils] := by rw [← hs1]; simp [sl_cells, push_get, push_n, st0_n]
      have kn : s1.n = 18 := by rw [← hs1]; rfl
      clear hs1
      have f1 : firstA (s1.push (.cells [.int .u8 (chB wn).toNat])) 1 1 (.sl 18 0 1 (some 1) 1) = some [.int .u8 (chB wn).toNat] := firstA_own (cs := [.int .u8 (chB wn).toNat]) (by rw [push_get, if_pos kn.symm]) (by simp)
      have f2 : ∀ cs, firstA ((s1.push (.cells [.int .u8 (chB wn).toNat])).put 4 cs) 1 1 (.sl 18 0 1 (some 1) 1) = some [.int .u8 (chB wn).toNat] := fun cs => firstA_own (cs := [.int .u8 (chB wn).toNat]) (by rw [put_get, if_neg (by decide), push_get, if_pos kn.symm]) (by simp)
      have hch : b8 (IntKind.i64.wrap (97 + wi (quoI wn 3) 5)) = chB wn := rfl
      simp only [WS, seval, stepW, evalA, evalBin, Option.getD, allocA, rowOf, fillA, partsV, setl, AV.len, evalUn, strs_eq, DS, isSl, AOp.pure, AOp.reader, allocD, AOp.quiet, isSlot, Nat.reduceBEq, k1, k2, k3, hq]
      refine (within11_ac (by decide) (by decide)).useD ?_
      simp only [WS, seval, stepW, evalA, evalBin, Option.getD, allocA, rowOf, fillA, partsV, setl, AV.len, evalUn, strs_eq, DS, isSl, AOp.pure, AOp.reader, allocD, AOp.quiet, isSlot, Nat.reduceBEq, fillA, b8_eq, hch, kn, f1, hu8, k4, storeA, sets, setx, TS]
      refine ⟨⟨?_, ?_⟩, ?_⟩
      · intro l hl c hc hf
        simp only [List.mem_cons, List.mem_nil_iff, List.not_mem_nil, or_false] at hl hc
        rcases hl with rfl | rfl | rfl <;> rcases hc with rfl | rfl | rfl | rfl <;> dsimp only at hf ⊢ <;> first
          | (exact absurd hf (by decide +kernel))
          | (simp only [WS, seval, stepW, evalA, evalBin, Option.getD, allocA, rowOf, fillA, partsV, setl, AV.len, evalUn, strs_eq, k2, k3, kn, f1, f2, hu8]; done)
      · intro sl hsl; simp at hsl
      · simp only [WS, seval, stepW, evalA, evalBin, Option.getD, allocA, rowOf, fillA, partsV, setl, AV.len, evalUn, strs_eq, sg07]
        exact ⟨_, pur_leafX, rfl⟩
  · by_cases e2 : t.name = r
    · have hn1 : ¬ wn.tmod 3 = 1 := fun h => c2 ⟨e2, h⟩
      refine ac_wp fn49 cf49 cl49 rfl ?_
      simp only [ac49]
      unfold ab49
      simp only [WS, seval, stepW, evalA, evalBin, Option.getD, allocA, rowOf, fillA, partsV, setl, AV.len, evalUn, strs_eq, h4, he, decide_eq_false e1, decide_eq_true e2, decide_eq_false hn1]
      refine w_dreg follow [] rfl ?_
      generalize hs1 : addSlots _ 13 _ [] = s1
      have k1 : s1.cells 1 = some [.str p, .str a, .str r] := by rw [← hs1]; simp [sl_cells, push_get, push_n, st0_n]
      have k2 : s1.cells 2 = some [.int .i64 t.kind, .int .i64 t.of_, .str t.name] := by rw [← hs1]; simp [sl_cells, push_get, push_n, st0_n, h4]
      have k3 : s1.cells 3 = some [.int .i64 wo, .int .i64 wn, .psl (ofInts wsx) 0 wsx.length, .psl (rowc Rw.c wk) 0 wk.length] := by rw [← hs1]; simp [sl_cells, push_get, push_n, st0_n]
      have k4 : s1.cells 4 = some [.int .i64 0, .bool false, .int .i64 0, .str [], .str [], .str [], .nils] := by rw [← hs1]; simp [sl_cells, push_get, push_n, st0_n]
      have kn : s1.n = 18 := by rw [← hs1]; rfl
      clear hs1
      have f1 : firstA (s1.push (.cells [.int .u8 (chB wn).toNat])) 1 1 (.sl 18 0 1 (some 1) 1) = some [.int .u8 (chB wn).toNat] := firstA_own (cs := [.int .u8 (chB wn).toNat]) (by rw [push_get, if_pos kn.symm]) (by simp)
      have f2 : ∀ cs, firstA ((s1.push (.cells [.int .u8 (chB wn).toNat])).put 4 cs) 1 1 (.sl 18 0 1 (some 1) 1) = some [.int .u8 (chB wn).toNat] := fun cs => firstA_own (cs := [.int .u8 (chB wn).toNat]) (by rw [put_get, if_neg (by decide), push_get, if_pos kn.symm]) (by simp)
      have hch : b8 (IntKind.i64.wrap (97 + wi (quoI wn 3) 5)) = chB wn := rfl
      simp only [WS, seval, stepW, evalA, evalBin, Option.getD, allocA, rowOf, fillA, partsV, setl, AV.len, evalUn, strs_eq, DS, isSl, AOp.pure, AOp.reader, allocD, AOp.quiet, isSlot, Nat.reduceBEq, k1, k2, k3, hq]
      refine (within11_ac (by decide) (by decide)).useD ?_
      simp only [WS, seval, stepW, evalA, evalBin, Option.getD, allocA, rowOf, fillA, partsV, setl, AV.len, evalUn, strs_eq, DS, isSl, AOp.pure, AOp.reader, allocD, AOp.quiet, isSlot, Nat.reduceBEq, fillA, b8_eq, hch, kn, f1, hu8, k4, storeA, sets, setx, TS]
      refine ⟨⟨?_, ?_⟩, ?_⟩
      · intro l hl c hc hf
        simp only [List.mem_cons, List.mem_nil_iff, List.not_mem_nil, or_false] at hl hc
        rcases hl with rfl | rfl | rfl <;> rcases hc with rfl | rfl | rfl | rfl <;> dsimp only at hf ⊢ <;> first
          | (exact absurd hf (by decide +kernel))
          | (simp only [WS, seval, stepW, evalA, evalBin, Option.getD, allocA, rowOf, fillA, partsV, setl, AV.len, evalUn, strs_eq, k2, k3, kn, f1, f2, hu8]; done)
      · intro sl hsl; simp at hsl
      · simp only [WS, seval, stepW, evalA, evalBin, Option.getD, allocA, rowOf, fillA, partsV, setl, AV.len, evalUn, strs_eq, sg07]
        exact ⟨_, pur_leafX, rfl⟩
    · refine ac_wp fn49 cf49 cl49 rfl ?_
      simp only [ac49]
      unfold ab49
      simp only [WS, seval, stepW, evalA, evalBin, Option.getD, allocA, rowOf, fillA, partsV, setl, AV.len, evalUn, strs_eq, h4, he, decide_eq_false e1, decide_eq_false e2]
      refine w_dreg follow [] rfl ?_
      generalize hs1 : addSlots _ 13 _ [] = s1
      have k1 : s1.cells 1 = some [.str p, .str a, .str r] := by rw [← hs1]; simp [sl_cells, push_get, push_n, st0_n]
      have k2 : s1.cells 2 = some [.int .i64 t.kind, .int .i64 t.of_, .str t.name] := by rw [← hs1]; simp [sl_cells, push_get, push_n, st0_n, h4]
      have k3 : s1.cells 3 = some [.int .i64 wo, .int .i64 wn, .psl (ofInts wsx) 0 wsx.length, .psl (rowc Rw.c wk) 0 wk.length] := by rw [← hs1]; simp [sl_cells, push_get, push_n, st0_n]
      have k4 : s1.cells 4 = some [.int .i64 0, .bool false, .int .i64 0, .str [], .str [], .str [], .nils] := by rw [← hs1]; simp [sl_cells, push_get, push_n, st0_n]
      have kn : s1.n = 18 := by rw [← hs1]; rfl
      clear hs1
      have f1 : firstA (s1.push (.cells [.int .u8 (chB wn).toNat])) 1 1 (.sl 18 0 1 (some 1) 1) = some [.int .u8 (chB wn).toNat] := firstA_own (cs := [.int .u8 (chB wn).toNat]) (by rw [push_get, if_pos kn.symm]) (by simp)
      have f2 : ∀ cs, firstA ((s1.push (.cells [.int .u8 (chB wn).toNat])).put 4 cs) 1 1 (.sl 18 0 1 (some 1) 1) = some [.int .u8 (chB wn).toNat] := fun cs => firstA_own (cs := [.int .u8 (chB wn).toNat]) (by rw [put_get, if_neg (by decide), push_get, if_pos kn.symm]) (by simp)
      have hch : b8 (IntKind.i64.wrap (97 + wi (quoI wn 3) 5)) = chB wn := rfl
      simp only [WS, seval, stepW, evalA, evalBin, Option.getD, allocA, rowOf, fillA, partsV, setl, AV.len, evalUn, strs_eq, DS, isSl, AOp.pure, AOp.reader, allocD, AOp.quiet, isSlot, Nat.reduceBEq, k1, k2, k3, hq]
      refine (within11_ac (by decide) (by decide)).useD ?_
      simp only [WS, seval, stepW, evalA, evalBin, Option.getD, allocA, rowOf, fillA, partsV, setl, AV.len, evalUn, strs_eq, DS, isSl, AOp.pure, AOp.reader, allocD, AOp.quiet, isSlot, Nat.reduceBEq, fillA, b8_eq, hch, kn, f1, hu8, k4, storeA, sets, setx, TS]
      refine ⟨⟨?_, ?_⟩, ?_⟩
      · intro l hl c hc hf
        simp only [List.mem_cons, List.mem_nil_iff, List.not_mem_nil, or_false] at hl hc
        rcases hl with rfl | rfl | rfl <;> rcases hc with rfl | rfl | rfl | rfl <;> dsimp only at hf ⊢ <;> first
          | (exact absurd hf (by decide +kernel))
          | (simp only [WS, seval, stepW, evalA, evalBin, Option.getD, allocA, rowOf, fillA, partsV, setl, AV.len, evalUn, strs_eq, k2, k3, kn, f1, f2, hu8]; done)
      · intro sl hsl; simp at hsl
      · simp only [WS, seval, stepW, evalA, evalBin, Option.getD, allocA, rowOf, fillA, partsV, setl, AV.len, evalUn, strs_eq, sg07]
        exact ⟨_, pur_leafX, rfl⟩
theorem plainB_ac {S : Sc} {p a r : Str} {t : Ty} {w : Rw} {σ : AState} (ht : TyB S t) (hw : w.ok) : AC Try.prog 49 [.agg S.c, .agg [.str p, .str a, .str r], .agg t.c, .agg w.c] σ fun v s => s = σ ∧ v = .agg (leafM p r t w).c :=
  AC.share mk_fxd (plainB_st0 ht hw)
theorem pur_oneX {σ : AState} {op : Int} {b : Bool} {n : Int} {s u v : Str} {q : Nat} {cap : Option Nat} {e : Ex} (hq : σ.cells q = some e.c) : Pur σ true (.agg [.int .i64 op, .bool b, .int .i64 n, .str s, .str u, .str v, .sl q 0 1 cap 7]) (.agg (Ex.mk op b n s u v [e]).c) :=
  pur_oneE hq (Ex.c_len e) (PurL.self (pur_ex σ e))
theorem plain_ac {S : Sc} {p a r : Str} {t : Ty} {w : Rw} {σ : AState} (ht : TyK S t) (hw : w.ok) : AC Try.prog 49 [.agg S.c, .agg [.str p, .str a, .str r], .agg t.c, .agg w.c] σ fun v s => s = σ ∧ v = .agg (plainX p r t w).c := by
  rcases ht with ht | ⟨h5, ht⟩
  · have hv : plainX p r t w = leafM p r t w := by unfold plainX; rw [if_neg (by have := ht.k; omega)]
    rw [hv]; exact plainB_ac ht hw
  · have hv : plainX p r t w = .mk 6 false 0 [] [] [] [leafM p r ⟨t.of_, 0, t.name⟩ w] := by unfold plainX; rw [if_pos h5]
    rw [hv]
    refine AC.share mk_fxd ?_
    have hB : ∀ σ, AC Try.prog 49 [.agg S.c, .agg [.str p, .str a, .str r], .agg (Ty.c ⟨t.of_, 0, t.name⟩), .agg w.c] σ fun v s => s = σ ∧ v = .agg (leafM p r ⟨t.of_, 0, t.name⟩ w).c := fun σ => plainB_ac ht hw
    generalize leafM p r ⟨t.of_, 0, t.name⟩ w = E at *
    have hE7 := Ex.c_len E
    have hpo := fun (σ : AState) (q : Nat) (h : σ.cells q = some E.c) => pur_oneX (op := 6) (b := false) (n := 0) (s := []) (u := []) (v := []) (cap := some 1) h
    obtain ⟨wo, wn, wsx, wk⟩ := w
    obtain ⟨eop, eb, en, es, eut, eui, ek⟩ := E
    have sg := scSeg S
    simp only [Rw.c_eq, Sc.c_eq, Ty.c_eq, Ex.c_eq, ints_eq, slc_eq] at hB hpo ⊢
    refine ac_wp fn49 cf49 cl49 rfl ?_
    simp only [ac49]
    unfold ab49
    simp only [WS, seval, stepW, evalA, evalBin, Option.getD, allocA, rowOf, fillA, partsV, setl, AV.len, evalUn, strs_eq, h5, sg, sg03, sg04]
    refine (hB _).use ?_
    simp only [WS, seval, stepW, evalA, evalBin, Option.getD, allocA, rowOf, fillA, partsV, setl, AV.len, evalUn, strs_eq, fillA, sg07, storeA, sets, setx, TS]
    exact ⟨_, hpo _ _ (by simp [put_get, push_get, push_n, st0_n]), rfl⟩
end Go.Proofs.Ytcdbpmmomgehfaa.Va
