/- The law TypesOf. Conditions: none. -/
import Derived.Test.YtcdbpmmomgehfaaTy26
set_option maxRecDepth 100000
set_option maxHeartbeats 4000000
set_option linter.all false
namespace Go.Proofs.Ytcdbpmmomgehfaa.Va
open Go.Proofs
theorem known11_ac {σ : AState} : AC Try.prog 11 [] σ fun v s => s = σ ∧ v = .bool true := by
  have h : (match runF tab 400 11 [] st0 with | some (.bool true, _) => true | _ => false) = true := by kernel_rfl
  split at h
  · rename_i s e
    exact (AC.plain (a := .bool true) rfl (fun x hx => by cases hx) ((runs 400 _ _ _ _ _ e).mono fun v' s' hv => hv.1)).mono fun v s h => ⟨h.2, h.1⟩
  · cases h
theorem typesOf_ac {ks : List RKd} {ac : List RAc} {r : Rw} {n : Int} {p q : Str} (hr : r.ok) :
    AC Try.prog 3 [slc RKd.c ks, slc RAc.c ac, .agg r.c, .int .i64 n, .str p, .str q] st0 fun v _ => v = .bool true := by
  have hfew : ∀ σ, AC Try.prog 12 [.agg r.c, .int .i64 150] σ fun v s' => s' = σ ∧ ∃ k, v = .int .i64 k := fun σ => few5_ac r hr 150 σ
  have htree : ∀ σ, AC Try.prog 14 [.agg r.c, .int .i64 ((10 : Nat) : Int)] σ fun v s' => s' = σ ∧ v = .agg (treeX 10 r).c := fun σ => tree_ac 10 (by decide) r hr σ
  have hwf := treeX_wf 10 r
  have hof : ∀ (S : Sc) (a b c : Str) (σ : AState), ScR S → AC Try.prog 16 [.agg S.c, .agg [.str a, .str b, .str c], .agg (treeX 10 r).c] σ fun v s => s = σ ∧ v = .bool true := fun S a b c σ h => ofL_ac h hwf
  generalize treeX 10 r = E at *
  obtain ⟨eop, eb, en, es, eut, eui, ek⟩ := E
  obtain ⟨rop, rn, rs, rk⟩ := r
  have sg4 : ∀ a b c d : AV, seg [a, b, c, d] 0 4 = [a, b, c, d] := fun _ _ _ _ => rfl
  have sgE : ∀ a b c : AV, seg [a, b, c] 0 3 = [a, b, c] := fun _ _ _ => rfl
  simp only [Rw.c_eq, Ex.c_eq, ints_eq, slc_eq] at hfew htree hof ⊢
  refine ac_s fn3 cf3 cl3 rfl ?_
  simp only [ac3]
  unfold ab3
  refine s_mid (fun ρ s => ρ.rd 0 = slc RKd.c ks ∧ ρ.rd 1 = slc RAc.c ac ∧ ρ.rd 3 = .int .i64 n ∧ ρ.rd 4 = .str p ∧ ρ.rd 5 = .str q ∧ ρ.rd 8 = .ptr 0 0 ∧ s.cells 0 = some [.int .i64 rop, .int .i64 rn, .psl (ofInts rs) 0 rs.length, .psl (rowc Rw.c rk) 0 rk.length] ∧ s.n = 1) ?_ ?_
  · simp only [WS, stepW, evalA, reduceIte, Nat.reduceEqDiff, reduceCtorEq, evalBin, Option.getD, Int.reduceToNat, Nat.reduceMul, Nat.reduceAdd, allocA, rowOf, fillA, partsV, setl, Nat.reduceLeDiff, AV.len, evalUn, Int.reduceLT, Int.reduceLE, Int.reduceEq, Int.reduceNe, strs_eq]
  rintro ρ s ⟨h0, h1, h3, h4, h5, h8, c0, hn⟩
  refine s_mid (fun ρ s => ρ.rd 0 = slc RKd.c ks ∧ ρ.rd 1 = slc RAc.c ac ∧ ρ.rd 3 = .int .i64 n ∧ ρ.rd 4 = .str p ∧ ρ.rd 5 = .str q ∧ ρ.rd 8 = .ptr 0 0 ∧ s.cells 0 = some [.int .i64 rop, .int .i64 rn, .psl (ofInts rs) 0 rs.length, .psl (rowc Rw.c rk) 0 rk.length] ∧ s.n = 1) ?_ ?_
  · simp only [WS, stepW, evalA, reduceIte, Nat.reduceEqDiff, reduceCtorEq, evalBin, Option.getD, Int.reduceToNat, Nat.reduceMul, Nat.reduceAdd, allocA, rowOf, fillA, partsV, setl, Nat.reduceLeDiff, AV.len, evalUn, Int.reduceLT, Int.reduceLE, Int.reduceEq, Int.reduceNe, strs_eq, h0, h1, h3, h4, h5, h8, c0, hn]
    refine known11_ac.use ?_
    simp only [WS, stepW, evalA, reduceIte, Nat.reduceEqDiff, reduceCtorEq, evalBin, Option.getD, Int.reduceToNat, Nat.reduceMul, Nat.reduceAdd, allocA, rowOf, fillA, partsV, setl, Nat.reduceLeDiff, AV.len, evalUn, Int.reduceLT, Int.reduceLE, Int.reduceEq, Int.reduceNe, strs_eq, h0, h1, h3, h4, h5, h8, c0, hn]
  clear h0 h1 h3 h4 h5 h8 c0 hn
  rintro ρ s ⟨h0, h1, h3, h4, h5, h8, c0, hn⟩
  refine s_mid (fun ρ s => ρ.rd 0 = slc RKd.c ks ∧ ρ.rd 1 = slc RAc.c ac ∧ ρ.rd 3 = .int .i64 n ∧ ρ.rd 4 = .str p ∧ ρ.rd 5 = .str q ∧ ρ.rd 8 = .ptr 0 0 ∧ s.cells 0 = some [.int .i64 rop, .int .i64 rn, .psl (ofInts rs) 0 rs.length, .psl (rowc Rw.c rk) 0 rk.length] ∧ s.n = 1) ?_ ?_
  · simp only [WS, stepW, evalA, reduceIte, Nat.reduceEqDiff, reduceCtorEq, evalBin, Option.getD, Int.reduceToNat, Nat.reduceMul, Nat.reduceAdd, allocA, rowOf, fillA, partsV, setl, Nat.reduceLeDiff, AV.len, evalUn, Int.reduceLT, Int.reduceLE, Int.reduceEq, Int.reduceNe, strs_eq, h0, h1, h3, h4, h5, h8, c0, hn, sg4]
    refine (hfew _).mono ?_
    rintro v s' ⟨rfl, k, rfl⟩
    by_cases hk : k = 0
    · simp only [WS, stepW, evalA, reduceIte, Nat.reduceEqDiff, reduceCtorEq, evalBin, Option.getD, Int.reduceToNat, Nat.reduceMul, Nat.reduceAdd, allocA, rowOf, fillA, partsV, setl, Nat.reduceLeDiff, AV.len, evalUn, Int.reduceLT, Int.reduceLE, Int.reduceEq, Int.reduceNe, strs_eq, hk]
    · by_cases hl : 100 < IntKind.i64.wrap ((p.length : Int) + (q.length : Int))
      · simp only [WS, stepW, evalA, reduceIte, Nat.reduceEqDiff, reduceCtorEq, evalBin, Option.getD, Int.reduceToNat, Nat.reduceMul, Nat.reduceAdd, allocA, rowOf, fillA, partsV, setl, Nat.reduceLeDiff, AV.len, evalUn, Int.reduceLT, Int.reduceLE, Int.reduceEq, Int.reduceNe, strs_eq, hk, h0, h1, h3, h4, h5, h8, c0, hn, hl]
      · simp only [WS, stepW, evalA, reduceIte, Nat.reduceEqDiff, reduceCtorEq, evalBin, Option.getD, Int.reduceToNat, Nat.reduceMul, Nat.reduceAdd, allocA, rowOf, fillA, partsV, setl, Nat.reduceLeDiff, AV.len, evalUn, Int.reduceLT, Int.reduceLE, Int.reduceEq, Int.reduceNe, strs_eq, hk, h0, h1, h3, h4, h5, h8, c0, hn, hl]
  clear h0 h1 h3 h4 h5 h8 c0 hn
  rintro ρ s ⟨h0, h1, h3, h4, h5, h8, c0, hn⟩
  refine s_frz (fun ρ s => ρ.rd 3 = .int .i64 n ∧ ρ.rd 4 = .str p ∧ ρ.rd 5 = .str q ∧ ρ.rd 8 = .ptr 0 0 ∧ s.cells 0 = some [.int .i64 rop, .int .i64 rn, .psl (ofInts rs) 0 rs.length, .psl (rowc Rw.c rk) 0 rk.length] ∧ ∃ b S, ρ.rd 13 = .ptr b 0 ∧ b < s.n ∧ s.cells b = some [slc Kd.c S.kinds, slc Ac.c S.acts] ∧ ScN S) ?_ ?_
  · simp only [WS, stepW, evalA, reduceIte, Nat.reduceEqDiff, reduceCtorEq, evalBin, Option.getD, Int.reduceToNat, Nat.reduceMul, Nat.reduceAdd, allocA, rowOf, fillA, partsV, setl, Nat.reduceLeDiff, AV.len, evalUn, Int.reduceLT, Int.reduceLE, Int.reduceEq, Int.reduceNe, strs_eq, h0, h1, h3, h4, h5, h8, c0, hn]
    refine good_ac.mono ?_
    rintro v s1 ⟨hk, m, S, x, y, rfl, hm3, hms, hrx, hry, hS⟩
    have hxy : x.one = true ∧ y.one = true := by
      constructor
      · rcases hrx.form with rfl | ⟨_, _, rfl⟩ <;> rfl
      · rcases hry.form with rfl | ⟨_, _, rfl⟩ <;> rfl
    have d0 := (hk.cells (b := 0) (by omega)).trans c0
    have hk1 := hk.1
    simp only [WS, stepW, evalA, reduceIte, Nat.reduceEqDiff, reduceCtorEq, evalBin, Option.getD, Int.reduceToNat, Nat.reduceMul, Nat.reduceAdd, allocA, rowOf, fillA, partsV, setl, Nat.reduceLeDiff, AV.len, evalUn, Int.reduceLT, Int.reduceLE, Int.reduceEq, Int.reduceNe, strs_eq, h0, h1, h3, h4, h5, h8, c0, hn, hxy, frzQ_normal, frzQ_exit, frzQ_ret, storeA, sets, setx, List.take_zero, List.drop_succ_cons, List.drop_zero, List.take_succ_cons]
    have hq : ((s1.push (.cells [.nils, .nils])).put s1.n [x, y]).cells s1.n = some [x, y] := by rw [put_get, if_pos rfl]
    refine Frz.sc (S := S) hq (p := fun b => s.n ≤ b ∧ b < m) (p' := fun b => m ≤ b ∧ b < s1.n) ?_ ?_ (by omega) (by omega) (fun b h1 h2 => by omega) fun s2 e1 e2 e3 => ?_
    · exact RowP.put (hrx.push _) (by omega) _
    · exact RowP.put ((hry.mono fun b h1 h2 => ⟨h1, h2⟩).push _) (by omega) _
    have f0 : s2.cells 0 = _ := (get_cells (e3 0 (by omega) (by omega) (by omega))).trans (by rw [put_get, if_neg (by omega), push_get, if_neg (by omega)])
    simp only [WS, stepW, evalA, reduceIte, Nat.reduceEqDiff, reduceCtorEq, evalBin, Option.getD, Int.reduceToNat, Nat.reduceMul, Nat.reduceAdd, allocA, rowOf, fillA, partsV, setl, Nat.reduceLeDiff, AV.len, evalUn, Int.reduceLT, Int.reduceLE, Int.reduceEq, Int.reduceNe, strs_eq, h0, h1, h3, h4, h5, h8, c0, hn, f0]
    exact ⟨d0, s1.n, S, rfl, by rw [e1]; exact Nat.lt_succ_self _, by simpa [slc_eq] using e2, hS⟩
  clear h0 h1 h3 h4 h5 h8 c0 hn
  rintro ρ s ⟨h3, h4, h5, h8, c0, b, S, h13, hb, cb, hS⟩
  have hR := hS.r
  have hal := hS.al
  have hof := fun a b c σ => hof S a b c σ hR
  have hE : ∀ σ, AC Try.prog 15 [.agg S.c, .int .i64 n] σ fun v s => s = σ ∧ v = .tup [.agg (if hasEnv S = true then envX S n else noEn).c, .bool (hasEnv S)] := fun σ => env_ac hR.m (by omega)
  generalize (if hasEnv S = true then envX S n else noEn) = X at *
  have sg := scSeg S
  simp only [Sc.c_eq, slc_eq, En.c_eq] at hE hof cb
  have z10 : ((10 : Nat) : Int) = 10 := rfl
  rw [z10] at htree
  refine s_wp ?_
  have nb : ¬ b = s.n := by omega
  have nb1 : ¬ b = s.n + 1 := by omega
  have nn : ¬ s.n = s.n + 1 := by omega
  simp only [WS, stepW, evalA, reduceIte, Nat.reduceEqDiff, reduceCtorEq, evalBin, Option.getD, Int.reduceToNat, Nat.reduceMul, Nat.reduceAdd, allocA, rowOf, fillA, partsV, setl, Nat.reduceLeDiff, AV.len, evalUn, Int.reduceLT, Int.reduceLE, Int.reduceEq, Int.reduceNe, strs_eq, h3, h4, h5, h8, c0, h13, cb, sg4]
  refine (htree _).use ?_
  simp only [WS, stepW, evalA, reduceIte, Nat.reduceEqDiff, reduceCtorEq, evalBin, Option.getD, Int.reduceToNat, Nat.reduceMul, Nat.reduceAdd, allocA, rowOf, fillA, partsV, setl, Nat.reduceLeDiff, AV.len, evalUn, Int.reduceLT, Int.reduceLE, Int.reduceEq, Int.reduceNe, strs_eq, h3, h4, h5, h8, c0, h13, cb, sg4, sg07, sg, nb, storeA, sets, setx, List.take_zero, List.drop_succ_cons, List.drop_zero, List.take_succ_cons]
  refine (hE _).use ?_
  simp only [WS, stepW, evalA, reduceIte, Nat.reduceEqDiff, reduceCtorEq, evalBin, Option.getD, Int.reduceToNat, Nat.reduceMul, Nat.reduceAdd, allocA, rowOf, fillA, partsV, setl, Nat.reduceLeDiff, AV.len, evalUn, Int.reduceLT, Int.reduceLE, Int.reduceEq, Int.reduceNe, strs_eq, h3, h4, h5, h8, c0, h13, cb, sg4, sg07, sg, nb, nb1, nn, sgE, storeA, sets, setx, List.take_zero, List.drop_succ_cons, List.drop_zero, List.take_succ_cons]
  refine (hof _ _ _ _).use ?_
  cases hasEnv S with
  | false => simp only [WS, stepW, evalA, reduceIte, Nat.reduceEqDiff, reduceCtorEq, evalBin, Option.getD, Int.reduceToNat, Nat.reduceMul, Nat.reduceAdd, allocA, rowOf, fillA, partsV, setl, Nat.reduceLeDiff, AV.len, evalUn, Int.reduceLT, Int.reduceLE, Int.reduceEq, Int.reduceNe, strs_eq]
  | true =>
    simp only [WS, stepW, evalA, reduceIte, Nat.reduceEqDiff, reduceCtorEq, evalBin, Option.getD, Int.reduceToNat, Nat.reduceMul, Nat.reduceAdd, allocA, rowOf, fillA, partsV, setl, Nat.reduceLeDiff, AV.len, evalUn, Int.reduceLT, Int.reduceLE, Int.reduceEq, Int.reduceNe, strs_eq, h3, h4, h5, h8, c0, h13, cb, sg4, sg07, sg, nb, nb1, nn, sgE, storeA, sets, setx, List.take_zero, List.drop_succ_cons, List.drop_zero, List.take_succ_cons]
    refine (hof _ _ _ _).use ?_
    simp only [WS, stepW, evalA, reduceIte, Nat.reduceEqDiff, reduceCtorEq, evalBin, Option.getD, Int.reduceToNat, Nat.reduceMul, Nat.reduceAdd, allocA, rowOf, fillA, partsV, setl, Nat.reduceLeDiff, AV.len, evalUn, Int.reduceLT, Int.reduceLE, Int.reduceEq, Int.reduceNe, strs_eq]
end Go.Proofs.Ytcdbpmmomgehfaa.Va
