/- chancellaw11.Policy: some policy. Conditions: none. (printed by gen_pol11.py) -/
import Derived.Test.YtcdbpmmomgehfaaTC
import Derived.Test.YtcdbpmmomgehfaaTy41
import Derived.Test.YtcdbpmmomgehfaaTy37
import Derived.Test.YtcdbpmmomgehfaaTy28
set_option maxRecDepth 100000
set_option maxHeartbeats 4000000
set_option linter.all false
namespace Go.Proofs.Ytcdbpmmomgehfaa.Va
open Go.Proofs
theorem policy11_st0 {S : Sc} {k : Int} {us : List Int} {made : List Rw} (hS : ScN S) (hus : us.length ≤ Most) (hcl : made.length ≤ Most) (hrs : ∀ r ∈ made, r.ok) :
    AC Try.prog 28 [.agg S.c, .int .i64 k, ints us, slc Rw.c made] st0 fun v s => ∃ a, Pur s true v a ∧ ∃ P, a = .agg (Po.c P) ∧ PoG P := by
  have hR := hS.r
  have sg := scSeg S
  have sgE : ∀ a b c : AV, seg [a, b, c] 0 3 = [a, b, c] := fun _ _ _ => rfl
  have hE : ∀ σ, AC Try.prog 15 [.agg S.c, .int .i64 (quoI k 2)] σ fun v s => s = σ ∧ v = .tup [.agg (if hasEnv S = true then envX S (quoI k 2) else noEn).c, .bool (hasEnv S)] := fun σ => env_ac hR.m (by have := hS.al; omega)
  have hW2 : ∀ (n : Int) σ, AC Try.prog 21 [.int .i64 n, .int .i64 2] σ fun v s' => s' = σ ∧ v = .int .i64 (wi n 2) := fun n σ => within11_ac (by decide) (by decide)
  have hW5 : ∀ (n : Int) σ, AC Try.prog 21 [.int .i64 n, .int .i64 5] σ fun v s' => s' = σ ∧ v = .int .i64 (wi n 5) := fun n σ => within11_ac (by decide) (by decide)
  have hrem := ei_rem .i64 k 2 (by decide)
  have hq2 := ei_quo k 2 (by decide)
  have hM : ∀ (X : En) (w : Rw) σ, hasS S.kinds X.p = true → hasS S.kinds X.r = true → w.ok → AC Try.prog 37 [.agg S.c, .agg [.str X.p, .str X.a, .str X.r], .agg [.int .i64 1, .int .i64 0, .str []], .agg w.c, .int .i64 (5 : Int)] σ fun v s => s = σ ∧ v = .agg (makeX S X.p X.r 5 tB w).c :=
    fun X w σ hp hr hw => make_ac (a := X.a) (by decide) hR.m (by have := hS.kl; omega) (tyK_B S) hp hr hw
  have hMw : ∀ (X : En) (w : Rw), hasS S.kinds X.p = true → hasS S.kinds X.r = true → (makeX S X.p X.r 5 tB w).wf := fun X w hp hr => (made_all hS hp hr 5 tB w (tyK_B S)).1
  have hkn : hasEnv S = true → hasS S.kinds (envX S (quoI k 2)).p = true ∧ hasS S.kinds (envX S (quoI k 2)).r = true := fun h => envs_known hS (envX_mem h)
  simp only [ints_eq, slc_eq, Sc.c_eq, En.c_eq] at hE hM ⊢
  refine ac_wp fn28 cf28 cl28 rfl ?_
  simp only [ac28]
  unfold ab28
  simp only [wpC_seq, wpC_skip, wpCK_normal]
  refine w_mid (fun ρ s => ρ.rd 1 = .int .i64 k ∧ ρ.rd 2 = .psl (ofInts us) 0 us.length ∧ ρ.rd 3 = .psl (rowc Rw.c made) 0 made.length ∧ ρ.rd 4 = .ptr 0 0 ∧ ρ.rd 8 = .ptr 1 0 ∧ s.n = 2 ∧ s.cells 0 = some [.psl (rowc Kd.c S.kinds) 0 S.kinds.length, .psl (rowc Ac.c S.acts) 0 S.acts.length] ∧ s.cells 1 = some [.bool false, .int .i64 0, .str [], .str [], .int .i64 0, .str [], .str [], .int .i64 0, .str [], .str [], .nils]) ?_ ?_
  · simp only [WU, seval, strs_eq]
  rintro ρ s ⟨h1, h2, h3, h4, h8, hn, c0, c1⟩
  rw [wpC_seq]
  refine w_mid (fun ρ s => ρ.rd 1 = .int .i64 k ∧ ρ.rd 2 = .psl (ofInts us) 0 us.length ∧ ρ.rd 3 = .psl (rowc Rw.c made) 0 made.length ∧ ρ.rd 4 = .ptr 0 0 ∧ ρ.rd 8 = .ptr 1 0 ∧ s.n = 3 ∧ s.cells 0 = some [.psl (rowc Kd.c S.kinds) 0 S.kinds.length, .psl (rowc Ac.c S.acts) 0 S.acts.length] ∧ s.cells 1 = some [.bool false, .int .i64 0, .str [], .str [], .int .i64 0, .str [], .str [], .int .i64 0, .str [], .str [], .nils] ∧ ρ.rd 9 = .ptr 2 0 ∧ ∃ f, s.cells 2 = some [.bool f, .int .i64 0, .str [], .str [], .int .i64 0, .str [], .str [], .int .i64 0, .str [], .str [], .nils]) ?_ ?_
  · simp only [WU, seval, strs_eq, h1, h2, h3, h4, h8, hrem, hn, c0, c1, storeA, sets, setx, TS]
    exact ⟨_, rfl⟩
  clear h1 h2 h3 h4 h8 hn c0 c1
  rintro ρ s ⟨h1, h2, h3, h4, h8, hn, c0, c1, h9, f, c2⟩
  rw [wpC_seq]
  cases hhas : hasEnv S with
  | false =>
    rw [hhas] at hE
    have sg11 : ∀ a b c d e f g h i j k : AV, seg [a, b, c, d, e, f, g, h, i, j, k] 0 11 = [a, b, c, d, e, f, g, h, i, j, k] := fun _ _ _ _ _ _ _ _ _ _ _ => rfl
    simp only [WU, seval, strs_eq, h1, h2, h3, h4, h8, hn, c0, c1, h9, c2, sg, hq2]
    refine (hE _).use ?_
    simp only [WU, seval, strs_eq, h1, h2, h3, h4, h8, hn, c0, c1, h9, c2, sgE, sg11, storeA, sets, setx, TS]
    exact ⟨_, pur_po1 (C := []) (q := fun _ => True) (p := ⟨0, [], []⟩) (a := ⟨0, [], []⟩) (r := ⟨0, [], []⟩) (RowP.nil _ _ _), _, rfl, ⟨by simp, by simp⟩⟩
  | true =>
  rw [hhas, if_pos rfl] at hE
  obtain ⟨hp, hr⟩ := hkn hhas
  clear hkn
  generalize envX S (quoI k 2) = X at *
  have hM := fun w σ hw => hM X w σ hp hr hw
  have hMw := fun w => hMw X w hp hr
  refine w_mid (fun ρ s => ρ.rd 1 = .int .i64 k ∧ ρ.rd 2 = .psl (ofInts us) 0 us.length ∧ ρ.rd 3 = .psl (rowc Rw.c made) 0 made.length ∧ ρ.rd 4 = .ptr 0 0 ∧ ρ.rd 8 = .ptr 1 0 ∧ 4 ≤ s.n ∧ s.cells 0 = some [.psl (rowc Kd.c S.kinds) 0 S.kinds.length, .psl (rowc Ac.c S.acts) 0 S.acts.length] ∧ s.cells 1 = some [.bool false, .int .i64 0, .str [], .str [], .int .i64 0, .str [], .str [], .int .i64 0, .str [], .str [], .nils] ∧ ρ.rd 9 = .ptr 2 0 ∧ ρ.rd 10 = .ptr 3 0 ∧ s.cells 3 = some [.str X.p, .str X.a, .str X.r] ∧ ρ.rd 11 = .bool true ∧ ∃ pk pu pi ak au ai rk ru ri, s.cells 2 = some [.bool f, .int .i64 pk, .str pu, .str pi, .int .i64 ak, .str au, .str ai, .int .i64 rk, .str ru, .str ri, .nils]) ?_ ?_
  · simp only [WU, seval, strs_eq, h1, h2, h3, h4, h8, hn, c0, c1, h9, c2, sg, hq2]
    refine (hE _).use ?_
    simp only [WU, seval, strs_eq, h1, h2, h3, h4, h8, hn, c0, c1, h9, c2, sgE, storeA, sets, setx, TS]
    exact ⟨_, _, _, _, _, _, _, _, _, rfl⟩
  clear h1 h2 h3 h4 h8 hn c0 c1 h9 c2
  rintro ρ s ⟨h1, h2, h3, h4, h8, hn, c0, c1, h9, h10, c3, h11, pk, pu, pi, ak, au, ai, rk, ru, ri, c2⟩
  rw [wpC_seq]
  refine w_mid (fun ρ s => ρ.rd 1 = .int .i64 k ∧ ρ.rd 2 = .psl (ofInts us) 0 us.length ∧ ρ.rd 3 = .psl (rowc Rw.c made) 0 made.length ∧ ρ.rd 4 = .ptr 0 0 ∧ ρ.rd 8 = .ptr 1 0 ∧ 4 ≤ s.n ∧ s.cells 0 = some [.psl (rowc Kd.c S.kinds) 0 S.kinds.length, .psl (rowc Ac.c S.acts) 0 S.acts.length] ∧ s.cells 1 = some [.bool false, .int .i64 0, .str [], .str [], .int .i64 0, .str [], .str [], .int .i64 0, .str [], .str [], .nils] ∧ ρ.rd 9 = .ptr 2 0 ∧ ρ.rd 10 = .ptr 3 0 ∧ s.cells 3 = some [.str X.p, .str X.a, .str X.r] ∧ s.cells 2 = some [.bool f, .int .i64 pk, .str pu, .str pi, .int .i64 ak, .str au, .str ai, .int .i64 rk, .str ru, .str ri, .nils]) ?_ ?_
  · simp only [WU, seval, strs_eq, h1, h2, h3, h4, h8, hn, c0, c1, h9, h10, c3, h11, c2]
  clear h1 h2 h3 h4 h8 hn c0 c1 h9 h10 c3 h11 c2
  rintro ρ s ⟨h1, h2, h3, h4, h8, hn, c0, c1, h9, h10, c3, c2⟩
  rw [wpC_seq]
  refine w_mid (fun ρ s => ρ.rd 1 = .int .i64 k ∧ ρ.rd 2 = .psl (ofInts us) 0 us.length ∧ ρ.rd 3 = .psl (rowc Rw.c made) 0 made.length ∧ ρ.rd 4 = .ptr 0 0 ∧ ρ.rd 8 = .ptr 1 0 ∧ 4 ≤ s.n ∧ s.cells 0 = some [.psl (rowc Kd.c S.kinds) 0 S.kinds.length, .psl (rowc Ac.c S.acts) 0 S.acts.length] ∧ s.cells 1 = some [.bool false, .int .i64 0, .str [], .str [], .int .i64 0, .str [], .str [], .int .i64 0, .str [], .str [], .nils] ∧ ρ.rd 9 = .ptr 2 0 ∧ ρ.rd 10 = .ptr 3 0 ∧ s.cells 3 = some [.str X.p, .str X.a, .str X.r] ∧ ∃ pk pu pi ak au ai rk ru ri, s.cells 2 = some [.bool f, .int .i64 pk, .str pu, .str pi, .int .i64 ak, .str au, .str ai, .int .i64 rk, .str ru, .str ri, .nils]) ?_ ?_
  · by_cases hl : 0 < us.length
    · have g0 : (0 : Int) < ((us.length : Nat) : Int) := by omega
      have gr : (0 : Int) ≤ 0 ∧ (0 : Int) < ((us.length : Nat) : Int) := by omega
      have hgu := ints_get hl
      have hre := ei_rem .i64 us[0] 3 (by decide)
      generalize us[0] = u at *
      by_cases hu : 0 < u.tmod 3
      · simp only [WU, seval, strs_eq, h1, h2, h3, h4, h8, hn, c0, c1, h9, h10, c3, c2, g0, gr, hgu, hre, hu, storeA, sets, setx, TS]
        exact ⟨_, _, _, _, _, _, _, _, _, rfl⟩
      · simp only [WU, seval, strs_eq, h1, h2, h3, h4, h8, hn, c0, c1, h9, h10, c3, c2, g0, gr, hgu, hre, hu, storeA, sets, setx, TS]
        exact ⟨_, _, _, _, _, _, _, _, _, rfl⟩
    · have g0 : ¬ (0 : Int) < ((us.length : Nat) : Int) := by omega
      simp only [WU, seval, strs_eq, h1, h2, h3, h4, h8, hn, c0, c1, h9, h10, c3, c2, g0]
      exact ⟨_, _, _, _, _, _, _, _, _, rfl⟩
  clear h1 h2 h3 h4 h8 hn c0 c1 h9 h10 c3 c2
  rintro ρ s ⟨h1, h2, h3, h4, h8, hn, c0, c1, h9, h10, c3, pk, pu, pi, ak, au, ai, rk, ru, ri, c2⟩
  rw [wpC_seq]
  refine w_mid (fun ρ s => ρ.rd 1 = .int .i64 k ∧ ρ.rd 2 = .psl (ofInts us) 0 us.length ∧ ρ.rd 3 = .psl (rowc Rw.c made) 0 made.length ∧ ρ.rd 4 = .ptr 0 0 ∧ ρ.rd 8 = .ptr 1 0 ∧ 4 ≤ s.n ∧ s.cells 0 = some [.psl (rowc Kd.c S.kinds) 0 S.kinds.length, .psl (rowc Ac.c S.acts) 0 S.acts.length] ∧ s.cells 1 = some [.bool false, .int .i64 0, .str [], .str [], .int .i64 0, .str [], .str [], .int .i64 0, .str [], .str [], .nils] ∧ ρ.rd 9 = .ptr 2 0 ∧ ρ.rd 10 = .ptr 3 0 ∧ s.cells 3 = some [.str X.p, .str X.a, .str X.r] ∧ ∃ pk pu pi ak au ai rk ru ri, s.cells 2 = some [.bool f, .int .i64 pk, .str pu, .str pi, .int .i64 ak, .str au, .str ai, .int .i64 rk, .str ru, .str ri, .nils]) ?_ ?_
  · by_cases hl : 1 < us.length
    rotate_left
    · have g0 : ¬ (1 : Int) < ((us.length : Nat) : Int) := by omega
      simp only [WU, seval, strs_eq, h1, h2, h3, h4, h8, hn, c0, c1, h9, h10, c3, c2, g0]
      exact ⟨_, _, _, _, _, _, _, _, _, rfl⟩
    have g0 : (1 : Int) < ((us.length : Nat) : Int) := by omega
    have gr : (0 : Int) ≤ 1 ∧ (1 : Int) < ((us.length : Nat) : Int) := by omega
    have hgu := ints_get hl
    have hre := ei_rem .i64 us[1] 3 (by decide)
    have hqu := ei_quo us[1] 3 (by decide)
    generalize us[1] = u at *
    by_cases hu : 0 < u.tmod 3
    rotate_left
    · simp only [WU, seval, strs_eq, h1, h2, h3, h4, h8, hn, c0, c1, h9, h10, c3, c2, g0, gr, hgu, hre, hu, storeA, sets, setx, TS]
      exact ⟨_, _, _, _, _, _, _, _, _, rfl⟩
    have hu8 : u8s [.int .u8 (chB u).toNat] = some [chB u] := u8s_of [chB u]
    have hch : b8 (IntKind.i64.wrap (97 + wi (quoI u 3) 5)) = chB u := rfl
    simp only [WU, seval, strs_eq, h1, h2, h3, h4, h8, hn, c0, c1, h9, h10, c3, c2, g0, gr, hgu, hre, hu]
    refine w_dreg follow [] rfl ?_
    have k0 : (addSlots s.n 19 s []).cells 0 = _ := c0
    have k1 : (addSlots s.n 19 s []).cells 1 = _ := c1
    have k2 : (addSlots s.n 19 s []).cells 2 = _ := c2
    have k3 : (addSlots s.n 19 s []).cells 3 = _ := c3
    have kn : (addSlots s.n 19 s []).n = s.n + 19 := rfl
    generalize addSlots s.n 19 s [] = s1 at *
    have n0 : ¬ 0 = s1.n := by omega
    have n1 : ¬ 1 = s1.n := by omega
    have n2 : ¬ 2 = s1.n := by omega
    have n3 : ¬ 3 = s1.n := by omega
    have hn1 : 4 ≤ s1.n + 1 := by omega
    have f1 : firstA (s1.push (.cells [.int .u8 (chB u).toNat])) 1 1 (.sl s1.n 0 1 (some 1) 1) = some [.int .u8 (chB u).toNat] := firstA_own (cs := [.int .u8 (chB u).toNat]) (by rw [push_get, if_pos rfl]) (by simp)
    have f2 : ∀ cs, firstA ((s1.push (.cells [.int .u8 (chB u).toNat])).put 2 cs) 1 1 (.sl s1.n 0 1 (some 1) 1) = some [.int .u8 (chB u).toNat] := fun cs => firstA_own (cs := [.int .u8 (chB u).toNat]) (by rw [put_get, if_neg (by omega), push_get, if_pos rfl]) (by simp)
    simp only [WU, seval, strs_eq, DU, h2, h9, h10, k2, k3, gr, hgu, hre, hqu]
    refine (hW5 _ _).useD ?_
    simp only [WU, seval, strs_eq, DU, h2, h9, h10, k2, k3, gr, hgu, hre, fillA, b8_eq, hch, f1, hu8, n0, n1, n2, n3, storeA, sets, setx, TS]
    refine ⟨⟨?_, ?_⟩, ?_⟩
    · intro l hl c hc hf
      simp only [List.mem_cons, List.mem_nil_iff, List.not_mem_nil, or_false] at hl hc
      rcases hl with rfl | rfl | rfl | rfl <;> rcases hc with rfl | rfl | rfl | rfl <;> dsimp only at hf ⊢ <;> first
        | (exact absurd hf (by decide +kernel))
        | (simp only [WU, seval, strs_eq, h2, h10, k3, gr, hgu, f1, f2, hu8, n3]; done)
    · intro sl hsl; simp at hsl
    simp only [WU, seval, strs_eq, h1, h2, h3, h4, h8, h9, h10, k0, k1, k3, n0, n1, n2, n3, hn1]
    exact ⟨by omega, _, _, _, _, _, _, _, _, _, rfl⟩
  clear h1 h2 h3 h4 h8 hn c0 c1 h9 h10 c3 c2
  rintro ρ s ⟨h1, h2, h3, h4, h8, hn, c0, c1, h9, h10, c3, pk, pu, pi, ak, au, ai, rk, ru, ri, c2⟩
  rw [wpC_seq]
  refine w_mid (fun ρ s => ρ.rd 1 = .int .i64 k ∧ ρ.rd 2 = .psl (ofInts us) 0 us.length ∧ ρ.rd 3 = .psl (rowc Rw.c made) 0 made.length ∧ ρ.rd 4 = .ptr 0 0 ∧ ρ.rd 8 = .ptr 1 0 ∧ 4 ≤ s.n ∧ s.cells 0 = some [.psl (rowc Kd.c S.kinds) 0 S.kinds.length, .psl (rowc Ac.c S.acts) 0 S.acts.length] ∧ s.cells 1 = some [.bool false, .int .i64 0, .str [], .str [], .int .i64 0, .str [], .str [], .int .i64 0, .str [], .str [], .nils] ∧ ρ.rd 9 = .ptr 2 0 ∧ ρ.rd 10 = .ptr 3 0 ∧ s.cells 3 = some [.str X.p, .str X.a, .str X.r] ∧ ∃ pk pu pi ak au ai rk ru ri, s.cells 2 = some [.bool f, .int .i64 pk, .str pu, .str pi, .int .i64 ak, .str au, .str ai, .int .i64 rk, .str ru, .str ri, .nils]) ?_ ?_
  · by_cases hl : 2 < us.length
    rotate_left
    · have g0 : ¬ (2 : Int) < ((us.length : Nat) : Int) := by omega
      simp only [WU, seval, strs_eq, h1, h2, h3, h4, h8, hn, c0, c1, h9, h10, c3, c2, g0]
      exact ⟨_, _, _, _, _, _, _, _, _, rfl⟩
    have g0 : (2 : Int) < ((us.length : Nat) : Int) := by omega
    have gr : (0 : Int) ≤ 2 ∧ (2 : Int) < ((us.length : Nat) : Int) := by omega
    have hgu := ints_get hl
    have hre := ei_rem .i64 us[2] 3 (by decide)
    have hqu := ei_quo us[2] 3 (by decide)
    generalize us[2] = u at *
    by_cases hu : 0 < u.tmod 3
    rotate_left
    · simp only [WU, seval, strs_eq, h1, h2, h3, h4, h8, hn, c0, c1, h9, h10, c3, c2, g0, gr, hgu, hre, hu, storeA, sets, setx, TS]
      exact ⟨_, _, _, _, _, _, _, _, _, rfl⟩
    have hu8 : u8s [.int .u8 (chB u).toNat] = some [chB u] := u8s_of [chB u]
    have hch : b8 (IntKind.i64.wrap (97 + wi (quoI u 3) 5)) = chB u := rfl
    simp only [WU, seval, strs_eq, h1, h2, h3, h4, h8, hn, c0, c1, h9, h10, c3, c2, g0, gr, hgu, hre, hu]
    refine w_dreg follow [] rfl ?_
    have k0 : (addSlots s.n 19 s []).cells 0 = _ := c0
    have k1 : (addSlots s.n 19 s []).cells 1 = _ := c1
    have k2 : (addSlots s.n 19 s []).cells 2 = _ := c2
    have k3 : (addSlots s.n 19 s []).cells 3 = _ := c3
    have kn : (addSlots s.n 19 s []).n = s.n + 19 := rfl
    generalize addSlots s.n 19 s [] = s1 at *
    have n0 : ¬ 0 = s1.n := by omega
    have n1 : ¬ 1 = s1.n := by omega
    have n2 : ¬ 2 = s1.n := by omega
    have n3 : ¬ 3 = s1.n := by omega
    have hn1 : 4 ≤ s1.n + 1 := by omega
    have f1 : firstA (s1.push (.cells [.int .u8 (chB u).toNat])) 1 1 (.sl s1.n 0 1 (some 1) 1) = some [.int .u8 (chB u).toNat] := firstA_own (cs := [.int .u8 (chB u).toNat]) (by rw [push_get, if_pos rfl]) (by simp)
    have f2 : ∀ cs, firstA ((s1.push (.cells [.int .u8 (chB u).toNat])).put 2 cs) 1 1 (.sl s1.n 0 1 (some 1) 1) = some [.int .u8 (chB u).toNat] := fun cs => firstA_own (cs := [.int .u8 (chB u).toNat]) (by rw [put_get, if_neg (by omega), push_get, if_pos rfl]) (by simp)
    simp only [WU, seval, strs_eq, DU, h2, h9, h10, k2, k3, gr, hgu, hre, hqu]
    refine (hW5 _ _).useD ?_
    simp only [WU, seval, strs_eq, DU, h2, h9, h10, k2, k3, gr, hgu, hre, fillA, b8_eq, hch, f1, hu8, n0, n1, n2, n3, storeA, sets, setx, TS]
    refine ⟨⟨?_, ?_⟩, ?_⟩
    · intro l hl c hc hf
      simp only [List.mem_cons, List.mem_nil_iff, List.not_mem_nil, or_false] at hl hc
      rcases hl with rfl | rfl | rfl | rfl <;> rcases hc with rfl | rfl | rfl | rfl <;> dsimp only at hf ⊢ <;> first
        | (exact absurd hf (by decide +kernel))
        | (simp only [WU, seval, strs_eq, h2, h10, k3, gr, hgu, f1, f2, hu8, n3]; done)
    · intro sl hsl; simp at hsl
    simp only [WU, seval, strs_eq, h1, h2, h3, h4, h8, h9, h10, k0, k1, k3, n0, n1, n2, n3, hn1]
    exact ⟨by omega, _, _, _, _, _, _, _, _, _, rfl⟩
  clear h1 h2 h3 h4 h8 hn c0 c1 h9 h10 c3 c2
  rintro ρ s ⟨h1, h2, h3, h4, h8, hn, c0, c1, h9, h10, c3, pk, pu, pi, ak, au, ai, rk, ru, ri, c2⟩
  rw [wpC_seq]
  refine w_mid (fun ρ s => ρ.rd 1 = .int .i64 k ∧ ρ.rd 2 = .psl (ofInts us) 0 us.length ∧ ρ.rd 3 = .psl (rowc Rw.c made) 0 made.length ∧ ρ.rd 4 = .ptr 0 0 ∧ ρ.rd 8 = .ptr 1 0 ∧ 4 ≤ s.n ∧ s.cells 0 = some [.psl (rowc Kd.c S.kinds) 0 S.kinds.length, .psl (rowc Ac.c S.acts) 0 S.acts.length] ∧ s.cells 1 = some [.bool false, .int .i64 0, .str [], .str [], .int .i64 0, .str [], .str [], .int .i64 0, .str [], .str [], .nils] ∧ ρ.rd 9 = .ptr 2 0 ∧ ρ.rd 10 = .ptr 3 0 ∧ s.cells 3 = some [.str X.p, .str X.a, .str X.r] ∧ ∃ x K, K.length ≤ 4 ∧ s.cells 2 = some [.bool f, .int .i64 pk, .str pu, .str pi, .int .i64 ak, .str au, .str ai, .int .i64 rk, .str ru, .str ri, x] ∧ x.one = true ∧ RowP (fun b => 4 ≤ b) s x (rowc Cn.c K) K.length 8 ∧ (∀ c ∈ K, c.e.wf)) ?_ ?_
  · obtain ⟨m, hm⟩ : ∃ m, m = min made.length 3 := ⟨_, rfl⟩
    simp only [WU, seval, strs_eq, h1, h2, h3, h4, h8, hn, c0, c1, h9, h10, c3]
    refine w_for (fun i ρ s => ρ.rd 12 = .int .i64 i ∧ ρ.rd 1 = .int .i64 k ∧ ρ.rd 2 = .psl (ofInts us) 0 us.length ∧ ρ.rd 3 = .psl (rowc Rw.c made) 0 made.length ∧ ρ.rd 4 = .ptr 0 0 ∧ ρ.rd 8 = .ptr 1 0 ∧ 4 ≤ s.n ∧ s.cells 0 = some [.psl (rowc Kd.c S.kinds) 0 S.kinds.length, .psl (rowc Ac.c S.acts) 0 S.acts.length] ∧ s.cells 1 = some [.bool false, .int .i64 0, .str [], .str [], .int .i64 0, .str [], .str [], .int .i64 0, .str [], .str [], .nils] ∧ ρ.rd 9 = .ptr 2 0 ∧ ρ.rd 10 = .ptr 3 0 ∧ s.cells 3 = some [.str X.p, .str X.a, .str X.r] ∧ ∃ x K, K.length ≤ i ∧ s.cells 2 = some [.bool f, .int .i64 pk, .str pu, .str pi, .int .i64 ak, .str au, .str ai, .int .i64 rk, .str ru, .str ri, x] ∧ x.one = true ∧ RowP (fun b => 4 ≤ b) s x (rowc Cn.c K) K.length 8 ∧ (∀ c ∈ K, c.e.wf)) m ?_ ?_
    · simp only [WU, seval, strs_eq, h1, h2, h3, h4, h8, hn, c0, c1, h9, h10, c3]
      first | exact ⟨rfl, .nils, [], Nat.le_refl _, c2, rfl, RowP.nil _ _ _, by simp⟩ | exact ⟨.nils, [], Nat.le_refl _, c2, rfl, RowP.nil _ _ _, by simp⟩
    clear h1 h2 h3 h4 h8 hn c0 c1 h9 h10 c3 c2
    rintro i ρ s hi ⟨h12, h1, h2, h3, h4, h8, hn, c0, c1, h9, h10, c3, x, K, hKl, c2, hx1, hrow, hKw⟩
    by_cases hlt : i < m
    rotate_left
    · by_cases hl1 : i < made.length
      · have g1 : ((i : Nat) : Int) < ((made.length : Nat) : Int) := by omega
        have g4 : ¬ ((i : Nat) : Int) < 3 := by omega
        simp only [WU, seval, strs_eq, h12, h1, h2, h3, h4, h8, hn, c0, c1, h9, h10, c3, g1, g4]
        exact ⟨x, K, by omega, c2, hx1, hrow, hKw⟩
      · have g1 : ¬ ((i : Nat) : Int) < ((made.length : Nat) : Int) := by omega
        simp only [WU, seval, strs_eq, h12, h1, h2, h3, h4, h8, hn, c0, c1, h9, h10, c3, g1]
        exact ⟨x, K, by omega, c2, hx1, hrow, hKw⟩
    have hir : i < made.length := by omega
    have hr := lt_idx hir
    have g1 := hr.2
    have g4 : ((i : Nat) : Int) < 3 := by omega
    have hw : IntKind.i64.wrap ((i : Int) + 1) = ((i + 1 : Nat) : Int) := wrap_succ (by omega)
    have hfit := rowc_fit Rw.c_len hir
    have hall := rowc_seg Rw.c_len hir
    have hok := hrs _ (List.getElem_mem hir)
    have hT := fun σ => hM made[i] σ hok
    have hF := fun σ => few11_ac made[i] hok 60 σ
    have hTw := hMw made[i]
    generalize makeX S X.p X.r 5 tB made[i] = E at *
    generalize made[i] = r0 at *
    have hsh := ei_shr (a := k) (k := i) (by omega)
    have hW2 := hW2 (k.fdiv (2 ^ i))
    generalize k.fdiv (2 ^ i) = kk at *
    obtain ⟨eop, eb, en, es, eut, eui, ek⟩ := E
    obtain ⟨ro, rn, rs, rks⟩ := r0
    simp only [Rw.c_eq, Ex.c_eq, slc_eq, ints_eq] at hT hall hF
    have sg4 : ∀ a b c d : AV, seg [a, b, c, d] 0 4 = [a, b, c, d] := fun _ _ _ _ => rfl
    rw [wpC_seq]
    refine w_mid (fun ρ s => ρ.rd 12 = .int .i64 i ∧ ρ.rd 1 = .int .i64 k ∧ ρ.rd 2 = .psl (ofInts us) 0 us.length ∧ ρ.rd 3 = .psl (rowc Rw.c made) 0 made.length ∧ ρ.rd 4 = .ptr 0 0 ∧ ρ.rd 8 = .ptr 1 0 ∧ 4 ≤ s.n ∧ s.cells 0 = some [.psl (rowc Kd.c S.kinds) 0 S.kinds.length, .psl (rowc Ac.c S.acts) 0 S.acts.length] ∧ s.cells 1 = some [.bool false, .int .i64 0, .str [], .str [], .int .i64 0, .str [], .str [], .int .i64 0, .str [], .str [], .nils] ∧ ρ.rd 9 = .ptr 2 0 ∧ ρ.rd 10 = .ptr 3 0 ∧ s.cells 3 = some [.str X.p, .str X.a, .str X.r] ∧ ∃ x, s.cells 2 = some [.bool f, .int .i64 pk, .str pu, .str pi, .int .i64 ak, .str au, .str ai, .int .i64 rk, .str ru, .str ri, x] ∧ x.one = true ∧ RowP (fun b => 4 ≤ b) s x (rowc Cn.c K) K.length 8 ∧ (∀ c ∈ K, c.e.wf)) ?_ ?_
    · simp only [WU, seval, strs_eq, h12, h1, h2, h3, h4, h8, hn, c0, c1, h9, h10, c3, g1, g4]
      exact ⟨x, c2, hx1, hrow, hKw⟩
    clear h1 h2 h3 h4 h8 hn c0 c1 h9 h10 c3 h12 c2 hx1 hrow
    rintro ρ s ⟨h12, h1, h2, h3, h4, h8, hn, c0, c1, h9, h10, c3, x, c2, hx1, hrow, _⟩
    rw [wpC_seq]
    refine w_mid (fun ρ s => ρ.rd 12 = .int .i64 i ∧ ρ.rd 1 = .int .i64 k ∧ ρ.rd 2 = .psl (ofInts us) 0 us.length ∧ ρ.rd 3 = .psl (rowc Rw.c made) 0 made.length ∧ ρ.rd 4 = .ptr 0 0 ∧ ρ.rd 8 = .ptr 1 0 ∧ 4 ≤ s.n ∧ s.cells 0 = some [.psl (rowc Kd.c S.kinds) 0 S.kinds.length, .psl (rowc Ac.c S.acts) 0 S.acts.length] ∧ s.cells 1 = some [.bool false, .int .i64 0, .str [], .str [], .int .i64 0, .str [], .str [], .int .i64 0, .str [], .str [], .nils] ∧ ρ.rd 9 = .ptr 2 0 ∧ ρ.rd 10 = .ptr 3 0 ∧ s.cells 3 = some [.str X.p, .str X.a, .str X.r] ∧ ∃ x K, K.length ≤ i + 1 ∧ s.cells 2 = some [.bool f, .int .i64 pk, .str pu, .str pi, .int .i64 ak, .str au, .str ai, .int .i64 rk, .str ru, .str ri, x] ∧ x.one = true ∧ RowP (fun b => 4 ≤ b) s x (rowc Cn.c K) K.length 8 ∧ (∀ c ∈ K, c.e.wf)) ?_ ?_
    · simp only [wpC_block, wpC_seq, wpC_skip, wpCK_normal]
      refine w_mid (fun ρ s => (∃ b, ρ.rd 113 = .bool b) ∧ ρ.rd 12 = .int .i64 i ∧ ρ.rd 1 = .int .i64 k ∧ ρ.rd 2 = .psl (ofInts us) 0 us.length ∧ ρ.rd 3 = .psl (rowc Rw.c made) 0 made.length ∧ ρ.rd 4 = .ptr 0 0 ∧ ρ.rd 8 = .ptr 1 0 ∧ 4 ≤ s.n ∧ s.cells 0 = some [.psl (rowc Kd.c S.kinds) 0 S.kinds.length, .psl (rowc Ac.c S.acts) 0 S.acts.length] ∧ s.cells 1 = some [.bool false, .int .i64 0, .str [], .str [], .int .i64 0, .str [], .str [], .int .i64 0, .str [], .str [], .nils] ∧ ρ.rd 9 = .ptr 2 0 ∧ ρ.rd 10 = .ptr 3 0 ∧ s.cells 3 = some [.str X.p, .str X.a, .str X.r] ∧ ∃ x, s.cells 2 = some [.bool f, .int .i64 pk, .str pu, .str pi, .int .i64 ak, .str au, .str ai, .int .i64 rk, .str ru, .str ri, x] ∧ x.one = true ∧ RowP (fun b => 4 ≤ b) s x (rowc Cn.c K) K.length 8 ∧ (∀ c ∈ K, c.e.wf)) ?_ ?_
      · simp only [WU, seval, strs_eq, h12, h1, h2, h3, h4, h8, hn, c0, c1, h9, h10, c3, hr, hfit, hall, sg4]
        refine (hF _).mono ?_
        rintro v s' ⟨rfl, m', rfl⟩
        simp only [WU, seval, strs_eq, h12, h1, h2, h3, h4, h8, hn, c0, c1, h9, h10, c3]
        exact ⟨⟨_, rfl⟩, x, c2, hx1, hrow, hKw⟩
      clear h1 h2 h3 h4 h8 hn c0 c1 h9 h10 c3 h12 c2 hx1 hrow
      rintro ρ s ⟨⟨b, h113⟩, h12, h1, h2, h3, h4, h8, hn, c0, c1, h9, h10, c3, x, c2, hx1, hrow, _⟩
      cases b with
      | false =>
        simp only [WU, seval, strs_eq, h113, h12, h1, h2, h3, h4, h8, hn, c0, c1, h9, h10, c3]
        exact ⟨x, K, by omega, c2, hx1, hrow, hKw⟩
      | true =>
      simp only [WU, seval, strs_eq, h113]
      refine w_dreg follow [] rfl ?_
      have k0 : (addSlots s.n 20 s []).cells 0 = _ := c0
      have k1 : (addSlots s.n 20 s []).cells 1 = _ := c1
      have k2 : (addSlots s.n 20 s []).cells 2 = _ := c2
      have k3 : (addSlots s.n 20 s []).cells 3 = _ := c3
      have hrowA := hrow.slots 20
      have kn : (addSlots s.n 20 s []).n = s.n + 20 := rfl
      generalize addSlots s.n 20 s [] = s1 at *
      obtain ⟨b9, cap9, s9, happ, hrow9, hn9, hk9⟩ := app_lit (bytes := 104) hrowA (fun b hb => by omega) (new := (Cn.mk (decide (wi kk 2 = 1)) (Ex.mk eop eb en es eut eui ek)).c) (k := 1) rfl rfl (by omega) (by omega)
      simp only [Cn.c_mk, Ex.c_eq, slc_eq] at happ
      have q0 := (get_cells (hk9 0 (by omega) (by omega))).trans k0
      have q1 := (get_cells (hk9 1 (by omega) (by omega))).trans k1
      have q2 := (get_cells (hk9 2 (by omega) (by omega))).trans k2
      have q3 := (get_cells (hk9 3 (by omega) (by omega))).trans k3
      have n0 : ¬ 0 = s1.n := by omega
      have n2 : ¬ 2 = s1.n := by omega
      have n3 : ¬ 3 = s1.n := by omega
      simp only [WU, seval, strs_eq, DU, h1, h3, h4, h9, h10, h12, k0, k2, k3, hr, hfit, hall, hsh]
      refine (hW2 _).useD ?_
      simp only [WU, seval, strs_eq, DU, h1, h3, h4, h9, h10, h12, k0, k2, k3, hr, hfit, hall, hsh, sg, sgE, sg4]
      refine (hT _).useD ?_
      simp only [WU, seval, strs_eq, DU, h3, h9, h12, k2, fillA]
      simp only [WU, seval, strs_eq, DU, happ, h9, q2, storeA, sets, setx, TS]
      refine ⟨⟨?_, ?_⟩, ?_⟩
      · intro l hl c hc hf
        simp only [List.mem_cons, List.mem_nil_iff, List.not_mem_nil, or_false] at hl hc
        rcases hl with rfl | rfl | rfl | rfl <;> rcases hc with rfl | rfl | rfl | rfl | rfl | rfl <;> dsimp only at hf ⊢ <;> first
          | (exact absurd hf (by decide +kernel))
          | (simp only [WU, seval, strs_eq, h3, h4, h9, h10, h12, k0, k2, k3, q0, q2, q3, n0, n2, n3, hr, hfit, hall, sg, sgE, sg4]; done)
      · intro sl hsl; simp at hsl
      simp only [WU, seval, strs_eq, h1, h2, h3, h4, h8, h9, h10, h12, q0, q1, q3]
      refine ⟨by omega, _, K ++ [⟨decide (wi kk 2 = 1), .mk eop eb en es eut eui ek⟩], by rw [List.length_append]; exact Nat.succ_le_succ hKl, rfl, rfl, ?_, ?_⟩
      · rw [rowc_append, rowc_one, List.length_append]
        exact hrow9.put (b0 := 2) (by omega) _
      · intro c hc
        rcases List.mem_append.1 hc with h | h
        · exact hKw c h
        · rw [List.mem_singleton.1 h]; exact hTw
    clear h1 h2 h3 h4 h8 hn c0 c1 h9 h10 c3 h12 c2 hx1 hrow hKw hKl
    rintro ρ s ⟨h12, h1, h2, h3, h4, h8, hn, c0, c1, h9, h10, c3, x, K, hKl, c2, hx1, hrow, hKw⟩
    simp only [WU, seval, strs_eq, h12, h1, h2, h3, h4, h8, hn, c0, c1, h9, h10, c3, hw]
    exact ⟨hlt, x, K, hKl, c2, hx1, hrow, hKw⟩
  clear h1 h2 h3 h4 h8 hn c0 c1 h9 h10 c3 c2
  rintro ρ s ⟨h1, h2, h3, h4, h8, hn, c0, c1, h9, h10, c3, x, K, hKl, c2, hx1, hrow, hKw⟩
  have sg11 : ∀ a b c d e f g h i j k : AV, seg [a, b, c, d, e, f, g, h, i, j, k] 0 11 = [a, b, c, d, e, f, g, h, i, j, k] := fun _ _ _ _ _ _ _ _ _ _ _ => rfl
  simp only [WU, seval, strs_eq, h1, h2, h3, h4, h8, hn, c0, c1, h9, h10, c3, c2, sg11, hx1, storeA, sets, setx, TS]
  exact ⟨_, pur_po1 (p := ⟨pk, pu, pi⟩) (a := ⟨ak, au, ai⟩) (r := ⟨rk, ru, ri⟩) (hrow.put (b0 := 1) (by omega) _), _, rfl, ⟨hKl, hKw⟩⟩
theorem policy11_ac {S : Sc} {k : Int} {us : List Int} {made : List Rw} {σ : AState} (hS : ScN S) (hus : us.length ≤ Most) (hcl : made.length ≤ Most) (hrs : ∀ r ∈ made, r.ok) :
    AC Try.prog 28 [.agg S.c, .int .i64 k, ints us, slc Rw.c made] σ fun v s => s = σ ∧ ∃ P, v = .agg (Po.c P) ∧ PoG P :=
  AC.share (R := fun v => ∃ P, v = .agg (Po.c P) ∧ PoG P) (.cons (.agg (Sc.fxd S)) (.cons (.flat rfl) (.cons (ints_fxd us) (.cons (Rw.fxd' made) .nil)))) (policy11_st0 hS hus hcl hrs)
end Go.Proofs.Ytcdbpmmomgehfaa.Va
