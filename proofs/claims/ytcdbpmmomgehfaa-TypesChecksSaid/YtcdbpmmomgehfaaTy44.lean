/- The law TypesChecks. Conditions: none. -/
import Derived.Test.YtcdbpmmomgehfaaTC
import Derived.Test.YtcdbpmmomgehfaaTy40
import Derived.Test.YtcdbpmmomgehfaaTy42
set_option maxRecDepth 100000
set_option maxHeartbeats 4000000
set_option linter.all false
namespace Go.Proofs.Ytcdbpmmomgehfaa.Va
open Go.Proofs
theorem typesChecks_ac {ks : List RKd} {ac : List RAc} {k : Int} {us l : List Int} {raws made : List Rw} (hus : us.length ≤ Most) (hl : l.length ≤ Most) (hcl : raws.length ≤ Most) (hrs : ∀ r ∈ raws, r.ok) (hml : made.length ≤ Most) (hms : ∀ r ∈ made, r.ok) :
    AC Try.prog 9 [slc RKd.c ks, slc RAc.c ac, .int .i64 k, ints us, ints l, slc Rw.c raws, slc Rw.c made] st0 fun v _ => v = .bool true := by
  have hP5 : ∀ σ, AC Try.prog 24 [.int .i64 k, ints us, ints l, slc Rw.c raws] σ fun v s => s = σ ∧ ∃ P, v = .agg (Po.c P) ∧ PoG P := fun σ => policy5_ac hus hl hcl hrs
  have hP11 : ∀ S, ScN S → ∀ σ, AC Try.prog 28 [.agg S.c, .int .i64 k, ints us, slc Rw.c made] σ fun v s => s = σ ∧ ∃ P, v = .agg (Po.c P) ∧ PoG P := fun S hS σ => policy11_ac hS hus hml hms
  simp only [ints_eq, slc_eq, Sc.c_eq] at hP5 hP11 ⊢
  refine ac_s fn9 cf9 cl9 rfl ?_
  simp only [ac9]
  unfold ab9
  refine s_mid (fun ρ s => ρ.rd 0 = .psl (rowc RKd.c ks) 0 ks.length ∧ ρ.rd 1 = .psl (rowc RAc.c ac) 0 ac.length ∧ ρ.rd 2 = .int .i64 k ∧ ρ.rd 3 = .psl (ofInts us) 0 us.length ∧ ρ.rd 4 = .psl (ofInts l) 0 l.length ∧ ρ.rd 5 = .psl (rowc Rw.c raws) 0 raws.length ∧ ρ.rd 6 = .psl (rowc Rw.c made) 0 made.length ∧ s = st0) ?_ ?_
  · simp only [WU, seval, strs_eq]
  rintro ρ s ⟨h0, h1, h2, h3, h4, h5, h6, rfl⟩
  refine s_mid (fun ρ s => ρ.rd 0 = .psl (rowc RKd.c ks) 0 ks.length ∧ ρ.rd 1 = .psl (rowc RAc.c ac) 0 ac.length ∧ ρ.rd 2 = .int .i64 k ∧ ρ.rd 3 = .psl (ofInts us) 0 us.length ∧ ρ.rd 4 = .psl (ofInts l) 0 l.length ∧ ρ.rd 5 = .psl (rowc Rw.c raws) 0 raws.length ∧ ρ.rd 6 = .psl (rowc Rw.c made) 0 made.length ∧ s = st0) ?_ ?_
  · simp only [WU, seval, strs_eq, h2, h3, h4, h5, h6]
    refine known11_ac.use ?_
    simp only [WU, seval, strs_eq, h0, h1, h2, h3, h4, h5, h6]
  clear h0 h1 h2 h3 h4 h5 h6
  rintro ρ s ⟨h0, h1, h2, h3, h4, h5, h6, rfl⟩
  by_cases g1 : (4 : Int) < ((raws.length : Nat) : Int)
  · refine s_wp ?_
    simp only [WU, seval, strs_eq, h2, h3, h4, h5, h6, g1]
  by_cases g2 : (4 : Int) < ((made.length : Nat) : Int)
  · refine s_wp ?_
    simp only [WU, seval, strs_eq, h2, h3, h4, h5, h6, g1, g2]
  refine s_mid (fun ρ s => ρ.rd 0 = .psl (rowc RKd.c ks) 0 ks.length ∧ ρ.rd 1 = .psl (rowc RAc.c ac) 0 ac.length ∧ ρ.rd 2 = .int .i64 k ∧ ρ.rd 3 = .psl (ofInts us) 0 us.length ∧ ρ.rd 4 = .psl (ofInts l) 0 l.length ∧ ρ.rd 5 = .psl (rowc Rw.c raws) 0 raws.length ∧ ρ.rd 6 = .psl (rowc Rw.c made) 0 made.length ∧ s = st0) ?_ ?_
  · simp only [WU, seval, strs_eq, h0, h1, h2, h3, h4, h5, h6, g1, g2]
  clear h0 h1 h2 h3 h4 h5 h6
  rintro ρ s ⟨h0, h1, h2, h3, h4, h5, h6, rfl⟩
  refine s_mid (fun ρ s => ρ.rd 0 = .psl (rowc RKd.c ks) 0 ks.length ∧ ρ.rd 1 = .psl (rowc RAc.c ac) 0 ac.length ∧ ρ.rd 2 = .int .i64 k ∧ ρ.rd 3 = .psl (ofInts us) 0 us.length ∧ ρ.rd 4 = .psl (ofInts l) 0 l.length ∧ ρ.rd 5 = .psl (rowc Rw.c raws) 0 raws.length ∧ ρ.rd 6 = .psl (rowc Rw.c made) 0 made.length ∧ s = st0) ?_ ?_
  · simp only [WU, seval, strs_eq, h0, h1, h2, h3, h4, h5, h6]
    refine w_for (fun i ρ s => ρ.rd 15 = .int .i64 i ∧ ρ.rd 0 = .psl (rowc RKd.c ks) 0 ks.length ∧ ρ.rd 1 = .psl (rowc RAc.c ac) 0 ac.length ∧ ρ.rd 2 = .int .i64 k ∧ ρ.rd 3 = .psl (ofInts us) 0 us.length ∧ ρ.rd 4 = .psl (ofInts l) 0 l.length ∧ ρ.rd 5 = .psl (rowc Rw.c raws) 0 raws.length ∧ ρ.rd 6 = .psl (rowc Rw.c made) 0 made.length ∧ s = st0) raws.length ?_ ?_
    · simp only [WU, seval, strs_eq, h0, h1, h2, h3, h4, h5, h6]
    clear h0 h1 h2 h3 h4 h5 h6
    rintro i ρ s hi ⟨h15, h0, h1, h2, h3, h4, h5, h6, rfl⟩
    by_cases hlt : i < raws.length
    rotate_left
    · have : i = raws.length := by omega
      subst this
      have hge : ¬ ((raws.length : Nat) : Int) < ((raws.length : Nat) : Int) := by omega
      simp only [WU, seval, strs_eq, h15, h0, h1, h2, h3, h4, h5, h6, hge]
    have hr := lt_idx hlt
    have hlt' := hr.2
    have hw : IntKind.i64.wrap ((i : Int) + 1) = ((i + 1 : Nat) : Int) := wrap_succ (by omega)
    have hfit := rowc_fit Rw.c_len hlt
    have hall := rowc_seg Rw.c_len hlt
    have hok := hrs _ (List.getElem_mem hlt)
    have hF := fun σ => few5_ac raws[i] hok 60 σ
    generalize raws[i] = r0 at *
    obtain ⟨ro, rn, rs, rks⟩ := r0
    simp only [Rw.c_eq, slc_eq, ints_eq] at hall hF
    simp only [WU, seval, strs_eq, h15, h0, h1, h2, h3, h4, h5, h6, hlt', hr, hfit, hall]
    refine (hF _).mono ?_
    rintro v s' ⟨rfl, m', rfl⟩
    by_cases hm0 : m' = 0
    · simp only [WU, seval, strs_eq, h15, h0, h1, h2, h3, h4, h5, h6, hm0]
    · simp only [WU, seval, strs_eq, h15, h0, h1, h2, h3, h4, h5, h6, hm0, hw]
      exact hlt
  clear h0 h1 h2 h3 h4 h5 h6
  rintro ρ s ⟨h0, h1, h2, h3, h4, h5, h6, rfl⟩
  refine s_frz (fun ρ s => ρ.rd 2 = .int .i64 k ∧ ρ.rd 3 = .psl (ofInts us) 0 us.length ∧ ρ.rd 4 = .psl (ofInts l) 0 l.length ∧ ρ.rd 5 = .psl (rowc Rw.c raws) 0 raws.length ∧ ρ.rd 6 = .psl (rowc Rw.c made) 0 made.length ∧ ∃ b S, ρ.rd 16 = .ptr b 0 ∧ b < s.n ∧ s.cells b = some [.psl (rowc Kd.c S.kinds) 0 S.kinds.length, .psl (rowc Ac.c S.acts) 0 S.acts.length] ∧ ScN S) ?_ ?_
  · simp only [WU, seval, strs_eq, h0, h1]
    refine good_frz fun x y s1 hx hy hk hM => ?_
    simp only [WU, seval, strs_eq, h2, h3, h4, h5, h6, hx, hy, frzQ_normal, frzQ_exit, frzQ_ret, storeA, sets, setx, TS]
    refine hM _ _ s1.n _ _ (by rw [put_get, if_pos rfl]) (Nat.le_refl _) (by simp only [put_n, push_n]; omega) (fun c hc => by rw [put_get, if_neg (by omega), push_get, if_neg (by omega)]) fun S s2 hS e1 e2 e3 => ?_
    simp only [WU, seval, strs_eq, h2, h3, h4, h5, h6]
    exact ⟨s1.n, S, rfl, by rw [e1]; exact Nat.lt_succ_self _, by simpa [slc_eq] using e2, hS⟩
  clear h0 h1 h2 h3 h4 h5 h6
  rintro ρ s ⟨h2, h3, h4, h5, h6, b, S, h16, hb, cb, hS⟩
  have hR := hS.r
  have hal := hS.al
  have sg := scSeg S
  have sg11 : ∀ a b c d e f g h i j k : AV, seg [a, b, c, d, e, f, g, h, i, j, k] 0 11 = [a, b, c, d, e, f, g, h, i, j, k] := fun _ _ _ _ _ _ _ _ _ _ _ => rfl
  have hP11 := hP11 S hS
  have hE1 : ∀ P σ, AC Try.prog 22 [.agg S.c, .agg P.c] σ fun v s => s = σ ∧ v = slc En.c (envsS S P) := fun P σ => envsT_ac hR.m (by omega) (pur_po σ P)
  have hE2 : ∀ P σ, AC Try.prog 25 [.agg S.c, .agg P.c] σ fun v s => s = σ ∧ v = slc En.c (envsS S P) := fun P σ => envsR_ac hR.m (by omega) (pur_po σ P)
  have hC1 : ∀ P, PoG P → ∀ σ, AC Try.prog 26 [.agg S.c, .agg P.c] σ fun v s => s = σ ∧ v = .int .i64 (chkS S P) := fun P hP σ => check_ac hR (by omega) hP (pur_po σ P)
  have hC2 : ∀ P, PoG P → ∀ σ, AC Try.prog 27 [.agg S.c, .agg P.c] σ fun v s => s = σ ∧ v = .int .i64 (chkS S P) := fun P hP σ => checkL_ac hR (by omega) hP (pur_po σ P)
  have hEl : ∀ P, (envsS S P).length ≤ 16 * S.acts.length := fun P => envsGo_len hR.m.a
  simp only [Sc.c_eq, slc_eq] at hE1 hE2 hC1 hC2
  refine s_mid (fun ρ s => ∃ q, ρ.rd 2 = .int .i64 k ∧ ρ.rd 3 = .psl (ofInts us) 0 us.length ∧ ρ.rd 4 = .psl (ofInts l) 0 l.length ∧ ρ.rd 5 = .psl (rowc Rw.c raws) 0 raws.length ∧ ρ.rd 6 = .psl (rowc Rw.c made) 0 made.length ∧ ρ.rd 16 = .ptr b 0 ∧ b < q ∧ q < s.n ∧ s.cells b = some [.psl (rowc Kd.c S.kinds) 0 S.kinds.length, .psl (rowc Ac.c S.acts) 0 S.acts.length] ∧ ρ.rd 17 = .ptr q 0 ∧ ∃ P, s.cells q = some [.bool P.forbid, .int .i64 P.p.kind, .str P.p.ut, .str P.p.ui, .int .i64 P.a.kind, .str P.a.ut, .str P.a.ui, .int .i64 P.r.kind, .str P.r.ut, .str P.r.ui, .psl (rowc Cn.c P.conds) 0 P.conds.length] ∧ PoG P) ?_ ?_
  · have nb : ¬ b = s.n := by omega
    simp only [WU, seval, strs_eq, h2, h3, h4, h5, h6]
    refine (hP5 _).mono ?_
    rintro v s' ⟨rfl, P, rfl, hP⟩
    rw [Po.c_eq]
    simp only [WU, seval, strs_eq, h2, h3, h4, h5, h6, h16, nb, cb, storeA, sets, setx, TS]
    exact ⟨s'.n, by omega, by omega, rfl, P, by simp [slc_eq], hP⟩
  clear h2 h3 h4 h5 h6 h16 hb cb
  rintro ρ s ⟨q, h2, h3, h4, h5, h6, h16, hbq, hq, cb, h17, P, cq, hP⟩
  refine s_mid (fun ρ s => True) ?_ ?_
  · simp only [WU, seval, strs_eq, h2, h3, h4, h5, h6, h16, hbq, hq, cb, h17]
    refine w_for (fun i ρ s => ρ.rd 18 = .int .i64 i ∧ ρ.rd 2 = .int .i64 k ∧ ρ.rd 3 = .psl (ofInts us) 0 us.length ∧ ρ.rd 4 = .psl (ofInts l) 0 l.length ∧ ρ.rd 5 = .psl (rowc Rw.c raws) 0 raws.length ∧ ρ.rd 6 = .psl (rowc Rw.c made) 0 made.length ∧ ρ.rd 16 = .ptr b 0 ∧ b < q ∧ q < s.n ∧ s.cells b = some [.psl (rowc Kd.c S.kinds) 0 S.kinds.length, .psl (rowc Ac.c S.acts) 0 S.acts.length] ∧ ρ.rd 17 = .ptr q 0 ∧ ∃ P, s.cells q = some [.bool P.forbid, .int .i64 P.p.kind, .str P.p.ut, .str P.p.ui, .int .i64 P.a.kind, .str P.a.ut, .str P.a.ui, .int .i64 P.r.kind, .str P.r.ut, .str P.r.ui, .psl (rowc Cn.c P.conds) 0 P.conds.length] ∧ PoG P) 2 ?_ ?_
    · simp only [WU, seval, strs_eq, h2, h3, h4, h5, h6, h16, hbq, hq, cb, h17]
      first | done | exact ⟨rfl, P, cq, hP⟩ | exact ⟨P, cq, hP⟩
    clear h2 h3 h4 h5 h6 h16 hbq hq cb h17 cq hP P
    rintro i ρ s hi ⟨h18, h2, h3, h4, h5, h6, h16, hbq, hq, cb, h17, P, cq, hP⟩
    by_cases hlt : i < 2
    rotate_left
    · have : i = 2 := by omega
      subst this
      simp only [WU, seval, strs_eq, h18, h2, h3, h4, h5, h6, h16, hbq, hq, cb, h17]
    have hlt' : ((i : Nat) : Int) < 2 := by omega
    have hw : IntKind.i64.wrap ((i : Int) + 1) = ((i + 1 : Nat) : Int) := wrap_succ (by omega)
    have hE1 := hE1 P
    have hE2 := hE2 P
    have hC1 := hC1 P hP
    have hC2 := hC2 P hP
    have hEl := hEl P
    rw [Po.c_eq, slc_eq] at hE1 hE2 hC1 hC2
    generalize envsS S P = L at *
    generalize chkS S P = R at *
    rw [wpC_seq]
    refine w_mid (fun ρ s => ρ.rd 18 = .int .i64 i ∧ ρ.rd 2 = .int .i64 k ∧ ρ.rd 3 = .psl (ofInts us) 0 us.length ∧ ρ.rd 4 = .psl (ofInts l) 0 l.length ∧ ρ.rd 5 = .psl (rowc Rw.c raws) 0 raws.length ∧ ρ.rd 6 = .psl (rowc Rw.c made) 0 made.length ∧ ρ.rd 16 = .ptr b 0 ∧ b < q ∧ q < s.n ∧ s.cells b = some [.psl (rowc Kd.c S.kinds) 0 S.kinds.length, .psl (rowc Ac.c S.acts) 0 S.acts.length] ∧ ρ.rd 17 = .ptr q 0 ∧ s.cells q = some [.bool P.forbid, .int .i64 P.p.kind, .str P.p.ut, .str P.p.ui, .int .i64 P.a.kind, .str P.a.ut, .str P.a.ui, .int .i64 P.r.kind, .str P.r.ut, .str P.r.ui, .psl (rowc Cn.c P.conds) 0 P.conds.length]) ?_ ?_
    · simp only [WU, seval, strs_eq, h18, h2, h3, h4, h5, h6, h16, hbq, hq, cb, h17, hlt', cq]
    clear h2 h3 h4 h5 h6 h16 hbq hq cb h17 h18 cq
    rintro ρ s ⟨h18, h2, h3, h4, h5, h6, h16, hbq, hq, cb, h17, cq⟩
    rw [wpC_seq]
    refine w_mid (fun ρ s => ρ.rd 18 = .int .i64 i ∧ ρ.rd 2 = .int .i64 k ∧ ρ.rd 3 = .psl (ofInts us) 0 us.length ∧ ρ.rd 4 = .psl (ofInts l) 0 l.length ∧ ρ.rd 5 = .psl (rowc Rw.c raws) 0 raws.length ∧ ρ.rd 6 = .psl (rowc Rw.c made) 0 made.length ∧ ρ.rd 16 = .ptr b 0 ∧ b < q ∧ q < s.n ∧ s.cells b = some [.psl (rowc Kd.c S.kinds) 0 S.kinds.length, .psl (rowc Ac.c S.acts) 0 S.acts.length] ∧ ρ.rd 17 = .ptr q 0 ∧ ∃ P, s.cells q = some [.bool P.forbid, .int .i64 P.p.kind, .str P.p.ut, .str P.p.ui, .int .i64 P.a.kind, .str P.a.ut, .str P.a.ui, .int .i64 P.r.kind, .str P.r.ut, .str P.r.ui, .psl (rowc Cn.c P.conds) 0 P.conds.length] ∧ PoG P) ?_ ?_
    · simp only [wpC_block, wpC_seq, wpC_skip, wpCK_normal]
      refine w_mid (fun ρ s => ρ.rd 18 = .int .i64 i ∧ ρ.rd 2 = .int .i64 k ∧ ρ.rd 3 = .psl (ofInts us) 0 us.length ∧ ρ.rd 4 = .psl (ofInts l) 0 l.length ∧ ρ.rd 5 = .psl (rowc Rw.c raws) 0 raws.length ∧ ρ.rd 6 = .psl (rowc Rw.c made) 0 made.length ∧ ρ.rd 16 = .ptr b 0 ∧ b < q ∧ q < s.n ∧ s.cells b = some [.psl (rowc Kd.c S.kinds) 0 S.kinds.length, .psl (rowc Ac.c S.acts) 0 S.acts.length] ∧ ρ.rd 17 = .ptr q 0 ∧ s.cells q = some [.bool P.forbid, .int .i64 P.p.kind, .str P.p.ut, .str P.p.ui, .int .i64 P.a.kind, .str P.a.ut, .str P.a.ui, .int .i64 P.r.kind, .str P.r.ut, .str P.r.ui, .psl (rowc Cn.c P.conds) 0 P.conds.length] ∧ ρ.rd 19 = .psl (rowc En.c L) 0 L.length ∧ ρ.rd 20 = .psl (rowc En.c L) 0 L.length) ?_ ?_
      · simp only [WU, seval, strs_eq]
        refine w_dreg follow [] rfl ?_
        have kb : (addSlots s.n 8 s []).cells b = _ := cb
        have kq : (addSlots s.n 8 s []).cells q = _ := cq
        have kn : (addSlots s.n 8 s []).n = s.n + 8 := rfl
        generalize addSlots s.n 8 s [] = s1 at *
        simp only [WU, seval, strs_eq, DU, h16, h17, kb, kq, sg, sg11]
        refine (hE1 _).useD ?_
        simp only [WU, seval, strs_eq, DU, h16, h17, kb, kq, sg, sg11]
        refine (hE2 _).useD ?_
        simp only [WU, seval, strs_eq, DU, h16, h17, kb, kq]
        refine ⟨⟨?_, ?_⟩, ?_⟩
        · intro l hl c hc hf
          simp only [List.mem_cons, List.mem_nil_iff, List.not_mem_nil, or_false] at hl hc
          rcases hl with rfl | rfl | rfl | rfl <;> rcases hc with rfl | rfl | rfl <;> dsimp only at hf ⊢ <;> first
            | (exact absurd hf (by decide +kernel))
            | (simp only [WU, seval, strs_eq, h16, h17, kb, kq, sg, sg11]; done)
        · intro sl hsl; simp at hsl
        simp only [WU, seval, strs_eq, h18, h2, h3, h4, h5, h6, h16, h17, hbq, kb, kq]
        omega
      clear h2 h3 h4 h5 h6 h16 hbq hq cb h17 h18 cq
      rintro ρ s ⟨h18, h2, h3, h4, h5, h6, h16, hbq, hq, cb, h17, cq, h19, h20⟩
      rw [wpC_seq]
      refine w_mid (fun ρ s => ρ.rd 18 = .int .i64 i ∧ ρ.rd 2 = .int .i64 k ∧ ρ.rd 3 = .psl (ofInts us) 0 us.length ∧ ρ.rd 4 = .psl (ofInts l) 0 l.length ∧ ρ.rd 5 = .psl (rowc Rw.c raws) 0 raws.length ∧ ρ.rd 6 = .psl (rowc Rw.c made) 0 made.length ∧ ρ.rd 16 = .ptr b 0 ∧ b < q ∧ q < s.n ∧ s.cells b = some [.psl (rowc Kd.c S.kinds) 0 S.kinds.length, .psl (rowc Ac.c S.acts) 0 S.acts.length] ∧ ρ.rd 17 = .ptr q 0 ∧ s.cells q = some [.bool P.forbid, .int .i64 P.p.kind, .str P.p.ut, .str P.p.ui, .int .i64 P.a.kind, .str P.a.ut, .str P.a.ui, .int .i64 P.r.kind, .str P.r.ut, .str P.r.ui, .psl (rowc Cn.c P.conds) 0 P.conds.length] ∧ ρ.rd 19 = .psl (rowc En.c L) 0 L.length ∧ ρ.rd 20 = .psl (rowc En.c L) 0 L.length) ?_ ?_
      · simp only [WU, seval, strs_eq]
        refine w_dreg follow [] rfl ?_
        have kb : (addSlots s.n 14 s []).cells b = _ := cb
        have kq : (addSlots s.n 14 s []).cells q = _ := cq
        have kn : (addSlots s.n 14 s []).n = s.n + 14 := rfl
        generalize addSlots s.n 14 s [] = s1 at *
        simp only [WU, seval, strs_eq, DU, h16, h17, h19, h20, kb, kq, sg, sg11]
        refine (hC1 _).useD ?_
        simp only [WU, seval, strs_eq, DU, h16, h17, kb, kq, sg, sg11]
        refine (hC2 _).useD ?_
        simp only [WU, seval, strs_eq, DU, h16, h17, kb, kq]
        refine ⟨⟨?_, ?_⟩, ?_⟩
        · intro l hl c hc hf
          simp only [List.mem_cons, List.mem_nil_iff, List.not_mem_nil, or_false] at hl hc
          rcases hl with rfl | rfl | rfl | rfl <;> rcases hc with rfl | rfl | rfl <;> dsimp only at hf ⊢ <;> first
            | (exact absurd hf (by decide +kernel))
            | (simp only [WU, seval, strs_eq, h16, h17, kb, kq, sg, sg11]; done)
        · intro sl hsl; simp at hsl
        simp only [WU, seval, strs_eq, h18, h2, h3, h4, h5, h6, h16, h17, h19, h20, hbq, kb, kq]
        omega
      clear h2 h3 h4 h5 h6 h16 hbq hq cb h17 h18 cq h19 h20
      rintro ρ s ⟨h18, h2, h3, h4, h5, h6, h16, hbq, hq, cb, h17, cq, h19, h20⟩
      rw [wpC_seq]
      refine w_mid (fun ρ s => ρ.rd 18 = .int .i64 i ∧ ρ.rd 2 = .int .i64 k ∧ ρ.rd 3 = .psl (ofInts us) 0 us.length ∧ ρ.rd 4 = .psl (ofInts l) 0 l.length ∧ ρ.rd 5 = .psl (rowc Rw.c raws) 0 raws.length ∧ ρ.rd 6 = .psl (rowc Rw.c made) 0 made.length ∧ ρ.rd 16 = .ptr b 0 ∧ b < q ∧ q < s.n ∧ s.cells b = some [.psl (rowc Kd.c S.kinds) 0 S.kinds.length, .psl (rowc Ac.c S.acts) 0 S.acts.length] ∧ ρ.rd 17 = .ptr q 0 ∧ s.cells q = some [.bool P.forbid, .int .i64 P.p.kind, .str P.p.ut, .str P.p.ui, .int .i64 P.a.kind, .str P.a.ut, .str P.a.ui, .int .i64 P.r.kind, .str P.r.ut, .str P.r.ui, .psl (rowc Cn.c P.conds) 0 P.conds.length]) ?_ ?_
      · simp only [WU, seval, strs_eq, h19, h20, h2, h3, h4, h5, h6, h16, hbq, hq, cb, h17]
        refine w_for (fun j ρ s => ρ.rd 21 = .int .i64 j ∧ ρ.rd 18 = .int .i64 i ∧ ρ.rd 2 = .int .i64 k ∧ ρ.rd 3 = .psl (ofInts us) 0 us.length ∧ ρ.rd 4 = .psl (ofInts l) 0 l.length ∧ ρ.rd 5 = .psl (rowc Rw.c raws) 0 raws.length ∧ ρ.rd 6 = .psl (rowc Rw.c made) 0 made.length ∧ ρ.rd 16 = .ptr b 0 ∧ b < q ∧ q < s.n ∧ s.cells b = some [.psl (rowc Kd.c S.kinds) 0 S.kinds.length, .psl (rowc Ac.c S.acts) 0 S.acts.length] ∧ ρ.rd 17 = .ptr q 0 ∧ s.cells q = some [.bool P.forbid, .int .i64 P.p.kind, .str P.p.ut, .str P.p.ui, .int .i64 P.a.kind, .str P.a.ut, .str P.a.ui, .int .i64 P.r.kind, .str P.r.ut, .str P.r.ui, .psl (rowc Cn.c P.conds) 0 P.conds.length] ∧ ρ.rd 19 = .psl (rowc En.c L) 0 L.length ∧ ρ.rd 20 = .psl (rowc En.c L) 0 L.length) L.length ?_ ?_
        · simp only [WU, seval, strs_eq, h18, h19, h20, h2, h3, h4, h5, h6, h16, hbq, hq, cb, h17, cq]
        clear h2 h3 h4 h5 h6 h16 hbq hq cb h17 h18 cq h19 h20
        rintro j ρ s hj ⟨h21, h18, h2, h3, h4, h5, h6, h16, hbq, hq, cb, h17, cq, h19, h20⟩
        by_cases hjl : j < L.length
        rotate_left
        · have : j = L.length := by omega
          subst this
          have hge : ¬ ((L.length : Nat) : Int) < ((L.length : Nat) : Int) := by omega
          simp only [WU, seval, strs_eq, h21, h18, h19, h20, h2, h3, h4, h5, h6, h16, hbq, hq, cb, h17, hge, cq]
        have hrj := lt_idx hjl
        have hjl' := hrj.2
        have hwj : IntKind.i64.wrap ((j : Int) + 1) = ((j + 1 : Nat) : Int) := wrap_succ (by omega)
        have A := enAt hjl
        have g0 := A.g0
        have ga : (rowc En.c L)[j * 3 + 1]? = some (.str L[j].a) := rowc_get En.c_len hjl (by decide)
        have gr : (rowc En.c L)[j * 3 + 2]? = some (.str L[j].r) := rowc_get En.c_len hjl (by decide)
        generalize L[j] = e at *
        simp only [WU, seval, strs_eq, h21, h19, h20, hjl', h2, h3, h4, h5, h6, h16, hbq, hq, cb, h17]
        refine w_dreg0 follow ?_ rfl
        have kb : (addSlots s.n 37 s []).cells b = _ := cb
        have kq : (addSlots s.n 37 s []).cells q = _ := cq
        have kn : (addSlots s.n 37 s []).n = s.n + 37 := rfl
        generalize addSlots s.n 37 s [] = s1 at *
        simp only [WU, seval, strs_eq, h21, h19, h20, hrj, g0, ga, gr, h18, h2, h3, h4, h5, h6, h16, h17, hbq, kb, kq, hwj]
        exact ⟨hjl, by omega⟩
      clear h2 h3 h4 h5 h6 h16 hbq hq cb h17 h18 cq h19 h20
      rintro ρ s ⟨h18, h2, h3, h4, h5, h6, h16, hbq, hq, cb, h17, cq⟩
      have nbq : ¬ b = q := by omega
      simp only [WU, seval, strs_eq, h18, h2, h3, h4, h5, h6, h16, hbq, hq, cb, h17, sg, cq]
      refine (hP11 _).mono ?_
      rintro v s' ⟨rfl, P', rfl, hP'⟩
      rw [Po.c_eq]
      simp only [WU, seval, strs_eq, h18, h2, h3, h4, h5, h6, h16, hbq, hq, cb, h17, cq, nbq, storeA, sets, setx, TS]
      exact ⟨P', by simp [slc_eq], hP'⟩
    clear h2 h3 h4 h5 h6 h16 hbq hq cb h17 h18 cq
    rintro ρ s ⟨h18, h2, h3, h4, h5, h6, h16, hbq, hq, cb, h17, P, cq, hP⟩
    simp only [WU, seval, strs_eq, h18, h2, h3, h4, h5, h6, h16, hbq, hq, cb, h17, hw]
    exact ⟨hlt, P, cq, hP⟩
  rintro ρ s _
  refine s_wp ?_
  simp only [WU, seval, strs_eq]
end Go.Proofs.Ytcdbpmmomgehfaa.Va
