/- chancelref11.Check. Conditions: none. -/
import Derived.Test.YtcdbpmmomgehfaaTC
import Derived.Test.YtcdbpmmomgehfaaTy39
set_option maxRecDepth 100000
set_option maxHeartbeats 4000000
set_option linter.all false
namespace Go.Proofs.Ytcdbpmmomgehfaa.Va
open Go.Proofs
theorem checkL_st0 {S : Sc} {P : Po} (hs : ScR S) (hal : S.acts.length ≤ 1000) (hP : PoG P) : AC Try.prog 27 [.agg S.c, .agg P.c] st0 fun v _ => v = .int .i64 (chkS S P) := by
  have hE : ∀ σ, AC Try.prog 25 [.agg S.c, .agg P.c] σ fun v s => s = σ ∧ v = slc En.c (envsS S P) := fun σ => envsR_ac hs.m hal (pur_po σ P)
  have hlen : (envsS S P).length ≤ 16 * S.acts.length := envsGo_len (P := P) (l := S.acts) hs.m.a
  have hO : ∀ (e : En) (c : Cn), c ∈ P.conds → ∀ σ, AC Try.prog 36 [.agg S.c, .agg [.str e.p, .str e.a, .str e.r], .agg c.e.c] σ fun v s => s = σ ∧ v = tyP (ofP S e.p e.r c.e) := fun e c hc σ => ofR_ac hs _ (hP.w c hc) σ
  have hK : ∀ (c : Sco) σ, AC Try.prog 43 [.agg S.c, .agg [.str c.ut, .str c.ui]] σ fun v s => s = σ ∧ v = .bool (knownS S c.ut c.ui) := fun c σ => uidR_ac hs.m
  have sg := scSeg S
  have sgE : ∀ a b c : AV, seg [a, b, c] 0 3 = [a, b, c] := fun _ _ _ => rfl
  have hpl := hP.n
  have hoff := chkS_off (S := S) (P := P)
  have hnone := chkS_none (S := S) (P := P)
  have henv := chkS_env (S := S) (P := P)
  generalize chkS S P = R at *
  generalize envsS S P = L at *
  rw [Po.c_eq] at *
  simp only [Sc.c_eq, slc_eq] at hE hO hK ⊢
  refine ac_wp fn27 cf27 cl27 rfl ?_
  simp only [ac27]
  unfold ab27
  simp only [wpC_seq, wpC_skip, wpCK_normal]
  refine w_mid (fun ρ s => ρ.rd 2 = .ptr 0 0 ∧ ρ.rd 3 = .ptr 1 0 ∧ s.cells 0 = some [.psl (rowc Kd.c S.kinds) 0 S.kinds.length, .psl (rowc Ac.c S.acts) 0 S.acts.length] ∧ s.cells 1 = some [.bool P.forbid, .int .i64 P.p.kind, .str P.p.ut, .str P.p.ui, .int .i64 P.a.kind, .str P.a.ut, .str P.a.ui, .int .i64 P.r.kind, .str P.r.ut, .str P.r.ui, .psl (rowc Cn.c P.conds) 0 P.conds.length] ∧ 2 ≤ s.n) ?_ ?_
  · simp only [WU, seval, strs_eq]
  rintro ρ s ⟨h2, h3, c0, c1, hn⟩
  rw [wpC_seq]
  refine w_mid (fun ρ s => ρ.rd 2 = .ptr 0 0 ∧ ρ.rd 3 = .ptr 1 0 ∧ s.cells 0 = some [.psl (rowc Kd.c S.kinds) 0 S.kinds.length, .psl (rowc Ac.c S.acts) 0 S.acts.length] ∧ s.cells 1 = some [.bool P.forbid, .int .i64 P.p.kind, .str P.p.ut, .str P.p.ui, .int .i64 P.a.kind, .str P.a.ut, .str P.a.ui, .int .i64 P.r.kind, .str P.r.ut, .str P.r.ui, .psl (rowc Cn.c P.conds) 0 P.conds.length] ∧ 2 ≤ s.n ∧ ∃ q, ρ.rd 5 = .sl q 0 3 (some 3) 3 ∧ 2 ≤ q ∧ q < s.n ∧ s.cells q = some (scoRow P)) ?_ ?_
  · have n0 : ¬ 0 = s.n := by omega
    have n1 : ¬ 1 = s.n := by omega
    simp only [WU, seval, strs_eq, h2, h3, c0, c1, hn, sg13, sg43, sg73, n0, n1]
    exact ⟨by omega, s.n, rfl, by omega, by omega, by simp [scoRow]⟩
  clear h2 h3 c0 c1 hn
  rintro ρ s ⟨h2, h3, c0, c1, hn, q, h5, hq2, hq, cq⟩
  rw [wpC_seq]
  refine w_mid (fun ρ s => ρ.rd 2 = .ptr 0 0 ∧ ρ.rd 3 = .ptr 1 0 ∧ s.cells 0 = some [.psl (rowc Kd.c S.kinds) 0 S.kinds.length, .psl (rowc Ac.c S.acts) 0 S.acts.length] ∧ s.cells 1 = some [.bool P.forbid, .int .i64 P.p.kind, .str P.p.ut, .str P.p.ui, .int .i64 P.a.kind, .str P.a.ut, .str P.a.ui, .int .i64 P.r.kind, .str P.r.ut, .str P.r.ui, .psl (rowc Cn.c P.conds) 0 P.conds.length] ∧ 2 ≤ s.n ∧ (scos P).any (offSco S) = false) ?_ ?_
  · simp only [WU, seval, strs_eq, h2, h3, c0, c1, hn, h5]
    refine w_for (fun i ρ s => ρ.rd 6 = .int .i64 i ∧ ρ.rd 5 = .sl q 0 3 (some 3) 3 ∧ ρ.rd 2 = .ptr 0 0 ∧ ρ.rd 3 = .ptr 1 0 ∧ s.cells 0 = some [.psl (rowc Kd.c S.kinds) 0 S.kinds.length, .psl (rowc Ac.c S.acts) 0 S.acts.length] ∧ s.cells 1 = some [.bool P.forbid, .int .i64 P.p.kind, .str P.p.ut, .str P.p.ui, .int .i64 P.a.kind, .str P.a.ut, .str P.a.ui, .int .i64 P.r.kind, .str P.r.ut, .str P.r.ui, .psl (rowc Cn.c P.conds) 0 P.conds.length] ∧ 2 ≤ s.n ∧ q < s.n ∧ s.cells q = some (scoRow P) ∧ ((scos P).take i).any (offSco S) = false) 3 ?_ ?_
    · simp only [WU, seval, strs_eq, h2, h3, c0, c1, hn, h5]
      first | done | exact ⟨rfl, hq, cq, rfl⟩ | exact ⟨hq, cq, rfl⟩
    clear h2 h3 c0 c1 hn h5 hq cq
    rintro i ρ s hi ⟨h6, h5, h2, h3, c0, c1, hn, hq, cq, hany⟩
    by_cases hlt : i < 3
    rotate_left
    · have : i = 3 := by omega
      subst this
      simp only [WU, seval, strs_eq, h6, h5, h2, h3, c0, c1, hn]
      exact hany
    have hlt' : ((i : Nat) : Int) < 3 := by omega
    have hge' : (0 : Int) ≤ ((i : Nat) : Int) := by omega
    have hw : IntKind.i64.wrap ((i : Int) + 1) = ((i + 1 : Nat) : Int) := wrap_succ (by omega)
    obtain ⟨c, hc, _, hfit, hk, hu⟩ := scoRow_at (P := P) hlt
    have hfit2 : i * 3 + 1 + 2 ≤ (scoRow P).length := by omega
    have hK := hK c
    have hnx := scos3 (S := S) (P := P) hi hany
    have hht := scos_hit (S := S) hc
    simp only [WU, seval, strs_eq, h6, h5, h2, h3, c0, c1, hn, hlt']
    refine w_dreg follow [] rfl ?_
    have k0' : (addSlots s.n 16 s []).cells 0 = _ := c0
    have kq : (addSlots s.n 16 s []).cells q = _ := cq
    have k1' : (addSlots s.n 16 s []).cells 1 = _ := c1
    have hnA : (addSlots s.n 16 s []).n = s.n + 16 := rfl
    generalize addSlots s.n 16 s [] = s1 at *
    by_cases k0 : c.kind = 0
    · simp only [WU, seval, strs_eq, DU, h2, h5, h6, kq, hlt', hge', hk, k0]
      refine ⟨⟨?_, ?_⟩, ?_⟩
      · intro l hl c hc hf
        simp only [List.mem_cons, List.mem_nil_iff, List.not_mem_nil, or_false] at hl hc
        rcases hl with rfl <;> rcases hc with rfl | rfl <;> dsimp only at hf ⊢ <;> first
          | (exact absurd hf (by decide +kernel))
          | (simp only [WU, seval, strs_eq, h2, h5, h6, kq, hlt', hge', hk, k0]; done)
      · intro sl hsl; simp at hsl
      simp only [WU, seval, strs_eq, h2, h3, h5, h6, k0', k1', hw]
      exact ⟨hlt, by omega, by omega, hnx fun c' e => by rw [hc] at e; cases e; unfold offSco; simp [k0]⟩
    · cases hkn : knownS S c.ut c.ui with
      | true =>
        simp only [WU, seval, strs_eq, DU, h2, h5, h6, kq, k0', hlt', hge', hk, hu, hfit2, k0, sg]
        refine (hK _).useD ?_
        simp only [WU, seval, strs_eq, DU, h2, h5, h6, kq, k0', hlt', hge', hk, hu, hfit2, k0, sg, hkn]
        refine ⟨⟨?_, ?_⟩, ?_⟩
        · intro l hl c hc hf
          simp only [List.mem_cons, List.mem_nil_iff, List.not_mem_nil, or_false] at hl hc
          rcases hl with rfl | rfl | rfl <;> rcases hc with rfl | rfl <;> dsimp only at hf ⊢ <;> first
            | (exact absurd hf (by decide +kernel))
            | (simp only [WU, seval, strs_eq, h2, h5, h6, kq, k0', hlt', hge', hk, hu, hfit2, k0, sg]; done)
        · intro sl hsl; simp at hsl
        simp only [WU, seval, strs_eq, h2, h3, h5, h6, k0', k1', hw]
        exact ⟨hlt, by omega, by omega, hnx fun c' e => by rw [hc] at e; cases e; unfold offSco; simp [hkn]⟩
      | false =>
        have h15 := hoff (hht (by unfold offSco; simp [k0, hkn]))
        simp only [WU, seval, strs_eq, DU, h2, h5, h6, kq, k0', hlt', hge', hk, hu, hfit2, k0, sg]
        refine (hK _).useD ?_
        simp only [WU, seval, strs_eq, DU, h2, h5, h6, kq, k0', hlt', hge', hk, hu, hfit2, k0, sg, hkn]
        refine ⟨⟨?_, ?_⟩, ?_⟩
        · intro l hl c hc hf
          simp only [List.mem_cons, List.mem_nil_iff, List.not_mem_nil, or_false] at hl hc
          rcases hl with rfl | rfl | rfl <;> rcases hc with rfl | rfl <;> dsimp only at hf ⊢ <;> first
            | (exact absurd hf (by decide +kernel))
            | (simp only [WU, seval, strs_eq, h2, h5, h6, kq, k0', hlt', hge', hk, hu, hfit2, k0, sg]; done)
        · intro sl hsl; simp at hsl
        simp only [WU, seval, strs_eq, h15]
  clear h2 h3 c0 c1 hn
  rintro ρ s ⟨h2, h3, c0, c1, hn, hany⟩
  have hnone := hnone hany
  have henv := henv hany
  clear hoff
  have sg11 : ∀ a b c d e f g h i j k : AV, seg [a, b, c, d, e, f, g, h, i, j, k] 0 11 = [a, b, c, d, e, f, g, h, i, j, k] := fun _ _ _ _ _ _ _ _ _ _ _ => rfl
  rw [wpC_seq]
  refine w_mid (fun ρ s => ρ.rd 2 = .ptr 0 0 ∧ ρ.rd 3 = .ptr 1 0 ∧ s.cells 0 = some [.psl (rowc Kd.c S.kinds) 0 S.kinds.length, .psl (rowc Ac.c S.acts) 0 S.acts.length] ∧ s.cells 1 = some [.bool P.forbid, .int .i64 P.p.kind, .str P.p.ut, .str P.p.ui, .int .i64 P.a.kind, .str P.a.ut, .str P.a.ui, .int .i64 P.r.kind, .str P.r.ut, .str P.r.ui, .psl (rowc Cn.c P.conds) 0 P.conds.length] ∧ 2 ≤ s.n ∧ ρ.rd 7 = slc En.c L) ?_ ?_
  · simp only [WU, seval, strs_eq, h2, h3, c0, c1, hn, sg, sg11]
    refine (hE _).use ?_
    simp only [WU, seval, strs_eq, h2, h3, c0, c1, hn]
  clear h2 h3 c0 c1 hn
  rintro ρ s ⟨h2, h3, c0, c1, hn, h7⟩
  rw [wpC_seq]
  by_cases hL0 : L.length = 0
  · have e2 := hnone hL0
    have z0 : ((L.length : Nat) : Int) = 0 := by omega
    simp only [WU, seval, strs_eq, h2, h3, c0, c1, hn, h7, z0, e2]
  have z0 : ¬ ((L.length : Nat) : Int) = 0 := by omega
  have hRR := henv hL0
  clear hnone henv
  refine w_mid (fun ρ s => ρ.rd 2 = .ptr 0 0 ∧ ρ.rd 3 = .ptr 1 0 ∧ s.cells 0 = some [.psl (rowc Kd.c S.kinds) 0 S.kinds.length, .psl (rowc Ac.c S.acts) 0 S.acts.length] ∧ s.cells 1 = some [.bool P.forbid, .int .i64 P.p.kind, .str P.p.ut, .str P.p.ui, .int .i64 P.a.kind, .str P.a.ut, .str P.a.ui, .int .i64 P.r.kind, .str P.r.ut, .str P.r.ui, .psl (rowc Cn.c P.conds) 0 P.conds.length] ∧ 2 ≤ s.n ∧ ρ.rd 7 = slc En.c L) ?_ ?_
  · simp only [WU, seval, strs_eq, h2, h3, c0, c1, hn, h7, z0]
  clear h2 h3 c0 c1 hn h7
  rintro ρ s ⟨h2, h3, c0, c1, hn, h7⟩
  rw [wpC_seq]
  refine w_mid (fun ρ s => R = 0) ?_ ?_
  · simp only [WU, seval, strs_eq, h2, h3, c0, c1, hn, h7]
    refine w_for (fun i ρ s => ρ.rd 8 = .int .i64 i ∧ ρ.rd 7 = slc En.c L ∧ ρ.rd 2 = .ptr 0 0 ∧ ρ.rd 3 = .ptr 1 0 ∧ s.cells 0 = some [.psl (rowc Kd.c S.kinds) 0 S.kinds.length, .psl (rowc Ac.c S.acts) 0 S.acts.length] ∧ s.cells 1 = some [.bool P.forbid, .int .i64 P.p.kind, .str P.p.ut, .str P.p.ui, .int .i64 P.a.kind, .str P.a.ut, .str P.a.ui, .int .i64 P.r.kind, .str P.r.ut, .str P.r.ui, .psl (rowc Cn.c P.conds) 0 P.conds.length] ∧ 2 ≤ s.n ∧ R = chkE S P.conds (L.drop i)) L.length ?_ ?_
    · simp only [WU, seval, strs_eq, h2, h3, c0, c1, hn, h7]
      first | done | exact ⟨rfl, hRR⟩ | exact hRR
    clear h2 h3 c0 c1 hn h7 hRR
    rintro i ρ s hi ⟨h8, h7, h2, h3, c0, c1, hn, hRR⟩
    by_cases hlt : i < L.length
    rotate_left
    · have : i = L.length := by omega
      subst this
      have hge : ¬ ((L.length : Nat) : Int) < ((L.length : Nat) : Int) := by omega
      rw [List.drop_length] at hRR
      simp only [WU, seval, strs_eq, h8, h7, h2, h3, c0, c1, hn, hge]
      exact hRR
    have hr := lt_idx hlt
    have hlt' := hr.2
    have hw : IntKind.i64.wrap ((i : Int) + 1) = ((i + 1 : Nat) : Int) := wrap_succ (by omega)
    have A := enAt hlt
    have hfit := A.fit
    have hall := A.all
    rw [chkE_drop hlt] at hRR
    generalize L[i] = e at *
    rw [wpC_seq]
    refine w_mid (fun ρ s => ρ.rd 8 = .int .i64 i ∧ ρ.rd 7 = slc En.c L ∧ ρ.rd 2 = .ptr 0 0 ∧ ρ.rd 3 = .ptr 1 0 ∧ s.cells 0 = some [.psl (rowc Kd.c S.kinds) 0 S.kinds.length, .psl (rowc Ac.c S.acts) 0 S.acts.length] ∧ s.cells 1 = some [.bool P.forbid, .int .i64 P.p.kind, .str P.p.ut, .str P.p.ui, .int .i64 P.a.kind, .str P.a.ut, .str P.a.ui, .int .i64 P.r.kind, .str P.r.ut, .str P.r.ui, .psl (rowc Cn.c P.conds) 0 P.conds.length] ∧ 2 ≤ s.n) ?_ ?_
    · simp only [WU, seval, strs_eq, h8, h7, h2, h3, c0, c1, hn, hlt']
    clear h2 h3 c0 c1 hn h8 h7
    rintro ρ s ⟨h8, h7, h2, h3, c0, c1, hn⟩
    rw [wpC_seq]
    refine w_mid (fun ρ s => ρ.rd 8 = .int .i64 i ∧ ρ.rd 7 = slc En.c L ∧ ρ.rd 2 = .ptr 0 0 ∧ ρ.rd 3 = .ptr 1 0 ∧ s.cells 0 = some [.psl (rowc Kd.c S.kinds) 0 S.kinds.length, .psl (rowc Ac.c S.acts) 0 S.acts.length] ∧ s.cells 1 = some [.bool P.forbid, .int .i64 P.p.kind, .str P.p.ut, .str P.p.ui, .int .i64 P.a.kind, .str P.a.ut, .str P.a.ui, .int .i64 P.r.kind, .str P.r.ut, .str P.r.ui, .psl (rowc Cn.c P.conds) 0 P.conds.length] ∧ 2 ≤ s.n ∧ R = chkE S P.conds (L.drop (i + 1))) ?_ ?_
    · simp only [wpC_block, wpC_seq, wpC_skip, wpCK_normal]
      refine w_mid (fun ρ s => ρ.rd 8 = .int .i64 i ∧ ρ.rd 7 = slc En.c L ∧ ρ.rd 2 = .ptr 0 0 ∧ ρ.rd 3 = .ptr 1 0 ∧ s.cells 0 = some [.psl (rowc Kd.c S.kinds) 0 S.kinds.length, .psl (rowc Ac.c S.acts) 0 S.acts.length] ∧ s.cells 1 = some [.bool P.forbid, .int .i64 P.p.kind, .str P.p.ut, .str P.p.ui, .int .i64 P.a.kind, .str P.a.ut, .str P.a.ui, .int .i64 P.r.kind, .str P.r.ut, .str P.r.ui, .psl (rowc Cn.c P.conds) 0 P.conds.length] ∧ 2 ≤ s.n ∧ ρ.rd 9 = .int .i64 0) ?_ ?_
      · simp only [WU, seval, strs_eq, h8, h7, h2, h3, c0, c1, hn]
      clear h8 h7 h2 h3 c0 c1 hn
      rintro ρ s ⟨h8, h7, h2, h3, c0, c1, hn, h9⟩
      simp only [WU, seval, strs_eq, h8, h7, h2, h3, c0, c1, hn, h9]
      refine w_for (fun k ρ s => ρ.rd 9 = .int .i64 k ∧ ρ.rd 8 = .int .i64 i ∧ ρ.rd 7 = slc En.c L ∧ ρ.rd 2 = .ptr 0 0 ∧ ρ.rd 3 = .ptr 1 0 ∧ s.cells 0 = some [.psl (rowc Kd.c S.kinds) 0 S.kinds.length, .psl (rowc Ac.c S.acts) 0 S.acts.length] ∧ s.cells 1 = some [.bool P.forbid, .int .i64 P.p.kind, .str P.p.ut, .str P.p.ui, .int .i64 P.a.kind, .str P.a.ut, .str P.a.ui, .int .i64 P.r.kind, .str P.r.ut, .str P.r.ui, .psl (rowc Cn.c P.conds) 0 P.conds.length] ∧ 2 ≤ s.n ∧ chkC S e P.conds = chkC S e (P.conds.drop k)) P.conds.length ?_ ?_
      · simp only [WU, seval, strs_eq, h8, h7, h2, h3, c0, c1, hn, h9]
        first | done | exact ⟨rfl, rfl⟩ | exact rfl
      clear h8 h7 h2 h3 c0 c1 hn h9
      rintro k ρ s hk ⟨h9, h8, h7, h2, h3, c0, c1, hn, hcc⟩
      by_cases hkl : k < P.conds.length
      rotate_left
      · have : k = P.conds.length := by omega
        subst this
        have hge : ¬ ((P.conds.length : Nat) : Int) < ((P.conds.length : Nat) : Int) := by omega
        rw [List.drop_length] at hcc
        simp only [WU, seval, strs_eq, h9, h8, h7, h2, h3, c0, c1, hn, hge]
        rw [hRR, hcc, if_neg (by simp [chkC])]
      have hrk := lt_idx hkl
      have hkl' := hrk.2
      have hwk : IntKind.i64.wrap ((k : Int) + 1) = ((k + 1 : Nat) : Int) := wrap_succ (by omega)
      have A := cnAt hkl
      have hfitc := A.fit
      have hfitc2 : k * 8 + 1 + 7 ≤ (rowc Cn.c P.conds).length := by omega
      have halle := A.e
      rw [chkC_drop hkl] at hcc
      have hO := hO e P.conds[k] (List.getElem_mem hkl)
      generalize P.conds[k] = c at *
      obtain ⟨cu, cex⟩ := c
      have hcl := Ex.c_len cex
      generalize ofP S e.p e.r cex = X at *
      obtain ⟨T, er⟩ := X
      simp only at halle hcc
      generalize cex.c = ec at *
      rw [wpC_seq]
      refine w_mid (fun ρ s => ρ.rd 9 = .int .i64 k ∧ ρ.rd 8 = .int .i64 i ∧ ρ.rd 7 = slc En.c L ∧ ρ.rd 2 = .ptr 0 0 ∧ ρ.rd 3 = .ptr 1 0 ∧ s.cells 0 = some [.psl (rowc Kd.c S.kinds) 0 S.kinds.length, .psl (rowc Ac.c S.acts) 0 S.acts.length] ∧ s.cells 1 = some [.bool P.forbid, .int .i64 P.p.kind, .str P.p.ut, .str P.p.ui, .int .i64 P.a.kind, .str P.a.ut, .str P.a.ui, .int .i64 P.r.kind, .str P.r.ut, .str P.r.ui, .psl (rowc Cn.c P.conds) 0 P.conds.length] ∧ 2 ≤ s.n) ?_ ?_
      · simp only [WU, seval, strs_eq, h9, h8, h7, h2, h3, c0, c1, hn, hkl']
      clear h8 h7 h2 h3 c0 c1 hn h9
      rintro ρ s ⟨h9, h8, h7, h2, h3, c0, c1, hn⟩
      rw [wpC_seq]
      refine w_mid (fun ρ s => ρ.rd 9 = .int .i64 k ∧ ρ.rd 8 = .int .i64 i ∧ ρ.rd 7 = slc En.c L ∧ ρ.rd 2 = .ptr 0 0 ∧ ρ.rd 3 = .ptr 1 0 ∧ s.cells 0 = some [.psl (rowc Kd.c S.kinds) 0 S.kinds.length, .psl (rowc Ac.c S.acts) 0 S.acts.length] ∧ s.cells 1 = some [.bool P.forbid, .int .i64 P.p.kind, .str P.p.ut, .str P.p.ui, .int .i64 P.a.kind, .str P.a.ut, .str P.a.ui, .int .i64 P.r.kind, .str P.r.ut, .str P.r.ui, .psl (rowc Cn.c P.conds) 0 P.conds.length] ∧ 2 ≤ s.n ∧ (er = 0 ∧ T.kind = 1)) ?_ ?_
      · simp only [wpC_block, wpC_seq, wpC_skip, wpCK_normal]
        refine w_mid (fun ρ s => ρ.rd 9 = .int .i64 k ∧ ρ.rd 8 = .int .i64 i ∧ ρ.rd 7 = slc En.c L ∧ ρ.rd 2 = .ptr 0 0 ∧ ρ.rd 3 = .ptr 1 0 ∧ s.cells 0 = some [.psl (rowc Kd.c S.kinds) 0 S.kinds.length, .psl (rowc Ac.c S.acts) 0 S.acts.length] ∧ s.cells 1 = some [.bool P.forbid, .int .i64 P.p.kind, .str P.p.ut, .str P.p.ui, .int .i64 P.a.kind, .str P.a.ut, .str P.a.ui, .int .i64 P.r.kind, .str P.r.ut, .str P.r.ui, .psl (rowc Cn.c P.conds) 0 P.conds.length] ∧ 2 ≤ s.n ∧ ∃ t, ρ.rd 10 = .ptr t 0 ∧ s.cells t = some T.c ∧ ρ.rd 11 = .int .i64 er) ?_ ?_
        · simp only [WU, seval, strs_eq]
          refine w_dreg follow [(15, [.int .i64 0, .int .i64 0, .str []])] rfl ?_
          have ga := slots_get (s := s) (m := 18) [(15, [.int .i64 0, .int .i64 0, .str []])] 15 _ rfl
          have k0 := (slots_old (m := 18) [(15, [.int .i64 0, .int .i64 0, .str []])] (b := 0) (by omega)).trans c0
          have k1 := (slots_old (m := 18) [(15, [.int .i64 0, .int .i64 0, .str []])] (b := 1) (by omega)).trans c1
          have kn : (addSlots s.n 18 s [(15, [.int .i64 0, .int .i64 0, .str []])]).n = s.n + 18 := rfl
          generalize addSlots s.n 18 s [(15, [.int .i64 0, .int .i64 0, .str []])] = s1 at *
          have ca := cells_of ga
          have n0a : ¬ 0 = s.n + 15 := by omega
          have n1a : ¬ 1 = s.n + 15 := by omega
          simp only [WU, seval, strs_eq, DU, h2, h3, h7, h8, h9, k0, k1, hr, hrk, hfit, hall, hfitc, hfitc2, halle, hcl, sg, sgE]
          refine (hO _).useD ?_
          simp only [WU, seval, strs_eq, DU, h2, h3, h7, h8, h9, k0, k1, ca, sgE, tyP, tyE, Ty.c_eq, storeA, sets, setx, TS]
          refine ⟨⟨?_, ?_⟩, ?_⟩
          · intro l hl c hc hf
            simp only [List.mem_cons, List.mem_nil_iff, List.not_mem_nil, or_false] at hl hc
            rcases hl with rfl | rfl | rfl | rfl <;> rcases hc with rfl | rfl | rfl <;> dsimp only at hf ⊢ <;> first
              | (exact absurd hf (by decide +kernel))
              | (simp only [WU, seval, strs_eq, h2, h3, h7, h8, h9, k0, k1, n0a, n1a, hr, hrk, hfit, hall, hfitc, hfitc2, halle, hcl, sg, sgE]; done)
          · intro sl hsl c hc hf
            simp only [List.mem_cons, List.mem_nil_iff, List.not_mem_nil, or_false] at hsl hc
            rcases hsl with rfl <;> rcases hc with rfl | rfl | rfl <;> dsimp only at hf ⊢ <;> first
              | exact ⟨by omega, ga⟩
              | (exact absurd hf (by decide +kernel))
          exact ⟨by omega, s.n + 15, rfl, by simp⟩
        clear h8 h7 h2 h3 c0 c1 hn h9
        rintro ρ s ⟨h9, h8, h7, h2, h3, c0, c1, hn, t, h10, ct, h11⟩
        rw [wpC_seq]
        by_cases he : er = 0
        rotate_left
        · rw [if_pos he] at hcc
          have hR1 : R = er := by rw [hRR, hcc, if_pos he]
          simp only [WU, seval, strs_eq, h8, h7, h2, h3, c0, c1, hn, h11, he, hR1]
        refine w_mid (fun ρ s => ρ.rd 9 = .int .i64 k ∧ ρ.rd 8 = .int .i64 i ∧ ρ.rd 7 = slc En.c L ∧ ρ.rd 2 = .ptr 0 0 ∧ ρ.rd 3 = .ptr 1 0 ∧ s.cells 0 = some [.psl (rowc Kd.c S.kinds) 0 S.kinds.length, .psl (rowc Ac.c S.acts) 0 S.acts.length] ∧ s.cells 1 = some [.bool P.forbid, .int .i64 P.p.kind, .str P.p.ut, .str P.p.ui, .int .i64 P.a.kind, .str P.a.ut, .str P.a.ui, .int .i64 P.r.kind, .str P.r.ut, .str P.r.ui, .psl (rowc Cn.c P.conds) 0 P.conds.length] ∧ 2 ≤ s.n ∧ ∃ t, ρ.rd 10 = .ptr t 0 ∧ s.cells t = some T.c) ?_ ?_
        · simp only [WU, seval, strs_eq, h9, h8, h7, h2, h3, c0, c1, hn, h10, h11, he]
          exact ⟨t, rfl, ct⟩
        clear h8 h7 h2 h3 c0 c1 hn h9 h10 ct h11
        rintro ρ s ⟨h9, h8, h7, h2, h3, c0, c1, hn, t, h10, ct⟩
        rw [if_neg (by simp [he])] at hcc
        rw [Ty.c_eq] at ct
        by_cases hT : T.kind = 1
        · simp only [WU, seval, strs_eq, h9, h8, h7, h2, h3, c0, c1, hn, h10, ct, hT]
          exact he
        · rw [if_pos hT] at hcc
          have hR1 : R = 16 := by rw [hRR, hcc, if_pos (by decide)]
          simp only [WU, seval, strs_eq, h9, h8, h7, h2, h3, c0, c1, hn, h10, ct, hT, hR1]
      clear h8 h7 h2 h3 c0 c1 hn h9
      rintro ρ s ⟨h9, h8, h7, h2, h3, c0, c1, hn, he, hT⟩
      rw [if_neg (by simp [he]), if_neg (by simp [hT])] at hcc
      simp only [WU, seval, strs_eq, h9, h8, h7, h2, h3, c0, c1, hn, hwk]
      exact ⟨hkl, hcc⟩
    clear h2 h3 c0 c1 hn h8 h7
    rintro ρ s ⟨h8, h7, h2, h3, c0, c1, hn, hRR⟩
    simp only [WU, seval, strs_eq, h8, h7, h2, h3, c0, c1, hn, hw]
    exact ⟨hlt, hRR⟩
  clear h2 h3 c0 c1 hn h7 hRR
  rintro ρ s hR0
  simp only [WU, seval, strs_eq, hR0]
theorem checkL_ac {S : Sc} {P : Po} {x : AV} {σ : AState} (hs : ScR S) (hal : S.acts.length ≤ 1000) (hP : PoG P) (hx : Pur σ true x (.agg P.c)) : AC Try.prog 27 [.agg S.c, x] σ fun v s => s = σ ∧ v = .int .i64 (chkS S P) :=
  AC.pure (R := fun v => v = .int .i64 (chkS S P)) (.cons (pur_schema σ S) (.cons hx .nil)) ((checkL_st0 hs hal hP).mono fun v s h => ⟨_, by rw [h]; exact .flat _ rfl, rfl⟩)
end Go.Proofs.Ytcdbpmmomgehfaa.Va
