/- What a policy's check tells; types.Check. Conditions: none. -/
import Derived.Test.YtcdbpmmomgehfaaTC
import Derived.Test.YtcdbpmmomgehfaaTy30
set_option maxRecDepth 100000
set_option maxHeartbeats 4000000
set_option linter.all false
namespace Go.Proofs.Ytcdbpmmomgehfaa.Va
open Go.Proofs
def chkC (S : Sc) (E : En) : List Cn → Int
  | [] => 0
  | c :: l => if (ofP S E.p E.r c.e).2 ≠ 0 then (ofP S E.p E.r c.e).2 else if (ofP S E.p E.r c.e).1.kind ≠ 1 then 16 else chkC S E l
def chkE (S : Sc) (cs : List Cn) : List En → Int
  | [] => 0
  | e :: l => if chkC S e cs ≠ 0 then chkC S e cs else chkE S cs l
def offSco (S : Sc) (c : Sco) : Bool := decide (c.kind ≠ 0) && !knownS S c.ut c.ui
def scos (P : Po) : List Sco := [P.p, P.a, P.r]
def chkS (S : Sc) (P : Po) : Int := if (scos P).any (offSco S) = true then 15 else if (envsS S P).length = 0 then 2 else chkE S P.conds (envsS S P)
theorem chkC_drop {S : Sc} {E : En} {l : List Cn} {i : Nat} (h : i < l.length) : chkC S E (l.drop i) = if (ofP S E.p E.r l[i].e).2 ≠ 0 then (ofP S E.p E.r l[i].e).2 else if (ofP S E.p E.r l[i].e).1.kind ≠ 1 then 16 else chkC S E (l.drop (i + 1)) := by
  rw [List.drop_eq_getElem_cons h, chkC]
theorem chkE_drop {S : Sc} {cs : List Cn} {l : List En} {i : Nat} (h : i < l.length) : chkE S cs (l.drop i) = if chkC S l[i] cs ≠ 0 then chkC S l[i] cs else chkE S cs (l.drop (i + 1)) := by
  rw [List.drop_eq_getElem_cons h, chkE]
structure PoG (P : Po) : Prop where
  n : P.conds.length ≤ 4
  w : ∀ c ∈ P.conds, c.e.wf
theorem Cn.c_mk (u : Bool) (e : Ex) : (Cn.mk u e).c = .bool u :: e.c := Eq.trans rfl rfl
theorem Cn.c_len (c : Cn) : c.c.length = 8 := by unfold Cn.c; rw [List.length_cons, Ex.c_len]
theorem Cn.fxd (c : Cn) : FxdL c.c := .cons (.flat rfl) (Ex.fxd c.e)
theorem Po.fxd (P : Po) : FxdL P.c := .cons (.flat rfl) (.cons (.flat rfl) (.cons (.flat rfl) (.cons (.flat rfl) (.cons (.flat rfl) (.cons (.flat rfl) (.cons (.flat rfl) (.cons (.flat rfl) (.cons (.flat rfl) (.cons (.flat rfl) (.cons (slc_fxd Cn.fxd _) .nil))))))))))
theorem pur_cn (σ : AState) (c : Cn) : ∀ a ∈ c.c, Pur σ true a a := by
  intro a ha
  unfold Cn.c at ha
  rcases List.mem_cons.1 ha with h | h
  · rw [h]; exact .flat _ rfl
  · exact pur_ex σ c.e a h
theorem pur_po (σ : AState) (P : Po) : Pur σ true (.agg P.c) (.agg P.c) := .agg _ _ rfl fun i hi hi' => by
  match i, hi with
  | 0, _ => exact .flat _ rfl
  | 1, _ => exact .flat _ rfl
  | 2, _ => exact .flat _ rfl
  | 3, _ => exact .flat _ rfl
  | 4, _ => exact .flat _ rfl
  | 5, _ => exact .flat _ rfl
  | 6, _ => exact .flat _ rfl
  | 7, _ => exact .flat _ rfl
  | 8, _ => exact .flat _ rfl
  | 9, _ => exact .flat _ rfl
  | 10, _ => exact slc_pur (pur_cn σ) P.conds
theorem scos3 {S : Sc} {P : Po} {i : Nat} (hi : i ≤ 3) (h : ((scos P).take i).any (offSco S) = false) (hk : ∀ c, (scos P)[i]? = some c → offSco S c = false) : ((scos P).take (i + 1)).any (offSco S) = false := by
  rw [List.take_add_one, List.any_append, h]
  cases hc : (scos P)[i]? with
  | none => simp
  | some c => simp [hk c hc]
theorem scos_hit {S : Sc} {P : Po} {i : Nat} {c : Sco} (hc : (scos P)[i]? = some c) (ho : offSco S c = true) : (scos P).any (offSco S) = true := by
  rw [List.any_eq_true]
  exact ⟨c, List.mem_of_getElem? hc, ho⟩
def scoRow (P : Po) : List AV := [.int .i64 P.p.kind, .str P.p.ut, .str P.p.ui, .int .i64 P.a.kind, .str P.a.ut, .str P.a.ui, .int .i64 P.r.kind, .str P.r.ut, .str P.r.ui]
theorem scoRow_at {P : Po} {i : Nat} (h : i < 3) : ∃ c, (scos P)[i]? = some c ∧ seg (scoRow P) (i * 3) 3 = [.int .i64 c.kind, .str c.ut, .str c.ui] ∧ i * 3 + 3 ≤ (scoRow P).length ∧ (scoRow P)[i * 3]? = some (.int .i64 c.kind) ∧ seg (scoRow P) (i * 3 + 1) 2 = [.str c.ut, .str c.ui] := by
  match i, h with
  | 0, _ => exact ⟨P.p, rfl, rfl, by simp [scoRow], rfl, rfl⟩
  | 1, _ => exact ⟨P.a, rfl, rfl, by simp [scoRow], rfl, rfl⟩
  | 2, _ => exact ⟨P.r, rfl, rfl, by simp [scoRow], rfl, rfl⟩
structure CnAt (l : List Cn) (i : Nat) (h : i < l.length) : Prop where
  fit : i * 8 + 8 ≤ (rowc Cn.c l).length
  all : seg (rowc Cn.c l) (i * 8) 8 = l[i].c
  e : seg (rowc Cn.c l) (i * 8 + 1) 7 = l[i].e.c
theorem cnAt {l : List Cn} {i : Nat} (h : i < l.length) : CnAt l i h := ⟨rowc_fit Cn.c_len h, rowc_seg Cn.c_len h, by
  rw [rowc_seg_in Cn.c_len h (by omega)]
  unfold Cn.c seg
  rw [List.drop_succ_cons, List.drop_zero, List.take_of_length_le (by rw [Ex.c_len]; omega)]⟩
theorem seg87 (u : AV) (l : List AV) (h : l.length = 7) : seg (u :: l) 1 7 = l := by
  unfold seg
  rw [List.drop_succ_cons, List.drop_zero, List.take_of_length_le (by omega)]
theorem sg43 (a b c d e f g : AV) (l : List AV) : seg (a :: b :: c :: d :: e :: f :: g :: l) 4 3 = [e, f, g] := Eq.trans rfl rfl
theorem chkS_off {S : Sc} {P : Po} (h : (scos P).any (offSco S) = true) : chkS S P = 15 := by unfold chkS; rw [if_pos h]
theorem chkS_none {S : Sc} {P : Po} (h : (scos P).any (offSco S) = false) (h0 : (envsS S P).length = 0) : chkS S P = 2 := by unfold chkS; rw [if_neg (by rw [h]; decide), if_pos h0]
theorem chkS_env {S : Sc} {P : Po} (h : (scos P).any (offSco S) = false) (h0 : ¬ (envsS S P).length = 0) : chkS S P = chkE S P.conds (envsS S P) := by unfold chkS; rw [if_neg (by rw [h]; decide), if_neg h0]
theorem check_st0 {S : Sc} {P : Po} (hs : ScR S) (hal : S.acts.length ≤ 1000) (hP : PoG P) : AC Try.prog 26 [.agg S.c, .agg P.c] st0 fun v _ => v = .int .i64 (chkS S P) := by
  have hE : ∀ σ, AC Try.prog 22 [.agg S.c, .agg P.c] σ fun v s => s = σ ∧ v = slc En.c (envsS S P) := fun σ => envsT_ac hs.m hal (pur_po σ P)
  have hlen : (envsS S P).length ≤ 16 * S.acts.length := envsGo_len (P := P) (l := S.acts) hs.m.a
  have hO : ∀ (e : En) (c : Cn), c ∈ P.conds → ∀ σ, AC Try.prog 20 [.agg S.c, .agg [.str e.p, .str e.a, .str e.r], .agg c.e.c] σ fun v s => s = σ ∧ v = tyP (ofP S e.p e.r c.e) := fun e c hc σ => of_ac hs _ (hP.w c hc) σ
  have hK : ∀ (c : Sco) σ, AC Try.prog 42 [.agg S.c, .agg [.str c.ut, .str c.ui]] σ fun v s => s = σ ∧ v = .bool (knownS S c.ut c.ui) := fun c σ => known_ac hs.m
  have sg := scSeg S
  have sgE : ∀ a b c : AV, seg [a, b, c] 0 3 = [a, b, c] := fun _ _ _ => rfl
  have sg12 : ∀ a b c : AV, seg [a, b, c] 1 2 = [b, c] := fun _ _ _ => rfl
  have hpl := hP.n
  have hoff := chkS_off (S := S) (P := P)
  have hnone := chkS_none (S := S) (P := P)
  have henv := chkS_env (S := S) (P := P)
  generalize chkS S P = R at *
  generalize envsS S P = L at *
  rw [Po.c_eq] at *
  simp only [Sc.c_eq, slc_eq] at hE hO hK ⊢
  refine ac_wp fn26 cf26 cl26 rfl ?_
  simp only [ac26]
  unfold ab26
  simp only [wpC_seq, wpC_skip, wpCK_normal]
  refine w_mid (fun ρ s => ρ.rd 2 = .ptr 0 0 ∧ ρ.rd 3 = .ptr 1 0 ∧ s.cells 0 = some [.psl (rowc Kd.c S.kinds) 0 S.kinds.length, .psl (rowc Ac.c S.acts) 0 S.acts.length] ∧ s.cells 1 = some [.bool P.forbid, .int .i64 P.p.kind, .str P.p.ut, .str P.p.ui, .int .i64 P.a.kind, .str P.a.ut, .str P.a.ui, .int .i64 P.r.kind, .str P.r.ut, .str P.r.ui, .psl (rowc Cn.c P.conds) 0 P.conds.length] ∧ 2 ≤ s.n) ?_ ?_
  · simp only [WU, seval, strs_eq]
  rintro ρ s ⟨h2, h3, c0, c1, hn⟩
  rw [wpC_seq]
  refine w_mid (fun ρ s => ρ.rd 2 = .ptr 0 0 ∧ ρ.rd 3 = .ptr 1 0 ∧ s.cells 0 = some [.psl (rowc Kd.c S.kinds) 0 S.kinds.length, .psl (rowc Ac.c S.acts) 0 S.acts.length] ∧ s.cells 1 = some [.bool P.forbid, .int .i64 P.p.kind, .str P.p.ut, .str P.p.ui, .int .i64 P.a.kind, .str P.a.ut, .str P.a.ui, .int .i64 P.r.kind, .str P.r.ut, .str P.r.ui, .psl (rowc Cn.c P.conds) 0 P.conds.length] ∧ 2 ≤ s.n ∧ (scos P).any (offSco S) = false) ?_ ?_
  · rw [wpC_seq]
    refine w_mid (fun ρ s => ρ.rd 2 = .ptr 0 0 ∧ ρ.rd 3 = .ptr 1 0 ∧ s.cells 0 = some [.psl (rowc Kd.c S.kinds) 0 S.kinds.length, .psl (rowc Ac.c S.acts) 0 S.acts.length] ∧ s.cells 1 = some [.bool P.forbid, .int .i64 P.p.kind, .str P.p.ut, .str P.p.ui, .int .i64 P.a.kind, .str P.a.ut, .str P.a.ui, .int .i64 P.r.kind, .str P.r.ut, .str P.r.ui, .psl (rowc Cn.c P.conds) 0 P.conds.length] ∧ 2 ≤ s.n ∧ ∃ q, ρ.rd 20 = .sl q 0 3 (some 3) 3 ∧ ρ.rd 21 = .int .i64 3 ∧ ρ.rd 22 = .int .i64 0 ∧ 2 ≤ q ∧ q < s.n ∧ s.cells q = some (scoRow P)) ?_ ?_
    · have n0 : ¬ 0 = s.n := by omega
      have n1 : ¬ 1 = s.n := by omega
      simp only [WU, seval, strs_eq, h2, h3, c0, c1, hn, sg13, sg43, sg73, n0, n1]
      exact ⟨by omega, s.n, rfl, by omega, by omega, by simp [scoRow]⟩
    clear h2 h3 c0 c1 hn
    rintro ρ s ⟨h2, h3, c0, c1, hn, q, h20, h21, h22, hq2, hq, cq⟩
    simp only [WU, seval, strs_eq, h2, h3, c0, c1, hn, h20, h21, h22]
    refine w_for (fun i ρ s => ρ.rd 22 = .int .i64 i ∧ ρ.rd 21 = .int .i64 3 ∧ ρ.rd 20 = .sl q 0 3 (some 3) 3 ∧ ρ.rd 2 = .ptr 0 0 ∧ ρ.rd 3 = .ptr 1 0 ∧ s.cells 0 = some [.psl (rowc Kd.c S.kinds) 0 S.kinds.length, .psl (rowc Ac.c S.acts) 0 S.acts.length] ∧ s.cells 1 = some [.bool P.forbid, .int .i64 P.p.kind, .str P.p.ut, .str P.p.ui, .int .i64 P.a.kind, .str P.a.ut, .str P.a.ui, .int .i64 P.r.kind, .str P.r.ut, .str P.r.ui, .psl (rowc Cn.c P.conds) 0 P.conds.length] ∧ 2 ≤ s.n ∧ q < s.n ∧ s.cells q = some (scoRow P) ∧ ((scos P).take i).any (offSco S) = false) 3 ?_ ?_
    · simp only [WU, seval, strs_eq, h2, h3, c0, c1, hn, h20, h21, h22]
      first | done | exact ⟨rfl, hq, cq, rfl⟩ | exact ⟨hq, cq, rfl⟩
    clear h2 h3 c0 c1 hn h20 h21 h22 hq cq
    rintro i ρ s hi ⟨h22, h21, h20, h2, h3, c0, c1, hn, hq, cq, hany⟩
    by_cases hlt : i < 3
    rotate_left
    · have : i = 3 := by omega
      subst this
      simp only [WU, seval, strs_eq, h22, h21, h2, h3, c0, c1, hn]
      exact hany
    have hlt' : ((i : Nat) : Int) < 3 := by omega
    have hge' : (0 : Int) ≤ ((i : Nat) : Int) := by omega
    have hw : IntKind.i64.wrap ((i : Int) + 1) = ((i + 1 : Nat) : Int) := wrap_succ (by omega)
    obtain ⟨c, hc, hsg, hfit, _, _⟩ := scoRow_at (P := P) hlt
    have hK := hK c
    have n0 : ¬ 0 = s.n := by omega
    have n1 : ¬ 1 = s.n := by omega
    have nq : ¬ q = s.n := by omega
    have hnx := scos3 (S := S) (P := P) hi hany
    have hht := scos_hit (S := S) hc
    by_cases k0 : c.kind = 0
    · simp only [WU, seval, strs_eq, h22, h21, h20, h2, h3, c0, c1, hn, hlt', hge', cq, hfit, hsg, n0, n1, nq, sgE, k0, hw, storeA, sets, setx, TS]
      refine ⟨hlt, by omega, by omega, hnx fun c' e => by rw [hc] at e; cases e; unfold offSco; simp [k0]⟩
    · cases hkn : knownS S c.ut c.ui with
      | true =>
        simp only [WU, seval, strs_eq, h22, h21, h20, h2, h3, c0, c1, hn, hlt', hge', cq, hfit, hsg, n0, n1, nq, sgE, sg12, sg, k0, storeA, sets, setx, TS]
        refine (hK _).use ?_
        simp only [WU, seval, strs_eq, h22, h21, h20, h2, h3, c0, c1, hn, hkn, n0, n1, nq, hw]
        refine ⟨hlt, by omega, by omega, cq, hnx fun c' e => by rw [hc] at e; cases e; unfold offSco; simp [hkn]⟩
      | false =>
        have h15 := hoff (hht (by unfold offSco; simp [k0, hkn]))
        simp only [WU, seval, strs_eq, h22, h21, h20, h2, h3, c0, c1, hn, hlt', hge', cq, hfit, hsg, n0, n1, nq, sgE, sg12, sg, k0, storeA, sets, setx, TS]
        refine (hK _).use ?_
        simp only [WU, seval, strs_eq, h22, h21, h20, h2, h3, c0, c1, hn, hkn, n0, n1, nq, h15]
  clear h2 h3 c0 c1 hn
  rintro ρ s ⟨h2, h3, c0, c1, hn, hany⟩
  have hnone := hnone hany
  have henv := henv hany
  clear hoff
  have sg11 : ∀ a b c d e f g h i j k : AV, seg [a, b, c, d, e, f, g, h, i, j, k] 0 11 = [a, b, c, d, e, f, g, h, i, j, k] := fun _ _ _ _ _ _ _ _ _ _ _ => rfl
  rw [wpC_seq]
  refine w_mid (fun ρ s => ρ.rd 2 = .ptr 0 0 ∧ ρ.rd 3 = .ptr 1 0 ∧ s.cells 0 = some [.psl (rowc Kd.c S.kinds) 0 S.kinds.length, .psl (rowc Ac.c S.acts) 0 S.acts.length] ∧ s.cells 1 = some [.bool P.forbid, .int .i64 P.p.kind, .str P.p.ut, .str P.p.ui, .int .i64 P.a.kind, .str P.a.ut, .str P.a.ui, .int .i64 P.r.kind, .str P.r.ut, .str P.r.ui, .psl (rowc Cn.c P.conds) 0 P.conds.length] ∧ 2 ≤ s.n ∧ ρ.rd 7 = slc En.c L) ?_ ?_
  · simp only [WU, seval, strs_eq, h2, h3, c0, c1, hn, sg, sg11]
    refine (hE _).use ?_
    simp only [WU, seval, strs_eq, h2, h3, c0, c1, hn]
  clear h2 h3 c0 c1 hn
  rintro ρ s ⟨h2, h3, c0, c1, hn, h7⟩
  rw [wpC_seq]
  by_cases hL0 : L.length = 0
  · have e2 := hnone hL0
    have z0 : ((L.length : Nat) : Int) = 0 := by omega
    simp only [WU, seval, strs_eq, h2, h3, c0, c1, hn, h7, z0, e2]
  have z0 : ¬ ((L.length : Nat) : Int) = 0 := by omega
  have hRR := henv hL0
  clear hnone henv
  refine w_mid (fun ρ s => ρ.rd 2 = .ptr 0 0 ∧ ρ.rd 3 = .ptr 1 0 ∧ s.cells 0 = some [.psl (rowc Kd.c S.kinds) 0 S.kinds.length, .psl (rowc Ac.c S.acts) 0 S.acts.length] ∧ s.cells 1 = some [.bool P.forbid, .int .i64 P.p.kind, .str P.p.ut, .str P.p.ui, .int .i64 P.a.kind, .str P.a.ut, .str P.a.ui, .int .i64 P.r.kind, .str P.r.ut, .str P.r.ui, .psl (rowc Cn.c P.conds) 0 P.conds.length] ∧ 2 ≤ s.n ∧ ρ.rd 7 = slc En.c L) ?_ ?_
  · simp only [WU, seval, strs_eq, h2, h3, c0, c1, hn, h7, z0]
  clear h2 h3 c0 c1 hn h7
  rintro ρ s ⟨h2, h3, c0, c1, hn, h7⟩
  rw [wpC_seq]
  refine w_mid (fun ρ s => R = 0) ?_ ?_
  · simp only [WU, seval, strs_eq, h2, h3, c0, c1, hn, h7]
    refine w_for (fun i ρ s => ρ.rd 45 = .int .i64 i ∧ ρ.rd 43 = slc En.c L ∧ ρ.rd 44 = .int .i64 L.length ∧ ρ.rd 2 = .ptr 0 0 ∧ ρ.rd 3 = .ptr 1 0 ∧ s.cells 0 = some [.psl (rowc Kd.c S.kinds) 0 S.kinds.length, .psl (rowc Ac.c S.acts) 0 S.acts.length] ∧ s.cells 1 = some [.bool P.forbid, .int .i64 P.p.kind, .str P.p.ut, .str P.p.ui, .int .i64 P.a.kind, .str P.a.ut, .str P.a.ui, .int .i64 P.r.kind, .str P.r.ut, .str P.r.ui, .psl (rowc Cn.c P.conds) 0 P.conds.length] ∧ 2 ≤ s.n ∧ R = chkE S P.conds (L.drop i)) L.length ?_ ?_
    · simp only [WU, seval, strs_eq, h2, h3, c0, c1, hn, h7]
      first | done | exact ⟨rfl, hRR⟩ | exact hRR
    clear h2 h3 c0 c1 hn h7 hRR
    rintro i ρ s hi ⟨h45, h43, h44, h2, h3, c0, c1, hn, hRR⟩
    by_cases hlt : i < L.length
    rotate_left
    · have : i = L.length := by omega
      subst this
      have hge : ¬ ((L.length : Nat) : Int) < ((L.length : Nat) : Int) := by omega
      rw [List.drop_length] at hRR
      simp only [WU, seval, strs_eq, h45, h43, h44, h2, h3, c0, c1, hn, hge]
      exact hRR
    have hr := lt_idx hlt
    have hlt' := hr.2
    have hw : IntKind.i64.wrap ((i : Int) + 1) = ((i + 1 : Nat) : Int) := wrap_succ (by omega)
    have A := enAt hlt
    have hfit := A.fit
    have hall := A.all
    rw [chkE_drop hlt] at hRR
    generalize L[i] = e at *
    have n0 : ¬ 0 = s.n := by omega
    have n1 : ¬ 1 = s.n := by omega
    rw [wpC_seq]
    refine w_mid (fun ρ s => ρ.rd 46 = .bool true ∧ ρ.rd 45 = .int .i64 i ∧ ρ.rd 43 = slc En.c L ∧ ρ.rd 44 = .int .i64 L.length ∧ ρ.rd 2 = .ptr 0 0 ∧ ρ.rd 3 = .ptr 1 0 ∧ s.cells 0 = some [.psl (rowc Kd.c S.kinds) 0 S.kinds.length, .psl (rowc Ac.c S.acts) 0 S.acts.length] ∧ s.cells 1 = some [.bool P.forbid, .int .i64 P.p.kind, .str P.p.ut, .str P.p.ui, .int .i64 P.a.kind, .str P.a.ut, .str P.a.ui, .int .i64 P.r.kind, .str P.r.ut, .str P.r.ui, .psl (rowc Cn.c P.conds) 0 P.conds.length] ∧ 2 ≤ s.n) ?_ ?_
    · simp only [WU, seval, strs_eq, h45, h43, h44, h2, h3, c0, c1, hn, hlt']
    clear h2 h3 c0 c1 hn h45 h43 h44 n0 n1
    rintro ρ s ⟨h46, h45, h43, h44, h2, h3, c0, c1, hn⟩
    rw [wpC_seq]
    refine w_mid (fun ρ s => ρ.rd 45 = .int .i64 i ∧ ρ.rd 43 = slc En.c L ∧ ρ.rd 44 = .int .i64 L.length ∧ ρ.rd 2 = .ptr 0 0 ∧ ρ.rd 3 = .ptr 1 0 ∧ s.cells 0 = some [.psl (rowc Kd.c S.kinds) 0 S.kinds.length, .psl (rowc Ac.c S.acts) 0 S.acts.length] ∧ s.cells 1 = some [.bool P.forbid, .int .i64 P.p.kind, .str P.p.ut, .str P.p.ui, .int .i64 P.a.kind, .str P.a.ut, .str P.a.ui, .int .i64 P.r.kind, .str P.r.ut, .str P.r.ui, .psl (rowc Cn.c P.conds) 0 P.conds.length] ∧ 2 ≤ s.n) ?_ ?_
    · simp only [WU, seval, strs_eq, h46, h45, h43, h44, h2, h3, c0, c1, hn]
    clear h2 h3 c0 c1 hn h45 h43 h44 h46
    rintro ρ s ⟨h45, h43, h44, h2, h3, c0, c1, hn⟩
    rw [wpC_seq]
    refine w_mid (fun ρ s => ρ.rd 45 = .int .i64 i ∧ ρ.rd 43 = slc En.c L ∧ ρ.rd 44 = .int .i64 L.length ∧ ρ.rd 2 = .ptr 0 0 ∧ ρ.rd 3 = .ptr 1 0 ∧ s.cells 0 = some [.psl (rowc Kd.c S.kinds) 0 S.kinds.length, .psl (rowc Ac.c S.acts) 0 S.acts.length] ∧ s.cells 1 = some [.bool P.forbid, .int .i64 P.p.kind, .str P.p.ut, .str P.p.ui, .int .i64 P.a.kind, .str P.a.ut, .str P.a.ui, .int .i64 P.r.kind, .str P.r.ut, .str P.r.ui, .psl (rowc Cn.c P.conds) 0 P.conds.length] ∧ 2 ≤ s.n ∧ R = chkE S P.conds (L.drop (i + 1))) ?_ ?_
    · simp only [wpC_block, wpC_seq, wpC_skip, wpCK_normal]
      refine w_mid (fun ρ s => ∃ b, ρ.rd 45 = .int .i64 i ∧ ρ.rd 43 = slc En.c L ∧ ρ.rd 44 = .int .i64 L.length ∧ ρ.rd 2 = .ptr 0 0 ∧ ρ.rd 3 = .ptr 1 0 ∧ s.cells 0 = some [.psl (rowc Kd.c S.kinds) 0 S.kinds.length, .psl (rowc Ac.c S.acts) 0 S.acts.length] ∧ s.cells 1 = some [.bool P.forbid, .int .i64 P.p.kind, .str P.p.ut, .str P.p.ui, .int .i64 P.a.kind, .str P.a.ut, .str P.a.ui, .int .i64 P.r.kind, .str P.r.ut, .str P.r.ui, .psl (rowc Cn.c P.conds) 0 P.conds.length] ∧ 2 ≤ s.n ∧ ρ.rd 9 = .ptr b 0 ∧ 2 ≤ b ∧ b < s.n ∧ s.cells b = some [.str e.p, .str e.a, .str e.r]) ?_ ?_
      · have n0 : ¬ 0 = s.n := by omega
        have n1 : ¬ 1 = s.n := by omega
        simp only [WU, seval, strs_eq, h45, h43, h44, h2, h3, c0, c1, hn, hr, hfit, hall, n0, n1, sgE, storeA, sets, setx, TS]
        exact ⟨s.n, by omega, rfl, by omega, by omega, by simp⟩
      clear h45 h43 h44 h2 h3 c0 c1 hn
      rintro ρ s ⟨b, h45, h43, h44, h2, h3, c0, c1, hn, h9, hb2, hb, cb⟩
      rw [wpC_seq]
      refine w_mid (fun ρ s => ρ.rd 45 = .int .i64 i ∧ ρ.rd 43 = slc En.c L ∧ ρ.rd 44 = .int .i64 L.length ∧ ρ.rd 2 = .ptr 0 0 ∧ ρ.rd 3 = .ptr 1 0 ∧ s.cells 0 = some [.psl (rowc Kd.c S.kinds) 0 S.kinds.length, .psl (rowc Ac.c S.acts) 0 S.acts.length] ∧ s.cells 1 = some [.bool P.forbid, .int .i64 P.p.kind, .str P.p.ut, .str P.p.ui, .int .i64 P.a.kind, .str P.a.ut, .str P.a.ui, .int .i64 P.r.kind, .str P.r.ut, .str P.r.ui, .psl (rowc Cn.c P.conds) 0 P.conds.length] ∧ 2 ≤ s.n ∧ ρ.rd 9 = .ptr b 0 ∧ 2 ≤ b ∧ b < s.n ∧ s.cells b = some [.str e.p, .str e.a, .str e.r] ∧ ρ.rd 50 = slc Cn.c P.conds ∧ ρ.rd 51 = .int .i64 P.conds.length ∧ ρ.rd 52 = .int .i64 0) ?_ ?_
      · simp only [WU, seval, strs_eq, h45, h43, h44, h2, h3, c0, c1, hn, h9, hb2, hb, cb]
      clear h45 h43 h44 h2 h3 c0 c1 hn h9 hb2 hb cb
      rintro ρ s ⟨h45, h43, h44, h2, h3, c0, c1, hn, h9, hb2, hb, cb, h50, h51, h52⟩
      simp only [WU, seval, strs_eq, h45, h43, h44, h2, h3, c0, c1, hn, h9, hb2, hb, cb, h50, h51, h52]
      refine w_for (fun k ρ s => ρ.rd 52 = .int .i64 k ∧ ρ.rd 50 = slc Cn.c P.conds ∧ ρ.rd 51 = .int .i64 P.conds.length ∧ ρ.rd 45 = .int .i64 i ∧ ρ.rd 43 = slc En.c L ∧ ρ.rd 44 = .int .i64 L.length ∧ ρ.rd 2 = .ptr 0 0 ∧ ρ.rd 3 = .ptr 1 0 ∧ s.cells 0 = some [.psl (rowc Kd.c S.kinds) 0 S.kinds.length, .psl (rowc Ac.c S.acts) 0 S.acts.length] ∧ s.cells 1 = some [.bool P.forbid, .int .i64 P.p.kind, .str P.p.ut, .str P.p.ui, .int .i64 P.a.kind, .str P.a.ut, .str P.a.ui, .int .i64 P.r.kind, .str P.r.ut, .str P.r.ui, .psl (rowc Cn.c P.conds) 0 P.conds.length] ∧ 2 ≤ s.n ∧ ρ.rd 9 = .ptr b 0 ∧ 2 ≤ b ∧ b < s.n ∧ s.cells b = some [.str e.p, .str e.a, .str e.r] ∧ chkC S e P.conds = chkC S e (P.conds.drop k)) P.conds.length ?_ ?_
      · simp only [WU, seval, strs_eq, h45, h43, h44, h2, h3, c0, c1, hn, h9, hb2, hb, cb, h50, h51, h52]
        first | done | exact ⟨rfl, rfl⟩ | exact rfl
      clear h45 h43 h44 h2 h3 c0 c1 hn h9 hb2 hb cb h50 h51 h52
      rintro k ρ s hk ⟨h52, h50, h51, h45, h43, h44, h2, h3, c0, c1, hn, h9, hb2, hb, cb, hcc⟩
      by_cases hkl : k < P.conds.length
      rotate_left
      · have : k = P.conds.length := by omega
        subst this
        have hge : ¬ ((P.conds.length : Nat) : Int) < ((P.conds.length : Nat) : Int) := by omega
        rw [List.drop_length] at hcc
        simp only [WU, seval, strs_eq, h52, h50, h51, h45, h43, h44, h2, h3, c0, c1, hn, h9, hb2, hb, cb, hge]
        rw [hRR, hcc, if_neg (by simp [chkC])]
      have hrk := lt_idx hkl
      have hkl' := hrk.2
      have hwk : IntKind.i64.wrap ((k : Int) + 1) = ((k + 1 : Nat) : Int) := wrap_succ (by omega)
      have A := cnAt hkl
      have hfitc := A.fit
      have hallc := A.all
      rw [chkC_drop hkl] at hcc
      have hO := hO e P.conds[k] (List.getElem_mem hkl)
      generalize P.conds[k] = c at *
      obtain ⟨cu, cex⟩ := c
      have hcl := Ex.c_len cex
      have hcone : cex.c.all AV.one = true := by obtain ⟨_, _, _, _, _, _, _⟩ := cex; rw [Ex.c_eq]; rfl
      have hsg7 := seg87 (.bool cu) cex.c hcl
      generalize ofP S e.p e.r cex = X at *
      obtain ⟨T, er⟩ := X
      rw [Cn.c_mk] at hallc
      simp only at hallc hsg7 hcc
      generalize cex.c = ec at *
      have hall8 : ec.length + 1 = 8 := by omega
      rw [wpC_seq]
      refine w_mid (fun ρ s => ρ.rd 53 = .bool true ∧ ρ.rd 52 = .int .i64 k ∧ ρ.rd 50 = slc Cn.c P.conds ∧ ρ.rd 51 = .int .i64 P.conds.length ∧ ρ.rd 45 = .int .i64 i ∧ ρ.rd 43 = slc En.c L ∧ ρ.rd 44 = .int .i64 L.length ∧ ρ.rd 2 = .ptr 0 0 ∧ ρ.rd 3 = .ptr 1 0 ∧ s.cells 0 = some [.psl (rowc Kd.c S.kinds) 0 S.kinds.length, .psl (rowc Ac.c S.acts) 0 S.acts.length] ∧ s.cells 1 = some [.bool P.forbid, .int .i64 P.p.kind, .str P.p.ut, .str P.p.ui, .int .i64 P.a.kind, .str P.a.ut, .str P.a.ui, .int .i64 P.r.kind, .str P.r.ut, .str P.r.ui, .psl (rowc Cn.c P.conds) 0 P.conds.length] ∧ 2 ≤ s.n ∧ ρ.rd 9 = .ptr b 0 ∧ 2 ≤ b ∧ b < s.n ∧ s.cells b = some [.str e.p, .str e.a, .str e.r]) ?_ ?_
      · simp only [WU, seval, strs_eq, h52, h50, h51, h45, h43, h44, h2, h3, c0, c1, hn, h9, hb2, hb, cb, hkl']
      clear h45 h43 h44 h2 h3 c0 c1 hn h9 hb2 hb cb h52 h50 h51
      rintro ρ s ⟨h53, h52, h50, h51, h45, h43, h44, h2, h3, c0, c1, hn, h9, hb2, hb, cb⟩
      rw [wpC_seq]
      refine w_mid (fun ρ s => ρ.rd 52 = .int .i64 k ∧ ρ.rd 50 = slc Cn.c P.conds ∧ ρ.rd 51 = .int .i64 P.conds.length ∧ ρ.rd 45 = .int .i64 i ∧ ρ.rd 43 = slc En.c L ∧ ρ.rd 44 = .int .i64 L.length ∧ ρ.rd 2 = .ptr 0 0 ∧ ρ.rd 3 = .ptr 1 0 ∧ s.cells 0 = some [.psl (rowc Kd.c S.kinds) 0 S.kinds.length, .psl (rowc Ac.c S.acts) 0 S.acts.length] ∧ s.cells 1 = some [.bool P.forbid, .int .i64 P.p.kind, .str P.p.ut, .str P.p.ui, .int .i64 P.a.kind, .str P.a.ut, .str P.a.ui, .int .i64 P.r.kind, .str P.r.ut, .str P.r.ui, .psl (rowc Cn.c P.conds) 0 P.conds.length] ∧ 2 ≤ s.n ∧ ρ.rd 9 = .ptr b 0 ∧ 2 ≤ b ∧ b < s.n ∧ s.cells b = some [.str e.p, .str e.a, .str e.r]) ?_ ?_
      · simp only [WU, seval, strs_eq, h53, h52, h50, h51, h45, h43, h44, h2, h3, c0, c1, hn, h9, hb2, hb, cb]
      clear h45 h43 h44 h2 h3 c0 c1 hn h9 hb2 hb cb h53 h52 h50 h51
      rintro ρ s ⟨h52, h50, h51, h45, h43, h44, h2, h3, c0, c1, hn, h9, hb2, hb, cb⟩
      rw [wpC_seq]
      have n0 : ¬ 0 = s.n := by omega
      have n1 : ¬ 1 = s.n := by omega
      have nb : ¬ b = s.n := by omega
      have hst : storeA (s.push (.cells [AV.bool false, .int .i64 0, .bool false, .int .i64 0, .str [], .str [], .str [], .nils])) (.ptr s.n 0) (.bool cu :: ec) = some ((s.push (.cells [AV.bool false, .int .i64 0, .bool false, .int .i64 0, .str [], .str [], .str [], .nils])).put s.n (.bool cu :: ec)) := by
        have hcs : (s.push (.cells [AV.bool false, .int .i64 0, .bool false, .int .i64 0, .str [], .str [], .str [], .nils])).cells s.n = some [AV.bool false, .int .i64 0, .bool false, .int .i64 0, .str [], .str [], .str [], .nils] := push_cells _ _
        simp only [storeA, hcs, List.length_cons, List.length_nil, hall8, List.all_cons, hcone, AV.one, Bool.and_self, Nat.zero_add, cond_true, show Nat.ble 8 (0 + 1 + 1 + 1 + 1 + 1 + 1 + 1 + 1) = true from rfl]
        rw [sets_eq _ _ _ (by simp [hcl])]
        simp [hcl]
      refine w_mid (fun ρ s => ρ.rd 52 = .int .i64 k ∧ ρ.rd 50 = slc Cn.c P.conds ∧ ρ.rd 51 = .int .i64 P.conds.length ∧ ρ.rd 45 = .int .i64 i ∧ ρ.rd 43 = slc En.c L ∧ ρ.rd 44 = .int .i64 L.length ∧ ρ.rd 2 = .ptr 0 0 ∧ ρ.rd 3 = .ptr 1 0 ∧ s.cells 0 = some [.psl (rowc Kd.c S.kinds) 0 S.kinds.length, .psl (rowc Ac.c S.acts) 0 S.acts.length] ∧ s.cells 1 = some [.bool P.forbid, .int .i64 P.p.kind, .str P.p.ut, .str P.p.ui, .int .i64 P.a.kind, .str P.a.ut, .str P.a.ui, .int .i64 P.r.kind, .str P.r.ut, .str P.r.ui, .psl (rowc Cn.c P.conds) 0 P.conds.length] ∧ 2 ≤ s.n ∧ ρ.rd 9 = .ptr b 0 ∧ 2 ≤ b ∧ b < s.n ∧ s.cells b = some [.str e.p, .str e.a, .str e.r] ∧ (er = 0 ∧ T.kind = 1)) ?_ ?_
      · simp only [wpC_block, wpC_seq, wpC_skip, wpCK_normal]
        refine w_mid (fun ρ s => ∃ q, ρ.rd 52 = .int .i64 k ∧ ρ.rd 50 = slc Cn.c P.conds ∧ ρ.rd 51 = .int .i64 P.conds.length ∧ ρ.rd 45 = .int .i64 i ∧ ρ.rd 43 = slc En.c L ∧ ρ.rd 44 = .int .i64 L.length ∧ ρ.rd 2 = .ptr 0 0 ∧ ρ.rd 3 = .ptr 1 0 ∧ s.cells 0 = some [.psl (rowc Kd.c S.kinds) 0 S.kinds.length, .psl (rowc Ac.c S.acts) 0 S.acts.length] ∧ s.cells 1 = some [.bool P.forbid, .int .i64 P.p.kind, .str P.p.ut, .str P.p.ui, .int .i64 P.a.kind, .str P.a.ut, .str P.a.ui, .int .i64 P.r.kind, .str P.r.ut, .str P.r.ui, .psl (rowc Cn.c P.conds) 0 P.conds.length] ∧ 2 ≤ s.n ∧ ρ.rd 9 = .ptr b 0 ∧ 2 ≤ b ∧ b < s.n ∧ s.cells b = some [.str e.p, .str e.a, .str e.r] ∧ ρ.rd 11 = .ptr q 0 ∧ 2 ≤ q ∧ q ≠ b ∧ q < s.n ∧ s.cells q = some (.bool cu :: ec)) ?_ ?_
        · simp only [WU, seval, strs_eq, h52, h50, h51, h45, h43, h44, h2, h3, c0, c1, hn, h9, hb2, hb, cb, hrk, hfitc, hallc, hst, hcl, n0, n1, nb]
          exact ⟨s.n, by omega, by omega, rfl, by omega, by omega, by omega, by simp⟩
        clear h45 h43 h44 h2 h3 c0 c1 hn h9 hb2 hb cb h52 h50 h51 hst n0 n1 nb
        rintro ρ s ⟨q, h52, h50, h51, h45, h43, h44, h2, h3, c0, c1, hn, h9, hb2, hb, cb, h11, hq2, hqb, hq, cq⟩
        have n0 : ¬ 0 = s.n := by omega
        have n1 : ¬ 1 = s.n := by omega
        have nb : ¬ b = s.n := by omega
        have nq : ¬ q = s.n := by omega
        rw [wpC_seq]
        refine w_mid (fun ρ s => ρ.rd 52 = .int .i64 k ∧ ρ.rd 50 = slc Cn.c P.conds ∧ ρ.rd 51 = .int .i64 P.conds.length ∧ ρ.rd 45 = .int .i64 i ∧ ρ.rd 43 = slc En.c L ∧ ρ.rd 44 = .int .i64 L.length ∧ ρ.rd 2 = .ptr 0 0 ∧ ρ.rd 3 = .ptr 1 0 ∧ s.cells 0 = some [.psl (rowc Kd.c S.kinds) 0 S.kinds.length, .psl (rowc Ac.c S.acts) 0 S.acts.length] ∧ s.cells 1 = some [.bool P.forbid, .int .i64 P.p.kind, .str P.p.ut, .str P.p.ui, .int .i64 P.a.kind, .str P.a.ut, .str P.a.ui, .int .i64 P.r.kind, .str P.r.ut, .str P.r.ui, .psl (rowc Cn.c P.conds) 0 P.conds.length] ∧ 2 ≤ s.n ∧ ρ.rd 9 = .ptr b 0 ∧ 2 ≤ b ∧ b < s.n ∧ s.cells b = some [.str e.p, .str e.a, .str e.r] ∧ ∃ t, ρ.rd 12 = .ptr t 0 ∧ s.cells t = some T.c ∧ ρ.rd 13 = .int .i64 er) ?_ ?_
        · simp only [tyP, tyE, Ty.c_eq] at hO ⊢
          simp only [WU, seval, strs_eq, h52, h50, h51, h45, h43, h44, h2, h3, c0, c1, hn, h9, hb2, hb, cb, h11, cq, hall8, hsg7, sg, sgE, hcl]
          refine (hO _).use ?_
          simp only [WU, seval, strs_eq, h52, h50, h51, h45, h43, h44, h2, h3, c0, c1, hn, h9, hb2, hb, cb, n0, n1, nb, sgE, storeA, sets, setx, TS]
          exact ⟨by omega, by omega, s.n, rfl, by simp⟩
        clear h45 h43 h44 h2 h3 c0 c1 hn h9 hb2 hb cb h52 h50 h51 h11 hq2 hqb hq cq n0 n1 nb nq
        rintro ρ s ⟨h52, h50, h51, h45, h43, h44, h2, h3, c0, c1, hn, h9, hb2, hb, cb, t, h12, ct, h13⟩
        rw [wpC_seq]
        by_cases he : er = 0
        rotate_left
        · rw [if_pos he] at hcc
          have hR1 : R = er := by rw [hRR, hcc, if_pos he]
          simp only [WU, seval, strs_eq, h45, h43, h44, h2, h3, c0, c1, hn, h9, hb2, hb, cb, h13, he, hR1]
        refine w_mid (fun ρ s => ρ.rd 52 = .int .i64 k ∧ ρ.rd 50 = slc Cn.c P.conds ∧ ρ.rd 51 = .int .i64 P.conds.length ∧ ρ.rd 45 = .int .i64 i ∧ ρ.rd 43 = slc En.c L ∧ ρ.rd 44 = .int .i64 L.length ∧ ρ.rd 2 = .ptr 0 0 ∧ ρ.rd 3 = .ptr 1 0 ∧ s.cells 0 = some [.psl (rowc Kd.c S.kinds) 0 S.kinds.length, .psl (rowc Ac.c S.acts) 0 S.acts.length] ∧ s.cells 1 = some [.bool P.forbid, .int .i64 P.p.kind, .str P.p.ut, .str P.p.ui, .int .i64 P.a.kind, .str P.a.ut, .str P.a.ui, .int .i64 P.r.kind, .str P.r.ut, .str P.r.ui, .psl (rowc Cn.c P.conds) 0 P.conds.length] ∧ 2 ≤ s.n ∧ ρ.rd 9 = .ptr b 0 ∧ 2 ≤ b ∧ b < s.n ∧ s.cells b = some [.str e.p, .str e.a, .str e.r] ∧ ∃ t, ρ.rd 12 = .ptr t 0 ∧ s.cells t = some T.c) ?_ ?_
        · simp only [WU, seval, strs_eq, h52, h50, h51, h45, h43, h44, h2, h3, c0, c1, hn, h9, hb2, hb, cb, h12, h13, he]
          exact ⟨t, rfl, ct⟩
        clear h45 h43 h44 h2 h3 c0 c1 hn h9 hb2 hb cb h52 h50 h51 h12 ct h13
        rintro ρ s ⟨h52, h50, h51, h45, h43, h44, h2, h3, c0, c1, hn, h9, hb2, hb, cb, t, h12, ct⟩
        rw [if_neg (by simp [he])] at hcc
        rw [Ty.c_eq] at ct
        by_cases hT : T.kind = 1
        · simp only [WU, seval, strs_eq, h52, h50, h51, h45, h43, h44, h2, h3, c0, c1, hn, h9, hb2, hb, cb, h12, ct, hT]
          exact he
        · rw [if_pos hT] at hcc
          have hR1 : R = 16 := by rw [hRR, hcc, if_pos (by decide)]
          simp only [WU, seval, strs_eq, h52, h50, h51, h45, h43, h44, h2, h3, c0, c1, hn, h9, hb2, hb, cb, h12, ct, hT, hR1]
      clear h45 h43 h44 h2 h3 c0 c1 hn h9 hb2 hb cb h52 h50 h51
      rintro ρ s ⟨h52, h50, h51, h45, h43, h44, h2, h3, c0, c1, hn, h9, hb2, hb, cb, he, hT⟩
      rw [if_neg (by simp [he]), if_neg (by simp [hT])] at hcc
      simp only [WU, seval, strs_eq, h52, h50, h51, h45, h43, h44, h2, h3, c0, c1, hn, h9, hb2, hb, cb, hwk]
      exact ⟨hkl, hcc⟩
    clear h2 h3 c0 c1 hn h45 h43 h44
    rintro ρ s ⟨h45, h43, h44, h2, h3, c0, c1, hn, hRR⟩
    simp only [WU, seval, strs_eq, h45, h43, h44, h2, h3, c0, c1, hn, hw]
    exact ⟨hlt, hRR⟩
  clear h2 h3 c0 c1 hn h7 hRR
  rintro ρ s hR0
  simp only [WU, seval, strs_eq, hR0]
theorem check_ac {S : Sc} {P : Po} {x : AV} {σ : AState} (hs : ScR S) (hal : S.acts.length ≤ 1000) (hP : PoG P) (hx : Pur σ true x (.agg P.c)) : AC Try.prog 26 [.agg S.c, x] σ fun v s => s = σ ∧ v = .int .i64 (chkS S P) :=
  AC.pure (R := fun v => v = .int .i64 (chkS S P)) (.cons (pur_schema σ S) (.cons hx .nil)) ((check_st0 hs hal hP).mono fun v s h => ⟨_, by rw [h]; exact .flat _ rfl, rfl⟩)
end Go.Proofs.Ytcdbpmmomgehfaa.Va
