/- The program's environments. Conditions: none. -/
import Derived.Test.YtcdbpmmomgehfaaTD
import Derived.Test.YtcdbpmmomgehfaaTy28
set_option maxRecDepth 100000
set_option maxHeartbeats 4000000
set_option linter.all false
namespace Go.Proofs.Ytcdbpmmomgehfaa.Va
open Go.Proofs
structure EnAt (l : List En) (i : Nat) (h : i < l.length) : Prop where
  fit : i * 3 + 3 ≤ (rowc En.c l).length
  all : seg (rowc En.c l) (i * 3) 3 = [.str l[i].p, .str l[i].a, .str l[i].r]
  g0 : (rowc En.c l)[i * 3]? = some (.str l[i].p)
theorem enAt {l : List En} {i : Nat} (h : i < l.length) : EnAt l i h := ⟨rowc_fit En.c_len h, rowc_seg En.c_len h, rowc_get0 En.c_len h (by decide)⟩
theorem allows_ac {c : Sco} {n : Str} {σ : AState} : AC Try.prog 41 [.agg [.int .i64 c.kind, .str c.ut, .str c.ui], .str n] σ fun v s => s = σ ∧ v = .bool (letS c n) := by
  refine AC.told (.cons (.agg (.cons (.flat rfl) (.cons (.flat rfl) (.cons (.flat rfl) .nil)))) (.cons (.flat rfl) .nil)) rfl ?_
  unfold letS
  by_cases k1 : c.kind = 1
  · refine ac_wp fn41 cf41 cl41 rfl ?_
    simp only [ac41]
    unfold ab41
    simp only [WU, seval, strs_eq, k1]
    simp
  · refine ac_wp fn41 cf41 cl41 rfl ?_
    simp only [ac41]
    unfold ab41
    simp only [WU, seval, strs_eq, k1]
    simp
theorem envsT_st0 {S : Sc} {P : Po} (hs : ScM S) (hal : S.acts.length ≤ 1000) : AC Try.prog 22 [.agg S.c, .agg P.c] st0 fun v s => ∃ a, Pur s false v a ∧ a = slc En.c (envsS S P) := by
  rw [Po.c_eq]
  refine ac_wp fn22 cf22 cl22 rfl ?_
  simp only [ac22]
  unfold ab22
  have hAc : ([65, 99, 116, 105, 111, 110] : List UInt8) = actionT := rfl
  simp only [wpC_seq, wpC_skip, wpCK_normal]
  refine w_mid (fun ρ s' => ρ.rd 2 = .ptr 0 0 ∧ ρ.rd 3 = .ptr 1 0 ∧ s'.cells 0 = some [slc Kd.c S.kinds, slc Ac.c S.acts] ∧ s'.cells 1 = some [.bool P.forbid, .int .i64 P.p.kind, .str P.p.ut, .str P.p.ui, .int .i64 P.a.kind, .str P.a.ut, .str P.a.ui, .int .i64 P.r.kind, .str P.r.ut, .str P.r.ui, slc Cn.c P.conds] ∧ 2 ≤ s'.n) ?_ ?_
  · simp only [WU, seval, strs_eq, Sc.c_eq]
  rintro ρ s' ⟨h2, h3, c0, c1, hn⟩
  rw [wpC_seq]
  refine w_mid (fun ρ s' => ρ.rd 2 = .ptr 0 0 ∧ ρ.rd 3 = .ptr 1 0 ∧ s'.cells 0 = some [slc Kd.c S.kinds, slc Ac.c S.acts] ∧ s'.cells 1 = some [.bool P.forbid, .int .i64 P.p.kind, .str P.p.ut, .str P.p.ui, .int .i64 P.a.kind, .str P.a.ut, .str P.a.ui, .int .i64 P.r.kind, .str P.r.ut, .str P.r.ui, slc Cn.c P.conds] ∧ 2 ≤ s'.n ∧ ρ.rd 5 = .nils) ?_ ?_
  · simp only [WU, seval, strs_eq, h2, h3, c0, c1, hn]
  clear h2 h3 c0 c1 hn
  rintro ρ s' ⟨h2, h3, c0, c1, hn, h5⟩
  rw [wpC_seq]
  refine w_mid (fun ρ s' => ∃ x, ρ.rd 5 = x ∧ RowP (fun b => 2 ≤ b) s' x (rowc En.c (envsS S P)) (envsS S P).length 3) ?_ ?_
  · simp only [WU, seval, strs_eq, h2, h3, c0, c1, hn, h5]
    refine w_for (fun i ρ s' => ρ.rd 15 = .int .i64 i ∧ ρ.rd 2 = .ptr 0 0 ∧ ρ.rd 3 = .ptr 1 0 ∧ s'.cells 0 = some [slc Kd.c S.kinds, slc Ac.c S.acts] ∧ s'.cells 1 = some [.bool P.forbid, .int .i64 P.p.kind, .str P.p.ut, .str P.p.ui, .int .i64 P.a.kind, .str P.a.ut, .str P.a.ui, .int .i64 P.r.kind, .str P.r.ut, .str P.r.ui, slc Cn.c P.conds] ∧ 2 ≤ s'.n ∧ ρ.rd 13 = slc Ac.c S.acts ∧ ρ.rd 14 = .int .i64 S.acts.length ∧ ∃ x, ρ.rd 5 = x ∧ RowP (fun b => 2 ≤ b) s' x (rowc En.c ((S.acts.take i).flatMap (envsA P))) ((S.acts.take i).flatMap (envsA P)).length 3) S.acts.length ?_ ?_
    · simp only [WU, seval, strs_eq, h2, h3, c0, c1, hn, h5]
      first | done | exact ⟨rfl, .nils, rfl, RowP.nil _ _ _⟩ | exact ⟨.nils, rfl, RowP.nil _ _ _⟩
    clear h2 h3 c0 c1 hn h5
    rintro i ρ s' hi ⟨h15, h2, h3, c0, c1, hn, h13, h14, x, h5, hrow⟩
    by_cases hlt : i < S.acts.length
    rotate_left
    · have : i = S.acts.length := by omega
      subst this
      have hge : ¬ ((S.acts.length : Nat) : Int) < ((S.acts.length : Nat) : Int) := by omega
      rw [List.take_length] at hrow
      simp only [WU, seval, strs_eq, h15, h2, h3, c0, c1, hn, h13, h14, hge, h5]
      exact ⟨x, rfl, hrow⟩
    have hr := lt_idx hlt
    have hlt' := hr.2
    have hw : IntKind.i64.wrap ((i : Int) + 1) = ((i + 1 : Nat) : Int) := wrap_succ (by omega)
    have A := acAt hlt
    have hfit := A.fit
    have hall := A.all
    have hag := hs.a _ (List.getElem_mem hlt)
    have hstep := envsS_step (P := P) hlt
    have hlen := envsGo_len (P := P) (l := S.acts.take i) (fun a ha => hs.a a (List.mem_of_mem_take ha))
    rw [List.length_take] at hlen
    generalize (S.acts.take i).flatMap (envsA P) = L at *
    generalize hnx : (S.acts.take (i + 1)).flatMap (envsA P) = L' at *
    generalize S.acts[i] = a at *
    clear A
    rw [wpC_seq]
    refine w_mid (fun ρ s' => ρ.rd 15 = .int .i64 i ∧ ρ.rd 16 = .bool true ∧ ρ.rd 2 = .ptr 0 0 ∧ ρ.rd 3 = .ptr 1 0 ∧ s'.cells 0 = some [slc Kd.c S.kinds, slc Ac.c S.acts] ∧ s'.cells 1 = some [.bool P.forbid, .int .i64 P.p.kind, .str P.p.ut, .str P.p.ui, .int .i64 P.a.kind, .str P.a.ut, .str P.a.ui, .int .i64 P.r.kind, .str P.r.ut, .str P.r.ui, slc Cn.c P.conds] ∧ 2 ≤ s'.n ∧ ρ.rd 13 = slc Ac.c S.acts ∧ ρ.rd 14 = .int .i64 S.acts.length ∧ ∃ x, ρ.rd 5 = x ∧ RowP (fun b => 2 ≤ b) s' x (rowc En.c L) L.length 3) ?_ ?_
    · simp only [WU, seval, strs_eq, h15, h2, h3, c0, c1, hn, h13, h14, hlt', h5]
      exact ⟨x, rfl, hrow⟩
    clear h2 h3 c0 c1 hn h13 h14 h15 h5 hrow
    rintro ρ s' ⟨h15, h16, h2, h3, c0, c1, hn, h13, h14, x, h5, hrow⟩
    rw [wpC_seq]
    refine w_mid (fun ρ s' => ρ.rd 15 = .int .i64 i ∧ ρ.rd 2 = .ptr 0 0 ∧ ρ.rd 3 = .ptr 1 0 ∧ s'.cells 0 = some [slc Kd.c S.kinds, slc Ac.c S.acts] ∧ s'.cells 1 = some [.bool P.forbid, .int .i64 P.p.kind, .str P.p.ut, .str P.p.ui, .int .i64 P.a.kind, .str P.a.ut, .str P.a.ui, .int .i64 P.r.kind, .str P.r.ut, .str P.r.ui, slc Cn.c P.conds] ∧ 2 ≤ s'.n ∧ ρ.rd 13 = slc Ac.c S.acts ∧ ρ.rd 14 = .int .i64 S.acts.length ∧ ∃ x, ρ.rd 5 = x ∧ RowP (fun b => 2 ≤ b) s' x (rowc En.c L) L.length 3) ?_ ?_
    · simp only [WU, seval, strs_eq, h15, h16, h2, h3, c0, c1, hn, h13, h14, h5]
      exact ⟨x, rfl, hrow⟩
    clear h2 h3 c0 c1 hn h13 h14 h15 h16 h5 hrow
    rintro ρ s' ⟨h15, h2, h3, c0, c1, hn, h13, h14, x, h5, hrow⟩
    simp only [wpC_block, wpC_seq, wpC_skip, wpCK_normal]
    refine w_mid (fun ρ s' => ∃ q, ρ.rd 15 = .int .i64 i ∧ ρ.rd 2 = .ptr 0 0 ∧ ρ.rd 3 = .ptr 1 0 ∧ s'.cells 0 = some [slc Kd.c S.kinds, slc Ac.c S.acts] ∧ s'.cells 1 = some [.bool P.forbid, .int .i64 P.p.kind, .str P.p.ut, .str P.p.ui, .int .i64 P.a.kind, .str P.a.ut, .str P.a.ui, .int .i64 P.r.kind, .str P.r.ut, .str P.r.ui, slc Cn.c P.conds] ∧ 2 ≤ s'.n ∧ ρ.rd 13 = slc Ac.c S.acts ∧ ρ.rd 14 = .int .i64 S.acts.length ∧ ρ.rd 7 = .ptr q 0 ∧ 2 ≤ q ∧ q < s'.n ∧ s'.cells q = some [.str a.name, strs a.prins, strs a.ress] ∧ ∃ x, ρ.rd 5 = x ∧ RowP (fun b => 2 ≤ b ∧ b ≠ q) s' x (rowc En.c L) L.length 3) ?_ ?_
    · have n0 : ¬ 0 = s'.n := by omega
      have n1 : ¬ 1 = s'.n := by omega
      have sgE : ∀ a b c : AV, seg [a, b, c] 0 3 = [a, b, c] := fun _ _ _ => rfl
      simp only [WU, seval, strs_eq, h15, h2, h3, c0, c1, hn, h13, h14, hlt', hr, hfit, hall, h5, n0, n1, sgE, storeA, sets, setx, TS]
      refine ⟨s'.n, by omega, rfl, hn, by omega, by simp, x, rfl, ?_⟩
      exact (hrow.mono fun b h1 h2 => ⟨h1, by omega⟩).keep (by simp only [put_n, push_n]; omega) fun b hb _ => by rw [put_get, if_neg (by omega), push_get, if_neg (by omega)]
    clear h2 h3 c0 c1 hn h13 h14 h15 h5 hrow
    rintro ρ s' ⟨q, h15, h2, h3, c0, c1, hn, h13, h14, h7, hq2, hqn, cq, x, h5, hrow⟩
    rw [wpC_seq]
    by_cases hoff : actOff P a.name = true
    · have hL : L' = L := by rw [hstep, envsA, if_pos hoff, List.append_nil]
      unfold actOff at hoff
      simp only [Bool.and_eq_true, decide_eq_true_eq] at hoff
      have hk0 : ¬ P.a.kind = 0 := hoff.1
      have he := eq2 P.a.ut P.a.ui actionT a.name
      rw [decide_eq_false hoff.2] at he
      simp only [WU, seval, strs_eq, h15, h2, h3, c0, c1, hn, h13, h14, h7, hq2, hqn, cq, hk0, sg52, evalEq, hAc, he, h5, hw]
      exact ⟨hlt, x, rfl, by rw [hL]; exact hrow.mono fun b h _ => h.1⟩
    refine w_mid (fun ρ s' => ρ.rd 15 = .int .i64 i ∧ ρ.rd 2 = .ptr 0 0 ∧ ρ.rd 3 = .ptr 1 0 ∧ s'.cells 0 = some [slc Kd.c S.kinds, slc Ac.c S.acts] ∧ s'.cells 1 = some [.bool P.forbid, .int .i64 P.p.kind, .str P.p.ut, .str P.p.ui, .int .i64 P.a.kind, .str P.a.ut, .str P.a.ui, .int .i64 P.r.kind, .str P.r.ut, .str P.r.ui, slc Cn.c P.conds] ∧ 2 ≤ s'.n ∧ ρ.rd 13 = slc Ac.c S.acts ∧ ρ.rd 14 = .int .i64 S.acts.length ∧ ρ.rd 7 = .ptr q 0 ∧ 2 ≤ q ∧ q < s'.n ∧ s'.cells q = some [.str a.name, strs a.prins, strs a.ress] ∧ ∃ x, ρ.rd 5 = x ∧ RowP (fun b => 2 ≤ b ∧ b ≠ q) s' x (rowc En.c L) L.length 3) ?_ ?_
    · unfold actOff at hoff
      simp only [Bool.and_eq_true, decide_eq_true_eq] at hoff
      by_cases hk0 : P.a.kind = 0
      · simp only [WU, seval, strs_eq, h15, h2, h3, c0, c1, hn, h13, h14, h7, hq2, hqn, cq, hk0, h5]
        exact ⟨x, rfl, hrow⟩
      · have he := eq2 P.a.ut P.a.ui actionT a.name
        rw [decide_eq_true (Decidable.not_not.1 fun h => hoff ⟨hk0, h⟩)] at he
        simp only [WU, seval, strs_eq, h15, h2, h3, c0, c1, hn, h13, h14, h7, hq2, hqn, cq, hk0, sg52, evalEq, hAc, he, h5]
        exact ⟨x, rfl, hrow⟩
    clear h15 h2 h3 c0 c1 hn h13 h14 h7 hq2 hqn cq h5 hrow
    rintro ρ s' ⟨h15, h2, h3, c0, c1, hn, h13, h14, h7, hq2, hqn, cq, x, h5, hrow⟩
    have hL : L' = L ++ envsP P a.name a.prins a.ress := by rw [hstep, envsA, if_neg hoff]
    have hp4 := hag.pl.2
    have hr4 := hag.rl.2
    simp only [WU, seval, strs_eq, h15, h2, h3, c0, c1, hn, h13, h14, h7, hq2, hqn, cq, h5]
    refine w_for (fun j ρ s' => ρ.rd 35 = .int .i64 j ∧ ρ.rd 33 = strs a.prins ∧ ρ.rd 34 = .int .i64 a.prins.length ∧ ρ.rd 15 = .int .i64 i ∧ ρ.rd 2 = .ptr 0 0 ∧ ρ.rd 3 = .ptr 1 0 ∧ s'.cells 0 = some [slc Kd.c S.kinds, slc Ac.c S.acts] ∧ s'.cells 1 = some [.bool P.forbid, .int .i64 P.p.kind, .str P.p.ut, .str P.p.ui, .int .i64 P.a.kind, .str P.a.ut, .str P.a.ui, .int .i64 P.r.kind, .str P.r.ut, .str P.r.ui, slc Cn.c P.conds] ∧ 2 ≤ s'.n ∧ ρ.rd 13 = slc Ac.c S.acts ∧ ρ.rd 14 = .int .i64 S.acts.length ∧ ρ.rd 7 = .ptr q 0 ∧ 2 ≤ q ∧ q < s'.n ∧ s'.cells q = some [.str a.name, strs a.prins, strs a.ress] ∧ ∃ x, ρ.rd 5 = x ∧ RowP (fun b => 2 ≤ b ∧ b ≠ q) s' x (rowc En.c (L ++ envsP P a.name (a.prins.take j) a.ress)) (L ++ envsP P a.name (a.prins.take j) a.ress).length 3) a.prins.length ?_ ?_
    · simp only [WU, seval, strs_eq, h15, h2, h3, c0, c1, hn, h13, h14, h7, hq2, hqn, cq, h5]
      first | done | refine ⟨rfl, x, rfl, ?_⟩ | refine ⟨x, rfl, ?_⟩
      have h0 : envsP P a.name (a.prins.take 0) a.ress = [] := rfl
      rw [h0, List.append_nil]; exact hrow
    clear h15 h2 h3 c0 c1 hn h13 h14 h7 hq2 hqn cq h5 hrow
    rintro j ρ s' hj ⟨h35, h33, h34, h15, h2, h3, c0, c1, hn, h13, h14, h7, hq2, hqn, cq, x, h5, hrow⟩
    by_cases hjl : j < a.prins.length
    rotate_left
    · have : j = a.prins.length := by omega
      subst this
      have hge : ¬ ((a.prins.length : Nat) : Int) < ((a.prins.length : Nat) : Int) := by omega
      rw [List.take_length, ← hL] at hrow
      simp only [WU, seval, strs_eq, h35, h34, h15, h2, h3, c0, c1, hn, h13, h14, h7, hq2, hqn, cq, hge, h5, hw]
      exact ⟨hlt, x, rfl, hrow.mono fun b h _ => h.1⟩
    have hrj := lt_idx hjl
    have hjl' := hrj.2
    have hgj := strs_get hjl
    have hwj : IntKind.i64.wrap ((j : Int) + 1) = ((j + 1 : Nat) : Int) := wrap_succ (by omega)
    have hstj := envsP_step (P := P) (a := a.name) (ys := a.ress) hjl
    have hlj := envsP_len P a.name a.ress (a.prins.take j)
    have hlj2 : (a.prins.take j).length * a.ress.length ≤ 4 * 4 := Nat.mul_le_mul (by rw [List.length_take]; omega) hr4
    rw [hstj]
    have hM : ∃ M, M = L ++ envsP P a.name (a.prins.take j) a.ress ∧ M.length ≤ 16 * S.acts.length + 16 := ⟨_, rfl, by rw [List.length_append]; omega⟩
    obtain ⟨M, hM, hMl⟩ := hM
    rw [← List.append_assoc, ← hM]
    rw [← hM] at hrow
    generalize a.prins[j] = xx at *
    simp only [WU, seval, strs_eq, h35, h33, h34, h15, h2, h3, c0, c1, hn, h13, h14, h7, hq2, hqn, cq, hjl', hrj, hgj, h5]
    refine w_for (fun k ρ s' => ρ.rd 42 = .int .i64 k ∧ ρ.rd 40 = strs a.ress ∧ ρ.rd 41 = .int .i64 a.ress.length ∧ ρ.rd 9 = .str xx ∧ ρ.rd 35 = .int .i64 j ∧ ρ.rd 33 = strs a.prins ∧ ρ.rd 34 = .int .i64 a.prins.length ∧ ρ.rd 15 = .int .i64 i ∧ ρ.rd 2 = .ptr 0 0 ∧ ρ.rd 3 = .ptr 1 0 ∧ s'.cells 0 = some [slc Kd.c S.kinds, slc Ac.c S.acts] ∧ s'.cells 1 = some [.bool P.forbid, .int .i64 P.p.kind, .str P.p.ut, .str P.p.ui, .int .i64 P.a.kind, .str P.a.ut, .str P.a.ui, .int .i64 P.r.kind, .str P.r.ut, .str P.r.ui, slc Cn.c P.conds] ∧ 2 ≤ s'.n ∧ ρ.rd 13 = slc Ac.c S.acts ∧ ρ.rd 14 = .int .i64 S.acts.length ∧ ρ.rd 7 = .ptr q 0 ∧ 2 ≤ q ∧ q < s'.n ∧ s'.cells q = some [.str a.name, strs a.prins, strs a.ress] ∧ ∃ x, ρ.rd 5 = x ∧ RowP (fun b => 2 ≤ b ∧ b ≠ q) s' x (rowc En.c (M ++ envsR P a.name xx (a.ress.take k))) (M ++ envsR P a.name xx (a.ress.take k)).length 3) a.ress.length ?_ ?_
    · simp only [WU, seval, strs_eq, h35, h33, h34, h15, h2, h3, c0, c1, hn, h13, h14, h7, hq2, hqn, cq, h5]
      first | done | refine ⟨rfl, x, rfl, ?_⟩ | refine ⟨x, rfl, ?_⟩
      have h0 : envsR P a.name xx (a.ress.take 0) = [] := rfl
      rw [h0, List.append_nil]; exact hrow
    clear h15 h2 h3 c0 c1 hn h13 h14 h7 hq2 hqn cq h5 hrow h35 h33 h34
    rintro k ρ s' hk ⟨h42, h40, h41, h9, h35, h33, h34, h15, h2, h3, c0, c1, hn, h13, h14, h7, hq2, hqn, cq, x, h5, hrow⟩
    by_cases hkl : k < a.ress.length
    rotate_left
    · have : k = a.ress.length := by omega
      subst this
      have hge : ¬ ((a.ress.length : Nat) : Int) < ((a.ress.length : Nat) : Int) := by omega
      rw [List.take_length] at hrow
      simp only [WU, seval, strs_eq, h42, h41, h35, h33, h34, h15, h2, h3, c0, c1, hn, h13, h14, h7, hq2, hqn, cq, hge, h5, hwj]
      exact ⟨hjl, x, rfl, hrow⟩
    have hrk := lt_idx hkl
    have hkl' := hrk.2
    have hgk := strs_get hkl
    have hwk : IntKind.i64.wrap ((k : Int) + 1) = ((k + 1 : Nat) : Int) := wrap_succ (by omega)
    have hstk := envsR_step (P := P) (a := a.name) (x := xx) hkl
    have hlk := envsR_len P a.name xx (a.ress.take k)
    rw [List.length_take] at hlk
    rw [hstk]
    have hM2 : ∃ M2, M2 = M ++ envsR P a.name xx (a.ress.take k) ∧ M2.length ≤ 16 * S.acts.length + 20 := ⟨_, rfl, by rw [List.length_append]; omega⟩
    obtain ⟨M2, hM2, hM2l⟩ := hM2
    rw [← List.append_assoc, ← hM2]
    rw [← hM2] at hrow
    generalize a.ress[k] = yy at *
    have hP : ∀ σ, AC Try.prog 41 [.agg [.int .i64 P.p.kind, .str P.p.ut, .str P.p.ui], .str xx] σ fun v s => s = σ ∧ v = .bool (letS P.p xx) := fun σ => allows_ac
    have hR : ∀ σ, AC Try.prog 41 [.agg [.int .i64 P.r.kind, .str P.r.ut, .str P.r.ui], .str yy] σ fun v s => s = σ ∧ v = .bool (letS P.r yy) := fun σ => allows_ac
    cases hb1 : letS P.p xx with
    | false =>
      simp only [WU, seval, strs_eq, h42, h40, h41, h9, h35, h33, h34, h15, h2, h3, c0, c1, hn, h13, h14, h7, hq2, hqn, cq, hkl', hrk, hgk, h5, sg13]
      refine (hP _).use ?_
      simp only [WU, seval, strs_eq, hb1, h42, h40, h41, h9, h35, h33, h34, h15, h2, h3, c0, c1, hn, h13, h14, h7, hq2, hqn, cq, h5, hwk, Bool.false_and, Bool.false_eq_true, if_false]
      exact ⟨hkl, x, rfl, by simpa using hrow⟩
    | true =>
      cases hb2 : letS P.r yy with
      | false =>
        simp only [WU, seval, strs_eq, h42, h40, h41, h9, h35, h33, h34, h15, h2, h3, c0, c1, hn, h13, h14, h7, hq2, hqn, cq, hkl', hrk, hgk, h5, sg13]
        refine (hP _).use ?_
        simp only [WU, seval, strs_eq, hb1, h42, h40, h41, h9, h35, h33, h34, h15, h2, h3, c0, c1, hn, h13, h14, h7, hq2, hqn, cq, h5, hwk, sg73]
        refine (hR _).use ?_
        simp only [WU, seval, strs_eq, hb2, h42, h40, h41, h9, h35, h33, h34, h15, h2, h3, c0, c1, hn, h13, h14, h7, hq2, hqn, cq, h5, hwk, Bool.and_false, Bool.false_eq_true, if_false]
        exact ⟨hkl, x, rfl, by simpa using hrow⟩
      | true =>
        obtain ⟨b9, cap9, s9, happ, hrow9, hn9, hk9⟩ := app_lit (bytes := 48) hrow (fun b hb => ⟨by omega, by omega⟩) (new := (En.mk xx a.name yy).c) (k := 1) rfl rfl (by omega) (by omega)
        simp only [En.c_eq] at happ
        have q0 := (get_cells (hk9 0 (by omega) (by omega))).trans c0
        have q1 := (get_cells (hk9 1 (by omega) (by omega))).trans c1
        have qq := (get_cells (hk9 q (by omega) (by omega))).trans cq
        have hn9' : 2 ≤ s9.n := by omega
        have hq9' : q < s9.n := by omega
        have sgE : ∀ a b c : AV, seg [a, b, c] 0 3 = [a, b, c] := fun _ _ _ => rfl
        simp only [WU, seval, strs_eq, h42, h40, h41, h9, h35, h33, h34, h15, h2, h3, c0, c1, hn, h13, h14, h7, hq2, hqn, cq, hkl', hrk, hgk, h5, sg13]
        refine (hP _).use ?_
        simp only [WU, seval, strs_eq, hb1, h42, h40, h41, h9, h35, h33, h34, h15, h2, h3, c0, c1, hn, h13, h14, h7, hq2, hqn, cq, h5, hwk, sg73]
        refine (hR _).use ?_
        simp only [WU, seval, strs_eq, hb2, h42, h40, h41, h9, h35, h33, h34, h15, h2, h3, c0, c1, hn, h13, h14, h7, hq2, hqn, cq, h5, fillA, happ]
        simp only [WU, seval, strs_eq, hb2, h42, h40, h41, h9, h35, h33, h34, h15, h2, h3, h13, h14, h7, hq2, q0, q1, qq, hwk, hn9', hq9']
        refine ⟨hkl, _, rfl, ?_⟩
        rw [rowc_append, rowc_one, List.length_append]
        exact hrow9
  clear h2 h3 c0 c1 hn h5
  rintro ρ s' ⟨x, h5, hrow⟩
  simp only [WU, seval, strs_eq, h5]
  exact ⟨_, hrow.pur false rfl fun i hi hi' => pur0_ens _ _ i hi hi', rfl⟩
theorem envsT_ac {S : Sc} {P : Po} {x : AV} {σ : AState} (hs : ScM S) (hal : S.acts.length ≤ 1000) (hx : Pur σ true x (.agg P.c)) : AC Try.prog 22 [.agg S.c, x] σ fun v s => s = σ ∧ v = slc En.c (envsS S P) :=
  AC.pure (.cons (pur_schema σ S) (.cons hx .nil)) (envsT_st0 hs hal)
end Go.Proofs.Ytcdbpmmomgehfaa.Va
