/- Kinds, actions, fields by their names; requests. Conditions: none. -/
import Derived.Test.YtcdbpmmomgehfaaTy5
set_option maxRecDepth 100000
set_option maxHeartbeats 4000000
set_option linter.all false
namespace Go.Proofs.Ytcdbpmmomgehfaa.Va
open Go.Proofs
theorem cloneS_st0 {l : List Str} (hl : l.length ≤ 1000) : AC Try.prog 74 [strs l] st0 fun v s => ∃ a, Pur s false v a ∧ a = strs l := by
  cases l with
  | nil =>
    refine AC.nil_split (pre := []) (post := []) ?_ ?_
    · refine ac_wp fn74 cf74 cl74 rfl ?_
      simp only [ac74]
      unfold ab74
      simp only [WU, seval, strs_eq, evalEq]
      exact ⟨_, .nils _ _, rfl⟩
    · refine ac_wp fn74 cf74 cl74 rfl ?_
      simp only [ac74]
      unfold ab74
      simp only [WU, seval, strs_eq, evalEq]
      have hrow : RowP (fun _ => True) (st0.push (.cells [])) (.sl 0 0 0 (some 0) 1) [] 0 1 := .of trivial (Nat.lt_succ_self _) (push_cells _ _) rfl
      obtain ⟨x, s, happ, hr, _⟩ := app_rowP (bytes := 16) hrow trivial (y := .pse) (k := 0) (new := []) rfl rfl rfl rfl (by omega)
      simp only [WU, seval, strs_eq, happ]
      exact ⟨_, hr.pur false (c' := []) rfl (fun i hi => absurd hi (by simp)), rfl⟩
  | cons a r =>
    generalize hl' : a :: r = l at *
    have hlen : l.length = r.length + 1 := by rw [← hl']; rfl
    have hne : evalEq .slice (.psl (l.map .str) 0 l.length) .nils = some false := by rw [hlen]; rfl
    refine ac_wp fn74 cf74 cl74 rfl ?_
    simp only [ac74]
    unfold ab74
    simp only [WU, seval, strs_eq, hne]
    have hrow : RowP (fun _ => True) (st0.push (.cells [])) (.sl 0 0 0 (some 0) 1) [] 0 1 := .of trivial (Nat.lt_succ_self _) (push_cells _ _) rfl
    obtain ⟨x, s, happ, hr, _⟩ := app_rowP (bytes := 16) hrow trivial (y := .psl (l.map .str) 0 l.length) (k := l.length) rfl (firstA_psl' (by simp)) (strs_all _) (by simp) (by omega)
    simp only [WU, seval, strs_eq, happ]
    rw [List.nil_append, Nat.zero_add] at hr
    exact ⟨_, hr.pur false (c' := l.map .str) rfl (fun i hi hi' => .flat _ (by rw [List.getElem_map]; rfl)), rfl⟩
theorem cloneS_ac {l : List Str} {σ : AState} (hl : l.length ≤ 1000) : AC Try.prog 74 [strs l] σ fun v s => s = σ ∧ v = strs l :=
  AC.pure (.cons (strs_pur l) .nil) (cloneS_st0 hl)
theorem cloneF_st0 {l : List Fl} (hl : l.length ≤ 1000) : AC Try.prog 75 [slc Fl.c l] st0 fun v s => ∃ a, Pur s false v a ∧ a = slc Fl.c l := by
  cases l with
  | nil =>
    refine AC.nil_split (pre := []) (post := []) ?_ ?_
    · refine ac_wp fn75 cf75 cl75 rfl ?_
      simp only [ac75]
      unfold ab75
      simp only [WU, seval, strs_eq, evalEq]
      exact ⟨_, .nils _ _, rfl⟩
    · refine ac_wp fn75 cf75 cl75 rfl ?_
      simp only [ac75]
      unfold ab75
      simp only [WU, seval, strs_eq, evalEq]
      have hrow : RowP (fun _ => True) (st0.push (.cells [])) (.sl 0 0 0 (some 0) 4) [] 0 4 := .of trivial (Nat.lt_succ_self _) (push_cells _ _) rfl
      obtain ⟨x, s, happ, hr, _⟩ := app_rowP (bytes := 48) hrow trivial (y := .pse) (k := 0) (new := []) rfl rfl rfl rfl (by omega)
      simp only [WU, seval, strs_eq, happ]
      exact ⟨_, hr.pur false (c' := []) rfl (fun i hi => absurd hi (by simp)), rfl⟩
  | cons a r =>
    generalize hl' : a :: r = l at *
    have hlen : l.length = r.length + 1 := by rw [← hl']; rfl
    have hne : evalEq .slice (.psl (rowc Fl.c l) 0 l.length) .nils = some false := by rw [hlen]; rfl
    refine ac_wp fn75 cf75 cl75 rfl ?_
    simp only [ac75]
    unfold ab75
    simp only [WU, seval, strs_eq, hne]
    have hrow : RowP (fun _ => True) (st0.push (.cells [])) (.sl 0 0 0 (some 0) 4) [] 0 4 := .of trivial (Nat.lt_succ_self _) (push_cells _ _) rfl
    obtain ⟨x, s, happ, hr, _⟩ := app_rowP (bytes := 48) hrow trivial (y := .psl (rowc Fl.c l) 0 l.length) (k := l.length) rfl (firstA_psl' (rowc_length Fl.c_len _)) (rowc_one' (fun _ => rfl) _) (rowc_length Fl.c_len _) (by omega)
    simp only [WU, seval, strs_eq, happ]
    rw [List.nil_append, Nat.zero_add] at hr
    exact ⟨_, hr.pur false (c' := rowc Fl.c l) rfl (flat_row Fl.flat), rfl⟩
theorem cloneF_ac {l : List Fl} {σ : AState} (hl : l.length ≤ 1000) : AC Try.prog 75 [slc Fl.c l] σ fun v s => s = σ ∧ v = slc Fl.c l :=
  AC.pure (.cons (slc_pur Fl.pur l) .nil) (cloneF_st0 hl)

/- ------------------------------------------------ kinds -/
theorem kind20_st0 {s : Sc} {n : Str} (hs : s.ok) (hg : ∀ k ∈ s.kinds, KdG k) : AC Try.prog 61 [.agg s.c, .str n] st0 fun v s' => ∃ a, Pur s' true v a ∧ a = kindV s.kinds n := by
  refine ac_wp fn61 cf61 cl61 rfl ?_
  simp only [ac61]
  unfold ab61
  simp only [WU, seval, strs_eq, Sc.c_eq]
  refine w_for (fun i ρ s' => ρ.rd 11 = .int .i64 i ∧ ρ.rd 10 = .int .i64 s.kinds.length ∧ ρ.rd 9 = slc Kd.c s.kinds ∧ ρ.rd 4 = .ptr 1 0 ∧ ρ.rd 1 = .str n ∧ s'.cells 1 = some [.str [], .nils, .nils] ∧ 2 ≤ s'.n ∧ (s.kinds.take i).find? (fun k => decide (k.name = n)) = none) s.kinds.length ?_ ?_
  · simp only [WU, seval, strs_eq, List.take_zero, List.find?_nil]
    first | done | rfl
  · rintro i ρ s' hi ⟨h11, h10, h9, h4, h1, c1, hn, hno⟩
    simp only [WU, seval, strs_eq, h11, h10]
    refine Br_dec (fun hlt' => ?_) (fun hge => ?_)
    rotate_left
    · have : i = s.kinds.length := by omega
      subst this
      simp only [WU, seval, strs_eq, h4, h1, c1, storeA, sets, setx, TS]
      refine ⟨_, pur_pair _ _ false (pur_nil_kd _), ?_⟩
      rw [List.take_length] at hno
      rw [kindV, hno]
    have hlt : i < s.kinds.length := by omega
    have A := kdAt hlt
    have hr := lt_idx hlt
    have hw : IntKind.i64.wrap ((i : Int) + 1) = ((i + 1 : Nat) : Int) := wrap_succ (by have : Most = 9223372036854775807 := rfl; have := hs.kl; omega)
    have hG := hg _ (List.getElem_mem hlt)
    generalize hm : s'.n = m at *
    have hm2 : 2 ≤ m := hn
    have n1 : ¬ 1 = m := by omega
    rw [wpC_skip, wpCK_normal, wpC_seq, wpC_block, wpC_seq]
    refine w_mid (fun ρ s1 => ρ.rd 11 = .int .i64 i ∧ ρ.rd 10 = .int .i64 s.kinds.length ∧ ρ.rd 9 = slc Kd.c s.kinds ∧ ρ.rd 4 = .ptr 1 0 ∧ ρ.rd 1 = .str n ∧ ρ.rd 7 = .ptr m 0 ∧ s1.cells 1 = some [.str [], .nils, .nils] ∧ s1.n = m + 1 ∧ s1.cells m = some [.str s.kinds[i].name, strs s.kinds[i].parents, slc Fl.c s.kinds[i].fields]) ?_ ?_
    · simp only [WU, seval, strs_eq, h11, h10, h9, h4, h1, hr, A.fit, A.all, hm, c1, n1, storeA, sets, setx, TS]
    clear h11 h10 h9 h4 h1 c1 hn hm
    rintro ρ s1 ⟨h11, h10, h9, h4, h1, h7, c1, hn1, cm⟩
    simp only [WU, seval, strs_eq, h11, h10, h9, h4, h1, h7, cm]
    refine Br_dec (fun hy => ?_) (fun hne => ?_)
    rotate_left
    · simp only [WU, seval, strs_eq, h11, h10, h9, h4, h1, c1, hw]
      exact ⟨hlt, by omega, find_next hlt hno hne⟩
    simp only [WU, seval, strs_eq]
    refine w_dreg follow [] rfl ?_
    have cA : (addSlots s1.n 10 s1 []).cells m = some [.str s.kinds[i].name, strs s.kinds[i].parents, slc Fl.c s.kinds[i].fields] := cm
    have cB : (addSlots s1.n 10 s1 []).cells 1 = some [.str [], .nils, .nils] := c1
    generalize addSlots s1.n 10 s1 [] = s2 at *
    have hP := cloneS_ac (l := s.kinds[i].parents) (σ := s2) (by have := hG.pl; omega)
    have hF := cloneF_ac (l := s.kinds[i].fields) (σ := s2) (by have := hG.fl; omega)
    rw [strs_eq] at hP
    rw [slc_eq] at hF
    simp only [WU, seval, strs_eq, DU, h11, h4, h1, h7, cA]
    refine hP.useD ?_
    simp only [WU, seval, strs_eq, DU, h11, h4, h1, h7, cA]
    refine hF.useD ?_
    simp only [WU, seval, strs_eq, DU, h11, h4, h1, h7, cA, storeA, sets, setx, TS]
    refine ⟨⟨?_, ?_⟩, ?_⟩
    · intro l hl c hc hf
      simp only [List.mem_cons, List.mem_nil_iff, List.not_mem_nil, or_false] at hl hc
      rcases hl with rfl | rfl <;> rcases hc with rfl | rfl | rfl | rfl | rfl <;> dsimp only at hf ⊢ <;> first
        | (exact absurd hf (by decide +kernel))
        | (simp only [WU, seval, strs_eq, h11, h4, h1, h7, cA]; done)
    · intro sl hsl; simp at hsl
    · have sg3 : ∀ a b c : AV, seg [a, b, c] 0 3 = [a, b, c] := fun _ _ _ => rfl
      simp only [WU, seval, strs_eq, h4, h1, h7, cB, n1, sg3, storeA, sets, setx, TS]
      refine ⟨_, pur_pair _ _ true (pur_kd _ s.kinds[i]), ?_⟩
      rw [kindV, find_take hlt hno, if_pos hy]
theorem kind20_ac {s : Sc} {n : Str} {σ : AState} (hs : s.ok) (hg : ∀ k ∈ s.kinds, KdG k) : AC Try.prog 61 [.agg s.c, .str n] σ fun v s' => s' = σ ∧ v = kindV s.kinds n :=
  AC.share (.cons (.agg (Sc.fxd s)) (.cons (.flat rfl) .nil)) (kind20_st0 hs hg)
/- ------------------------------------------------ actions -/
def actV (ac : List Ac) (n : Str) : AV := match ac.find? (fun k => decide (k.name = n)) with
  | some k => .tup [.agg k.c, .bool true]
  | none => .tup [.agg [.str [], .psl [] 0 0, .psl [] 0 0], .bool false]
theorem findA_take {ks : List Ac} {n : Str} {i : Nat} (h : i < ks.length) (hno : (ks.take i).find? (fun k => decide (k.name = n)) = none) :
    ks.find? (fun k => decide (k.name = n)) = if ks[i].name = n then some ks[i] else (ks.drop (i + 1)).find? (fun k => decide (k.name = n)) := by
  conv => lhs; rw [← List.take_append_drop i ks]
  rw [List.find?_append, hno, Option.none_or, List.drop_eq_getElem_cons h, List.find?_cons]
  by_cases hn : ks[i].name = n <;> simp [hn]
theorem findA_next {ks : List Ac} {n : Str} {i : Nat} (h : i < ks.length) (hno : (ks.take i).find? (fun k => decide (k.name = n)) = none) (hn : ¬ ks[i].name = n) :
    (ks.take (i + 1)).find? (fun k => decide (k.name = n)) = none := by
  rw [List.take_add_one, List.find?_append, hno, List.getElem?_eq_getElem h]
  simp [hn]
theorem pur_ac (s : AState) (k : Ac) : Pur s true (.agg k.c) (.agg k.c) := .agg _ _ rfl fun i hi hi' => Ac.pur k _ (List.getElem_mem hi)
theorem act22_st0 {s : Sc} {n : Str} (hs : s.ok) (hg : ∀ k ∈ s.acts, AcG k) : AC Try.prog 60 [.agg s.c, .str n] st0 fun v s' => ∃ a, Pur s' true v a ∧ a = actV s.acts n := by
  refine ac_wp fn60 cf60 cl60 rfl ?_
  simp only [ac60]
  unfold ab60
  simp only [WU, seval, strs_eq, Sc.c_eq]
  refine w_for (fun i ρ s' => ρ.rd 11 = .int .i64 i ∧ ρ.rd 10 = .int .i64 s.acts.length ∧ ρ.rd 9 = slc Ac.c s.acts ∧ ρ.rd 4 = .ptr 1 0 ∧ ρ.rd 1 = .str n ∧ s'.cells 1 = some [.str [], .nils, .nils] ∧ 2 ≤ s'.n ∧ (s.acts.take i).find? (fun k => decide (k.name = n)) = none) s.acts.length ?_ ?_
  · simp only [WU, seval, strs_eq, List.take_zero, List.find?_nil]
    first | done | rfl
  · rintro i ρ s' hi ⟨h11, h10, h9, h4, h1, c1, hn, hno⟩
    simp only [WU, seval, strs_eq, h11, h10]
    refine Br_dec (fun hlt' => ?_) (fun hge => ?_)
    rotate_left
    · have : i = s.acts.length := by omega
      subst this
      simp only [WU, seval, strs_eq, h4, h1, c1, storeA, sets, setx, TS]
      refine ⟨_, pur_pair _ _ false (pur_nil_kd _), ?_⟩
      rw [List.take_length] at hno
      rw [actV, hno]
    have hlt : i < s.acts.length := by omega
    have A := acAt hlt
    have hr := lt_idx hlt
    have hw : IntKind.i64.wrap ((i : Int) + 1) = ((i + 1 : Nat) : Int) := wrap_succ (by have : Most = 9223372036854775807 := rfl; have := hs.al; omega)
    have hG := hg _ (List.getElem_mem hlt)
    generalize hm : s'.n = m at *
    have hm2 : 2 ≤ m := hn
    have n1 : ¬ 1 = m := by omega
    rw [wpC_skip, wpCK_normal, wpC_seq, wpC_block, wpC_seq]
    refine w_mid (fun ρ s1 => ρ.rd 11 = .int .i64 i ∧ ρ.rd 10 = .int .i64 s.acts.length ∧ ρ.rd 9 = slc Ac.c s.acts ∧ ρ.rd 4 = .ptr 1 0 ∧ ρ.rd 1 = .str n ∧ ρ.rd 7 = .ptr m 0 ∧ s1.cells 1 = some [.str [], .nils, .nils] ∧ s1.n = m + 1 ∧ s1.cells m = some [.str s.acts[i].name, strs s.acts[i].prins, strs s.acts[i].ress]) ?_ ?_
    · simp only [WU, seval, strs_eq, h11, h10, h9, h4, h1, hr, A.fit, A.all, hm, c1, n1, storeA, sets, setx, TS]
    clear h11 h10 h9 h4 h1 c1 hn hm
    rintro ρ s1 ⟨h11, h10, h9, h4, h1, h7, c1, hn1, cm⟩
    simp only [WU, seval, strs_eq, h11, h10, h9, h4, h1, h7, cm]
    refine Br_dec (fun hy => ?_) (fun hne => ?_)
    rotate_left
    · simp only [WU, seval, strs_eq, h11, h10, h9, h4, h1, c1, hw]
      exact ⟨hlt, by omega, findA_next hlt hno hne⟩
    simp only [WU, seval, strs_eq]
    refine w_dreg follow [] rfl ?_
    have cA : (addSlots s1.n 10 s1 []).cells m = some [.str s.acts[i].name, strs s.acts[i].prins, strs s.acts[i].ress] := cm
    have cB : (addSlots s1.n 10 s1 []).cells 1 = some [.str [], .nils, .nils] := c1
    generalize addSlots s1.n 10 s1 [] = s2 at *
    have hP := cloneS_ac (l := s.acts[i].prins) (σ := s2) (by have := hG.pl; omega)
    have hF := cloneS_ac (l := s.acts[i].ress) (σ := s2) (by have := hG.rl; omega)
    rw [strs_eq] at hP hF
    simp only [WU, seval, strs_eq, DU, h11, h4, h1, h7, cA]
    refine hP.useD ?_
    simp only [WU, seval, strs_eq, DU, h11, h4, h1, h7, cA]
    refine hF.useD ?_
    simp only [WU, seval, strs_eq, DU, h11, h4, h1, h7, cA, storeA, sets, setx, TS]
    refine ⟨⟨?_, ?_⟩, ?_⟩
    · intro l hl c hc hf
      simp only [List.mem_cons, List.mem_nil_iff, List.not_mem_nil, or_false] at hl hc
      rcases hl with rfl | rfl <;> rcases hc with rfl | rfl | rfl | rfl | rfl <;> dsimp only at hf ⊢ <;> first
        | (exact absurd hf (by decide +kernel))
        | (simp only [WU, seval, strs_eq, h11, h4, h1, h7, cA]; done)
    · intro sl hsl; simp at hsl
    · have sg3 : ∀ a b c : AV, seg [a, b, c] 0 3 = [a, b, c] := fun _ _ _ => rfl
      simp only [WU, seval, strs_eq, h4, h1, h7, cB, n1, sg3, storeA, sets, setx, TS]
      refine ⟨_, pur_pair _ _ true (pur_ac _ s.acts[i]), ?_⟩
      rw [actV, findA_take hlt hno, if_pos hy]
theorem act22_ac {s : Sc} {n : Str} {σ : AState} (hs : s.ok) (hg : ∀ k ∈ s.acts, AcG k) : AC Try.prog 60 [.agg s.c, .str n] σ fun v s' => s' = σ ∧ v = actV s.acts n :=
  AC.share (.cons (.agg (Sc.fxd s)) (.cons (.flat rfl) .nil)) (act22_st0 hs hg)
theorem actR_st0 {s : Sc} {n : Str} (hs : s.ok) : AC Try.prog 62 [.agg s.c, .str n] st0 fun v s' => ∃ a, Pur s' true v a ∧ a = actV s.acts n := by
  refine ac_wp fn62 cf62 cl62 rfl ?_
  simp only [ac62]
  unfold ab62
  simp only [WU, seval, strs_eq, Sc.c_eq]
  refine w_for (fun i ρ s' => ρ.rd 6 = .int .i64 i ∧ ρ.rd 2 = .ptr 0 0 ∧ ρ.rd 4 = .ptr 1 0 ∧ ρ.rd 1 = .str n ∧ s'.cells 0 = some [slc Kd.c s.kinds, slc Ac.c s.acts] ∧ s'.cells 1 = some [.str [], .nils, .nils] ∧ (s.acts.take i).find? (fun k => decide (k.name = n)) = none) s.acts.length ?_ ?_
  · simp only [WU, seval, strs_eq, List.take_zero, List.find?_nil]
    first | done | rfl
  · rintro i ρ s' hi ⟨h6, h2, h4, h1, c0, c1, hno⟩
    simp only [WU, seval, strs_eq, h6, h2, h4, h1, c0, c1]
    refine Br_dec (fun hlt' => ?_) (fun hge => ?_)
    · have hlt : i < s.acts.length := by omega
      have A := acAt hlt
      have hr := lt_idx hlt
      have hw : IntKind.i64.wrap ((i : Int) + 1) = ((i + 1 : Nat) : Int) := wrap_succ (by have : Most = 9223372036854775807 := rfl; have := hs.al; omega)
      simp only [WU, seval, strs_eq, h6, h2, h4, h1, c0, c1, hr, A.g0]
      refine Br_dec (fun hy => ?_) (fun hn => ?_)
      · simp only [WU, seval, strs_eq, h6, h2, h4, h1, c0, c1, hr, A.fit, A.all, storeA, sets, setx, TS]
        refine ⟨_, pur_pair _ _ true (pur_ac _ s.acts[i]), ?_⟩
        rw [actV, findA_take hlt hno, if_pos hy]
      · simp only [WU, seval, strs_eq, h6, h2, h4, h1, c0, c1, hw]
        exact ⟨hlt, findA_next hlt hno hn⟩
    · have : i = s.acts.length := by omega
      subst this
      simp only [WU, seval, strs_eq, h6, h2, h4, h1, c0, c1, storeA, sets, setx, TS]
      refine ⟨_, pur_pair _ _ false (pur_nil_kd _), ?_⟩
      rw [List.take_length] at hno
      rw [actV, hno]
theorem actR_ac {s : Sc} {n : Str} {σ : AState} (hs : s.ok) : AC Try.prog 62 [.agg s.c, .str n] σ fun v s' => s' = σ ∧ v = actV s.acts n :=
  AC.share (.cons (.agg (Sc.fxd s)) (.cons (.flat rfl) .nil)) (actR_st0 hs)
end Go.Proofs.Ytcdbpmmomgehfaa.Va
set_option maxRecDepth 100000
set_option maxHeartbeats 4000000
set_option linter.all false
namespace Go.Proofs.Ytcdbpmmomgehfaa.Va
open Go.Proofs
instance : DecidableEq Ty := fun a b => decidable_of_iff (a.kind = b.kind ∧ a.of_ = b.of_ ∧ a.name = b.name) (by cases a; cases b; simp)
instance : DecidableEq Fl := fun a b => decidable_of_iff (a.name = b.name ∧ a.ty = b.ty) (by cases a; cases b; simp)
def fieldV (fs : List Fl) (n : Str) : AV := match fs.find? (fun f => decide (f.name = n)) with
  | some f => .tup [.agg f.ty.c, .bool true]
  | none => .tup [.agg [.int .i64 0, .int .i64 0, .str []], .bool false]
theorem findF_take {ks : List Fl} {n : Str} {i : Nat} (h : i < ks.length) (hno : (ks.take i).find? (fun k => decide (k.name = n)) = none) :
    ks.find? (fun k => decide (k.name = n)) = if ks[i].name = n then some ks[i] else (ks.drop (i + 1)).find? (fun k => decide (k.name = n)) := by
  conv => lhs; rw [← List.take_append_drop i ks]
  rw [List.find?_append, hno, Option.none_or, List.drop_eq_getElem_cons h, List.find?_cons]
  by_cases hn : ks[i].name = n <;> simp [hn]
theorem findF_next {ks : List Fl} {n : Str} {i : Nat} (h : i < ks.length) (hno : (ks.take i).find? (fun k => decide (k.name = n)) = none) (hn : ¬ ks[i].name = n) :
    (ks.take (i + 1)).find? (fun k => decide (k.name = n)) = none := by
  rw [List.take_add_one, List.find?_append, hno, List.getElem?_eq_getElem h]
  simp [hn]
theorem pur_ty (s : AState) (t : Ty) : Pur s true (.agg t.c) (.agg t.c) := .agg _ _ rfl fun i hi hi' => by
  match i, hi with
  | 0, _ => exact .flat _ rfl
  | 1, _ => exact .flat _ rfl
  | 2, _ => exact .flat _ rfl
theorem field23_st0 {k : Kd} {n : Str} (hl : k.fields.length ≤ 1000) : AC Try.prog 72 [.agg k.c, .str n] st0 fun v s' => ∃ a, Pur s' true v a ∧ a = fieldV k.fields n := by
  refine ac_wp fn72 cf72 cl72 rfl ?_
  simp only [ac72]
  unfold ab72
  simp only [WU, seval, strs_eq, Kd.c_eq]
  refine w_for (fun i ρ s' => ρ.rd 11 = .int .i64 i ∧ ρ.rd 10 = .int .i64 k.fields.length ∧ ρ.rd 9 = slc Fl.c k.fields ∧ ρ.rd 4 = .ptr 1 0 ∧ ρ.rd 1 = .str n ∧ s'.cells 1 = some [.int .i64 0, .int .i64 0, .str []] ∧ 2 ≤ s'.n ∧ (k.fields.take i).find? (fun k => decide (k.name = n)) = none) k.fields.length ?_ ?_
  · simp only [WU, seval, strs_eq, List.take_zero, List.find?_nil]
    first | done | rfl
  · rintro i ρ s' hi ⟨h11, h10, h9, h4, h1, c1, hn, hno⟩
    simp only [WU, seval, strs_eq, h11, h10]
    refine Br_dec (fun hlt' => ?_) (fun hge => ?_)
    rotate_left
    · have : i = k.fields.length := by omega
      subst this
      simp only [WU, seval, strs_eq, h4, h1, c1, storeA, sets, setx, TS]
      refine ⟨_, pur_pair _ _ false (pur_ty _ ⟨0, 0, []⟩), ?_⟩
      rw [List.take_length] at hno
      rw [fieldV, hno]
      rfl
    have hlt : i < k.fields.length := by omega
    have A := flAt hlt
    have hr := lt_idx hlt
    have hw : IntKind.i64.wrap ((i : Int) + 1) = ((i + 1 : Nat) : Int) := wrap_succ (by omega)
    have n1 : ¬ 1 = s'.n := by omega
    have sg : ∀ a b c d : AV, seg [a, b, c, d] 1 3 = [b, c, d] := fun _ _ _ _ => rfl
    simp only [WU, seval, strs_eq, h11, h10, h9, h4, h1, hr, A.fit, A.all, n1, c1, storeA, sets, setx, TS]
    refine Br_dec (fun hy => ?_) (fun hne => ?_)
    · simp only [WU, seval, strs_eq, h4, h1, n1, c1, sg, storeA, sets, setx, TS]
      refine ⟨_, pur_pair _ _ true (pur_ty _ k.fields[i].ty), ?_⟩
      rw [fieldV, findF_take hlt hno, if_pos hy]
    · simp only [WU, seval, strs_eq, h11, h10, h9, h4, h1, c1, n1, hw]
      exact ⟨hlt, by omega, findF_next hlt hno hne⟩
theorem field23_ac {k : Kd} {n : Str} {σ : AState} (hl : k.fields.length ≤ 1000) : AC Try.prog 72 [.agg k.c, .str n] σ fun v s' => s' = σ ∧ v = fieldV k.fields n :=
  AC.share (.cons (.agg (Kd.fxd k)) (.cons (.flat rfl) .nil)) (field23_st0 hl)
theorem fieldR_st0 {k : Kd} {n : Str} (hl : k.fields.length ≤ 1000) : AC Try.prog 66 [.agg k.c, .str n] st0 fun v s' => ∃ a, Pur s' true v a ∧ a = fieldV k.fields n := by
  refine ac_wp fn66 cf66 cl66 rfl ?_
  simp only [ac66]
  unfold ab66
  simp only [WU, seval, strs_eq, Kd.c_eq]
  refine w_for (fun i ρ s' => ρ.rd 6 = .int .i64 i ∧ ρ.rd 2 = .ptr 0 0 ∧ ρ.rd 4 = .ptr 1 0 ∧ ρ.rd 1 = .str n ∧ s'.cells 0 = some [.str k.name, strs k.parents, slc Fl.c k.fields] ∧ s'.cells 1 = some [.int .i64 0, .int .i64 0, .str []] ∧ (k.fields.take i).find? (fun k => decide (k.name = n)) = none) k.fields.length ?_ ?_
  · simp only [WU, seval, strs_eq, List.take_zero, List.find?_nil]
    first | done | rfl
  · rintro i ρ s' hi ⟨h6, h2, h4, h1, c0, c1, hno⟩
    simp only [WU, seval, strs_eq, h6, h2, h4, h1, c0, c1]
    refine Br_dec (fun hlt' => ?_) (fun hge => ?_)
    rotate_left
    · have : i = k.fields.length := by omega
      subst this
      simp only [WU, seval, strs_eq, h4, h1, c1, storeA, sets, setx, TS]
      refine ⟨_, pur_pair _ _ false (pur_ty _ ⟨0, 0, []⟩), ?_⟩
      rw [List.take_length] at hno
      rw [fieldV, hno]
      rfl
    have hlt : i < k.fields.length := by omega
    have A := flAt hlt
    have hr := lt_idx hlt
    have hw : IntKind.i64.wrap ((i : Int) + 1) = ((i + 1 : Nat) : Int) := wrap_succ (by omega)
    have hfit := A.fit1
    have hty := A.ty
    simp only [WU, seval, strs_eq, h6, h2, h4, h1, c0, c1, hr, A.g0]
    refine Br_dec (fun hy => ?_) (fun hne => ?_)
    · simp only [WU, seval, strs_eq, h6, h2, h4, h1, c0, c1, hr, hfit, hty, storeA, sets, setx, TS]
      refine ⟨_, pur_pair _ _ true (pur_ty _ k.fields[i].ty), ?_⟩
      rw [fieldV, findF_take hlt hno, if_pos hy]
    · simp only [WU, seval, strs_eq, h6, h2, h4, h1, c0, c1, hw]
      exact ⟨hlt, findF_next hlt hno hne⟩
theorem fieldR_ac {k : Kd} {n : Str} {σ : AState} (hl : k.fields.length ≤ 1000) : AC Try.prog 66 [.agg k.c, .str n] σ fun v s' => s' = σ ∧ v = fieldV k.fields n :=
  AC.share (.cons (.agg (Kd.fxd k)) (.cons (.flat rfl) .nil)) (fieldR_st0 hl)
theorem eqTy (t : Ty) : evalEq (.agg [.i, .i, .s]) (.agg [.int .i64 t.kind, .int .i64 t.of_, .str t.name]) (.agg [.int .i64 t.kind, .int .i64 t.of_, .str t.name]) = some true := by
  simp [evalEq, eqCells, eqCell]
theorem fieldV_ex (fs : List Fl) (n : Str) : ∃ (X : Ty) (b : Bool), fieldV fs n = .tup [.agg X.c, .bool b] := by
  unfold fieldV
  cases hf : fs.find? (fun k => decide (k.name = n)) with
  | none => exact ⟨⟨0, 0, []⟩, false, rfl⟩
  | some k => exact ⟨k.ty, true, rfl⟩
theorem Frz.sc {N : Nat} {Q : Env → AState → Prop} {ρ : Env} {σ : AState} {p p' : Nat → Prop} {x y : AV} {S : Sc} {q : Nat} (hq : σ.cells q = some [x, y]) (hx : RowP p σ x (rowc Kd.c S.kinds) S.kinds.length 3) (hy : RowP p' σ y (rowc Ac.c S.acts) S.acts.length 3)
    (hp : ¬ p q) (hp' : ¬ p' q) (hpp : ∀ b, p b → ¬ p' b) (h : ∀ s, s.n = σ.n → s.cells q = some [slc Kd.c S.kinds, slc Ac.c S.acts] → (∀ b, b ≠ q → ¬ p b → ¬ p' b → s.h.get b = σ.h.get b) → Q ρ s) : Frz N Q ρ σ := by
  refine Frz.trans (Frz.row hx hq hp (i := 0) rfl fun s h1 h2 h3 => ?_)
  have hne : ∀ b, p' b → b ≠ q := fun b hb e => hp' (e ▸ hb)
  have hnp : ∀ b, p' b → ¬ p b := fun b hb e => hpp b e hb
  refine Frz.row (hy.keep (Nat.le_of_eq h1.symm) fun b _ hb => get_cells (h3 b (hne b hb) (hnp b hb))) h2 hp' (i := 1) rfl fun s' g1 g2 g3 => ?_
  refine h s' (g1.trans h1) (by rw [g2]; rfl) fun b hb hb1 hb2 => (g3 b hb hb2).trans (h3 b hb hb1)
end Go.Proofs.Ytcdbpmmomgehfaa.Va
