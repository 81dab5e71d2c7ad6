/- The reference's environments. Conditions: none. -/
import Derived.Test.YtcdbpmmomgehfaaTy19
set_option maxRecDepth 100000
set_option maxHeartbeats 4000000
set_option linter.all false
namespace Go.Proofs.Ytcdbpmmomgehfaa.Va
open Go.Proofs
theorem ofL_ac {S : Sc} {p a r : Str} {e : Ex} {σ : AState} (hs : ScR S) (hw : e.wf) : AC Try.prog 16 [.agg S.c, .agg [.str p, .str a, .str r], .agg e.c] σ fun v s => s = σ ∧ v = .bool true := by
  refine AC.told (.cons (.agg (Sc.fxd S)) (.cons (.agg (env_fxd p a r)) (.cons (.agg (Ex.fxd _)) .nil))) rfl ?_
  have h1 : ∀ σ, AC Try.prog 20 [.agg S.c, .agg [.str p, .str a, .str r], .agg e.c] σ fun v s' => s' = σ ∧ v = tyP (ofP S p r e) := fun σ => of_ac hs e hw σ
  have h2 : ∀ σ, AC Try.prog 36 [.agg S.c, .agg [.str p, .str a, .str r], .agg e.c] σ fun v s' => s' = σ ∧ v = tyP (ofP S p r e) := fun σ => ofR_ac hs e hw σ
  generalize ofP S p r e = X at *
  have sg := scSeg S
  have sgE : ∀ a b c : AV, seg [a, b, c] 0 3 = [a, b, c] := fun _ _ _ => rfl
  have hE := eqTys X.1 X.1
  obtain ⟨eop, eb, en, es, eut, eui, ek⟩ := e
  simp only [Ex.c_eq, Sc.c_eq, slc_eq, tyP, tyE, Ty.c_eq] at h1 h2 ⊢
  refine ac_wp fn16 cf16 cl16 rfl ?_
  simp only [ac16]
  unfold ab16
  simp only [WU, seval, strs_eq, sg, sgE, sg07]
  refine (h1 _).use ?_
  simp only [WU, seval, strs_eq, sg, sgE, sg07, storeA, sets, setx, TS]
  refine (h2 _).use ?_
  simp only [WU, seval, strs_eq, sg, sgE, sg07, storeA, sets, setx, TS, evalEq, hE]
/- ------------------------------------------------ environments -/
structure Sco where
  kind : Int
  ut : Str
  ui : Str
structure Cn where
  unless_ : Bool
  e : Ex
structure Po where
  forbid : Bool
  p : Sco
  a : Sco
  r : Sco
  conds : List Cn
structure En where
  p : Str
  a : Str
  r : Str
def Cn.c (c : Cn) : List AV := .bool c.unless_ :: c.e.c
def Po.c (p : Po) : List AV := [.bool p.forbid, .int .i64 p.p.kind, .str p.p.ut, .str p.p.ui, .int .i64 p.a.kind, .str p.a.ut, .str p.a.ui, .int .i64 p.r.kind, .str p.r.ut, .str p.r.ui, slc Cn.c p.conds]
theorem Po.c_eq (p : Po) : p.c = [.bool p.forbid, .int .i64 p.p.kind, .str p.p.ut, .str p.p.ui, .int .i64 p.a.kind, .str p.a.ut, .str p.a.ui, .int .i64 p.r.kind, .str p.r.ut, .str p.r.ui, slc Cn.c p.conds] := Eq.trans rfl rfl
def En.c (e : En) : List AV := [.str e.p, .str e.a, .str e.r]
theorem En.c_eq (e : En) : e.c = [.str e.p, .str e.a, .str e.r] := Eq.trans rfl rfl
theorem En.c_len (e : En) : e.c.length = 3 := rfl
def letS (c : Sco) (n : Str) : Bool := decide (c.kind ≠ 1) || decide (c.ut = n)
def actOff (P : Po) (n : Str) : Bool := decide (P.a.kind ≠ 0) && decide (¬ (P.a.ut = actionT ∧ P.a.ui = n))
def envsR (P : Po) (a x : Str) (ys : List Str) : List En := (ys.filter fun y => letS P.p x && letS P.r y).map fun y => ⟨x, a, y⟩
def envsP (P : Po) (a : Str) (xs ys : List Str) : List En := xs.flatMap fun x => envsR P a x ys
def envsA (P : Po) (a : Ac) : List En := if actOff P a.name = true then [] else envsP P a.name a.prins a.ress
def envsS (S : Sc) (P : Po) : List En := S.acts.flatMap (envsA P)
theorem envsR_len (P : Po) (a x : Str) (ys : List Str) : (envsR P a x ys).length ≤ ys.length := by
  unfold envsR; rw [List.length_map]; exact List.length_filter_le _ _
theorem envsP_len (P : Po) (a : Str) (ys : List Str) : ∀ xs : List Str, (envsP P a xs ys).length ≤ xs.length * ys.length := by
  intro xs
  induction xs with
  | nil => simp [envsP]
  | cons x xs ih =>
    have := envsR_len P a x ys
    have h : envsP P a (x :: xs) ys = envsR P a x ys ++ envsP P a xs ys := by simp [envsP]
    rw [h, List.length_append, List.length_cons, Nat.succ_mul]; omega
theorem envsA_len {P : Po} {a : Ac} (h : AcG a) : (envsA P a).length ≤ 16 := by
  unfold envsA
  split
  · simp
  · have h1 := envsP_len P a.name a.ress a.prins
    have h2 := h.pl.2
    have h3 := h.rl.2
    have : a.prins.length * a.ress.length ≤ 4 * 4 := Nat.mul_le_mul h2 h3
    omega
theorem envsGo_len {P : Po} : ∀ {l : List Ac}, (∀ a ∈ l, AcG a) → (l.flatMap (envsA P)).length ≤ 16 * l.length := by
  intro l
  induction l with
  | nil => intro _; simp
  | cons a l ih =>
    intro h
    have h1 := envsA_len (P := P) (h a (by simp))
    have h2 := ih fun a ha => h a (by simp [ha])
    rw [List.flatMap_cons, List.length_append, List.length_cons]; omega
theorem envsR_step {P : Po} {a x : Str} {ys : List Str} {k : Nat} (h : k < ys.length) : envsR P a x (ys.take (k + 1)) = envsR P a x (ys.take k) ++ (if (letS P.p x && letS P.r ys[k]) = true then [⟨x, a, ys[k]⟩] else []) := by
  unfold envsR
  rw [List.take_add_one, List.getElem?_eq_getElem h]
  simp only [Option.toList, List.filter_append, List.map_append]
  congr 1
  cases hb : (letS P.p x && letS P.r ys[k]) <;> simp [hb]
theorem envsP_step {P : Po} {a : Str} {xs ys : List Str} {j : Nat} (h : j < xs.length) : envsP P a (xs.take (j + 1)) ys = envsP P a (xs.take j) ys ++ envsR P a xs[j] ys := by
  unfold envsP
  rw [List.take_add_one, List.getElem?_eq_getElem h, Option.toList, List.flatMap_append, List.flatMap_cons, List.flatMap_nil, List.append_nil]
theorem envsS_step {P : Po} {l : List Ac} {i : Nat} (h : i < l.length) : (l.take (i + 1)).flatMap (envsA P) = (l.take i).flatMap (envsA P) ++ envsA P l[i] := by
  rw [List.take_add_one, List.getElem?_eq_getElem h, Option.toList, List.flatMap_append, List.flatMap_cons, List.flatMap_nil, List.append_nil]
theorem eq2 (a b c d : Str) : eqCells [.s, .s] [.str a, .str b] [.str c, .str d] = some (decide (a = c ∧ b = d)) := by
  simp only [eqCells, eqCell]
  by_cases h1 : a = c <;> by_cases h2 : b = d <;> simp [h1, h2]
theorem sg52 (a b c d e f g : AV) (l : List AV) : seg (a :: b :: c :: d :: e :: f :: g :: l) 5 2 = [f, g] := Eq.trans rfl rfl
theorem sg13 (a b c d : AV) (l : List AV) : seg (a :: b :: c :: d :: l) 1 3 = [b, c, d] := Eq.trans rfl rfl
theorem sg73 (a b c d e f g h i j : AV) (l : List AV) : seg (a :: b :: c :: d :: e :: f :: g :: h :: i :: j :: l) 7 3 = [h, i, j] := Eq.trans rfl rfl
theorem pur0_ens (s : AState) (l : List En) (i : Nat) (hi hi' : i < (rowc En.c l).length) : Pur s false (rowc En.c l)[i] (rowc En.c l)[i] := flat_row (f := En.c) (fun e a ha => by
  simp only [En.c_eq, List.mem_cons, List.not_mem_nil, or_false] at ha
  rcases ha with rfl | rfl | rfl <;> rfl) i hi hi'
theorem envsR_st0 {S : Sc} {P : Po} (hs : ScM S) (hal : S.acts.length ≤ 1000) : AC Try.prog 25 [.agg S.c, .agg P.c] st0 fun v s => ∃ a, Pur s false v a ∧ a = slc En.c (envsS S P) := by
  rw [Po.c_eq]
  refine ac_wp fn25 cf25 cl25 rfl ?_
  simp only [ac25]
  unfold ab25
  have hAc : ([65, 99, 116, 105, 111, 110] : List UInt8) = actionT := rfl
  simp only [wpC_seq, wpC_skip, wpCK_normal]
  refine w_mid (fun ρ s' => ρ.rd 2 = .ptr 0 0 ∧ ρ.rd 3 = .ptr 1 0 ∧ s'.cells 0 = some [slc Kd.c S.kinds, slc Ac.c S.acts] ∧ s'.cells 1 = some [.bool P.forbid, .int .i64 P.p.kind, .str P.p.ut, .str P.p.ui, .int .i64 P.a.kind, .str P.a.ut, .str P.a.ui, .int .i64 P.r.kind, .str P.r.ut, .str P.r.ui, slc Cn.c P.conds] ∧ 2 ≤ s'.n) ?_ ?_
  · simp only [WU, seval, strs_eq, Sc.c_eq]
  rintro ρ s' ⟨h2, h3, c0, c1, hn⟩
  rw [wpC_seq]
  refine w_mid (fun ρ s' => ρ.rd 2 = .ptr 0 0 ∧ ρ.rd 3 = .ptr 1 0 ∧ s'.cells 0 = some [slc Kd.c S.kinds, slc Ac.c S.acts] ∧ s'.cells 1 = some [.bool P.forbid, .int .i64 P.p.kind, .str P.p.ut, .str P.p.ui, .int .i64 P.a.kind, .str P.a.ut, .str P.a.ui, .int .i64 P.r.kind, .str P.r.ut, .str P.r.ui, slc Cn.c P.conds] ∧ 2 ≤ s'.n ∧ ρ.rd 5 = .nils) ?_ ?_
  · simp only [WU, seval, strs_eq, h2, h3, c0, c1, hn]
  clear h2 h3 c0 c1 hn
  rintro ρ s' ⟨h2, h3, c0, c1, hn, h5⟩
  rw [wpC_seq]
  refine w_mid (fun ρ s' => ∃ x, ρ.rd 5 = x ∧ RowP (fun b => 2 ≤ b) s' x (rowc En.c (envsS S P)) (envsS S P).length 3) ?_ ?_
  · simp only [WU, seval, strs_eq, h2, h3, c0, c1, hn, h5]
    refine w_for (fun i ρ s' => ρ.rd 6 = .int .i64 i ∧ ρ.rd 2 = .ptr 0 0 ∧ ρ.rd 3 = .ptr 1 0 ∧ s'.cells 0 = some [slc Kd.c S.kinds, slc Ac.c S.acts] ∧ s'.cells 1 = some [.bool P.forbid, .int .i64 P.p.kind, .str P.p.ut, .str P.p.ui, .int .i64 P.a.kind, .str P.a.ut, .str P.a.ui, .int .i64 P.r.kind, .str P.r.ut, .str P.r.ui, slc Cn.c P.conds] ∧ 2 ≤ s'.n ∧ ∃ x, ρ.rd 5 = x ∧ RowP (fun b => 2 ≤ b) s' x (rowc En.c ((S.acts.take i).flatMap (envsA P))) ((S.acts.take i).flatMap (envsA P)).length 3) S.acts.length ?_ ?_
    · simp only [WU, seval, strs_eq, h2, h3, c0, c1, hn, h5]
      first | done | exact ⟨rfl, .nils, rfl, RowP.nil _ _ _⟩ | exact ⟨.nils, rfl, RowP.nil _ _ _⟩
    clear h2 h3 c0 c1 hn h5
    rintro i ρ s' hi ⟨h6, h2, h3, c0, c1, hn, x, h5, hrow⟩
    by_cases hlt : i < S.acts.length
    rotate_left
    · have : i = S.acts.length := by omega
      subst this
      have hge : ¬ ((S.acts.length : Nat) : Int) < ((S.acts.length : Nat) : Int) := by omega
      rw [List.take_length] at hrow
      simp only [WU, seval, strs_eq, h6, h2, h3, c0, c1, hn, hge, h5]
      exact ⟨x, rfl, hrow⟩
    have hr := lt_idx hlt
    have hlt' := hr.2
    have hw : IntKind.i64.wrap ((i : Int) + 1) = ((i + 1 : Nat) : Int) := wrap_succ (by omega)
    have A := acAt hlt
    have hfit := A.fit
    have hall := A.all
    have hag := hs.a _ (List.getElem_mem hlt)
    have hstep := envsS_step (P := P) hlt
    have hlen := envsGo_len (P := P) (l := S.acts.take i) (fun a ha => hs.a a (List.mem_of_mem_take ha))
    rw [List.length_take] at hlen
    generalize (S.acts.take i).flatMap (envsA P) = L at *
    generalize hnx : (S.acts.take (i + 1)).flatMap (envsA P) = L' at *
    generalize S.acts[i] = a at *
    clear A
    rw [wpC_seq]
    refine w_mid (fun ρ s' => ρ.rd 6 = .int .i64 i ∧ ρ.rd 2 = .ptr 0 0 ∧ ρ.rd 3 = .ptr 1 0 ∧ s'.cells 0 = some [slc Kd.c S.kinds, slc Ac.c S.acts] ∧ s'.cells 1 = some [.bool P.forbid, .int .i64 P.p.kind, .str P.p.ut, .str P.p.ui, .int .i64 P.a.kind, .str P.a.ut, .str P.a.ui, .int .i64 P.r.kind, .str P.r.ut, .str P.r.ui, slc Cn.c P.conds] ∧ 2 ≤ s'.n ∧ ∃ x, ρ.rd 5 = x ∧ RowP (fun b => 2 ≤ b) s' x (rowc En.c L) L.length 3) ?_ ?_
    · simp only [WU, seval, strs_eq, h6, h2, h3, c0, c1, hn, hlt', h5]
      exact ⟨x, rfl, hrow⟩
    clear h2 h3 c0 c1 hn h6 h5 hrow
    rintro ρ s' ⟨h6, h2, h3, c0, c1, hn, x, h5, hrow⟩
    simp only [wpC_block, wpC_seq, wpC_skip, wpCK_normal]
    refine w_mid (fun ρ s' => ∃ q, ρ.rd 6 = .int .i64 i ∧ ρ.rd 2 = .ptr 0 0 ∧ ρ.rd 3 = .ptr 1 0 ∧ s'.cells 0 = some [slc Kd.c S.kinds, slc Ac.c S.acts] ∧ s'.cells 1 = some [.bool P.forbid, .int .i64 P.p.kind, .str P.p.ut, .str P.p.ui, .int .i64 P.a.kind, .str P.a.ut, .str P.a.ui, .int .i64 P.r.kind, .str P.r.ut, .str P.r.ui, slc Cn.c P.conds] ∧ 2 ≤ s'.n ∧ ρ.rd 7 = .ptr q 0 ∧ 2 ≤ q ∧ q < s'.n ∧ s'.cells q = some [.str a.name, strs a.prins, strs a.ress] ∧ ∃ x, ρ.rd 5 = x ∧ RowP (fun b => 2 ≤ b ∧ b ≠ q) s' x (rowc En.c L) L.length 3) ?_ ?_
    · have n0 : ¬ 0 = s'.n := by omega
      have n1 : ¬ 1 = s'.n := by omega
      have sgE : ∀ a b c : AV, seg [a, b, c] 0 3 = [a, b, c] := fun _ _ _ => rfl
      simp only [WU, seval, strs_eq, h6, h2, h3, c0, c1, hn, hlt', hr, hfit, hall, h5, n0, n1, sgE, storeA, sets, setx, TS]
      refine ⟨s'.n, by omega, rfl, hn, by omega, by simp, x, rfl, ?_⟩
      exact (hrow.mono fun b h1 h2 => ⟨h1, by omega⟩).keep (by simp only [put_n, push_n]; omega) fun b hb _ => by rw [put_get, if_neg (by omega), push_get, if_neg (by omega)]
    clear h2 h3 c0 c1 hn h6 h5 hrow
    rintro ρ s' ⟨q, h6, h2, h3, c0, c1, hn, h7, hq2, hqn, cq, x, h5, hrow⟩
    rw [wpC_seq]
    by_cases hoff : actOff P a.name = true
    · have hL : L' = L := by rw [hstep, envsA, if_pos hoff, List.append_nil]
      unfold actOff at hoff
      simp only [Bool.and_eq_true, decide_eq_true_eq] at hoff
      have hk0 : ¬ P.a.kind = 0 := hoff.1
      have he := eq2 P.a.ut P.a.ui actionT a.name
      rw [decide_eq_false hoff.2] at he
      simp only [WU, seval, strs_eq, h6, h2, h3, c0, c1, hn, h7, hq2, hqn, cq, hk0, sg52, evalEq, hAc, he, h5, hw]
      exact ⟨hlt, x, rfl, by rw [hL]; exact hrow.mono fun b h _ => h.1⟩
    refine w_mid (fun ρ s' => ρ.rd 6 = .int .i64 i ∧ ρ.rd 2 = .ptr 0 0 ∧ ρ.rd 3 = .ptr 1 0 ∧ s'.cells 0 = some [slc Kd.c S.kinds, slc Ac.c S.acts] ∧ s'.cells 1 = some [.bool P.forbid, .int .i64 P.p.kind, .str P.p.ut, .str P.p.ui, .int .i64 P.a.kind, .str P.a.ut, .str P.a.ui, .int .i64 P.r.kind, .str P.r.ut, .str P.r.ui, slc Cn.c P.conds] ∧ 2 ≤ s'.n ∧ ρ.rd 7 = .ptr q 0 ∧ 2 ≤ q ∧ q < s'.n ∧ s'.cells q = some [.str a.name, strs a.prins, strs a.ress] ∧ ∃ x, ρ.rd 5 = x ∧ RowP (fun b => 2 ≤ b ∧ b ≠ q) s' x (rowc En.c L) L.length 3) ?_ ?_
    · unfold actOff at hoff
      simp only [Bool.and_eq_true, decide_eq_true_eq] at hoff
      by_cases hk0 : P.a.kind = 0
      · simp only [WU, seval, strs_eq, h6, h2, h3, c0, c1, hn, h7, hq2, hqn, cq, hk0, h5]
        exact ⟨x, rfl, hrow⟩
      · have he := eq2 P.a.ut P.a.ui actionT a.name
        rw [decide_eq_true (Decidable.not_not.1 fun h => hoff ⟨hk0, h⟩)] at he
        simp only [WU, seval, strs_eq, h6, h2, h3, c0, c1, hn, h7, hq2, hqn, cq, hk0, sg52, evalEq, hAc, he, h5]
        exact ⟨x, rfl, hrow⟩
    clear h6 h2 h3 c0 c1 hn h7 hq2 hqn cq h5 hrow
    rintro ρ s' ⟨h6, h2, h3, c0, c1, hn, h7, hq2, hqn, cq, x, h5, hrow⟩
    have hL : L' = L ++ envsP P a.name a.prins a.ress := by rw [hstep, envsA, if_neg hoff]
    have hp4 := hag.pl.2
    have hr4 := hag.rl.2
    simp only [WU, seval, strs_eq, h6, h2, h3, c0, c1, hn, h7, hq2, hqn, cq, h5]
    refine w_for (fun j ρ s' => ρ.rd 8 = .int .i64 j ∧ ρ.rd 6 = .int .i64 i ∧ ρ.rd 2 = .ptr 0 0 ∧ ρ.rd 3 = .ptr 1 0 ∧ s'.cells 0 = some [slc Kd.c S.kinds, slc Ac.c S.acts] ∧ s'.cells 1 = some [.bool P.forbid, .int .i64 P.p.kind, .str P.p.ut, .str P.p.ui, .int .i64 P.a.kind, .str P.a.ut, .str P.a.ui, .int .i64 P.r.kind, .str P.r.ut, .str P.r.ui, slc Cn.c P.conds] ∧ 2 ≤ s'.n ∧ ρ.rd 7 = .ptr q 0 ∧ 2 ≤ q ∧ q < s'.n ∧ s'.cells q = some [.str a.name, strs a.prins, strs a.ress] ∧ ∃ x, ρ.rd 5 = x ∧ RowP (fun b => 2 ≤ b ∧ b ≠ q) s' x (rowc En.c (L ++ envsP P a.name (a.prins.take j) a.ress)) (L ++ envsP P a.name (a.prins.take j) a.ress).length 3) a.prins.length ?_ ?_
    · simp only [WU, seval, strs_eq, h6, h2, h3, c0, c1, hn, h7, hq2, hqn, cq, h5]
      first | done | refine ⟨rfl, x, rfl, ?_⟩ | refine ⟨x, rfl, ?_⟩
      have h0 : envsP P a.name (a.prins.take 0) a.ress = [] := rfl
      rw [h0, List.append_nil]; exact hrow
    clear h6 h2 h3 c0 c1 hn h7 hq2 hqn cq h5 hrow
    rintro j ρ s' hj ⟨h8, h6, h2, h3, c0, c1, hn, h7, hq2, hqn, cq, x, h5, hrow⟩
    by_cases hjl : j < a.prins.length
    rotate_left
    · have : j = a.prins.length := by omega
      subst this
      have hge : ¬ ((a.prins.length : Nat) : Int) < ((a.prins.length : Nat) : Int) := by omega
      rw [List.take_length, ← hL] at hrow
      simp only [WU, seval, strs_eq, h8, h6, h2, h3, c0, c1, hn, h7, hq2, hqn, cq, hge, h5, hw]
      exact ⟨hlt, x, rfl, hrow.mono fun b h _ => h.1⟩
    have hrj := lt_idx hjl
    have hjl' := hrj.2
    have hgj := strs_get hjl
    have hwj : IntKind.i64.wrap ((j : Int) + 1) = ((j + 1 : Nat) : Int) := wrap_succ (by omega)
    have hstj := envsP_step (P := P) (a := a.name) (ys := a.ress) hjl
    have hlj := envsP_len P a.name a.ress (a.prins.take j)
    have hlj2 : (a.prins.take j).length * a.ress.length ≤ 4 * 4 := Nat.mul_le_mul (by rw [List.length_take]; omega) hr4
    rw [hstj]
    have hM : ∃ M, M = L ++ envsP P a.name (a.prins.take j) a.ress ∧ M.length ≤ 16 * S.acts.length + 16 := ⟨_, rfl, by rw [List.length_append]; omega⟩
    obtain ⟨M, hM, hMl⟩ := hM
    rw [← List.append_assoc, ← hM]
    rw [← hM] at hrow
    generalize a.prins[j] = xx at *
    simp only [WU, seval, strs_eq, h8, h6, h2, h3, c0, c1, hn, h7, hq2, hqn, cq, hjl', h5]
    refine w_for (fun k ρ s' => ρ.rd 9 = .int .i64 k ∧ ρ.rd 8 = .int .i64 j ∧ ρ.rd 6 = .int .i64 i ∧ ρ.rd 2 = .ptr 0 0 ∧ ρ.rd 3 = .ptr 1 0 ∧ s'.cells 0 = some [slc Kd.c S.kinds, slc Ac.c S.acts] ∧ s'.cells 1 = some [.bool P.forbid, .int .i64 P.p.kind, .str P.p.ut, .str P.p.ui, .int .i64 P.a.kind, .str P.a.ut, .str P.a.ui, .int .i64 P.r.kind, .str P.r.ut, .str P.r.ui, slc Cn.c P.conds] ∧ 2 ≤ s'.n ∧ ρ.rd 7 = .ptr q 0 ∧ 2 ≤ q ∧ q < s'.n ∧ s'.cells q = some [.str a.name, strs a.prins, strs a.ress] ∧ ∃ x, ρ.rd 5 = x ∧ RowP (fun b => 2 ≤ b ∧ b ≠ q) s' x (rowc En.c (M ++ envsR P a.name xx (a.ress.take k))) (M ++ envsR P a.name xx (a.ress.take k)).length 3) a.ress.length ?_ ?_
    · simp only [WU, seval, strs_eq, h8, h6, h2, h3, c0, c1, hn, h7, hq2, hqn, cq, h5]
      first | done | refine ⟨rfl, x, rfl, ?_⟩ | refine ⟨x, rfl, ?_⟩
      have h0 : envsR P a.name xx (a.ress.take 0) = [] := rfl
      rw [h0, List.append_nil]; exact hrow
    clear h6 h2 h3 c0 c1 hn h7 hq2 hqn cq h5 hrow h8
    rintro k ρ s' hk ⟨h9, h8, h6, h2, h3, c0, c1, hn, h7, hq2, hqn, cq, x, h5, hrow⟩
    by_cases hkl : k < a.ress.length
    rotate_left
    · have : k = a.ress.length := by omega
      subst this
      have hge : ¬ ((a.ress.length : Nat) : Int) < ((a.ress.length : Nat) : Int) := by omega
      rw [List.take_length] at hrow
      simp only [WU, seval, strs_eq, h9, h8, h6, h2, h3, c0, c1, hn, h7, hq2, hqn, cq, hge, h5, hwj]
      exact ⟨hjl, x, rfl, hrow⟩
    have hrk := lt_idx hkl
    have hkl' := hrk.2
    have hgk := strs_get hkl
    have hwk : IntKind.i64.wrap ((k : Int) + 1) = ((k + 1 : Nat) : Int) := wrap_succ (by omega)
    have hstk := envsR_step (P := P) (a := a.name) (x := xx) hkl
    have hlk := envsR_len P a.name xx (a.ress.take k)
    rw [List.length_take] at hlk
    rw [hstk]
    have hM2 : ∃ M2, M2 = M ++ envsR P a.name xx (a.ress.take k) ∧ M2.length ≤ 16 * S.acts.length + 20 := ⟨_, rfl, by rw [List.length_append]; omega⟩
    obtain ⟨M2, hM2, hM2l⟩ := hM2
    rw [← List.append_assoc, ← hM2]
    rw [← hM2] at hrow
    generalize a.ress[k] = yy at *
    rw [wpC_seq]
    refine w_mid (fun ρ s' => ρ.rd 9 = .int .i64 k ∧ ρ.rd 8 = .int .i64 j ∧ ρ.rd 6 = .int .i64 i ∧ ρ.rd 2 = .ptr 0 0 ∧ ρ.rd 3 = .ptr 1 0 ∧ s'.cells 0 = some [slc Kd.c S.kinds, slc Ac.c S.acts] ∧ s'.cells 1 = some [.bool P.forbid, .int .i64 P.p.kind, .str P.p.ut, .str P.p.ui, .int .i64 P.a.kind, .str P.a.ut, .str P.a.ui, .int .i64 P.r.kind, .str P.r.ut, .str P.r.ui, slc Cn.c P.conds] ∧ 2 ≤ s'.n ∧ ρ.rd 7 = .ptr q 0 ∧ 2 ≤ q ∧ q < s'.n ∧ s'.cells q = some [.str a.name, strs a.prins, strs a.ress] ∧ ∃ x, ρ.rd 5 = x ∧ RowP (fun b => 2 ≤ b ∧ b ≠ q) s' x (rowc En.c M2) M2.length 3) ?_ ?_
    · simp only [WU, seval, strs_eq, h9, h8, h6, h2, h3, c0, c1, hn, h7, hq2, hqn, cq, hkl', h5]
      exact ⟨x, rfl, hrow⟩
    clear h6 h2 h3 c0 c1 hn h7 hq2 hqn cq h5 hrow h8 h9
    rintro ρ s' ⟨h9, h8, h6, h2, h3, c0, c1, hn, h7, hq2, hqn, cq, x, h5, hrow⟩
    simp only [wpC_block, wpC_seq, wpC_skip, wpCK_normal]
    refine w_mid (fun ρ s' => ρ.rd 82 = .bool (letS P.p xx && letS P.r yy) ∧ ρ.rd 9 = .int .i64 k ∧ ρ.rd 8 = .int .i64 j ∧ ρ.rd 6 = .int .i64 i ∧ ρ.rd 2 = .ptr 0 0 ∧ ρ.rd 3 = .ptr 1 0 ∧ s'.cells 0 = some [slc Kd.c S.kinds, slc Ac.c S.acts] ∧ s'.cells 1 = some [.bool P.forbid, .int .i64 P.p.kind, .str P.p.ut, .str P.p.ui, .int .i64 P.a.kind, .str P.a.ut, .str P.a.ui, .int .i64 P.r.kind, .str P.r.ut, .str P.r.ui, slc Cn.c P.conds] ∧ 2 ≤ s'.n ∧ ρ.rd 7 = .ptr q 0 ∧ 2 ≤ q ∧ q < s'.n ∧ s'.cells q = some [.str a.name, strs a.prins, strs a.ress] ∧ ∃ x, ρ.rd 5 = x ∧ RowP (fun b => 2 ≤ b ∧ b ≠ q) s' x (rowc En.c M2) M2.length 3) ?_ ?_
    · simp only [WU, seval, strs_eq]
      refine w_dreg0 follow ?_ rfl
      have cq' := cq
      have c1' := c1
      have sl0 : ∀ b, (addSlots s'.n 34 s' []).cells b = s'.cells b := fun b => rfl
      have hq' : q < (addSlots s'.n 34 s' []).n := by simp only [addSlots]; omega
      have hn' : 2 ≤ (addSlots s'.n 34 s' []).n := by simp only [addSlots]; omega
      have hrow' := hrow.slots 34
      unfold letS
      by_cases k1 : P.p.kind = 1 <;> by_cases u1 : P.p.ut = xx <;> by_cases k2 : P.r.kind = 1 <;> by_cases u2 : P.r.ut = yy <;> (simp only [WU, seval, strs_eq, h9, h8, h6, h2, h3, h7, h5, hq2, sl_cells, c0, c1, cq, hrj, hrk, hgj, hgk, k1, u1, k2, u2, ne_eq, not_true_eq_false, not_false_eq_true, decide_true, decide_false, Bool.or_true, Bool.or_false, Bool.and_true, Bool.and_false, Bool.true_and, Bool.false_and, Bool.true_or, Bool.false_or]; exact ⟨hn', hq', x, rfl, hrow'⟩)
    clear h6 h2 h3 c0 c1 hn h7 hq2 hqn cq h5 hrow h8 h9
    rintro ρ s' ⟨h82, h9, h8, h6, h2, h3, c0, c1, hn, h7, hq2, hqn, cq, x, h5, hrow⟩
    cases hb : (letS P.p xx && letS P.r yy) with
    | false =>
      rw [hb] at h82
      simp only [WU, seval, strs_eq, h82, h9, h8, h6, h2, h3, c0, c1, hn, h7, hq2, hqn, cq, h5, hwk]
      exact ⟨hkl, x, rfl, by simpa using hrow⟩
    | true =>
      rw [hb] at h82
      simp only [WU, seval, strs_eq, h82]
      refine w_dreg follow [] rfl ?_
      have k0 : (addSlots s'.n 17 s' []).cells 0 = _ := c0
      have k1 : (addSlots s'.n 17 s' []).cells 1 = _ := c1
      have kq : (addSlots s'.n 17 s' []).cells q = _ := cq
      have hrowA := hrow.slots 17
      have hnA : (addSlots s'.n 17 s' []).n = s'.n + 17 := rfl
      generalize addSlots s'.n 17 s' [] = s1 at *
      obtain ⟨b9, cap9, s9, happ, hrow9, hn9, hk9⟩ := app_lit (bytes := 48) hrowA (fun b hb => ⟨by omega, by omega⟩) (new := (En.mk xx a.name yy).c) (k := 1) rfl rfl (by omega) (by omega)
      simp only [En.c_eq] at happ
      have nq : ¬ q = s1.n := by omega
      have q0 := (get_cells (hk9 0 (by omega) (by omega))).trans k0
      have q1 := (get_cells (hk9 1 (by omega) (by omega))).trans k1
      have qq := (get_cells (hk9 q (by omega) (by omega))).trans kq
      simp only [WU, seval, strs_eq, DU, h9, h8, h7, h5, kq, hrj, hrk, hgj, hgk, fillA]
      simp only [WU, seval, strs_eq, DU, happ]
      refine ⟨⟨?_, ?_⟩, ?_⟩
      · intro l hl c hc hf
        simp only [List.mem_cons, List.mem_nil_iff, List.not_mem_nil, or_false] at hl hc
        rcases hl with rfl | rfl | rfl | rfl | rfl <;> rcases hc with rfl | rfl | rfl <;> dsimp only at hf ⊢ <;> first
          | (exact absurd hf (by decide +kernel))
          | (simp only [WU, seval, strs_eq, kq, nq, qq, hrj, hrk, hgj, hgk]; done)
      · intro sl hsl; simp at hsl
      have hn9' : 2 ≤ s9.n := by omega
      have hq9' : q < s9.n := by omega
      simp only [WU, seval, strs_eq, h9, h8, h6, h2, h3, h7, hq2, q0, q1, qq, hwk]
      refine ⟨hkl, hn9', hq9', _, rfl, ?_⟩
      rw [rowc_append, rowc_one, List.length_append]
      exact hrow9
  clear h2 h3 c0 c1 hn h5
  rintro ρ s' ⟨x, h5, hrow⟩
  simp only [WU, seval, strs_eq, h5]
  exact ⟨_, hrow.pur false rfl fun i hi hi' => pur0_ens _ _ i hi hi', rfl⟩
theorem envsR_ac {S : Sc} {P : Po} {x : AV} {σ : AState} (hs : ScM S) (hal : S.acts.length ≤ 1000) (hx : Pur σ true x (.agg P.c)) : AC Try.prog 25 [.agg S.c, x] σ fun v s => s = σ ∧ v = slc En.c (envsS S P) :=
  AC.pure (.cons (pur_schema σ S) (.cons hx .nil)) (envsR_st0 hs hal)
/- A policy of nothing. -/
def noPo : Po := ⟨false, ⟨0, [], []⟩, ⟨0, [], []⟩, ⟨0, [], []⟩, []⟩
theorem pur_noPo (σ : AState) : Pur σ true (.agg [.bool false, .int .i64 0, .str [], .str [], .int .i64 0, .str [], .str [], .int .i64 0, .str [], .str [], .nils]) (.agg noPo.c) := .agg _ _ rfl fun i hi hi' => by
  match i, hi with
  | 0, _ => exact .flat _ rfl
  | 1, _ => exact .flat _ rfl
  | 2, _ => exact .flat _ rfl
  | 3, _ => exact .flat _ rfl
  | 4, _ => exact .flat _ rfl
  | 5, _ => exact .flat _ rfl
  | 6, _ => exact .flat _ rfl
  | 7, _ => exact .flat _ rfl
  | 8, _ => exact .flat _ rfl
  | 9, _ => exact .flat _ rfl
  | 10, _ => exact .nils _ _
def noEn : En := ⟨[], [], []⟩
def envX (S : Sc) (n : Int) : En := (envsS S noPo).getD (wi n (envsS S noPo).length).toNat noEn
def hasEnv (S : Sc) : Bool := decide (envsS S noPo ≠ [])
theorem pur_en (s : AState) (e : En) : Pur s true (.agg [.str e.p, .str e.a, .str e.r]) (.agg [.str e.p, .str e.a, .str e.r]) := .agg _ _ rfl fun i hi _ => by
  match i, hi with
  | 0, _ => exact .flat _ rfl
  | 1, _ => exact .flat _ rfl
  | 2, _ => exact .flat _ rfl
theorem pur_enb (s : AState) (e : En) (b : Bool) : Pur s true (.tup [.agg [.str e.p, .str e.a, .str e.r], .bool b]) (.tup [.agg [.str e.p, .str e.a, .str e.r], .bool b]) := .tup _ _ rfl fun i hi _ => by
  match i, hi with
  | 0, _ => exact pur_en s e
  | 1, _ => exact .flat _ rfl
theorem env_ac {S : Sc} {n : Int} {σ : AState} (hs : ScM S) (hal : S.acts.length ≤ 1000) : AC Try.prog 15 [.agg S.c, .int .i64 n] σ fun v s => s = σ ∧ v = .tup [.agg (if hasEnv S = true then envX S n else noEn).c, .bool (hasEnv S)] := by
  refine AC.share (R := fun v => v = .tup [.agg (if hasEnv S = true then envX S n else noEn).c, .bool (hasEnv S)]) (.cons (.agg (Sc.fxd S)) (.cons (.flat rfl) .nil)) ?_
  have sg := scSeg S
  have sgE : ∀ a b c : AV, seg [a, b, c] 0 3 = [a, b, c] := fun _ _ _ => rfl
  have hE : ∀ σ, AC Try.prog 25 [.agg S.c, .agg [.bool false, .int .i64 0, .str [], .str [], .int .i64 0, .str [], .str [], .int .i64 0, .str [], .str [], .nils]] σ fun v s => s = σ ∧ v = slc En.c (envsS S noPo) := fun σ => envsR_ac hs hal (pur_noPo σ)
  unfold envX hasEnv
  have hlen : (envsS S noPo).length ≤ 16 * S.acts.length := envsGo_len hs.a
  generalize envsS S noPo = L at *
  simp only [Sc.c_eq, slc_eq] at hE
  refine ac_wp fn15 cf15 cl15 rfl ?_
  simp only [ac15]
  unfold ab15
  cases L with
  | nil =>
    have z00 : ((([] : List En).length : Nat) : Int) = 0 := rfl
    have z0 : (0 : Int) = 0 := rfl
    simp only [WU, seval, strs_eq, Sc.c_eq, sg]
    refine (hE _).use ?_
    simp only [WU, seval, strs_eq, z0, sgE, storeA, sets, setx, TS]
    exact ⟨_, pur_enb _ noEn false, rfl⟩
  | cons e0 L0 =>
    have hne : decide (e0 :: L0 ≠ []) = true := by simp
    rw [hne, if_pos rfl]
    have hpos : 0 < (e0 :: L0).length := by simp
    generalize e0 :: L0 = L at *
    have hn0 : ¬ ((L.length : Nat) : Int) = 0 := by omega
    have hwr := wi_range n (n := L.length) (by omega)
    obtain ⟨k, hk⟩ : ∃ k : Nat, wi n L.length = k := ⟨(wi n L.length).toNat, by omega⟩
    have hW : ∀ σ, AC Try.prog 21 [.int .i64 n, .int .i64 L.length] σ fun v s' => s' = σ ∧ v = .int .i64 k := fun σ =>
      (within_ac (P := Try.prog) fn21 cf21 cl21 (x := n) (σ := σ) (n := L.length) (by omega) (by omega)).mono fun _ _ h => ⟨h.2, by rw [h.1, hk]⟩
    rw [hk] at hwr ⊢
    have hkl : k < L.length := by omega
    have hr := lt_idx hkl
    have hfit := rowc_fit En.c_len hkl
    have hall := rowc_seg En.c_len hkl
    have hg : L.getD ((k : Nat) : Int).toNat noEn = L[k] := by simp [hkl]
    rw [hg]
    generalize L[k] = e at *
    rw [En.c_eq] at hall
    simp only [WU, seval, strs_eq, Sc.c_eq, sg]
    refine (hE _).use ?_
    simp only [WU, seval, strs_eq, hn0]
    refine (hW _).use ?_
    simp only [WU, seval, strs_eq, hr, hfit, hall, sgE, storeA, sets, setx, TS]
    exact ⟨_, pur_enb _ e true, rfl⟩
end Go.Proofs.Ytcdbpmmomgehfaa.Va
set_option maxRecDepth 100000
set_option maxHeartbeats 4000000
set_option linter.all false
namespace Go.Proofs.Ytcdbpmmomgehfaa.Va
open Go.Proofs
/- ------------------------------------------------ schemas such as may be: names -/
theorem kN_ord : ∀ j, j < 4 → ∀ i, i < 4 → (Op.bytesLess (kN j) (kN i) || kN j == kN i) = false → i < j := by decide
theorem kN_inj {i j : Nat} (h : i < j) (hj : j < 4) : kN i ≠ kN j := by
  have : ∀ j, j < 4 → ∀ i, i < j → kN i ≠ kN j := by decide
  exact this j hj i h
theorem kindS_zero {ks : List Kd} {k : Kd} {last : Str} (h : kindS ks k last = 0) : (Op.bytesLess k.name last || k.name == last) = false ∧ k.parents.all (hasS ks) = true ∧ fieldsS ks [] k.fields = 0 := by
  unfold kindS at h
  split at h
  · cases h
  · split at h
    · cases h
    · rename_i h2
      split at h
      · cases h
      · split at h
        · cases h
        · rename_i h4
          exact ⟨by simpa using h2, by simpa using h4, h⟩
theorem kindsS_cons {ks : List Kd} {k : Kd} {r : List Kd} {last : Str} (h : kindsS ks last (k :: r) = 0) : kindS ks k last = 0 ∧ kindsS ks k.name r = 0 := by
  unfold kindsS at h
  split at h
  · rename_i h1; exact absurd h h1
  · rename_i h1; exact ⟨by simpa using h1, h⟩
theorem kinds_go {ks : List Kd} : ∀ (l : List Kd) (i : Nat), i < 4 → (∀ k ∈ l, ∃ j, j < 4 ∧ k.name = kN j) → kindsS ks (kN i) l = 0 → ∀ b ∈ l, ∃ j, i < j ∧ j < 4 ∧ b.name = kN j := by
  intro l
  induction l with
  | nil => intro i _ _ _ b hb; cases hb
  | cons k r ih =>
    intro i hi hn h b hb
    obtain ⟨h1, h2⟩ := kindsS_cons h
    obtain ⟨j, hj, e⟩ := hn k (by simp)
    have hlt : i < j := kN_ord j hj i hi (by rw [← e]; exact (kindS_zero h1).1)
    rcases List.mem_cons.1 hb with hb | hb
    · exact ⟨j, hlt, hj, by rw [hb]; exact e⟩
    · obtain ⟨j', h3, h4, h5⟩ := ih j hj (fun k hk => hn k (by simp [hk])) (by rw [← e]; exact h2) b hb
      exact ⟨j', by omega, h4, h5⟩
theorem kinds_find {ks : List Kd} : ∀ (l : List Kd) (last : Str), (∀ k ∈ l, ∃ j, j < 4 ∧ k.name = kN j) → kindsS ks last l = 0 → ∀ b ∈ l, l.find? (fun k => decide (k.name = b.name)) = some b := by
  intro l
  induction l with
  | nil => intro _ _ _ b hb; cases hb
  | cons k r ih =>
    intro last hn h b hb
    obtain ⟨h1, h2⟩ := kindsS_cons h
    rw [List.find?_cons]
    rcases List.mem_cons.1 hb with hb | hb
    · subst hb; simp
    · obtain ⟨i, hi, e⟩ := hn k (by simp)
      rw [e] at h2
      obtain ⟨j, h3, h4, h5⟩ := kinds_go r i hi (fun k hk => hn k (by simp [hk])) h2 b hb
      have : decide (k.name = b.name) = false := by rw [e, h5]; simpa using kN_inj h3 h4
      rw [this]
      exact ih k.name (fun k hk => hn k (by simp [hk])) (by rw [e]; exact h2) b hb
theorem ScN.ks {S : Sc} (h : ScN S) : kindsS S.kinds [] S.kinds = 0 ∧ actsS S.kinds [] S.acts = 0 := by
  have := h.chk
  unfold checkS at this
  split at this
  · cases this
  · split at this
    · rename_i h1; exact absurd this h1
    · rename_i h1; exact ⟨by simpa using h1, this⟩
theorem ScN.kindX {S : Sc} (h : ScN S) {k : Kd} (hk : k ∈ S.kinds) : Va.kindX S.kinds k.name = k ∧ hasS S.kinds k.name = true := by
  have hf := kinds_find S.kinds [] h.kn h.ks.1 k hk
  refine ⟨by unfold Va.kindX; rw [hf], ?_⟩
  unfold hasS
  rw [List.any_eq_true]
  exact ⟨k, hk, by simp⟩
theorem acts_go {ks : List Kd} : ∀ (l : List Ac) (last : Str), actsS ks last l = 0 → ∀ a ∈ l, (∀ n ∈ a.prins, hasS ks n = true) ∧ (∀ n ∈ a.ress, hasS ks n = true) := by
  intro l
  induction l with
  | nil => intro _ _ a ha; cases ha
  | cons b r ih =>
    intro last h a ha
    unfold actsS at h
    split at h
    · rename_i h1; exact absurd h h1
    · rename_i h1
      rcases List.mem_cons.1 ha with e | ha
      · subst e
        have h1' : actS ks a last = 0 := by simpa using h1
        unfold actS at h1'
        split at h1'
        · cases h1'
        · split at h1'
          · cases h1'
          · split at h1'
            · cases h1'
            · split at h1'
              · cases h1'
              · split at h1'
                · cases h1'
                · rename_i h6
                  have h7 : (a.prins ++ a.ress).all (hasS ks) = true := by simpa using h6
                  rw [List.all_eq_true] at h7
                  exact ⟨fun n hn => h7 n (by simp [hn]), fun n hn => h7 n (by simp [hn])⟩
      · exact ih _ h a ha
theorem ScN.acts {S : Sc} (h : ScN S) {a : Ac} (ha : a ∈ S.acts) : (∀ n ∈ a.prins, hasS S.kinds n = true) ∧ (∀ n ∈ a.ress, hasS S.kinds n = true) := acts_go S.acts [] h.ks.2 a ha
theorem envs_known {S : Sc} {P : Po} (h : ScN S) {e : En} (he : e ∈ envsS S P) : hasS S.kinds e.p = true ∧ hasS S.kinds e.r = true := by
  simp only [envsS, List.mem_flatMap] at he
  obtain ⟨a, ha, he⟩ := he
  unfold envsA at he
  split at he
  · cases he
  · simp only [envsP, List.mem_flatMap] at he
    obtain ⟨x, hx, he⟩ := he
    simp only [envsR, List.mem_map, List.mem_filter] at he
    obtain ⟨y, ⟨hy, _⟩, rfl⟩ := he
    exact ⟨(h.acts ha).1 x hx, (h.acts ha).2 y hy⟩
theorem envX_mem {S : Sc} {n : Int} (h : hasEnv S = true) : envX S n ∈ envsS S noPo := by
  unfold hasEnv at h
  have h0 : envsS S noPo ≠ [] := by simpa using h
  have hpos : 0 < (envsS S noPo).length := List.length_pos_iff.2 h0
  have hw := wi_range n (n := (envsS S noPo).length) (by omega)
  unfold envX
  have hlt : (wi n (envsS S noPo).length).toNat < (envsS S noPo).length := by omega
  rw [List.getD_eq_getElem?_getD, List.getElem?_eq_getElem hlt]
  exact List.getElem_mem hlt
theorem hasEnv_kinds {S : Sc} (h : ScN S) (he : hasEnv S = true) : 0 < S.kinds.length := by
  have := (envs_known h (envX_mem (n := 0) he)).1
  unfold hasS at this
  rw [List.any_eq_true] at this
  obtain ⟨k, hk, _⟩ := this
  exact List.length_pos_of_mem hk
/- ------------------------------------------------ small trees of one's own -/
theorem pur_leafE {σ : AState} {op : Int} {b : Bool} {n : Int} {s u v : Str} : PurL σ true [.int .i64 op, .bool b, .int .i64 n, .str s, .str u, .str v, .nils] (Ex.mk op b n s u v []).c :=
  .cons (.flat _ rfl) (.cons (.flat _ rfl) (.cons (.flat _ rfl) (.cons (.flat _ rfl) (.cons (.flat _ rfl) (.cons (.flat _ rfl) (.cons (.nils _ _) .nil))))))
theorem pur_oneE {σ : AState} {op : Int} {b : Bool} {n : Int} {s u v : Str} {q : Nat} {cap : Option Nat} {c : List AV} {e : Ex} (hq : σ.cells q = some c) (hc : c.length = 7) (hp : PurL σ true c e.c) :
    Pur σ true (.agg [.int .i64 op, .bool b, .int .i64 n, .str s, .str u, .str v, .sl q 0 1 cap 7]) (.agg (Ex.mk op b n s u v [e]).c) := by
  have hs : Pur σ true (.sl q 0 1 cap 7) (slc Ex.c [e]) := by
    have : slc Ex.c [e] = .psl e.c 0 1 := by rw [slc_eq, rowc_one]; rfl
    rw [this]
    exact .lit hq hc hp
  rw [Ex.c_eq]
  exact .agg _ _ rfl (PurL.cons (.flat _ rfl) (.cons (.flat _ rfl) (.cons (.flat _ rfl) (.cons (.flat _ rfl) (.cons (.flat _ rfl) (.cons (.flat _ rfl) (.cons hs .nil))))))).2
theorem of_own {S : Sc} {p a r : Str} {e : Ex} {x : AV} {σ : AState} (hs : ScR S) (hw : e.wf) (hx : Pur σ true x (.agg e.c)) : AC Try.prog 20 [.agg S.c, .agg [.str p, .str a, .str r], x] σ fun v s => s = σ ∧ v = tyP (ofP S p r e) :=
  AC.pureE (.cons (pur_schema σ S) (.cons (pur_en σ ⟨p, a, r⟩) (.cons hx .nil))) ((of_ac hs e hw st0).mono fun v s h => h.2)
theorem within11_ac {n k : Int} {σ : AState} (hk : 0 < k) (hk' : k < 4611686018427387904) : AC Try.prog 21 [.int .i64 n, .int .i64 k] σ fun v s' => s' = σ ∧ v = .int .i64 (wi n k) :=
  (within_ac (P := Try.prog) fn21 cf21 cl21 (x := n) (σ := σ) hk hk').mono fun _ _ h => ⟨h.2, h.1⟩
theorem wf_leaf {op : Int} {b : Bool} {n : Int} {s u v : Str} (h1 : 1 ≤ op) (h5 : op ≤ 5) : (Ex.mk op b n s u v []).wf := by
  rw [Ex.wf_eq]; exact ⟨.inl ⟨h1, h5, rfl⟩, by simp, by simp [Ex.wfs]⟩
theorem wf_one {op : Int} {b : Bool} {n : Int} {s u v : Str} {e : Ex} (h : op = 7 ∨ op = 8 ∨ op = 10 ∨ op = 11 ∨ op = 12) (he : e.wf) : (Ex.mk op b n s u v [e]).wf := by
  rw [Ex.wf_eq]; exact ⟨.inr (.inr (.inl ⟨h, rfl⟩)), by simp, Ex.wfs_all.2 (by simpa using he)⟩
theorem ofP_one {S : Sc} {p r : Str} {op : Int} {b : Bool} {n : Int} {s u v : Str} {e : Ex} {t : Ty} (h : op = 7 ∨ op = 8 ∨ op = 10 ∨ op = 11 ∨ op = 12) (he : ofP S p r e = (t, 0)) : ofP S p r (.mk op b n s u v [e]) = nodeP S op s [t] :=
  ofP_node (by rw [ofPs_cons, he, if_neg (by simp), ofPs_nil]) (by omega) (.inr (.inr (.inl ⟨h, rfl⟩)))
theorem known11_ac {σ : AState} : AC Try.prog 11 [] σ fun v s => s = σ ∧ v = .bool true := by
  have h : (match runF tab 400 11 [] st0 with | some (.bool true, _) => true | _ => false) = true := by kernel_rfl
  split at h
  · rename_i s e
    exact (AC.plain (a := .bool true) rfl (fun x hx => by cases hx) ((runs 400 _ _ _ _ _ e).mono fun v' s' hv => hv.1)).mono fun v s h => ⟨h.2, h.1⟩
  · cases h
/- Good's answer, as fixed data in a block. -/
theorem good_frz {ks : List RKd} {ac : List RAc} {σ : AState} {k : AV → AState → Prop} (h : ∀ x y s, x.one = true → y.one = true → Keeps σ.n σ s → (∀ (N : Nat) (s1 : AState) (b : Nat) (M : Env → AState → Prop) (ρ : Env), s1.cells b = some [x, y] → s.n ≤ b → s.n ≤ s1.n → (∀ c, c < s.n → s1.cells c = s.cells c) → (∀ S s2, ScN S → s2.n = s1.n → s2.cells b = some [slc Kd.c S.kinds, slc Ac.c S.acts] → (∀ c, c ≠ b → (c < σ.n ∨ s.n ≤ c) → s2.cells c = s1.cells c) → M ρ s2) → Frz N M ρ s1) → k (.agg [x, y]) s) :
    AC Try.prog 13 [slc RKd.c ks, slc RAc.c ac] σ k := by
  refine good_ac.mono ?_
  rintro v s ⟨hk, m, S, x, y, rfl, hm3, hms, hrx, hry, hS⟩
  refine h x y s ?_ ?_ hk ?_
  · rcases hrx.form with rfl | ⟨_, _, rfl⟩ <;> rfl
  · rcases hry.form with rfl | ⟨_, _, rfl⟩ <;> rfl
  intro N s1 b M ρ hb hnb hn1 hc hM
  refine Frz.sc (S := S) hb (p := fun b => σ.n ≤ b ∧ b < m) (p' := fun b => m ≤ b ∧ b < s.n) ?_ ?_ (by omega) (by omega) (fun b h1 h2 => by omega) fun s2 e1 e2 e3 => ?_
  · exact hrx.keep hn1 fun c hc' _ => hc c hc'
  · exact (hry.mono fun b h1 h2 => ⟨h1, h2⟩).keep hn1 fun c hc' _ => hc c hc'
  · exact hM S s2 hS e1 (by simpa [slc_eq] using e2) fun c h1 h2 => get_cells (e3 c h1 (by omega) (by omega))
theorem name_get {k : Nat} (h : k < 7) : [AV.str [97], .str [97, 103, 101], .str [105, 102], .str [99, 111, 110, 116, 97, 105, 110, 115], .str [112, 114, 105, 110, 99, 105, 112, 97, 108], .str [95, 120], .str [110, 97, 109, 101]][k]? = some (.str (nameN k)) := by
  match k, h with
  | 0, _ => rfl
  | 1, _ => rfl
  | 2, _ => rfl
  | 3, _ => rfl
  | 4, _ => rfl
  | 5, _ => rfl
  | 6, _ => rfl
end Go.Proofs.Ytcdbpmmomgehfaa.Va
