/- The law TypesEnvs. Conditions: none. -/
import Derived.Test.YtcdbpmmomgehfaaTL8
import Derived.Test.YtcdbpmmomgehfaaTy30
import Derived.Test.YtcdbpmmomgehfaaTy28
import Derived.Test.YtcdbpmmomgehfaaTy23
set_option maxRecDepth 100000
set_option maxHeartbeats 4000000
set_option linter.all false
namespace Go.Proofs.Ytcdbpmmomgehfaa.Va
open Go.Proofs
theorem pur_po0 (σ : AState) (f : Bool) (p a r : Sco) : Pur σ true (.agg [.bool f, .int .i64 p.kind, .str p.ut, .str p.ui, .int .i64 a.kind, .str a.ut, .str a.ui, .int .i64 r.kind, .str r.ut, .str r.ui, .nils]) (.agg (Po.mk f p a r []).c) := .agg _ _ rfl fun i hi hi' => by
  match i, hi with
  | 0, _ => exact .flat _ rfl
  | 1, _ => exact .flat _ rfl
  | 2, _ => exact .flat _ rfl
  | 3, _ => exact .flat _ rfl
  | 4, _ => exact .flat _ rfl
  | 5, _ => exact .flat _ rfl
  | 6, _ => exact .flat _ rfl
  | 7, _ => exact .flat _ rfl
  | 8, _ => exact .flat _ rfl
  | 9, _ => exact .flat _ rfl
  | 10, _ => exact .nils _ _
/- Policies that differ in their outer scopes alone. -/
def oPo (p r : Sco) : Po := ⟨false, p, ⟨0, [], []⟩, r, []⟩
theorem actOff_oPo (p r : Sco) (n : Str) : actOff (oPo p r) n = false := by simp [actOff, oPo]
def cntA (l : List Ac) : Nat := (l.map fun a => a.prins.length * a.ress.length).sum
theorem envsR_all {p r : Sco} {a x : Str} {ys : List Str} (hp : letS p x = true) (hr : ∀ y, letS r y = true) : envsR (oPo p r) a x ys = ys.map fun y => ⟨x, a, y⟩ := by
  unfold envsR
  have h : (fun y => letS (oPo p r).p x && letS (oPo p r).r y) = fun _ => true := by funext y; show (letS p x && letS r y) = true; rw [hp, hr]; rfl
  rw [h, List.filter_eq_self.2 (fun _ _ => rfl)]
theorem envsR_none {p r : Sco} {a x : Str} {ys : List Str} (hp : letS p x = false) : envsR (oPo p r) a x ys = [] := by
  unfold envsR
  have h : (fun y => letS (oPo p r).p x && letS (oPo p r).r y) = fun _ => false := by funext y; show (letS p x && letS r y) = false; rw [hp]; rfl
  rw [h, List.filter_eq_nil_iff.2 (by simp)]
  rfl
def allP (a : Str) (xs ys : List Str) : List En := xs.flatMap fun x => ys.map fun y => ⟨x, a, y⟩
def allS (S : Sc) : List En := S.acts.flatMap fun a => allP a.name a.prins a.ress
theorem allP_len (a : Str) (ys : List Str) : ∀ xs : List Str, (allP a xs ys).length = xs.length * ys.length := by
  intro xs
  induction xs with
  | nil => simp [allP]
  | cons x xs ih =>
    have h : allP a (x :: xs) ys = (ys.map fun y => ⟨x, a, y⟩) ++ allP a xs ys := by simp [allP]
    rw [h, List.length_append, ih, List.length_map, List.length_cons, Nat.succ_mul]; omega
theorem allS_len : ∀ l : List Ac, (l.flatMap fun a => allP a.name a.prins a.ress).length = cntA l := by
  intro l
  induction l with
  | nil => rfl
  | cons a l ih => rw [List.flatMap_cons, List.length_append, ih, allP_len]; simp [cntA]
theorem envs_all {S : Sc} {p r : Sco} (hp : ∀ x, letS p x = true) (hr : ∀ y, letS r y = true) : envsS S (oPo p r) = allS S := by
  unfold envsS allS
  congr 1
  funext a
  unfold envsA envsP allP
  rw [if_neg (by rw [actOff_oPo]; simp)]
  congr 1
  funext x
  exact envsR_all (hp x) hr
theorem envs_some {S : Sc} {p r : Sco} (hr : ∀ y, letS r y = true) : envsS S (oPo p r) = (allS S).filter fun e => letS p e.p := by
  unfold envsS allS
  rw [List.filter_flatMap]
  congr 1
  funext a
  show envsA (oPo p r) a = (allP a.name a.prins a.ress).filter fun e => letS p e.p
  unfold envsA envsP allP
  rw [if_neg (by rw [actOff_oPo]; simp), List.filter_flatMap]
  congr 1
  funext x
  show envsR (oPo p r) a.name x a.ress = (a.ress.map fun y => (⟨x, a.name, y⟩ : En)).filter fun e => letS p e.p
  rw [List.filter_map]
  cases h : letS p x with
  | true =>
    rw [envsR_all h hr]
    have : ((fun e : En => letS p e.p) ∘ fun y => (⟨x, a.name, y⟩ : En)) = fun _ => true := by funext y; exact h
    rw [this, List.filter_eq_self.2 (fun _ _ => rfl)]
  | false =>
    rw [envsR_none h]
    have : ((fun e : En => letS p e.p) ∘ fun y => (⟨x, a.name, y⟩ : En)) = fun _ => false := by funext y; exact h
    rw [this, List.filter_eq_nil_iff.2 (by simp)]; rfl
theorem filt_step {α : Type} {p : α → Bool} {l : List α} {i : Nat} (h : i < l.length) : ((l.take (i + 1)).filter p).length = ((l.take i).filter p).length + (if p l[i] = true then 1 else 0) := by
  rw [List.take_add_one, List.getElem?_eq_getElem h, Option.toList, List.filter_append, List.length_append]
  congr 1
  by_cases hp : p l[i] = true <;> simp [hp]
theorem filt_get {α : Type} {p : α → Bool} {l : List α} {i : Nat} (h : i < l.length) (hp : p l[i] = true) : (l.filter p)[((l.take i).filter p).length]? = some l[i] := by
  conv => lhs; rw [← List.take_append_drop i l, List.drop_eq_getElem_cons h]
  rw [List.filter_append, List.filter_cons_of_pos hp]
  have : ((l.take i ++ l[i] :: l.drop (i + 1)).take i) = l.take i := by rw [← List.drop_eq_getElem_cons h, List.take_append_drop]
  rw [this]
  simp
theorem eq3 (a b c d e f : Str) : eqCells [.s, .s, .s] [.str a, .str b, .str c] [.str d, .str e, .str f] = some (decide (a = d) && (decide (b = e) && decide (c = f))) := by
  simp only [eqCells, eqCell]
  by_cases h1 : a = d <;> by_cases h2 : b = e <;> by_cases h3 : c = f <;> simp [h1, h2, h3]
structure EnAt (l : List En) (i : Nat) (h : i < l.length) : Prop where
  fit : i * 3 + 3 ≤ (rowc En.c l).length
  all : seg (rowc En.c l) (i * 3) 3 = [.str l[i].p, .str l[i].a, .str l[i].r]
  g0 : (rowc En.c l)[i * 3]? = some (.str l[i].p)
theorem enAt {l : List En} {i : Nat} (h : i < l.length) : EnAt l i h := ⟨rowc_fit En.c_len h, rowc_seg En.c_len h, rowc_get0 En.c_len h (by decide)⟩
theorem cntA_step {l : List Ac} {i : Nat} (h : i < l.length) : cntA (l.take (i + 1)) = cntA (l.take i) + l[i].prins.length * l[i].ress.length := by
  unfold cntA
  rw [List.take_add_one, List.getElem?_eq_getElem h, Option.toList, List.map_append, List.sum_append]
  rfl
theorem cntA_le : ∀ {l : List Ac}, (∀ a ∈ l, AcG a) → cntA l ≤ 16 * l.length := by
  intro l
  induction l with
  | nil => intro _; simp [cntA]
  | cons a l ih =>
    intro h
    have h1 := ih fun a ha => h a (by simp [ha])
    have h2 := (h a (by simp)).pl.2
    have h3 := (h a (by simp)).rl.2
    have h4 : a.prins.length * a.ress.length ≤ 4 * 4 := Nat.mul_le_mul h2 h3
    have : cntA (a :: l) = a.prins.length * a.ress.length + cntA l := by simp [cntA]
    rw [this, List.length_cons]; omega
theorem typesEnvs_ac {ks : List RKd} {ac : List RAc} {n : Int} {id : List Int} (hid : id.length ≤ Most) : AC Try.prog 8 [slc RKd.c ks, slc RAc.c ac, .int .i64 n, ints id] st0 fun v _ => v = .bool true := by
  refine ac_s fn8 cf8 cl8 rfl ?_
  simp only [ac8]
  unfold ab8
  refine s_mid (fun ρ s => ρ.rd 0 = slc RKd.c ks ∧ ρ.rd 1 = slc RAc.c ac ∧ ρ.rd 2 = .int .i64 n ∧ ρ.rd 3 = ints id ∧ s = st0) ?_ ?_
  · simp only [WS, seval, stepW, evalA, evalBin, Option.getD, allocA, rowOf, fillA, partsV, setl, AV.len, evalUn, strs_eq]
  rintro ρ s ⟨h0, h1, h2, h3, rfl⟩
  refine s_mid (fun ρ s => ρ.rd 0 = slc RKd.c ks ∧ ρ.rd 1 = slc RAc.c ac ∧ ρ.rd 2 = .int .i64 n ∧ ρ.rd 3 = ints id ∧ s = st0) ?_ ?_
  · simp only [WS, seval, stepW, evalA, evalBin, Option.getD, allocA, rowOf, fillA, partsV, setl, AV.len, evalUn, strs_eq]
    refine known11_ac.use ?_
    simp only [WS, seval, stepW, evalA, evalBin, Option.getD, allocA, rowOf, fillA, partsV, setl, AV.len, evalUn, strs_eq, h0, h1, h2, h3]
  clear h0 h1 h2 h3
  rintro ρ s ⟨h0, h1, h2, h3, rfl⟩
  refine s_frz (fun ρ s => ρ.rd 2 = .int .i64 n ∧ ρ.rd 3 = ints id ∧ ∃ b S, ρ.rd 9 = .ptr b 0 ∧ b < s.n ∧ s.cells b = some [slc Kd.c S.kinds, slc Ac.c S.acts] ∧ ScN S) ?_ ?_
  · simp only [WS, seval, stepW, evalA, evalBin, Option.getD, allocA, rowOf, fillA, partsV, setl, AV.len, evalUn, strs_eq, h0, h1]
    refine good_frz fun x y s1 hx hy hk hM => ?_
    simp only [WS, seval, stepW, evalA, evalBin, Option.getD, allocA, rowOf, fillA, partsV, setl, AV.len, evalUn, strs_eq, h2, h3, hx, hy, frzQ_normal, frzQ_exit, frzQ_ret, storeA, sets, setx, TS]
    refine hM _ _ s1.n _ _ (by rw [put_get, if_pos rfl]) (Nat.le_refl _) (by simp only [put_n, push_n]; omega) (fun c hc => by rw [put_get, if_neg (by omega), push_get, if_neg (by omega)]) fun S s2 hS e1 e2 e3 => ?_
    simp only [WS, seval, stepW, evalA, evalBin, Option.getD, allocA, rowOf, fillA, partsV, setl, AV.len, evalUn, strs_eq, h2, h3]
    exact ⟨s1.n, S, rfl, by rw [e1]; exact Nat.lt_succ_self _, by simpa [slc_eq] using e2, hS⟩
  clear h0 h1 h2 h3
  rintro ρ s ⟨h2, h3, b, S, h9, hb, cb, hS⟩
  have hR := hS.r
  have hal := hS.al
  have sg := scSeg S
  have hE : ∀ (p r : Sco) σ, AC Try.prog 22 [.agg S.c, .agg [.bool false, .int .i64 p.kind, .str p.ut, .str p.ui, .int .i64 0, .str [], .str [], .int .i64 r.kind, .str r.ut, .str r.ui, .nils]] σ fun v s => s = σ ∧ v = slc En.c (envsS S (oPo p r)) := fun p r σ => envsT_ac hR.m (by omega) (pur_po0 σ false p ⟨0, [], []⟩ r)
  have l0 : ∀ x, letS ⟨0, [], []⟩ x = true := fun x => rfl
  have l2 : ∀ u v x, letS ⟨2, u, v⟩ x = true := fun u v x => rfl
  have hE1 := fun σ => hE ⟨0, [], []⟩ ⟨0, [], []⟩ σ
  have hE2 := fun u v σ => hE ⟨2, u, v⟩ ⟨2, u, v⟩ σ
  have hE3 := fun u v σ => hE ⟨1, u, v⟩ ⟨0, [], []⟩ σ
  simp only [envs_all l0 l0, envs_all (l2 _ _) (l2 _ _), envs_some l0] at hE1 hE2 hE3
  have hcl : (allS S).length = cntA S.acts := allS_len S.acts
  have hcle := cntA_le hS.a
  clear hE
  generalize allS S = L at *
  simp only [Sc.c_eq, slc_eq] at hE1 hE2 hE3 cb
  refine s_mid (fun ρ s => ρ.rd 2 = .int .i64 n ∧ ρ.rd 3 = ints id ∧ ρ.rd 9 = .ptr b 0 ∧ b < s.n ∧ s.cells b = some [.psl (rowc Kd.c S.kinds) 0 S.kinds.length, .psl (rowc Ac.c S.acts) 0 S.acts.length] ∧ ρ.rd 10 = slc En.c L) ?_ ?_
  · simp only [WS, seval, stepW, evalA, evalBin, Option.getD, allocA, rowOf, fillA, partsV, setl, AV.len, evalUn, strs_eq, h2, h3, h9, hb, cb, sg]
    refine (hE1 _).use ?_
    simp only [WS, seval, stepW, evalA, evalBin, Option.getD, allocA, rowOf, fillA, partsV, setl, AV.len, evalUn, strs_eq, h2, h3, h9, hb, cb]
  clear h2 h3 h9 hb cb
  rintro ρ s ⟨h2, h3, h9, hb, cb, h10⟩
  refine s_mid (fun ρ s => ρ.rd 2 = .int .i64 n ∧ ρ.rd 3 = ints id ∧ ρ.rd 9 = .ptr b 0 ∧ b < s.n ∧ s.cells b = some [.psl (rowc Kd.c S.kinds) 0 S.kinds.length, .psl (rowc Ac.c S.acts) 0 S.acts.length] ∧ ρ.rd 10 = slc En.c L ∧ ρ.rd 11 = .int .i64 0) ?_ ?_
  · simp only [WS, seval, stepW, evalA, evalBin, Option.getD, allocA, rowOf, fillA, partsV, setl, AV.len, evalUn, strs_eq, h2, h3, h9, hb, cb, h10]
  clear h2 h3 h9 hb cb h10
  rintro ρ s ⟨h2, h3, h9, hb, cb, h10, h11⟩
  refine s_mid (fun ρ s => ρ.rd 2 = .int .i64 n ∧ ρ.rd 3 = ints id ∧ ρ.rd 9 = .ptr b 0 ∧ b < s.n ∧ s.cells b = some [.psl (rowc Kd.c S.kinds) 0 S.kinds.length, .psl (rowc Ac.c S.acts) 0 S.acts.length] ∧ ρ.rd 10 = slc En.c L ∧ ρ.rd 11 = .int .i64 (cntA S.acts)) ?_ ?_
  · simp only [WS, seval, stepW, evalA, evalBin, Option.getD, allocA, rowOf, fillA, partsV, setl, AV.len, evalUn, strs_eq, h2, h3, h9, hb, cb, h10, h11]
    refine w_for (fun i ρ s => ρ.rd 12 = .int .i64 i ∧ ρ.rd 2 = .int .i64 n ∧ ρ.rd 3 = ints id ∧ ρ.rd 9 = .ptr b 0 ∧ b < s.n ∧ s.cells b = some [.psl (rowc Kd.c S.kinds) 0 S.kinds.length, .psl (rowc Ac.c S.acts) 0 S.acts.length] ∧ ρ.rd 10 = slc En.c L ∧ ρ.rd 11 = .int .i64 (cntA (S.acts.take i))) S.acts.length ?_ ?_
    · simp only [WS, seval, stepW, evalA, evalBin, Option.getD, allocA, rowOf, fillA, partsV, setl, AV.len, evalUn, strs_eq, h2, h3, h9, hb, cb, h10, h11]
      first | done | exact ⟨rfl, rfl⟩ | exact rfl
    clear h2 h3 h9 hb cb h10 h11
    rintro i ρ s hi ⟨h12, h2, h3, h9, hb, cb, h10, h11⟩
    by_cases hlt : i < S.acts.length
    rotate_left
    · have : i = S.acts.length := by omega
      subst this
      have hge : ¬ ((S.acts.length : Nat) : Int) < ((S.acts.length : Nat) : Int) := by omega
      rw [List.take_length] at h11
      simp only [WS, seval, stepW, evalA, evalBin, Option.getD, allocA, rowOf, fillA, partsV, setl, AV.len, evalUn, strs_eq, h12, h2, h3, h9, hb, cb, h10, h11, hge]
    have hr := lt_idx hlt
    have hlt' := hr.2
    have A := acAt hlt
    have hw : IntKind.i64.wrap ((i : Int) + 1) = ((i + 1 : Nat) : Int) := wrap_succ (by omega)
    have hst := cntA_step hlt
    have hG := hS.a _ (List.getElem_mem hlt)
    have hct := cntA_le (l := S.acts.take i) (fun a ha => hS.a a (List.mem_of_mem_take ha))
    rw [List.length_take] at hct
    have h44 : S.acts[i].prins.length * S.acts[i].ress.length ≤ 4 * 4 := Nat.mul_le_mul hG.pl.2 hG.rl.2
    have hm : IntKind.i64.wrap (((S.acts[i].prins.length : Nat) : Int) * ((S.acts[i].ress.length : Nat) : Int)) = ((S.acts[i].prins.length * S.acts[i].ress.length : Nat) : Int) := by
      rw [show (((S.acts[i].prins.length : Nat) : Int) * ((S.acts[i].ress.length : Nat) : Int)) = ((S.acts[i].prins.length * S.acts[i].ress.length : Nat) : Int) by push_cast; rfl]
      exact wrap64 (by omega) (by omega)
    have ha : IntKind.i64.wrap (((cntA (S.acts.take i) : Nat) : Int) + ((S.acts[i].prins.length * S.acts[i].ress.length : Nat) : Int)) = ((cntA (S.acts.take (i + 1)) : Nat) : Int) := by
      rw [hst, wrap64 (by omega) (by omega)]; omega
    simp only [WS, seval, stepW, evalA, evalBin, Option.getD, allocA, rowOf, fillA, partsV, setl, AV.len, evalUn, strs_eq, h12, h2, h3, h9, hb, cb, h10, h11, hlt']
    refine w_dreg0 follow ?_ rfl
    have hb' : b < (addSlots s.n 18 s []).n := by simp only [addSlots]; omega
    simp only [WS, seval, stepW, evalA, evalBin, Option.getD, allocA, rowOf, fillA, partsV, setl, AV.len, evalUn, strs_eq, h12, h2, h3, h9, hb, cb, h10, h11, sl_cells, hr, A.g1, A.g2, strs_eq, hm, ha, hw]
    exact ⟨hlt, hb'⟩
  clear h2 h3 h9 hb cb h10 h11
  rintro ρ s ⟨h2, h3, h9, hb, cb, h10, h11⟩
  have hU : ∀ σ, AC Try.prog 23 [.int .i64 n, ints id] σ fun v s => s = σ ∧ v = .agg [.str (uidT (wi n 5)), .str (idS id)] := fun σ => uidL_ac hid
  generalize uidT (wi n 5) = ut at *
  generalize idS id = ui at *
  rw [ints_eq] at hU h3
  have sg2 : ∀ a b : AV, seg [a, b] 0 2 = [a, b] := fun _ _ => rfl
  refine s_mid (fun ρ s => ∃ u, ρ.rd 9 = .ptr b 0 ∧ b < s.n ∧ s.cells b = some [.psl (rowc Kd.c S.kinds) 0 S.kinds.length, .psl (rowc Ac.c S.acts) 0 S.acts.length] ∧ ρ.rd 10 = slc En.c L ∧ ρ.rd 11 = .int .i64 (cntA S.acts) ∧ ρ.rd 13 = .ptr u 0 ∧ u < s.n ∧ s.cells u = some [.str ut, .str ui]) ?_ ?_
  · have nb : ¬ b = s.n := by omega
    simp only [WS, seval, stepW, evalA, evalBin, Option.getD, allocA, rowOf, fillA, partsV, setl, AV.len, evalUn, strs_eq, h2, h3, h9, hb, cb, h10, h11]
    refine (hU _).use ?_
    simp only [WS, seval, stepW, evalA, evalBin, Option.getD, allocA, rowOf, fillA, partsV, setl, AV.len, evalUn, strs_eq, h2, h3, h9, hb, cb, h10, h11, nb, storeA, sets, setx, TS]
    exact ⟨s.n, by omega, rfl, by omega, by simp⟩
  clear h2 h3 h9 hb cb h10 h11
  rintro ρ s ⟨u, h9, hb, cb, h10, h11, h13, hu, cu⟩
  refine s_mid (fun ρ s => ρ.rd 9 = .ptr b 0 ∧ b < s.n ∧ s.cells b = some [.psl (rowc Kd.c S.kinds) 0 S.kinds.length, .psl (rowc Ac.c S.acts) 0 S.acts.length] ∧ ρ.rd 10 = slc En.c L ∧ ρ.rd 11 = .int .i64 (cntA S.acts) ∧ ρ.rd 13 = .ptr u 0 ∧ u < s.n ∧ s.cells u = some [.str ut, .str ui] ∧ ρ.rd 14 = slc En.c L) ?_ ?_
  · simp only [WS, seval, stepW, evalA, evalBin, Option.getD, allocA, rowOf, fillA, partsV, setl, AV.len, evalUn, strs_eq, h9, hb, cb, h10, h11, h13, hu, cu, sg, sg2, storeA, sets, setx, TS]
    refine (hE2 _ _ _).use ?_
    simp only [WS, seval, stepW, evalA, evalBin, Option.getD, allocA, rowOf, fillA, partsV, setl, AV.len, evalUn, strs_eq, h9, hb, cb, h10, h11, h13, hu, cu]
  clear h9 hb cb h10 h11 h13 hu cu
  rintro ρ s ⟨h9, hb, cb, h10, h11, h13, hu, cu, h14⟩
  generalize hM : (L.filter fun e => letS ⟨1, ut, ui⟩ e.p) = M at *
  have hE3' := hE3 ut ui
  rw [hM] at hE3'
  refine s_mid (fun ρ s => ρ.rd 9 = .ptr b 0 ∧ b < s.n ∧ s.cells b = some [.psl (rowc Kd.c S.kinds) 0 S.kinds.length, .psl (rowc Ac.c S.acts) 0 S.acts.length] ∧ ρ.rd 10 = slc En.c L ∧ ρ.rd 11 = .int .i64 (cntA S.acts) ∧ ρ.rd 13 = .ptr u 0 ∧ u < s.n ∧ s.cells u = some [.str ut, .str ui] ∧ ρ.rd 14 = slc En.c L ∧ ρ.rd 15 = slc En.c M) ?_ ?_
  · simp only [WS, seval, stepW, evalA, evalBin, Option.getD, allocA, rowOf, fillA, partsV, setl, AV.len, evalUn, strs_eq, h9, hb, cb, h10, h11, h13, hu, cu, h14, sg, sg2, storeA, sets, setx, TS]
    refine (hE3' _).use ?_
    simp only [WS, seval, stepW, evalA, evalBin, Option.getD, allocA, rowOf, fillA, partsV, setl, AV.len, evalUn, strs_eq, h9, hb, cb, h10, h11, h13, hu, cu, h14]
  clear h9 hb cb h10 h11 h13 hu cu h14
  rintro ρ s ⟨h9, hb, cb, h10, h11, h13, hu, cu, h14, h15⟩
  refine s_mid (fun ρ s => ρ.rd 10 = slc En.c L ∧ ρ.rd 11 = .int .i64 (cntA S.acts) ∧ ρ.rd 13 = .ptr u 0 ∧ s.cells u = some [.str ut, .str ui] ∧ ρ.rd 14 = slc En.c L ∧ ρ.rd 15 = slc En.c M ∧ ρ.rd 16 = .int .i64 0) ?_ ?_
  · simp only [WS, seval, stepW, evalA, evalBin, Option.getD, allocA, rowOf, fillA, partsV, setl, AV.len, evalUn, strs_eq, h9, hb, cb, h10, h11, h13, hu, cu, h14, h15]
  clear h9 hb cb h10 h11 h13 hu cu h14 h15
  rintro ρ s ⟨h10, h11, h13, cu, h14, h15, h16⟩
  refine s_mid (fun ρ s => ρ.rd 10 = slc En.c L ∧ ρ.rd 11 = .int .i64 (cntA S.acts) ∧ ρ.rd 13 = .ptr u 0 ∧ s.cells u = some [.str ut, .str ui] ∧ ρ.rd 14 = slc En.c L ∧ ρ.rd 15 = slc En.c M ∧ ρ.rd 16 = .int .i64 M.length) ?_ ?_
  · simp only [WS, seval, stepW, evalA, evalBin, Option.getD, allocA, rowOf, fillA, partsV, setl, AV.len, evalUn, strs_eq, h10, h11, h13, cu, h14, h15, h16]
    refine w_for (fun i ρ s => ρ.rd 17 = .int .i64 i ∧ ρ.rd 10 = slc En.c L ∧ ρ.rd 11 = .int .i64 (cntA S.acts) ∧ ρ.rd 13 = .ptr u 0 ∧ s.cells u = some [.str ut, .str ui] ∧ ρ.rd 14 = slc En.c L ∧ ρ.rd 15 = slc En.c M ∧ ρ.rd 16 = .int .i64 (((L.take i).filter fun e => letS ⟨1, ut, ui⟩ e.p).length)) L.length ?_ ?_
    · simp only [WS, seval, stepW, evalA, evalBin, Option.getD, allocA, rowOf, fillA, partsV, setl, AV.len, evalUn, strs_eq, h10, h11, h13, cu, h14, h15, h16]
      first | done | exact ⟨rfl, rfl⟩ | exact rfl
    clear h10 h11 h13 cu h14 h15 h16
    rintro i ρ s hi ⟨h17, h10, h11, h13, cu, h14, h15, h16⟩
    by_cases hlt : i < L.length
    rotate_left
    · have : i = L.length := by omega
      subst this
      have hge : ¬ ((L.length : Nat) : Int) < ((L.length : Nat) : Int) := by omega
      rw [List.take_length, hM] at h16
      simp only [WS, seval, stepW, evalA, evalBin, Option.getD, allocA, rowOf, fillA, partsV, setl, AV.len, evalUn, strs_eq, h17, h10, h11, h13, cu, h14, h15, h16, hge]
    have hr := lt_idx hlt
    have hlt' := hr.2
    have A := enAt hlt
    have hw : IntKind.i64.wrap ((i : Int) + 1) = ((i + 1 : Nat) : Int) := wrap_succ (by omega)
    have hst := filt_step (p := fun e : En => letS ⟨1, ut, ui⟩ e.p) hlt
    have hfl := List.length_filter_le (fun e : En => letS ⟨1, ut, ui⟩ e.p) (L.take i)
    rw [List.length_take] at hfl
    have hfg := filt_get (p := fun e : En => letS ⟨1, ut, ui⟩ e.p) hlt
    rw [hM] at hfg
    generalize ((L.take i).filter fun e => letS ⟨1, ut, ui⟩ e.p).length = m at *
    have hlet : letS ⟨1, ut, ui⟩ L[i].p = decide (ut = L[i].p) := by simp [letS]
    by_cases hu : ut = L[i].p
    · have hp : letS ⟨1, ut, ui⟩ L[i].p = true := by rw [hlet]; simp [hu]
      have hget := hfg hp
      have hml : m < M.length := by
        rcases Nat.lt_or_ge m M.length with h | h
        · exact h
        · rw [List.getElem?_eq_none h] at hget; cases hget
      have hMm : M[m] = L[i] := by rw [List.getElem?_eq_getElem hml] at hget; exact Option.some.inj hget
      have hrm := lt_idx hml
      have Bm := enAt hml
      have ball := Bm.all
      rw [hMm] at ball
      have hnm : ¬ ((M.length : Nat) : Int) ≤ ((m : Nat) : Int) := by omega
      have hwm : IntKind.i64.wrap ((m : Int) + 1) = ((m + 1 : Nat) : Int) := wrap_succ (by omega)
      have he := eq3 L[i].p L[i].a L[i].r L[i].p L[i].a L[i].r
      simp only [decide_true, Bool.and_true] at he
      have hp2 : (fun e : En => letS ⟨1, ut, ui⟩ e.p) L[i] = true := hp
      rw [if_pos hp2] at hst
      simp only [WS, seval, stepW, evalA, evalBin, Option.getD, allocA, rowOf, fillA, partsV, setl, AV.len, evalUn, strs_eq, h17, h10, h11, h13, cu, h14, h15, h16, hlt']
      refine w_dreg0 follow ?_ rfl
      simp only [WS, seval, stepW, evalA, evalBin, Option.getD, allocA, rowOf, fillA, partsV, setl, AV.len, evalUn, strs_eq, h17, h10, h11, h13, cu, h14, h15, h16, sl_cells, hr, A.g0, decide_eq_true hu.symm]
      refine w_dreg0 follow ?_ rfl
      simp only [WS, seval, stepW, evalA, evalBin, Option.getD, allocA, rowOf, fillA, partsV, setl, AV.len, evalUn, strs_eq, h17, h10, h11, h13, cu, h14, h15, h16, sl_cells, hr, A.fit, A.all, hnm, hrm, Bm.fit, ball, evalEq, he, hw, hwm]
      rw [hst]
      exact ⟨hlt, rfl⟩
    · have hu' : ¬ L[i].p = ut := fun h => hu h.symm
      have hp2 : ¬ (fun e : En => letS ⟨1, ut, ui⟩ e.p) L[i] = true := by show ¬ letS ⟨1, ut, ui⟩ L[i].p = true; rw [hlet]; simp [hu]
      rw [if_neg hp2] at hst
      simp only [WS, seval, stepW, evalA, evalBin, Option.getD, allocA, rowOf, fillA, partsV, setl, AV.len, evalUn, strs_eq, h17, h10, h11, h13, cu, h14, h15, h16, hlt']
      refine w_dreg0 follow ?_ rfl
      simp only [WS, seval, stepW, evalA, evalBin, Option.getD, allocA, rowOf, fillA, partsV, setl, AV.len, evalUn, strs_eq, h17, h10, h11, h13, cu, h14, h15, h16, sl_cells, hr, A.g0, hu', hw]
      rw [hst]
      exact ⟨hlt, rfl⟩
  clear h10 h11 h13 cu h14 h15 h16
  rintro ρ s ⟨h10, h11, h13, cu, h14, h15, h16⟩
  refine s_wp ?_
  have hcc : ((L.length : Nat) : Int) = ((cntA S.acts : Nat) : Int) := by omega
  simp only [WS, seval, stepW, evalA, evalBin, Option.getD, allocA, rowOf, fillA, partsV, setl, AV.len, evalUn, strs_eq, h10, h11, h13, cu, h14, h15, h16, hcc]
end Go.Proofs.Ytcdbpmmomgehfaa.Va
