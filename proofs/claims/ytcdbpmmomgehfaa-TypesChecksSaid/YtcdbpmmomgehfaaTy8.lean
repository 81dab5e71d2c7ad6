/- Trees as plain Lean data; the small words of the checker. Conditions: none. -/
import Derived.Test.YtcdbpmmomgehfaaTy7
set_option maxRecDepth 100000
set_option maxHeartbeats 4000000
set_option linter.all false
namespace Go.Proofs.Ytcdbpmmomgehfaa.Va
open Go.Proofs
/- A type with an error beside it. -/
def tyE (t : Ty) (e : Int) : AV := .tup [.agg t.c, .int .i64 e]
def noTy : Ty := ⟨0, 0, []⟩
theorem pur_tyE (s : AState) (t : Ty) (e : Int) : Pur s true (tyE t e) (tyE t e) := .tup _ _ rfl fun i hi hi' => by
  match i, hi with
  | 0, _ => exact pur_ty s t
  | 1, _ => exact .flat _ rfl
theorem AC.toldT {f : FuncId} {args : List AV} {σ : AState} {t : Ty} (hp : FxdL args) (h : AC Try.prog f args st0 fun v _ => v = .agg t.c) : AC Try.prog f args σ fun v s => s = σ ∧ v = .agg t.c :=
  AC.share (R := fun v => v = .agg t.c) hp (h.mono fun v s e => ⟨_, by rw [e]; exact pur_ty s t, rfl⟩)
theorem AC.toldE {f : FuncId} {args : List AV} {σ : AState} {t : Ty} {e : Int} (hp : FxdL args) (h : AC Try.prog f args st0 fun v _ => v = tyE t e) : AC Try.prog f args σ fun v s => s = σ ∧ v = tyE t e :=
  AC.share (R := fun v => v = tyE t e) hp (h.mono fun v s e => ⟨_, by rw [e]; exact pur_tyE s t _, rfl⟩)
theorem truth_ac {σ : AState} : AC Try.prog 51 [] σ fun v s => s = σ ∧ v = .agg (Ty.c ⟨1, 0, []⟩) := by
  refine AC.toldT .nil ?_
  refine ac_wp fn51 cf51 cl51 rfl ?_
  simp only [ac51]
  unfold ab51
  simp only [WU, seval, strs_eq, storeA, sets, setx, TS]
  rfl
theorem number_ac {σ : AState} : AC Try.prog 52 [] σ fun v s => s = σ ∧ v = .agg (Ty.c ⟨2, 0, []⟩) := by
  refine AC.toldT .nil ?_
  refine ac_wp fn52 cf52 cl52 rfl ?_
  simp only [ac52]
  unfold ab52
  simp only [WU, seval, strs_eq, storeA, sets, setx, TS]
  rfl
theorem uidT_ac {n : Str} {σ : AState} : AC Try.prog 53 [.str n] σ fun v s => s = σ ∧ v = .agg (Ty.c ⟨4, 0, n⟩) := by
  refine AC.toldT (.cons (.flat rfl) .nil) ?_
  refine ac_wp fn53 cf53 cl53 rfl ?_
  simp only [ac53]
  unfold ab53
  simp only [WU, seval, strs_eq, storeA, sets, setx, TS]
  rfl
theorem got_ac {t : Ty} {b : Bool} {σ : AState} : AC Try.prog 56 [.agg t.c, .bool b] σ fun v s => s = σ ∧ v = if b = true then tyE t 0 else tyE noTy 16 := by
  cases b with
  | true =>
    rw [if_pos rfl]
    refine AC.toldE (.cons (.agg (Ty.fxd t)) (.cons (.flat rfl) .nil)) ?_
    refine ac_wp fn56 cf56 cl56 rfl ?_
    simp only [ac56]
    unfold ab56
    have sg3 : ∀ a b c : AV, seg [a, b, c] 0 3 = [a, b, c] := fun _ _ _ => rfl
    simp only [WU, seval, strs_eq, Ty.c_eq, sg3, storeA, sets, setx, TS]
    rfl
  | false =>
    rw [if_neg (by decide)]
    refine AC.toldE (.cons (.agg (Ty.fxd t)) (.cons (.flat rfl) .nil)) ?_
    refine ac_wp fn56 cf56 cl56 rfl ?_
    simp only [ac56]
    unfold ab56
    simp only [WU, seval, strs_eq, Ty.c_eq, storeA, sets, setx, TS]
    rfl
/- Trees. -/
inductive Ex where
  | mk (op : Int) (b : Bool) (n : Int) (s ut ui : Str) (kids : List Ex)
mutual
def Ex.c : Ex → List AV
  | .mk op b n s ut ui kids => [.int .i64 op, .bool b, .int .i64 n, .str s, .str ut, .str ui, .psl (Ex.cs kids) 0 kids.length]
def Ex.cs : List Ex → List AV
  | [] => []
  | e :: r => Ex.c e ++ Ex.cs r
end
theorem Ex.cs_eq : ∀ l : List Ex, Ex.cs l = rowc Ex.c l := by
  intro l
  induction l with
  | nil => rfl
  | cons e l ih => rw [rowc_cons, ← ih]; rfl
theorem Ex.c_len (e : Ex) : e.c.length = 7 := by cases e; rfl
end Go.Proofs.Ytcdbpmmomgehfaa.Va
set_option maxRecDepth 100000
set_option maxHeartbeats 4000000
set_option linter.all false
namespace Go.Proofs.Ytcdbpmmomgehfaa.Va
open Go.Proofs
theorem Ty.c_len (t : Ty) : t.c.length = 3 := rfl
structure TyAt (l : List Ty) (i : Nat) (h : i < l.length) : Prop where
  fit : i * 3 + 3 ≤ (rowc Ty.c l).length
  all : seg (rowc Ty.c l) (i * 3) 3 = [.int .i64 l[i].kind, .int .i64 l[i].of_, .str l[i].name]
  g0 : (rowc Ty.c l)[i * 3]? = some (.int .i64 l[i].kind)
  g1 : (rowc Ty.c l)[i * 3 + 1]? = some (.int .i64 l[i].of_)
  g2 : (rowc Ty.c l)[i * 3 + 2]? = some (.str l[i].name)
theorem tyAt {l : List Ty} {i : Nat} (h : i < l.length) : TyAt l i h :=
  ⟨rowc_fit Ty.c_len h, rowc_seg Ty.c_len h, rowc_get0 Ty.c_len h (by decide), rowc_get Ty.c_len h (by decide), rowc_get Ty.c_len h (by decide)⟩
theorem any_step {l : List Ty} {p : Ty → Bool} {i : Nat} (h : i < l.length) (hno : (l.take i).any p = false) : (l.take (i + 1)).any p = p l[i] := by
  rw [List.take_add_one, List.any_append, hno, List.getElem?_eq_getElem h]; simp
theorem any_yes {l : List Ty} {p : Ty → Bool} {i : Nat} (h : i < l.length) (hy : p l[i] = true) : l.any p = true := by
  rw [List.any_eq_true]; exact ⟨_, List.getElem_mem h, hy⟩
theorem idxT_ac {l : List Ty} {fn : FuncId} {b : Nat} {σ : AState} {p : Ty → Bool} (hl : l.length ≤ 1000)
    (hf : ∀ t σ', t ∈ l → Keeps σ.n σ σ' → AC Try.prog fn [.agg t.c, .ptr b 0] σ' fun v s => v = .bool (p t) ∧ Keeps σ'.n σ' s) :
    AC Try.prog 78 [slc Ty.c l, .fn fn [.ptr b 0]] σ fun v s => (∃ i : Int, v = .int .i64 i ∧ decide (0 ≤ i) = l.any p) ∧ Keeps σ.n σ s := by
  refine ac_wp fn78 cf78 cl78 rfl ?_
  simp only [ac78]
  unfold ab78
  simp only [WU, seval, strs_eq]
  refine w_for (fun i ρ s => ρ.rd 8 = .int .i64 i ∧ ρ.rd 7 = .int .i64 l.length ∧ ρ.rd 0 = slc Ty.c l ∧ ρ.rd 1 = .fn fn [.ptr b 0] ∧ Keeps σ.n σ s ∧ (l.take i).any p = false) l.length ?_ ?_
  · simp only [WU, seval, strs_eq]
    first | done | exact ⟨rfl, Keeps.refl σ, rfl⟩ | exact ⟨Keeps.refl σ, rfl⟩
  · rintro i ρ s hi ⟨h8, h7, h0, h1, hk, hno⟩
    by_cases hlt : i < l.length
    rotate_left
    · have : i = l.length := by omega
      subst this
      have hge : ¬ ((l.length : Nat) : Int) < ((l.length : Nat) : Int) := by omega
      simp only [WU, seval, strs_eq, h8, h7, h0, h1, hge]
      rw [List.take_length] at hno
      exact ⟨⟨-1, rfl, by rw [hno]; rfl⟩, hk⟩
    have hr := lt_idx hlt
    have hlt' := hr.2
    have A := tyAt hlt
    have hw : IntKind.i64.wrap ((i : Int) + 1) = ((i + 1 : Nat) : Int) := wrap_succ (by omega)
    cases hp : p l[i] with
    | true =>
      simp only [WU, seval, strs_eq, h8, h7, h0, h1, hlt', hr, A.fit, A.all]
      refine (hf l[i] s (List.getElem_mem hlt) hk).mono ?_
      rintro v s' ⟨rfl, hk'⟩
      simp only [WU, seval, strs_eq, hp]
      exact ⟨⟨i, rfl, by rw [any_yes hlt hp]; simp⟩, hk.trans (hk'.mono hk.1)⟩
    | false =>
      simp only [WU, seval, strs_eq, h8, h7, h0, h1, hlt', hr, A.fit, A.all]
      refine (hf l[i] s (List.getElem_mem hlt) hk).mono ?_
      rintro v s' ⟨rfl, hk'⟩
      simp only [WU, seval, strs_eq, hp, h8, h7, h0, h1, hw]
      exact ⟨hlt, hk.trans (hk'.mono hk.1), by rw [any_step hlt hno, hp]⟩
theorem contT_ac {l : List Ty} {fn : FuncId} {b : Nat} {σ : AState} {p : Ty → Bool} (hl : l.length ≤ 1000)
    (hf : ∀ t σ', t ∈ l → Keeps σ.n σ σ' → AC Try.prog fn [.agg t.c, .ptr b 0] σ' fun v s => v = .bool (p t) ∧ Keeps σ'.n σ' s) :
    AC Try.prog 70 [slc Ty.c l, .fn fn [.ptr b 0]] σ fun v s => v = .bool (l.any p) ∧ Keeps σ.n σ s := by
  refine ac_wp fn70 cf70 cl70 rfl ?_
  simp only [ac70]
  unfold ab70
  simp only [WU, seval, strs_eq]
  refine (idxT_ac hl hf).mono ?_
  rintro v s ⟨⟨i, rfl, hi⟩, hk⟩
  simp only [WU, seval, strs_eq, hi]
  exact hk
theorem allF_ac {t : Ty} {k : Int} {b : Nat} {σ : AState} (hb : σ.cells b = some [.int .i64 k]) (hbn : b < σ.n) : AC Try.prog 73 [.agg t.c, .ptr b 0] σ fun v s => v = .bool (decide (t.kind ≠ k)) ∧ Keeps σ.n σ s := by
  refine ac_wp fn73 cf73 cl73 rfl ?_
  simp only [ac73]
  unfold ab73
  have h1 : ¬ b = σ.n := by omega
  simp only [WU, seval, strs_eq, Ty.c_eq, hb, h1]
  exact (Keeps.refl σ).push _
def allK (l : List Ty) (k : Int) : Bool := !l.any fun t => decide (t.kind ≠ k)
theorem all_st0 {l : List Ty} {k : Int} (hl : l.length ≤ 1000) : AC Try.prog 58 [slc Ty.c l, .int .i64 k] st0 fun v s => v = .bool (allK l k) := by
  refine ac_wp fn58 cf58 cl58 rfl ?_
  simp only [ac58]
  unfold ab58
  simp only [WU, seval, strs_eq]
  refine (contT_ac (p := fun t => decide (t.kind ≠ k)) hl fun t σ' _ hk => allF_ac (k := k) ?_ ?_).mono ?_
  · rw [hk.cells (by simp only [push_n]; omega)]
    exact push_cells _ _
  · have := hk.1
    simp only [push_n, st0_n] at this
    omega
  rintro v s ⟨rfl, hk⟩
  simp only [WU, seval, strs_eq]
  rfl
theorem all_ac {l : List Ty} {k : Int} {σ : AState} (hl : l.length ≤ 1000) : AC Try.prog 58 [slc Ty.c l, .int .i64 k] σ fun v s => s = σ ∧ v = .bool (allK l k) :=
  AC.told (.cons (slc_fxd Ty.fxd l) (.cons (.flat rfl) .nil)) rfl (all_st0 hl)
theorem ty_dec (a b : Ty) : decide (a = b) = (decide (a.kind = b.kind) && (decide (a.of_ = b.of_) && decide (a.name = b.name))) := by
  rw [← Bool.decide_and, ← Bool.decide_and]
  exact decide_eq_decide.2 (by cases a; cases b; simp)
theorem eqTys (a b : Ty) : eqCells [.i, .i, .s] [.int .i64 a.kind, .int .i64 a.of_, .str a.name] [.int .i64 b.kind, .int .i64 b.of_, .str b.name] = some (decide (a = b)) := by
  rw [ty_dec]
  simp only [eqCells, eqCell]
  cases h1 : decide (a.kind = b.kind) <;> cases h2 : decide (a.of_ = b.of_) <;> cases h3 : decide (a.name = b.name) <;> simp_all
theorem alikeF_ac {t : Ty} {l : List Ty} {b : Nat} {σ : AState} (hl : 0 < l.length) (hb : σ.cells b = some [slc Ty.c l]) (hbn : b < σ.n) : AC Try.prog 71 [.agg t.c, .ptr b 0] σ fun v s => v = .bool (decide (t ≠ l[0])) ∧ Keeps σ.n σ s := by
  refine ac_wp fn71 cf71 cl71 rfl ?_
  simp only [ac71]
  unfold ab71
  have h1 : ¬ b = σ.n := by omega
  have A := tyAt hl
  have hfit := A.fit
  have hall := A.all
  rw [Nat.zero_mul] at hfit hall
  have hr : (0 : Int) < ((l.length : Nat) : Int) := by omega
  have hE := eqTys t l[0]
  simp only [WU, seval, strs_eq, Ty.c_eq]
  refine w_dreg0 follow ?_ rfl
  have c1 : (addSlots (σ.push (.cells [.int .i64 t.kind, .int .i64 t.of_, .str t.name])).n 6 (σ.push (.cells [.int .i64 t.kind, .int .i64 t.of_, .str t.name])) []).cells b = some [slc Ty.c l] := by
    refine (slots_old [] (by simp only [push_n]; omega)).trans ?_
    rw [push_get, if_neg h1]; exact hb
  have c2 : (addSlots (σ.push (.cells [.int .i64 t.kind, .int .i64 t.of_, .str t.name])).n 6 (σ.push (.cells [.int .i64 t.kind, .int .i64 t.of_, .str t.name])) []).cells σ.n = some [.int .i64 t.kind, .int .i64 t.of_, .str t.name] :=
    (slots_old [] (by simp only [push_n]; omega)).trans (push_cells _ _)
  have hk := slots_keep (k := 6) (sl := []) ((Keeps.refl σ).push (.cells [.int .i64 t.kind, .int .i64 t.of_, .str t.name]))
  generalize addSlots (σ.push (.cells [.int .i64 t.kind, .int .i64 t.of_, .str t.name])).n 6 (σ.push (.cells [.int .i64 t.kind, .int .i64 t.of_, .str t.name])) [] = s1 at *
  have sg3 : ∀ a b c : AV, seg [a, b, c] 0 3 = [a, b, c] := fun _ _ _ => rfl
  simp only [WU, seval, strs_eq, c1, c2, sg3, hr, hfit, hall, evalEq, hE]
  refine ⟨?_, hk⟩
  simp
def alikeK (l : List Ty) : Bool := match l with | [] => true | a :: r => !(a :: r).any fun t => decide (t ≠ a)
theorem alike_st0 {l : List Ty} (hl : l.length ≤ 1000) (h0 : 0 < l.length) : AC Try.prog 54 [slc Ty.c l] st0 fun v s => v = .bool (alikeK l) := by
  refine ac_wp fn54 cf54 cl54 rfl ?_
  simp only [ac54]
  unfold ab54
  simp only [WU, seval, strs_eq]
  refine (contT_ac (p := fun t => decide (t ≠ l[0])) hl fun t σ' _ hk => alikeF_ac h0 ?_ ?_).mono ?_
  · rw [hk.cells (by simp only [push_n]; omega)]
    exact push_cells _ _
  · have := hk.1
    simp only [push_n, st0_n] at this
    omega
  rintro v s ⟨rfl, hk⟩
  simp only [WU, seval, strs_eq]
  cases l with
  | nil => simp at h0
  | cons a r => rfl
theorem alike_ac {l : List Ty} {σ : AState} (hl : l.length ≤ 1000) (h0 : 0 < l.length) : AC Try.prog 54 [slc Ty.c l] σ fun v s => s = σ ∧ v = .bool (alikeK l) :=
  AC.told (.cons (slc_fxd Ty.fxd l) .nil) rfl (alike_st0 hl h0)
end Go.Proofs.Ytcdbpmmomgehfaa.Va
set_option maxRecDepth 100000
set_option maxHeartbeats 4000000
set_option linter.all false
namespace Go.Proofs.Ytcdbpmmomgehfaa.Va
open Go.Proofs
def holdsB (s t : Ty) : Bool := decide (s.kind = 5) && decide (t = ⟨s.of_, 0, s.name⟩)
def uidsB (t : Ty) : Bool := decide (t.kind = 4) || (decide (t.kind = 5) && decide (t.of_ = 4))
theorem holds_ac {s t : Ty} {σ : AState} : AC Try.prog 57 [.agg s.c, .agg t.c] σ fun v s' => s' = σ ∧ v = .bool (holdsB s t) := by
  refine AC.told (.cons (.agg (Ty.fxd s)) (.cons (.agg (Ty.fxd t)) .nil)) rfl ?_
  refine ac_wp fn57 cf57 cl57 rfl ?_
  simp only [ac57]
  unfold ab57
  have sg3 : ∀ a b c : AV, seg [a, b, c] 0 3 = [a, b, c] := fun _ _ _ => rfl
  have hE := eqTys t ⟨s.of_, 0, s.name⟩
  unfold holdsB
  by_cases h5 : s.kind = 5
  · simp only [WU, seval, strs_eq, Ty.c_eq, h5, sg3, evalEq, hE]
  · simp only [WU, seval, strs_eq, Ty.c_eq, h5]
    rfl
theorem uids_ac {t : Ty} {σ : AState} : AC Try.prog 59 [.agg t.c] σ fun v s' => s' = σ ∧ v = .bool (uidsB t) := by
  refine AC.told (.cons (.agg (Ty.fxd t)) .nil) rfl ?_
  refine ac_wp fn59 cf59 cl59 rfl ?_
  simp only [ac59]
  unfold ab59
  unfold uidsB
  by_cases h4 : t.kind = 4
  · simp only [WU, seval, strs_eq, Ty.c_eq, h4]
    rfl
  by_cases h5 : t.kind = 5
  · simp only [WU, seval, strs_eq, Ty.c_eq, h4, h5]
    simp
  · simp only [WU, seval, strs_eq, Ty.c_eq, h4, h5]
    simp
/- ------------------------------------------------ uids -/
def actionT : Str := [65, 99, 116, 105, 111, 110]
def hasA (l : List Ac) (n : Str) : Bool := l.any fun a => decide (a.name = n)
theorem actV_bool (ks : List Ac) (n : Str) : ∃ cs, actV ks n = .tup [.agg cs, .bool (hasA ks n)] ∧ ∃ a b c, cs = [a, b, c] ∧ a.one = true ∧ b.one = true ∧ c.one = true := by
  unfold actV hasA
  cases h : ks.find? fun k => decide (k.name = n) with
  | none =>
    have : (ks.any fun k => decide (k.name = n)) = false := by
      rw [List.any_eq_false]; exact List.find?_eq_none.1 h
    rw [this]
    exact ⟨_, rfl, _, _, _, rfl, rfl, rfl, rfl⟩
  | some k =>
    have : (ks.any fun k => decide (k.name = n)) = true := by
      rw [List.any_eq_true]; exact ⟨k, List.mem_of_find?_eq_some h, by simpa using List.find?_some (p := fun k : Ac => decide (k.name = n)) h⟩
    rw [this]
    exact ⟨_, rfl, _, _, _, rfl, rfl, rfl, rfl⟩
def knownS (s : Sc) (ut ui : Str) : Bool := if ut = actionT then hasA s.acts ui else hasS s.kinds ut
structure ScM (s : Sc) : Prop where
  ok : s.ok
  k : ∀ k ∈ s.kinds, KdG k
  a : ∀ a ∈ s.acts, AcG a
theorem known_st0 {s : Sc} {ut ui : Str} (hs : ScM s) : AC Try.prog 42 [.agg s.c, .agg [.str ut, .str ui]] st0 fun v _ => v = .bool (knownS s ut ui) := by
  refine ac_wp fn42 cf42 cl42 rfl ?_
  simp only [ac42]
  unfold ab42
  have sg := scSeg s
  unfold knownS
  have hAc : ([65, 99, 116, 105, 111, 110] : List UInt8) = actionT := rfl
  by_cases ht : ut = actionT
  · obtain ⟨cs, hv, a, b, c, rfl, ha, hb, hc⟩ := actV_bool s.acts ui
    have hC : ∀ σ, AC Try.prog 60 [.agg s.c, .str ui] σ fun v s' => s' = σ ∧ v = actV s.acts ui := fun σ => act22_ac hs.ok hs.a
    simp only [Sc.c_eq, slc_eq, hv] at hC
    rw [if_pos ht]
    simp only [WU, seval, strs_eq, Sc.c_eq, hAc, ht, sg]
    refine (hC _).use ?_
    simp only [WU, seval, strs_eq, ha, hb, hc, storeA, sets, setx, TS]
  · obtain ⟨cs, hv, a, b, c, rfl, ha, hb, hc⟩ := kindV_bool s.kinds ut
    have hC : ∀ σ, AC Try.prog 61 [.agg s.c, .str ut] σ fun v s' => s' = σ ∧ v = kindV s.kinds ut := fun σ => kind20_ac hs.ok hs.k
    simp only [Sc.c_eq, slc_eq, hv] at hC
    rw [if_neg ht]
    simp only [WU, seval, strs_eq, Sc.c_eq, hAc, ht, sg]
    refine (hC _).use ?_
    simp only [WU, seval, strs_eq, ha, hb, hc, storeA, sets, setx, TS]
theorem known_ac {s : Sc} {ut ui : Str} {σ : AState} (hs : ScM s) : AC Try.prog 42 [.agg s.c, .agg [.str ut, .str ui]] σ fun v s' => s' = σ ∧ v = .bool (knownS s ut ui) :=
  AC.told (.cons (.agg (Sc.fxd s)) (.cons (.agg (.cons (.flat rfl) (.cons (.flat rfl) .nil))) .nil)) rfl (known_st0 hs)
end Go.Proofs.Ytcdbpmmomgehfaa.Va
set_option maxRecDepth 100000
set_option maxHeartbeats 4000000
set_option linter.all false
namespace Go.Proofs.Ytcdbpmmomgehfaa.Va
open Go.Proofs
def kindX (ks : List Kd) (n : Str) : Kd := match ks.find? (fun k => decide (k.name = n)) with | some k => k | none => ⟨[], [], []⟩
theorem kindV_X (ks : List Kd) (n : Str) : kindV ks n = .tup [.agg (kindX ks n).c, .bool (hasS ks n)] := by
  unfold kindV kindX hasS
  cases h : ks.find? fun k => decide (k.name = n) with
  | none =>
    have : (ks.any fun k => decide (k.name = n)) = false := by
      rw [List.any_eq_false]; exact List.find?_eq_none.1 h
    rw [this]; rfl
  | some k =>
    have : (ks.any fun k => decide (k.name = n)) = true := by
      rw [List.any_eq_true]; exact ⟨k, List.mem_of_find?_eq_some h, by simpa using List.find?_some (p := fun k : Kd => decide (k.name = n)) h⟩
    rw [this]
theorem kindX_len {ks : List Kd} (h : ∀ k ∈ ks, KdG k) (n : Str) : (kindX ks n).fields.length ≤ 4 := by
  unfold kindX
  cases hf : ks.find? fun k => decide (k.name = n) with
  | none => exact Nat.zero_le _
  | some k => exact (h k (List.mem_of_find?_eq_some hf)).fl
def fieldX (fs : List Fl) (n : Str) : Option Ty := (fs.find? fun f => decide (f.name = n)).map Fl.ty
def fieldT (s : Sc) (t : Ty) (n : Str) : AV := if t.kind ≠ 4 then tyE noTy 16 else match fieldX (kindX s.kinds t.name).fields n with | some u => tyE u 0 | none => tyE noTy 15
theorem fieldV_X (fs : List Fl) (n : Str) : fieldV fs n = match fieldX fs n with | some t => .tup [.agg t.c, .bool true] | none => .tup [.agg noTy.c, .bool false] := by
  unfold fieldV fieldX
  cases fs.find? fun f => decide (f.name = n) <;> rfl
theorem fieldT_ac {s : Sc} {t : Ty} {n : Str} {σ : AState} (hs : ScM s) : AC Try.prog 55 [.agg s.c, .agg t.c, .str n] σ fun v s' => s' = σ ∧ v = fieldT s t n := by
  have key : ∃ u e, fieldT s t n = tyE u e := by
    unfold fieldT
    split
    · exact ⟨_, _, rfl⟩
    · split
      · exact ⟨_, _, rfl⟩
      · exact ⟨_, _, rfl⟩
  obtain ⟨u, e, hue⟩ := key
  rw [hue]
  refine AC.toldE (.cons (.agg (Sc.fxd s)) (.cons (.agg (Ty.fxd t)) (.cons (.flat rfl) .nil))) ?_
  rw [← hue]
  refine ac_wp fn55 cf55 cl55 rfl ?_
  simp only [ac55]
  unfold ab55
  have sg := scSeg s
  have sg3 : ∀ a b c : AV, seg [a, b, c] 0 3 = [a, b, c] := fun _ _ _ => rfl
  have hC : ∀ σ, AC Try.prog 61 [.agg s.c, .str t.name] σ fun v s' => s' = σ ∧ v = kindV s.kinds t.name := fun σ => kind20_ac hs.ok hs.k
  have hF : ∀ σ, AC Try.prog 72 [.agg (kindX s.kinds t.name).c, .str n] σ fun v s' => s' = σ ∧ v = fieldV (kindX s.kinds t.name).fields n := fun σ => field23_ac (by have := kindX_len hs.k t.name; omega)
  simp only [Sc.c_eq, slc_eq, kindV_X] at hC
  have hdef : (t.kind = 4 → ∀ w, fieldX (kindX s.kinds t.name).fields n = some w → fieldT s t n = tyE w 0) ∧ (t.kind = 4 → fieldX (kindX s.kinds t.name).fields n = none → fieldT s t n = tyE noTy 15) :=
    ⟨fun h w hw => by unfold fieldT; rw [if_neg (by simpa using h), hw], fun h hw => by unfold fieldT; rw [if_neg (by simpa using h), hw]⟩
  generalize kindX s.kinds t.name = K at *
  simp only [Kd.c_eq, strs_eq, slc_eq, fieldV_X] at hF hC
  by_cases h4 : t.kind = 4
  · cases hfx : fieldX K.fields n with
    | none =>
      have hv : fieldT s t n = tyE noTy 15 := hdef.2 h4 hfx
      rw [hv]
      simp only [hfx] at hF
      simp only [WU, seval, strs_eq, Sc.c_eq, Ty.c_eq, h4, sg]
      refine (hC _).use ?_
      simp only [WU, seval, strs_eq, sg3, storeA, sets, setx, TS]
      refine (hF _).use ?_
      simp only [WU, seval, strs_eq, sg3, noTy, Ty.c_eq, storeA, sets, setx, TS]
      rfl
    | some w =>
      have hv : fieldT s t n = tyE w 0 := hdef.1 h4 w hfx
      rw [hv]
      simp only [hfx] at hF
      simp only [WU, seval, strs_eq, Sc.c_eq, Ty.c_eq, h4, sg]
      refine (hC _).use ?_
      simp only [WU, seval, strs_eq, sg3, storeA, sets, setx, TS]
      refine (hF _).use ?_
      simp only [WU, seval, strs_eq, sg3, Ty.c_eq, storeA, sets, setx, TS]
      rfl
  · have hv : fieldT s t n = tyE noTy 16 := by unfold fieldT; rw [if_pos h4]
    rw [hv]
    simp only [WU, seval, strs_eq, Sc.c_eq, Ty.c_eq, h4, storeA, sets, setx, TS]
    rfl
end Go.Proofs.Ytcdbpmmomgehfaa.Va
set_option maxRecDepth 100000
set_option maxHeartbeats 4000000
set_option linter.all false
namespace Go.Proofs.Ytcdbpmmomgehfaa.Va
open Go.Proofs
mutual
theorem Ex.fxd : (e : Ex) → FxdL e.c
  | .mk op b n s ut ui kids => .cons (.flat rfl) (.cons (.flat rfl) (.cons (.flat rfl) (.cons (.flat rfl) (.cons (.flat rfl) (.cons (.flat rfl) (.cons (.psl (Ex.fxds kids)) .nil))))))
theorem Ex.fxds : (l : List Ex) → FxdL (Ex.cs l)
  | [] => .nil
  | e :: r => (Ex.fxd e).append (Ex.fxds r)
end
theorem Ex.c_eq (op : Int) (b : Bool) (n : Int) (s ut ui : Str) (kids : List Ex) : (Ex.mk op b n s ut ui kids).c = [.int .i64 op, .bool b, .int .i64 n, .str s, .str ut, .str ui, slc Ex.c kids] := by
  rw [slc_eq, ← Ex.cs_eq]; rfl
def fewB (op : Int) (n : Nat) : Bool := if op = 6 then false else if op = 25 then decide ((n : Int) < 3) else if op = 7 ∨ op = 8 ∨ op = 10 ∨ op = 11 ∨ op = 12 then decide ((n : Int) < 1) else decide ((n : Int) < 2)
theorem few_ac {op : Int} {b : Bool} {n : Int} {s ut ui : Str} {kids : List Ex} {σ : AState} : AC Try.prog 39 [.agg (Ex.mk op b n s ut ui kids).c] σ fun v s' => s' = σ ∧ v = .bool (fewB op kids.length) := by
  refine AC.told (.cons (.agg (Ex.fxd _)) .nil) rfl ?_
  refine ac_wp fn39 cf39 cl39 rfl ?_
  simp only [ac39]
  unfold ab39
  unfold fewB
  rw [Ex.c_eq]
  by_cases h6 : op = 6
  · subst h6; simp only [WU, seval, strs_eq, if_true]
  by_cases h25 : op = 25
  · subst h25; simp only [WU, seval, strs_eq, Int.reduceEq, if_false, if_true]
  by_cases h7 : op = 7
  · subst h7; simp only [WU, seval, strs_eq, Int.reduceEq, if_false, if_true, true_or, or_true]
  by_cases h8 : op = 8
  · subst h8; simp only [WU, seval, strs_eq, Int.reduceEq, if_false, if_true, true_or, or_true]
  by_cases h10 : op = 10
  · subst h10; simp only [WU, seval, strs_eq, Int.reduceEq, if_false, if_true, true_or, or_true]
  by_cases h11 : op = 11
  · subst h11; simp only [WU, seval, strs_eq, Int.reduceEq, if_false, if_true, true_or, or_true]
  by_cases h12 : op = 12
  · subst h12; simp only [WU, seval, strs_eq, Int.reduceEq, if_false, if_true, true_or, or_true]
  simp only [WU, seval, strs_eq, h6, h25, h7, h8, h10, h11, h12, if_false, or_self]
end Go.Proofs.Ytcdbpmmomgehfaa.Va
set_option maxRecDepth 100000
set_option maxHeartbeats 4000000
set_option linter.all false
namespace Go.Proofs.Ytcdbpmmomgehfaa.Va
open Go.Proofs
def prinS : Str := [112, 114, 105, 110, 99, 105, 112, 97, 108]
def resoS : Str := [114, 101, 115, 111, 117, 114, 99, 101]
def leafT (S : Sc) (p r : Str) (op : Int) (s ut ui : Str) : AV :=
  if op = 1 then tyE ⟨1, 0, []⟩ 0 else if op = 2 then tyE ⟨2, 0, []⟩ 0 else if op = 3 then tyE ⟨3, 0, []⟩ 0
  else if op = 4 then (if knownS S ut ui = true then tyE ⟨4, 0, ut⟩ 0 else tyE noTy 15)
  else if s = prinS then tyE ⟨4, 0, p⟩ 0 else if s = resoS then tyE ⟨4, 0, r⟩ 0 else tyE ⟨4, 0, actionT⟩ 0
theorem leaf_ac {S : Sc} {p a r : Str} {op : Int} {b : Bool} {n : Int} {s ut ui : Str} {kids : List Ex} {σ : AState} (hs : ScM S) :
    AC Try.prog 38 [.agg S.c, .agg [.str p, .str a, .str r], .agg (Ex.mk op b n s ut ui kids).c] σ fun v s' => s' = σ ∧ v = leafT S p r op s ut ui := by
  have hfx : FxdL [.agg S.c, .agg [.str p, .str a, .str r], .agg (Ex.mk op b n s ut ui kids).c] := .cons (.agg (Sc.fxd S)) (.cons (.agg (.cons (.flat rfl) (.cons (.flat rfl) (.cons (.flat rfl) .nil)))) (.cons (.agg (Ex.fxd _)) .nil))
  rw [Ex.c_eq] at hfx ⊢
  have sg := scSeg S
  have hp : ([112, 114, 105, 110, 99, 105, 112, 97, 108] : List UInt8) = prinS := rfl
  have hr : ([114, 101, 115, 111, 117, 114, 99, 101] : List UInt8) = resoS := rfl
  have ha : ([65, 99, 116, 105, 111, 110] : List UInt8) = actionT := rfl
  have hrp : ¬ resoS = prinS := by decide
  have sgu : ∀ x1 x2 x3 x4 x5 x6 x7 : AV, seg [x1, x2, x3, x4, x5, x6, x7] 4 2 = [x5, x6] := fun _ _ _ _ _ _ _ => rfl
  by_cases h1 : op = 1
  · subst h1
    have hv : leafT S p r 1 s ut ui = tyE ⟨1, 0, []⟩ 0 := rfl
    rw [hv]
    refine AC.toldE hfx ?_
    refine ac_wp fn38 cf38 cl38 rfl ?_
    simp only [ac38]
    unfold ab38
    simp only [WU, seval, strs_eq, Sc.c_eq]
    refine truth_ac.use ?_
    simp only [WU, seval, strs_eq, Ty.c_eq, storeA, sets, setx, TS]
    rfl
  by_cases h2 : op = 2
  · subst h2
    have hv : leafT S p r 2 s ut ui = tyE ⟨2, 0, []⟩ 0 := rfl
    rw [hv]
    refine AC.toldE hfx ?_
    refine ac_wp fn38 cf38 cl38 rfl ?_
    simp only [ac38]
    unfold ab38
    simp only [WU, seval, strs_eq, Sc.c_eq]
    refine number_ac.use ?_
    simp only [WU, seval, strs_eq, Ty.c_eq, storeA, sets, setx, TS]
    rfl
  by_cases h3 : op = 3
  · subst h3
    have hv : leafT S p r 3 s ut ui = tyE ⟨3, 0, []⟩ 0 := rfl
    rw [hv]
    refine AC.toldE hfx ?_
    refine ac_wp fn38 cf38 cl38 rfl ?_
    simp only [ac38]
    unfold ab38
    simp only [WU, seval, strs_eq, Sc.c_eq, storeA, sets, setx, TS]
    rfl
  by_cases h4 : op = 4
  · subst h4
    have hC : ∀ σ, AC Try.prog 42 [.agg S.c, .agg [.str ut, .str ui]] σ fun v s' => s' = σ ∧ v = .bool (knownS S ut ui) := fun σ => known_ac hs
    simp only [Sc.c_eq, slc_eq] at hC
    cases hk : knownS S ut ui with
    | true =>
      have hv : leafT S p r 4 s ut ui = tyE ⟨4, 0, ut⟩ 0 := by simp [leafT, hk]
      rw [hv]
      refine AC.toldE hfx ?_
      refine ac_wp fn38 cf38 cl38 rfl ?_
      simp only [ac38]
      unfold ab38
      simp only [WU, seval, strs_eq, Sc.c_eq, sg, sgu]
      refine (hC _).use ?_
      simp only [WU, seval, strs_eq, hk]
      refine uidT_ac.use ?_
      simp only [WU, seval, strs_eq, Ty.c_eq, storeA, sets, setx, TS]
      rfl
    | false =>
      have hv : leafT S p r 4 s ut ui = tyE noTy 15 := by simp [leafT, hk]
      rw [hv]
      refine AC.toldE hfx ?_
      refine ac_wp fn38 cf38 cl38 rfl ?_
      simp only [ac38]
      unfold ab38
      simp only [WU, seval, strs_eq, Sc.c_eq, sg, sgu]
      refine (hC _).use ?_
      simp only [WU, seval, strs_eq, hk, Ty.c_eq, storeA, sets, setx, TS]
      rfl
  by_cases hs1 : s = prinS
  · have hv : leafT S p r op s ut ui = tyE ⟨4, 0, p⟩ 0 := by rw [leafT, if_neg h1, if_neg h2, if_neg h3, if_neg h4, if_pos hs1]
    rw [hv]
    refine AC.toldE hfx ?_
    refine ac_wp fn38 cf38 cl38 rfl ?_
    simp only [ac38]
    unfold ab38
    simp only [WU, seval, strs_eq, Sc.c_eq, h1, h2, h3, h4, hs1, hp, hr, ha]
    refine uidT_ac.use ?_
    simp only [WU, seval, strs_eq, Ty.c_eq, storeA, sets, setx, TS]
    rfl
  by_cases hs2 : s = resoS
  · have hv : leafT S p r op s ut ui = tyE ⟨4, 0, r⟩ 0 := by rw [leafT, if_neg h1, if_neg h2, if_neg h3, if_neg h4, if_neg hs1, if_pos hs2]
    rw [hv]
    refine AC.toldE hfx ?_
    refine ac_wp fn38 cf38 cl38 rfl ?_
    simp only [ac38]
    unfold ab38
    simp only [WU, seval, strs_eq, Sc.c_eq, h1, h2, h3, h4, hrp, hs2, hp, hr, ha]
    refine uidT_ac.use ?_
    simp only [WU, seval, strs_eq, Ty.c_eq, storeA, sets, setx, TS]
    rfl
  have hv : leafT S p r op s ut ui = tyE ⟨4, 0, actionT⟩ 0 := by rw [leafT, if_neg h1, if_neg h2, if_neg h3, if_neg h4, if_neg hs1, if_neg hs2]
  rw [hv]
  refine AC.toldE hfx ?_
  refine ac_wp fn38 cf38 cl38 rfl ?_
  simp only [ac38]
  unfold ab38
  simp only [WU, seval, strs_eq, Sc.c_eq, h1, h2, h3, h4, hs1, hs2, hp, hr, ha]
  refine uidT_ac.use ?_
  simp only [WU, seval, strs_eq, Ty.c_eq, storeA, sets, setx, TS]
  rfl
end Go.Proofs.Ytcdbpmmomgehfaa.Va
set_option maxRecDepth 100000
set_option maxHeartbeats 4000000
set_option linter.all false
namespace Go.Proofs.Ytcdbpmmomgehfaa.Va
open Go.Proofs
/- A type with an error, as one thing. -/
def tyP (x : Ty × Int) : AV := tyE x.1 x.2
def leafP (S : Sc) (p r : Str) (op : Int) (s ut ui : Str) : Ty × Int :=
  if op = 1 then (⟨1, 0, []⟩, 0) else if op = 2 then (⟨2, 0, []⟩, 0) else if op = 3 then (⟨3, 0, []⟩, 0)
  else if op = 4 then (if knownS S ut ui = true then (⟨4, 0, ut⟩, 0) else (noTy, 15))
  else if s = prinS then (⟨4, 0, p⟩, 0) else if s = resoS then (⟨4, 0, r⟩, 0) else (⟨4, 0, actionT⟩, 0)
theorem leafT_P (S : Sc) (p r : Str) (op : Int) (s ut ui : Str) : leafT S p r op s ut ui = tyP (leafP S p r op s ut ui) := by
  unfold leafT leafP
  by_cases h1 : op = 1
  · rw [if_pos h1, if_pos h1]; rfl
  rw [if_neg h1, if_neg h1]
  by_cases h2 : op = 2
  · rw [if_pos h2, if_pos h2]; rfl
  rw [if_neg h2, if_neg h2]
  by_cases h3 : op = 3
  · rw [if_pos h3, if_pos h3]; rfl
  rw [if_neg h3, if_neg h3]
  by_cases h4 : op = 4
  · rw [if_pos h4, if_pos h4]
    by_cases hk : knownS S ut ui = true
    · rw [if_pos hk, if_pos hk]; rfl
    · rw [if_neg hk, if_neg hk]; rfl
  rw [if_neg h4, if_neg h4]
  by_cases h5 : s = prinS
  · rw [if_pos h5, if_pos h5]; rfl
  rw [if_neg h5, if_neg h5]
  by_cases h6 : s = resoS
  · rw [if_pos h6, if_pos h6]; rfl
  rw [if_neg h6, if_neg h6]; rfl
def fieldP (s : Sc) (t : Ty) (n : Str) : Ty × Int := if t.kind ≠ 4 then (noTy, 16) else match fieldX (kindX s.kinds t.name).fields n with | some u => (u, 0) | none => (noTy, 15)
theorem fieldT_P (s : Sc) (t : Ty) (n : Str) : fieldT s t n = tyP (fieldP s t n) := by
  unfold fieldT fieldP
  by_cases h1 : t.kind ≠ 4
  · rw [if_pos h1, if_pos h1]; rfl
  rw [if_neg h1, if_neg h1]
  cases fieldX (kindX s.kinds t.name).fields n <;> rfl
def gotP (t : Ty) (b : Bool) : Ty × Int := if b = true then (t, 0) else (noTy, 16)
theorem gotP_ac {t : Ty} {b : Bool} {σ : AState} : AC Try.prog 56 [.agg t.c, .bool b] σ fun v s => s = σ ∧ v = tyP (gotP t b) := by
  have h : (if b = true then tyE t 0 else tyE noTy 16) = tyP (gotP t b) := by cases b <;> rfl
  rw [← h]; exact got_ac
def nodeP (S : Sc) (op : Int) (s : Str) (l : List Ty) : Ty × Int :=
  let t0 := l.headD noTy
  let t1 := (l.drop 1).headD noTy
  if op = 6 then (if 0 < l.length ∧ alikeK l = true ∧ t0.kind ≠ 5 then (⟨5, t0.kind, t0.name⟩, 0) else (noTy, 16))
  else if op = 7 then fieldP S t0 s
  else if op = 8 then gotP ⟨1, 0, []⟩ (decide (t0.kind = 4))
  else if op = 9 then gotP ⟨1, 0, []⟩ (holdsB t0 t1)
  else if op = 10 then gotP ⟨1, 0, []⟩ (decide (t0.kind = 3))
  else if op = 12 ∨ op = 13 ∨ op = 14 ∨ op = 15 then gotP ⟨2, 0, []⟩ (allK l 2)
  else if op = 16 ∨ op = 17 ∨ op = 18 ∨ op = 19 then gotP ⟨1, 0, []⟩ (allK l 2)
  else if op = 20 ∨ op = 21 then gotP ⟨1, 0, []⟩ (alikeK l || allK l 4)
  else if op = 22 then gotP ⟨1, 0, []⟩ (decide (t0.kind = 4) && uidsB t1)
  else if op = 11 ∨ op = 23 ∨ op = 24 then gotP ⟨1, 0, []⟩ (allK l 1)
  else gotP t1 (decide (t0.kind = 1) && decide (t1 = (l.drop 2).headD noTy))
mutual
/- What is told of a tree. -/
def ofP (S : Sc) (p r : Str) : Ex → Ty × Int
  | .mk op b n s ut ui kids => match ofPs S p r kids with
    | .error e => (noTy, e)
    | .ok l => if op < 6 then leafP S p r op s ut ui else if fewB op kids.length = true ∨ 25 < op then (noTy, 16) else nodeP S op s l
def ofPs (S : Sc) (p r : Str) : List Ex → Except Int (List Ty)
  | [] => .ok []
  | e :: es => if (ofP S p r e).2 ≠ 0 then .error (ofP S p r e).2 else match ofPs S p r es with
    | .error x => .error x
    | .ok l => .ok ((ofP S p r e).1 :: l)
end
theorem ofP_eq (S : Sc) (p r : Str) (op : Int) (b : Bool) (n : Int) (s ut ui : Str) (kids : List Ex) : ofP S p r (.mk op b n s ut ui kids) = match ofPs S p r kids with
    | .error e => (noTy, e)
    | .ok l => if op < 6 then leafP S p r op s ut ui else if fewB op kids.length = true ∨ 25 < op then (noTy, 16) else nodeP S op s l := by rw [ofP]
theorem ofPs_nil (S : Sc) (p r : Str) : ofPs S p r [] = .ok [] := by rw [ofPs]
theorem ofPs_cons (S : Sc) (p r : Str) (e : Ex) (es : List Ex) : ofPs S p r (e :: es) = if (ofP S p r e).2 ≠ 0 then .error (ofP S p r e).2 else match ofPs S p r es with
    | .error x => .error x
    | .ok l => .ok ((ofP S p r e).1 :: l) := by rw [ofPs]
theorem ofPs_len {S : Sc} {p r : Str} : ∀ {l : List Ex} {ts : List Ty}, ofPs S p r l = .ok ts → ts.length = l.length := by
  intro l
  induction l with
  | nil => intro ts h; rw [ofPs_nil] at h; cases h; rfl
  | cons e l ih =>
    intro ts h
    rw [ofPs_cons] at h
    split at h
    · cases h
    · split at h
      · cases h
      · rename_i l' he
        cases h
        simp [ih he]
theorem ofPs_append {S : Sc} {p r : Str} {m : List Ex} : ∀ {l : List Ex} {ts : List Ty}, ofPs S p r l = .ok ts → ofPs S p r (l ++ m) = match ofPs S p r m with
    | .error x => .error x
    | .ok us => .ok (ts ++ us) := by
  intro l
  induction l with
  | nil =>
    intro ts h
    rw [ofPs_nil] at h; cases h
    simp only [List.nil_append]
    cases ofPs S p r m <;> rfl
  | cons e l ih =>
    intro ts h
    rw [ofPs_cons] at h
    rw [List.cons_append, ofPs_cons]
    by_cases h0 : (ofP S p r e).2 ≠ 0
    · rw [if_pos h0] at h; cases h
    · rw [if_neg h0] at h ⊢
      split at h
      · cases h
      · rename_i l' he
        cases h
        rw [ih he]
        cases ofPs S p r m <;> rfl
theorem ofPs_step {S : Sc} {p r : Str} {l : List Ex} {ts : List Ty} {i : Nat} (h : i < l.length) (ht : ofPs S p r (l.take i) = .ok ts) (he : (ofP S p r l[i]).2 = 0) : ofPs S p r (l.take (i + 1)) = .ok (ts ++ [(ofP S p r l[i]).1]) := by
  rw [List.take_add_one, List.getElem?_eq_getElem h, Option.toList, ofPs_append ht, ofPs_cons, if_neg (by simpa using he), ofPs_nil]
theorem ofPs_err {S : Sc} {p r : Str} {l : List Ex} {ts : List Ty} {i : Nat} (h : i < l.length) (ht : ofPs S p r (l.take i) = .ok ts) (he : (ofP S p r l[i]).2 ≠ 0) : ofPs S p r l = .error (ofP S p r l[i]).2 := by
  conv => lhs; rw [← List.take_append_drop i l, List.drop_eq_getElem_cons h]
  rw [ofPs_append ht, ofPs_cons, if_pos he]
/- Trees such as may be: as many kids as the operation asks for. -/
def arity (op : Int) (n : Nat) : Prop :=
  (1 ≤ op ∧ op ≤ 5 ∧ n = 0) ∨ op = 6 ∨ ((op = 7 ∨ op = 8 ∨ op = 10 ∨ op = 11 ∨ op = 12) ∧ n = 1) ∨ ((op = 9 ∨ (13 ≤ op ∧ op ≤ 24)) ∧ n = 2) ∨ (op = 25 ∧ n = 3)
mutual
def Ex.wf : Ex → Prop
  | .mk op b n s ut ui kids => arity op kids.length ∧ kids.length ≤ 1000 ∧ Ex.wfs kids
def Ex.wfs : List Ex → Prop
  | [] => True
  | e :: es => Ex.wf e ∧ Ex.wfs es
end
theorem Ex.wf_eq (op : Int) (b : Bool) (n : Int) (s ut ui : Str) (kids : List Ex) : (Ex.mk op b n s ut ui kids).wf = (arity op kids.length ∧ kids.length ≤ 1000 ∧ Ex.wfs kids) := by rw [Ex.wf]
theorem Ex.wfs_all : ∀ {l : List Ex}, Ex.wfs l ↔ ∀ e ∈ l, e.wf := by
  intro l
  induction l with
  | nil => simp [Ex.wfs]
  | cons e l ih => rw [Ex.wfs, ih]; simp
end Go.Proofs.Ytcdbpmmomgehfaa.Va
