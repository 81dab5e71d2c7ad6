/- The reference: uids, leaves, all of a kind. Conditions: none. -/
import Derived.Test.YtcdbpmmomgehfaaTy15
set_option maxRecDepth 100000
set_option maxHeartbeats 4000000
set_option linter.all false
namespace Go.Proofs.Ytcdbpmmomgehfaa.Va
open Go.Proofs
/- A schema such as may be: no kind has the actions' name. -/
structure ScR (S : Sc) : Prop where
  m : ScM S
  na : ∀ k ∈ S.kinds, k.name ≠ actionT
theorem kN_act (j : Nat) : kN j ≠ actionT := by unfold kN; repeat' (first | decide | split)
theorem ScN.r {S : Sc} (h : ScN S) : ScR S := ⟨⟨h.g.ok, h.k, h.a⟩, fun k hk => by obtain ⟨j, _, e⟩ := h.kn k hk; rw [e]; exact kN_act j⟩
theorem kindX_act {S : Sc} (h : ScR S) : kindX S.kinds actionT = ⟨[], [], []⟩ := by
  unfold kindX
  have : S.kinds.find? (fun k => decide (k.name = actionT)) = none := List.find?_eq_none.2 fun k hk => by simpa using h.na k hk
  rw [this]
theorem fieldP_act {S : Sc} (h : ScR S) {t : Ty} (ht : t.kind = 4) (hn : t.name = actionT) (n : Str) : fieldP S t n = (noTy, 15) := by
  unfold fieldP
  rw [if_neg (by simpa using ht), hn, kindX_act h]
  rfl
theorem uidR_st0 {s : Sc} {ut ui : Str} (hs : ScM s) : AC Try.prog 43 [.agg s.c, .agg [.str ut, .str ui]] st0 fun v _ => v = .bool (knownS s ut ui) := by
  refine ac_wp fn43 cf43 cl43 rfl ?_
  simp only [ac43]
  unfold ab43
  have sg := scSeg s
  unfold knownS
  have hAc : ([65, 99, 116, 105, 111, 110] : List UInt8) = actionT := rfl
  by_cases ht : ut = actionT
  · obtain ⟨cs, hv, a, b, c, rfl, ha, hb, hc⟩ := actV_bool s.acts ui
    have hC : ∀ σ, AC Try.prog 62 [.agg s.c, .str ui] σ fun v s' => s' = σ ∧ v = actV s.acts ui := fun σ => actR_ac hs.ok
    simp only [Sc.c_eq, slc_eq, hv] at hC
    rw [if_pos ht]
    simp only [WU, seval, strs_eq, Sc.c_eq, hAc, ht, sg]
    refine (hC _).use ?_
    simp only [WU, seval, strs_eq, ha, hb, hc, storeA, sets, setx, TS]
  · obtain ⟨cs, hv, a, b, c, rfl, ha, hb, hc⟩ := kindV_bool s.kinds ut
    have hC : ∀ σ, AC Try.prog 45 [.agg s.c, .str ut] σ fun v s' => s' = σ ∧ v = kindV s.kinds ut := fun σ => kindR_ac hs.ok
    simp only [Sc.c_eq, slc_eq, hv] at hC
    rw [if_neg ht]
    simp only [WU, seval, strs_eq, Sc.c_eq, hAc, ht, sg]
    refine (hC _).use ?_
    simp only [WU, seval, strs_eq, ha, hb, hc, storeA, sets, setx, TS]
theorem uidR_ac {s : Sc} {ut ui : Str} {σ : AState} (hs : ScM s) : AC Try.prog 43 [.agg s.c, .agg [.str ut, .str ui]] σ fun v s' => s' = σ ∧ v = .bool (knownS s ut ui) :=
  AC.told (.cons (.agg (Sc.fxd s)) (.cons (.agg (.cons (.flat rfl) (.cons (.flat rfl) .nil))) .nil)) rfl (uidR_st0 hs)
theorem ofK_ac {k : Int} {σ : AState} : AC Try.prog 65 [.int .i64 k] σ fun v s => s = σ ∧ v = .agg (Ty.c ⟨k, 0, []⟩) := by
  refine AC.toldT (.cons (.flat rfl) .nil) ?_
  refine ac_wp fn65 cf65 cl65 rfl ?_
  simp only [ac65]
  unfold ab65
  simp only [WU, seval, strs_eq, storeA, sets, setx, TS]
  rfl
theorem needR_st0 {l : List Ty} {k to : Int} (hl : l.length ≤ 1000) : AC Try.prog 67 [slc Ty.c l, .int .i64 k, .int .i64 to] st0 fun v _ => v = tyP (gotP ⟨to, 0, []⟩ (allK l k)) := by
  refine ac_wp fn67 cf67 cl67 rfl ?_
  simp only [ac67]
  unfold ab67
  simp only [wpC_seq, wpC_skip, wpCK_normal]
  refine w_mid (fun ρ s => ρ.rd 0 = slc Ty.c l ∧ ρ.rd 1 = .int .i64 k ∧ ρ.rd 2 = .int .i64 to ∧ ρ.rd 6 = .ptr 0 0 ∧ s.cells 0 = some [.int .i64 0, .int .i64 0, .str []]) ?_ ?_
  · simp only [WU, seval, strs_eq]
  rintro ρ s ⟨h0, h1, h2, h6, c0⟩
  rw [wpC_seq]
  refine w_mid (fun ρ s => ρ.rd 2 = .int .i64 to ∧ ρ.rd 6 = .ptr 0 0 ∧ s.cells 0 = some [.int .i64 0, .int .i64 0, .str []] ∧ allK l k = true) ?_ ?_
  · simp only [WU, seval, strs_eq, h0, h1, h2, h6, c0]
    refine w_for (fun i ρ s => ρ.rd 8 = .int .i64 i ∧ ρ.rd 0 = slc Ty.c l ∧ ρ.rd 1 = .int .i64 k ∧ ρ.rd 2 = .int .i64 to ∧ ρ.rd 6 = .ptr 0 0 ∧ s.cells 0 = some [.int .i64 0, .int .i64 0, .str []] ∧ (l.take i).any (fun t => decide (t.kind ≠ k)) = false) l.length ?_ ?_
    · simp only [WU, seval, strs_eq, h0, h1, h2, h6, c0]
      first | done | exact ⟨rfl, rfl⟩ | exact rfl
    clear h0 h1 h2 h6 c0
    rintro i ρ s hi ⟨h8, h0, h1, h2, h6, c0, hno⟩
    by_cases hlt : i < l.length
    rotate_left
    · have : i = l.length := by omega
      subst this
      have hge : ¬ ((l.length : Nat) : Int) < ((l.length : Nat) : Int) := by omega
      rw [List.take_length] at hno
      simp only [WU, seval, strs_eq, h8, h0, h1, h2, h6, c0, hge]
      exact (by unfold allK; rw [hno]; rfl)
    have hr := lt_idx hlt
    have hlt' := hr.2
    have A := tyAt hlt
    have hw : IntKind.i64.wrap ((i : Int) + 1) = ((i + 1 : Nat) : Int) := wrap_succ (by omega)
    by_cases hk : l[i].kind = k
    · simp only [WU, seval, strs_eq, h8, h0, h1, h2, h6, c0, hlt', hr, A.g0, hk, hw]
      exact ⟨hlt, by rw [any_step hlt hno]; simp [hk]⟩
    · simp only [WU, seval, strs_eq, h8, h0, h1, h2, h6, c0, hlt', hr, A.g0, hk, storeA, sets, setx, TS]
      have : allK l k = false := by unfold allK; rw [any_yes hlt (by simpa using hk)]; rfl
      rw [this]; rfl
  clear h0 h1 h2 h6 c0
  rintro ρ s ⟨h2, h6, c0, hall⟩
  simp only [WU, seval, strs_eq, h2, h6, c0]
  refine ofK_ac.use ?_
  simp only [WU, seval, strs_eq, h6, c0, Ty.c_eq, storeA, sets, setx, TS, hall]
  rfl
theorem pur0_ty (s : AState) (t : Ty) : Pur s false (.agg t.c) (.agg t.c) := .agg _ _ rfl fun i hi hi' => by
  match i, hi with
  | 0, _ => exact .flat _ rfl
  | 1, _ => exact .flat _ rfl
  | 2, _ => exact .flat _ rfl
theorem pur0_tyP (s : AState) (x : Ty × Int) : Pur s false (tyP x) (tyP x) := .tup _ _ rfl fun i hi hi' => by
  match i, hi with
  | 0, _ => exact pur0_ty s x.1
  | 1, _ => exact .flat _ rfl
theorem AC.pureE {f : FuncId} {args args' : List AV} {σ : AState} {x : Ty × Int} (hp : PurL σ true args args') (h : AC Try.prog f args' st0 fun v _ => v = tyP x) : AC Try.prog f args σ fun v s => s = σ ∧ v = tyP x :=
  AC.pure (R := fun v => v = tyP x) hp (h.mono fun v s e => ⟨tyP x, by rw [e]; exact pur0_tyP s x, rfl⟩)
theorem needR_ac {l : List Ty} {k to : Int} {σ : AState} (hl : l.length ≤ 1000) : AC Try.prog 67 [slc Ty.c l, .int .i64 k, .int .i64 to] σ fun v s => s = σ ∧ v = tyP (gotP ⟨to, 0, []⟩ (allK l k)) :=
  AC.toldE (.cons (slc_fxd Ty.fxd l) (.cons (.flat rfl) (.cons (.flat rfl) .nil))) (needR_st0 hl)
theorem leafR_ac {S : Sc} {p a r : Str} {op : Int} {b : Bool} {n : Int} {s ut ui : Str} {kids : List Ex} {σ : AState} (hs : ScM S) :
    AC Try.prog 47 [.agg S.c, .agg [.str p, .str a, .str r], .agg (Ex.mk op b n s ut ui kids).c] σ fun v s' => s' = σ ∧ v = tyP (leafP S p r op s ut ui) := by
  have hfx : FxdL [.agg S.c, .agg [.str p, .str a, .str r], .agg (Ex.mk op b n s ut ui kids).c] := .cons (.agg (Sc.fxd S)) (.cons (.agg (.cons (.flat rfl) (.cons (.flat rfl) (.cons (.flat rfl) .nil)))) (.cons (.agg (Ex.fxd _)) .nil))
  refine AC.toldE hfx ?_
  rw [Ex.c_eq]
  have sg := scSeg S
  have hp : ([112, 114, 105, 110, 99, 105, 112, 97, 108] : List UInt8) = prinS := rfl
  have hr : ([114, 101, 115, 111, 117, 114, 99, 101] : List UInt8) = resoS := rfl
  have ha : ([65, 99, 116, 105, 111, 110] : List UInt8) = actionT := rfl
  have hrp : ¬ resoS = prinS := by decide
  have sgu : ∀ x1 x2 x3 x4 x5 x6 x7 : AV, seg [x1, x2, x3, x4, x5, x6, x7] 4 2 = [x5, x6] := fun _ _ _ _ _ _ _ => rfl
  by_cases h1 : op = 1
  · subst h1
    have hv : leafP S p r 1 s ut ui = (⟨1, 0, []⟩, 0) := rfl
    rw [hv]
    refine ac_wp fn47 cf47 cl47 rfl ?_
    simp only [ac47]
    unfold ab47
    simp only [WU, seval, strs_eq, Sc.c_eq]
    refine ofK_ac.use ?_
    simp only [WU, seval, strs_eq, Ty.c_eq, storeA, sets, setx, TS]
    rfl
  by_cases h2 : op = 2
  · subst h2
    have hv : leafP S p r 2 s ut ui = (⟨2, 0, []⟩, 0) := rfl
    rw [hv]
    refine ac_wp fn47 cf47 cl47 rfl ?_
    simp only [ac47]
    unfold ab47
    simp only [WU, seval, strs_eq, Sc.c_eq]
    refine ofK_ac.use ?_
    simp only [WU, seval, strs_eq, Ty.c_eq, storeA, sets, setx, TS]
    rfl
  by_cases h3 : op = 3
  · subst h3
    have hv : leafP S p r 3 s ut ui = (⟨3, 0, []⟩, 0) := rfl
    rw [hv]
    refine ac_wp fn47 cf47 cl47 rfl ?_
    simp only [ac47]
    unfold ab47
    simp only [WU, seval, strs_eq, Sc.c_eq]
    refine ofK_ac.use ?_
    simp only [WU, seval, strs_eq, Ty.c_eq, storeA, sets, setx, TS]
    rfl
  by_cases h4 : op = 4
  · subst h4
    have hC : ∀ σ, AC Try.prog 43 [.agg S.c, .agg [.str ut, .str ui]] σ fun v s' => s' = σ ∧ v = .bool (knownS S ut ui) := fun σ => uidR_ac hs
    simp only [Sc.c_eq, slc_eq] at hC
    cases hk : knownS S ut ui with
    | true =>
      have hv : leafP S p r 4 s ut ui = (⟨4, 0, ut⟩, 0) := by simp [leafP, hk]
      rw [hv]
      refine ac_wp fn47 cf47 cl47 rfl ?_
      simp only [ac47]
      unfold ab47
      simp only [WU, seval, strs_eq, Sc.c_eq, sg, sgu]
      refine (hC _).use ?_
      simp only [WU, seval, strs_eq, hk, Ty.c_eq, storeA, sets, setx, TS]
      rfl
    | false =>
      have hv : leafP S p r 4 s ut ui = (noTy, 15) := by simp [leafP, hk]
      rw [hv]
      refine ac_wp fn47 cf47 cl47 rfl ?_
      simp only [ac47]
      unfold ab47
      simp only [WU, seval, strs_eq, Sc.c_eq, sg, sgu]
      refine (hC _).use ?_
      simp only [WU, seval, strs_eq, hk, Ty.c_eq, storeA, sets, setx, TS]
      rfl
  by_cases hs1 : s = prinS
  · have hv : leafP S p r op s ut ui = (⟨4, 0, p⟩, 0) := by rw [leafP, if_neg h1, if_neg h2, if_neg h3, if_neg h4, if_pos hs1]
    rw [hv]
    refine ac_wp fn47 cf47 cl47 rfl ?_
    simp only [ac47]
    unfold ab47
    simp only [WU, seval, strs_eq, Sc.c_eq, h1, h2, h3, h4, hs1, hp, hr, ha, storeA, sets, setx, TS]
    rfl
  by_cases hs2 : s = resoS
  · have hv : leafP S p r op s ut ui = (⟨4, 0, r⟩, 0) := by rw [leafP, if_neg h1, if_neg h2, if_neg h3, if_neg h4, if_neg hs1, if_pos hs2]
    rw [hv]
    refine ac_wp fn47 cf47 cl47 rfl ?_
    simp only [ac47]
    unfold ab47
    simp only [WU, seval, strs_eq, Sc.c_eq, h1, h2, h3, h4, hrp, hs2, hp, hr, ha, storeA, sets, setx, TS]
    rfl
  have hv : leafP S p r op s ut ui = (⟨4, 0, actionT⟩, 0) := by rw [leafP, if_neg h1, if_neg h2, if_neg h3, if_neg h4, if_neg hs1, if_neg hs2]
  rw [hv]
  refine ac_wp fn47 cf47 cl47 rfl ?_
  simp only [ac47]
  unfold ab47
  simp only [WU, seval, strs_eq, Sc.c_eq, h1, h2, h3, h4, hs1, hs2, hp, hr, ha, storeA, sets, setx, TS]
  rfl
end Go.Proofs.Ytcdbpmmomgehfaa.Va
set_option maxRecDepth 100000
set_option maxHeartbeats 4000000
set_option linter.all false
namespace Go.Proofs.Ytcdbpmmomgehfaa.Va
open Go.Proofs
def okT (l : List Ty) (t0 : Ty) (i : Nat) : Bool := (l.take i).all fun t => decide (t = t0) && decide (t.kind ≠ 5)
theorem okT_step {l : List Ty} {t0 : Ty} {i : Nat} (h : i < l.length) (hi : okT l t0 i = true) : okT l t0 (i + 1) = (decide (l[i] = t0) && decide (l[i].kind ≠ 5)) := by
  unfold okT at *
  rw [List.take_add_one, List.all_append, hi, List.getElem?_eq_getElem h]
  simp
theorem okT_no {l : List Ty} {t0 : Ty} {i : Nat} (h : i < l.length) (hi : (decide (l[i] = t0) && decide (l[i].kind ≠ 5)) = false) : okT l t0 l.length = false := by
  unfold okT
  rw [List.take_length, List.all_eq_false]
  exact ⟨l[i], List.getElem_mem h, by rw [hi]; simp⟩
theorem okT_all {l : List Ty} (h : 0 < l.length) : okT l l[0] l.length = (alikeK l && decide (l[0].kind ≠ 5)) := by
  unfold okT
  rw [List.take_length]
  cases l with
  | nil => simp at h
  | cons a r =>
    simp only [alikeK, List.getElem_cons_zero]
    by_cases h5 : a.kind = 5
    · have : decide (a.kind ≠ 5) = false := by simpa using h5
      rw [this, Bool.and_false, List.all_eq_false]
      exact ⟨a, by simp, by simp [h5]⟩
    · have : decide (a.kind ≠ 5) = true := by simpa using h5
      rw [this, Bool.and_true]
      rw [Bool.eq_iff_iff]
      simp only [List.all_eq_true, Bool.not_eq_true', List.any_eq_false, Bool.and_eq_true, decide_eq_true_eq, decide_eq_false_iff_not, ne_eq, Decidable.not_not]
      constructor
      · intro hh x hx; exact (hh x hx).1
      · intro hh x hx; have := hh x hx; exact ⟨this, by rw [this]; exact h5⟩
theorem nodeP6 {S : Sc} {s : Str} {l : List Ty} (h : 0 < l.length) : nodeP S 6 s l = if okT l l[0] l.length = true then (⟨5, l[0].kind, l[0].name⟩, 0) else (noTy, 16) := by
  have hh : l.headD noTy = l[0] := by cases l with | nil => simp at h | cons a r => rfl
  have hv : nodeP S 6 s l = if 0 < l.length ∧ alikeK l = true ∧ l[0].kind ≠ 5 then (⟨5, l[0].kind, l[0].name⟩, 0) else (noTy, 16) := by rw [← hh]; rfl
  rw [hv, okT_all h]
  simp [h]
theorem own60_st0 {S : Sc} {b : Bool} {n : Int} {s ut ui : Str} {kids : List Ex} : AC Try.prog 48 [.agg S.c, .agg (Ex.mk 6 b n s ut ui kids).c, slc Ty.c []] st0 fun v _ => v = tyP (nodeP S 6 s []) := by
  rw [Ex.c_eq]
  have h0 : slc Ty.c [] = .psl [] 0 0 := rfl
  rw [h0]
  have hv : nodeP S 6 s [] = (noTy, 16) := rfl
  rw [hv]
  refine ac_wp fn48 cf48 cl48 rfl ?_
  simp only [ac48]
  unfold ab48
  have z00 : (0 : Int) = 0 := rfl
  simp only [WU, seval, strs_eq, Sc.c_eq, sg03, storeA, sets, setx, TS]
  refine w_for (fun i ρ s => ρ.rd 9 = .int .i64 i ∧ ρ.rd 2 = .psl [] 0 0 ∧ ρ.rd 6 = .ptr 2 0 ∧ ρ.rd 8 = .ptr 3 0 ∧ s.cells 2 = some [.int .i64 0, .int .i64 0, .str []] ∧ s.cells 3 = some [.int .i64 0, .int .i64 0, .str []] ∧ i = 0) 0 ?_ ?_
  · simp only [WU, seval, strs_eq]
    first | done | rfl
  rintro i ρ s hi ⟨h9, h2, h6, h8, c2, c3, rfl⟩
  simp only [WU, seval, strs_eq, h9, h2, h6, h8, c2, c3, z00, sg03, storeA, sets, setx, TS, Int.lt_irrefl]
  rfl
theorem own61_st0 {S : Sc} {l : List Ty} {b : Bool} {n : Int} {s ut ui : Str} {kids : List Ex} (hl : l.length ≤ 1000) (hpos : 0 < l.length) : AC Try.prog 48 [.agg S.c, .agg (Ex.mk 6 b n s ut ui kids).c, slc Ty.c l] st0 fun v _ => v = tyP (nodeP S 6 s l) := by
  rw [Ex.c_eq, nodeP6 hpos]
  refine ac_wp fn48 cf48 cl48 rfl ?_
  simp only [ac48]
  unfold ab48
  simp only [WU, seval, strs_eq, Sc.c_eq, sg03, storeA, sets, setx, TS]
  have A0 := tyAt hpos
  have fit0 := A0.fit
  have all0 := A0.all
  have g00 := A0.g0
  have g02 := A0.g2
  rw [Nat.zero_mul] at fit0 all0 g00
  rw [Nat.zero_mul, Nat.zero_add] at g02
  have hr0 : (0 : Int) < ((l.length : Nat) : Int) := by omega
  have hne : ¬ ((l.length : Nat) : Int) = 0 := by omega
  refine w_for (fun i ρ s => ρ.rd 9 = .int .i64 i ∧ ρ.rd 2 = slc Ty.c l ∧ ρ.rd 6 = .ptr 2 0 ∧ ρ.rd 8 = .ptr 3 0 ∧ s.cells 2 = some [.int .i64 0, .int .i64 0, .str []] ∧ s.cells 3 = some [.int .i64 0, .int .i64 0, .str []] ∧ okT l l[0] i = true) l.length ?_ ?_
  · simp only [WU, seval, strs_eq]
    first | done | exact ⟨rfl, rfl⟩ | exact rfl
  rintro i ρ s hi ⟨h9, h2, h6, h8, c2, c3, hok⟩
  by_cases hlt : i < l.length
  rotate_left
  · have : i = l.length := by omega
    subst this
    have hge : ¬ ((l.length : Nat) : Int) < ((l.length : Nat) : Int) := by omega
    rw [if_pos hok]
    simp only [WU, seval, strs_eq, h9, h2, h6, h8, c2, c3, hge, hne]
    refine w_dreg follow [] rfl ?_
    simp only [WU, seval, strs_eq, DU, h2, h6, h8, c2, c3, hr0, g00, g02, sl_cells, storeA, sets, setx, TS]
    refine ⟨⟨?_, ?_⟩, ?_⟩
    · intro l hl c hc hf
      simp only [List.mem_cons, List.mem_nil_iff, List.not_mem_nil, or_false] at hl hc
      rcases hl with rfl | rfl <;> rcases hc with rfl | rfl <;> dsimp only at hf ⊢ <;> first
        | (exact absurd hf (by decide +kernel))
        | (simp only [WU, seval, strs_eq, h2, g00, g02]; done)
    · intro sl hsl; simp at hsl
    · rfl
  have hr := lt_idx hlt
  have hlt' := hr.2
  have A := tyAt hlt
  have hw : IntKind.i64.wrap ((i : Int) + 1) = ((i + 1 : Nat) : Int) := wrap_succ (by omega)
  have hE := eqTys l[i] l[0]
  by_cases he : l[i] = l[0]
  · by_cases h5 : l[i].kind = 5
    · rw [if_neg (by rw [okT_no hlt (by simp [h5])]; simp)]
      simp only [WU, seval, strs_eq, h9, h2, h6, h8, c2, c3, hlt']
      refine w_dreg0 follow ?_ rfl
      simp only [WU, seval, strs_eq, h9, h2, h6, h8, c2, c3, sl_cells, hr, hr0, A.fit, A.all, A.g0, fit0, all0, evalEq, hE, decide_eq_true he, decide_eq_true h5, sg03, storeA, sets, setx, TS]
      rfl
    · simp only [WU, seval, strs_eq, h9, h2, h6, h8, c2, c3, hlt']
      refine w_dreg0 follow ?_ rfl
      simp only [WU, seval, strs_eq, h9, h2, h6, h8, c2, c3, sl_cells, hr, hr0, A.fit, A.all, A.g0, fit0, all0, evalEq, hE, decide_eq_true he, h5, hw]
      exact ⟨hlt, by rw [okT_step hlt hok]; simp [he]; rw [← he]; exact h5⟩
  · rw [if_neg (by rw [okT_no hlt (by simp [he])]; simp)]
    simp only [WU, seval, strs_eq, h9, h2, h6, h8, c2, c3, hlt']
    refine w_dreg0 follow ?_ rfl
    simp only [WU, seval, strs_eq, h9, h2, h6, h8, c2, c3, sl_cells, hr, hr0, A.fit, A.all, A.g0, fit0, all0, evalEq, hE, decide_eq_false he, storeA, sets, setx, TS, sg03]
    rfl
end Go.Proofs.Ytcdbpmmomgehfaa.Va
