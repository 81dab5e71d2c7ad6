/- Trees that are made to be of a type: what they are, plain ones. Conditions: none. -/
import Derived.Test.YtcdbpmmomgehfaaTM
import Derived.Test.YtcdbpmmomgehfaaTy28
import Derived.Test.YtcdbpmmomgehfaaTy23
set_option maxRecDepth 100000
set_option maxHeartbeats 4000000
set_option linter.all false
namespace Go.Proofs.Ytcdbpmmomgehfaa.Va
open Go.Proofs
def rw0 : Rw := .mk 0 0 [] []
def kidM : Rw → Nat → Rw
  | .mk w n s kids, i => if kids = [] then .mk (IntKind.i64.wrap (IntKind.i64.wrap (w + IntKind.i64.wrap (7 * (i : Int))) + 1)) (IntKind.i64.wrap (n + (i : Int))) s [] else kids.getD (i % kids.length) rw0
theorem kidM_ok {r : Rw} (h : r.ok) (i : Nat) : (kidM r i).ok := by
  obtain ⟨w, n, s, kids⟩ := r
  rw [Rw.ok_eq] at h
  unfold kidM
  dsimp only
  split
  · rw [Rw.ok_eq]; exact ⟨h.1, by simp, by simp [Rw.oks]⟩
  · rename_i hne
    have h0 : 0 < kids.length := List.length_pos_iff.2 hne
    have hlt : i % kids.length < kids.length := Nat.mod_lt _ h0
    rw [List.getD_eq_getElem?_getD, List.getElem?_eq_getElem hlt]
    exact Rw.oks_all.1 h.2.2 _ (List.getElem_mem hlt)
mutual
theorem pur_rw (σ : AState) : (e : Rw) → ∀ a ∈ e.c, Pur σ true a a
  | .mk op n s kids => by
    intro a ha
    rw [Rw.c_eq] at ha
    simp only [List.mem_cons, List.not_mem_nil, or_false] at ha
    rcases ha with rfl | rfl | rfl | rfl
    · exact .flat _ rfl
    · exact .flat _ rfl
    · exact .psl' fun a ha => by
        obtain ⟨x, _, rfl⟩ := List.mem_map.1 ha
        exact .flat _ rfl
    · rw [slc_eq, ← Rw.cs_eq]
      exact .psl' (pur_rws σ kids)
theorem pur_rws (σ : AState) : (l : List Rw) → ∀ a ∈ Rw.cs l, Pur σ true a a
  | [] => by intro a ha; cases ha
  | e :: r => by
    intro a ha
    rw [Rw.cs, List.mem_append] at ha
    rcases ha with ha | ha
    · exact pur_rw σ e a ha
    · exact pur_rws σ r a ha
end
theorem pur_ints (σ : AState) (l : List Int) : Pur σ true (.psl (ofInts l) 0 l.length) (.psl (ofInts l) 0 l.length) := .psl' fun a ha => by
  obtain ⟨x, _, rfl⟩ := List.mem_map.1 ha
  exact .flat _ rfl
theorem tmod_nat' (a b : Nat) : ((a : Nat) : Int).tmod ((b : Nat) : Int) = ((a % b : Nat) : Int) := by
  rw [Int.tmod_eq_emod_of_nonneg (by omega)]; rfl
theorem sg04 (a b c d : AV) : seg [a, b, c, d] 0 4 = [a, b, c, d] := Eq.trans rfl rfl
theorem kid_st0 {r : Rw} {i : Nat} (hr : r.ok) (hi : i < 1000) : AC Try.prog 68 [.agg r.c, .int .i64 i] st0 fun v s => ∃ a, Pur s true v a ∧ a = .agg (kidM r i).c := by
  obtain ⟨w, n, s, kids⟩ := r
  rw [Rw.ok_eq] at hr
  have hmost : Most = 9223372036854775807 := rfl
  rw [Rw.c_eq]
  by_cases hk : kids = []
  · have hv : kidM (.mk w n s kids) i = .mk (IntKind.i64.wrap (IntKind.i64.wrap (w + IntKind.i64.wrap (7 * (i : Int))) + 1)) (IntKind.i64.wrap (n + (i : Int))) s [] := by rw [kidM, if_pos hk]
    rw [hv]
    subst hk
    refine ac_wp fn68 cf68 cl68 rfl ?_
    simp only [ac68]
    unfold ab68
    simp only [WU, seval, strs_eq, ints_eq, List.length_nil, sg04, storeA, sets, setx, TS]
    refine ⟨_, .agg _ _ (by rw [Rw.c_eq]; rfl) (fun j hj hj' => ?_), rfl⟩
    simp only [Rw.c_eq, ints_eq]
    match j, hj with
    | 0, _ => exact .flat _ rfl
    | 1, _ => exact .flat _ rfl
    | 2, _ => exact pur_ints _ s
    | 3, _ => exact .nils _ _
  · have h0 : 0 < kids.length := List.length_pos_iff.2 hk
    have hm : i % kids.length < kids.length := Nat.mod_lt _ h0
    have hv : kidM (.mk w n s kids) i = kids[i % kids.length] := by
      rw [kidM, if_neg hk, List.getD_eq_getElem?_getD, List.getElem?_eq_getElem hm]; rfl
    rw [hv]
    have hk0 : ¬ ((kids.length : Nat) : Int) = 0 := by omega
    have hrem := ei_rem .i64 i kids.length (by omega)
    rw [tmod_nat'] at hrem
    have hrr := lt_idx hm
    have hfit := rowc_fit Rw.c_len hm
    have hall := rowc_seg Rw.c_len hm
    have hp := fun σ => pur_rw σ kids[i % kids.length]
    generalize kids[i % kids.length] = K at *
    obtain ⟨kw, kn, ks, kk⟩ := K
    simp only [Rw.c_eq, ints_eq, slc_eq] at hall hp ⊢
    refine ac_wp fn68 cf68 cl68 rfl ?_
    simp only [ac68]
    unfold ab68
    simp only [WU, seval, strs_eq, hk0]
    refine w_dreg follow [] rfl ?_
    simp only [WU, seval, strs_eq, DU, sl_cells, hrem, hrr, hfit, hall, storeA, sets, setx, TS]
    refine ⟨⟨?_, ?_⟩, ?_⟩
    · intro l hl c hc hf
      simp only [List.mem_cons, List.mem_nil_iff, List.not_mem_nil, or_false] at hl hc
      rcases hl with rfl | rfl | rfl <;> rcases hc with rfl | rfl <;> dsimp only at hf ⊢ <;> first
        | (exact absurd hf (by decide +kernel))
        | (simp only [WU, seval, strs_eq, sl_cells, hfit, hall]; done)
    · intro sl hsl; simp at hsl
    · simp only [WU, seval, strs_eq, sg04]
      exact ⟨_, .agg _ _ rfl (fun j hj hj' => hp _ _ (List.getElem_mem hj)), rfl⟩
theorem kid_ac {r : Rw} {i : Nat} {σ : AState} (hr : r.ok) (hi : i < 1000) : AC Try.prog 68 [.agg r.c, .int .i64 i] σ fun v s => s = σ ∧ v = .agg (kidM r i).c :=
  AC.share (.cons (.agg (Rw.fxd r)) (.cons (.flat rfl) .nil)) (kid_st0 hr hi)
/- ------------------------------------------------ types that are asked for -/
def someT (p r : Str) (n : Int) : Ty := if wi n 5 = 0 then ⟨1, 0, []⟩ else if wi n 5 = 1 then ⟨2, 0, []⟩ else if wi n 5 = 2 then ⟨3, 0, []⟩ else if wi n 5 = 3 then ⟨4, 0, p⟩ else ⟨4, 0, r⟩
def mkC (S : Sc) (p a r : Str) (d : Int) : List AV := [slc Kd.c S.kinds, slc Ac.c S.acts, .str p, .str a, .str r, .int .i64 d]
theorem mkC_fxd (S : Sc) (p a r : Str) (d : Int) : FxdL (mkC S p a r d) := .cons (slc_fxd Kd.fxd _) (.cons (slc_fxd Ac.fxd _) (.cons (.flat rfl) (.cons (.flat rfl) (.cons (.flat rfl) (.cons (.flat rfl) .nil)))))
theorem mkC_eq (S : Sc) (p a r : Str) (d : Int) : mkC S p a r d = [slc Kd.c S.kinds, slc Ac.c S.acts, .str p, .str a, .str r, .int .i64 d] := Eq.trans rfl rfl
theorem some_ac {S : Sc} {p a r : Str} {d n : Int} {σ : AState} : AC Try.prog 18 [.agg (mkC S p a r d), .int .i64 n] σ fun v s => s = σ ∧ v = .agg (someT p r n).c := by
  refine AC.toldT (.cons (.agg (mkC_fxd S p a r d)) (.cons (.flat rfl) .nil)) ?_
  rw [mkC_eq]
  have hwr := wi_range n (n := 5) (by decide)
  rcases (by omega : wi n 5 = 0 ∨ wi n 5 = 1 ∨ wi n 5 = 2 ∨ wi n 5 = 3 ∨ wi n 5 = 4) with h | h | h | h | h
  · have hv : someT p r n = ⟨1, 0, []⟩ := by rw [someT, if_pos h]
    rw [hv]
    refine ac_wp fn18 cf18 cl18 rfl ?_
    simp only [ac18]
    unfold ab18
    simp only [WU, seval, strs_eq]
    refine (within11_ac (by decide) (by decide)).use ?_
    simp only [WU, seval, strs_eq, h, sg03, storeA, sets, setx, TS]
    rfl
  · have hv : someT p r n = ⟨2, 0, []⟩ := by rw [someT, if_neg (by omega), if_pos h]
    rw [hv]
    refine ac_wp fn18 cf18 cl18 rfl ?_
    simp only [ac18]
    unfold ab18
    simp only [WU, seval, strs_eq]
    refine (within11_ac (by decide) (by decide)).use ?_
    simp only [WU, seval, strs_eq, h, sg03, storeA, sets, setx, TS]
    rfl
  · have hv : someT p r n = ⟨3, 0, []⟩ := by rw [someT, if_neg (by omega), if_neg (by omega), if_pos h]
    rw [hv]
    refine ac_wp fn18 cf18 cl18 rfl ?_
    simp only [ac18]
    unfold ab18
    simp only [WU, seval, strs_eq]
    refine (within11_ac (by decide) (by decide)).use ?_
    simp only [WU, seval, strs_eq, h, sg03, storeA, sets, setx, TS]
    rfl
  · have hv : someT p r n = ⟨4, 0, p⟩ := by rw [someT, if_neg (by omega), if_neg (by omega), if_neg (by omega), if_pos h]
    rw [hv]
    refine ac_wp fn18 cf18 cl18 rfl ?_
    simp only [ac18]
    unfold ab18
    simp only [WU, seval, strs_eq]
    refine (within11_ac (by decide) (by decide)).use ?_
    simp only [WU, seval, strs_eq, h, sg03, storeA, sets, setx, TS]
    rfl
  · have hv : someT p r n = ⟨4, 0, r⟩ := by rw [someT, if_neg (by omega), if_neg (by omega), if_neg (by omega), if_neg (by omega)]
    rw [hv]
    refine ac_wp fn18 cf18 cl18 rfl ?_
    simp only [ac18]
    unfold ab18
    simp only [WU, seval, strs_eq]
    refine (within11_ac (by decide) (by decide)).use ?_
    simp only [WU, seval, strs_eq, h, sg03, storeA, sets, setx, TS]
    rfl
def nameK (S : Sc) (n : Str) : Prop := hasS S.kinds n = true
/- Types such as are asked for: their names are kinds'. -/
def TyB (S : Sc) (t : Ty) : Prop := t.of_ = 0 ∧ (((t.kind = 1 ∨ t.kind = 2 ∨ t.kind = 3) ∧ t.name = []) ∨ (t.kind = 4 ∧ hasS S.kinds t.name = true))
def TyK (S : Sc) (t : Ty) : Prop := TyB S t ∨ (t.kind = 5 ∧ TyB S ⟨t.of_, 0, t.name⟩)
theorem TyB.k {S : Sc} {t : Ty} (h : TyB S t) : t.kind = 1 ∨ t.kind = 2 ∨ t.kind = 3 ∨ t.kind = 4 := by
  rcases h.2 with ⟨h1, _⟩ | ⟨h1, _⟩ <;> omega
theorem someT_ok {S : Sc} {p r : Str} (hp : hasS S.kinds p = true) (hr : hasS S.kinds r = true) (n : Int) : TyB S (someT p r n) := by
  unfold someT
  split
  · exact ⟨rfl, .inl ⟨.inl rfl, rfl⟩⟩
  · split
    · exact ⟨rfl, .inl ⟨.inr (.inl rfl), rfl⟩⟩
    · split
      · exact ⟨rfl, .inl ⟨.inr (.inr rfl), rfl⟩⟩
      · split
        · exact ⟨rfl, .inr ⟨rfl, hp⟩⟩
        · exact ⟨rfl, .inr ⟨rfl, hr⟩⟩
/- ------------------------------------------------ plain ones -/
def quoI (n k : Int) : Int := IntKind.i64.wrap (n.tdiv k)
theorem ei_quo (n k : Int) (h : k ≠ 0) : evalInt .quo .i64 n k = some (.int .i64 (quoI n k)) := by
  have : evalInt .quo .i64 n k = if k = 0 then none else some (.int .i64 (IntKind.i64.wrap (n.tdiv k))) := rfl
  rw [this, if_neg h]; rfl
def chB (n : Int) : UInt8 := b8 (IntKind.i64.wrap (97 + wi (quoI n 3) 5))
def leafM (p r : Str) (t : Ty) : Rw → Ex
  | .mk _ n s _ =>
    if t.kind = 1 then .mk 1 (decide (n.tmod 2 = 0)) 0 [] [] [] []
    else if t.kind = 2 then .mk 2 false (bigN n) [] [] [] []
    else if t.kind = 3 then .mk 3 false 0 (idS s) [] [] []
    else if t.name = p ∧ n.tmod 3 = 0 then .mk 5 false 0 prinS [] [] []
    else if t.name = r ∧ n.tmod 3 = 1 then .mk 5 false 0 resoS [] [] []
    else .mk 4 false 0 [] t.name [chB n] []
def plainX (p r : Str) (t : Ty) (w : Rw) : Ex := if t.kind = 5 then .mk 6 false 0 [] [] [] [leafM p r ⟨t.of_, 0, t.name⟩ w] else leafM p r t w
theorem leafM_wf (p r : Str) (t : Ty) (w : Rw) : (leafM p r t w).wf := by
  obtain ⟨op, n, s, kids⟩ := w
  unfold leafM
  repeat' (first | exact wf_leaf (by decide) (by decide) | split)
theorem leafM_of {S : Sc} (hS : ScR S) {p r : Str} {t : Ty} (ht : TyB S t) (w : Rw) : ofP S p r (leafM p r t w) = (t, 0) := by
  obtain ⟨op, n, s, kids⟩ := w
  obtain ⟨tk, tof, tn⟩ := t
  obtain ⟨h0, h1⟩ := ht
  simp only at h0 h1
  subst h0
  have hl : ∀ (o : Int) b m x u v, o < 6 → ofP S p r (.mk o b m x u v []) = leafP S p r o x u v := fun o b m x u v ho => ofP_leaf (by rw [ofPs_nil]) ho
  unfold leafM
  dsimp only
  rcases h1 with ⟨h1 | h1 | h1, h2⟩ | ⟨h1, h2⟩
  · subst h1; subst h2; rw [if_pos rfl, hl _ _ _ _ _ _ (by decide)]; rfl
  · subst h1; subst h2; rw [if_neg (by simp), if_pos rfl, hl _ _ _ _ _ _ (by decide)]; rfl
  · subst h1; subst h2; rw [if_neg (by simp), if_neg (by simp), if_pos rfl, hl _ _ _ _ _ _ (by decide)]; rfl
  · subst h1
    rw [if_neg (by simp), if_neg (by simp), if_neg (by simp)]
    by_cases c1 : tn = p ∧ n.tmod 3 = 0
    · rw [if_pos c1, hl _ _ _ _ _ _ (by decide), c1.1]
      unfold leafP
      rw [if_neg (by decide), if_neg (by decide), if_neg (by decide), if_neg (by decide), if_pos rfl]
    rw [if_neg c1]
    by_cases c2 : tn = r ∧ n.tmod 3 = 1
    · rw [if_pos c2, hl _ _ _ _ _ _ (by decide), c2.1]
      have hne : ¬ resoS = prinS := by decide
      unfold leafP
      rw [if_neg (by decide), if_neg (by decide), if_neg (by decide), if_neg (by decide), if_neg hne, if_pos rfl]
    rw [if_neg c2, hl _ _ _ _ _ _ (by decide)]
    have hna : tn ≠ actionT := by
      intro e
      rw [e] at h2
      unfold hasS at h2
      rw [List.any_eq_true] at h2
      obtain ⟨k, hk, hk2⟩ := h2
      exact hS.na k hk (by simpa using hk2)
    have hkn : knownS S tn [chB n] = true := by unfold knownS; rw [if_neg hna]; exact h2
    unfold leafP
    rw [if_neg (by decide), if_neg (by decide), if_neg (by decide), if_pos rfl, if_pos hkn]
theorem wf_set {b : Bool} {n : Int} {s u v : Str} {l : List Ex} (hl : l.length ≤ 1000) (h : ∀ e ∈ l, e.wf) : (Ex.mk 6 b n s u v l).wf := by
  rw [Ex.wf_eq]; exact ⟨.inr (.inl rfl), hl, Ex.wfs_all.2 h⟩
theorem ofPs_same {S : Sc} {p r : Str} {t : Ty} : ∀ {l : List Ex}, (∀ e ∈ l, ofP S p r e = (t, 0)) → ofPs S p r l = .ok (List.replicate l.length t) := by
  intro l
  induction l with
  | nil => intro _; rw [ofPs_nil]; rfl
  | cons e l ih =>
    intro h
    rw [ofPs_cons, h e (by simp), if_neg (by simp), ih fun e he => h e (by simp [he])]
    rfl
theorem ofP_set {S : Sc} {p r : Str} {b : Bool} {n : Int} {s u v : Str} {l : List Ex} {t : Ty} (h0 : 0 < l.length) (h5 : t.kind ≠ 5) (h : ∀ e ∈ l, ofP S p r e = (t, 0)) : ofP S p r (.mk 6 b n s u v l) = (⟨5, t.kind, t.name⟩, 0) := by
  rw [ofP_node (ofPs_same h) (by decide) (.inr (.inl rfl))]
  have h1 : 0 < (List.replicate l.length t).length := by simpa using h0
  rw [nodeP6 h1]
  have h2 : (List.replicate l.length t)[0] = t := by simp
  rw [h2, if_pos]
  unfold okT
  rw [List.all_eq_true]
  intro x hx
  have := List.eq_of_mem_replicate (List.mem_of_mem_take hx)
  subst this
  simpa using h5
theorem plainX_wf (p r : Str) (t : Ty) (w : Rw) : (plainX p r t w).wf := by
  unfold plainX
  split
  · exact wf_set (by simp) (by simpa using leafM_wf _ _ _ _)
  · exact leafM_wf _ _ _ _
theorem plainX_of {S : Sc} (hS : ScR S) {p r : Str} {t : Ty} (ht : TyK S t) (w : Rw) : ofP S p r (plainX p r t w) = (t, 0) := by
  unfold plainX
  rcases ht with ht | ⟨h5, ht⟩
  · rw [if_neg (by have := ht.k; omega)]; exact leafM_of hS ht w
  · rw [if_pos h5, ofP_set (t := ⟨t.of_, 0, t.name⟩) (by simp) (by have := ht.k; simp only at this; simp only [ne_eq]; omega) (by simpa using leafM_of hS ht w)]
    obtain ⟨a, b, c⟩ := t
    simp only at h5
    subst h5; rfl
end Go.Proofs.Ytcdbpmmomgehfaa.Va
set_option maxRecDepth 100000
set_option maxHeartbeats 4000000
set_option linter.all false
namespace Go.Proofs.Ytcdbpmmomgehfaa.Va
open Go.Proofs
theorem within11G_ac {x : Int} {σ : AState} : AC Try.prog 21 [.int .i64 x, .int .i64 4611686018427387904] σ fun v s => s = σ ∧ v = .int .i64 (bigN x) := by
  have hr := ei_rem .i64 x 4611686018427387904 (by decide)
  unfold bigN
  by_cases h : x.tmod 4611686018427387904 < 0
  · rw [if_pos h]
    refine ac_wp fn21 cf21 cl21 rfl ?_
    simp only [ac21]
    unfold ab21
    simp only [WU, seval, strs_eq, hr, h]
  · rw [if_neg h]
    refine ac_wp fn21 cf21 cl21 rfl ?_
    simp only [ac21]
    unfold ab21
    simp only [WU, seval, strs_eq, hr, h]
theorem mk_fxd {S : Sc} {p a r : Str} {t : Ty} {w : Rw} : FxdL [.agg S.c, .agg [.str p, .str a, .str r], .agg t.c, .agg w.c] :=
  .cons (.agg (Sc.fxd S)) (.cons (.agg (env_fxd p a r)) (.cons (.agg (Ty.fxd t)) (.cons (.agg (Rw.fxd w)) .nil)))
theorem plainB_st0 {S : Sc} {p a r : Str} {t : Ty} {w : Rw} (ht : TyB S t) (hw : w.ok) : AC Try.prog 49 [.agg S.c, .agg [.str p, .str a, .str r], .agg t.c, .agg w.c] st0 fun v s => ∃ x, Pur s true v x ∧ x = .agg (leafM p r t w).c := by
  obtain ⟨wo, wn, wsx, wk⟩ := w
  rw [Rw.ok_eq] at hw
  have hk := ht.k
  simp only [Rw.c_eq, Sc.c_eq, Ty.c_eq, ints_eq, slc_eq]
  by_cases h1 : t.kind = 1
  · have hv : leafM p r t (.mk wo wn wsx wk) = .mk 1 (decide (wn.tmod 2 = 0)) 0 [] [] [] [] := by rw [leafM, if_pos h1]
    rw [hv]
    have he := ei_rem .i64 wn 2 (by decide)
    refine ac_wp fn49 cf49 cl49 rfl ?_
    simp only [ac49]
    unfold ab49
    simp only [WU, seval, strs_eq, h1, he, sg07, storeA, sets, setx, TS]
    exact ⟨_, pur_leafX, rfl⟩
  by_cases h2 : t.kind = 2
  · have hv : leafM p r t (.mk wo wn wsx wk) = .mk 2 false (bigN wn) [] [] [] [] := by rw [leafM, if_neg h1, if_pos h2]
    rw [hv]
    refine ac_wp fn49 cf49 cl49 rfl ?_
    simp only [ac49]
    unfold ab49
    simp only [WU, seval, strs_eq, h2]
    refine within11G_ac.use ?_
    simp only [WU, seval, strs_eq, sg07, storeA, sets, setx, TS]
    exact ⟨_, pur_leafX, rfl⟩
  by_cases h3 : t.kind = 3
  · have hv : leafM p r t (.mk wo wn wsx wk) = .mk 3 false 0 (idS wsx) [] [] [] := by rw [leafM, if_neg h1, if_neg h2, if_pos h3]
    rw [hv]
    have hI : ∀ σ, AC Try.prog 23 [.int .i64 0, ints wsx] σ fun v s' => s' = σ ∧ v = .agg [.str (uidT (wi 0 5)), .str (idS wsx)] := fun σ => uidL_ac hw.1
    simp only [ints_eq] at hI
    refine ac_wp fn49 cf49 cl49 rfl ?_
    simp only [ac49]
    unfold ab49
    simp only [WU, seval, strs_eq, h3]
    refine (hI _).use ?_
    simp only [WU, seval, strs_eq, sg07, storeA, sets, setx, TS]
    exact ⟨_, pur_leafX, rfl⟩
  have h4 : t.kind = 4 := by omega
  have h5 : ¬ t.kind = 5 := by omega
  have he := ei_rem .i64 wn 3 (by decide)
  by_cases c1 : t.name = p ∧ wn.tmod 3 = 0
  · have hv : leafM p r t (.mk wo wn wsx wk) = .mk 5 false 0 prinS [] [] [] := by rw [leafM, if_neg h1, if_neg h2, if_neg h3, if_pos c1]
    rw [hv]
    refine ac_wp fn49 cf49 cl49 rfl ?_
    simp only [ac49]
    unfold ab49
    simp only [WU, seval, strs_eq, h4, he, decide_eq_true c1.1, decide_eq_true c1.2, sg07, storeA, sets, setx, TS]
    exact ⟨_, pur_leafX, rfl⟩
  by_cases c2 : t.name = r ∧ wn.tmod 3 = 1
  · have hv : leafM p r t (.mk wo wn wsx wk) = .mk 5 false 0 resoS [] [] [] := by rw [leafM, if_neg h1, if_neg h2, if_neg h3, if_neg c1, if_pos c2]
    rw [hv]
    have hn0 : ¬ wn.tmod 3 = 0 := by omega
    by_cases e1 : t.name = p
    · refine ac_wp fn49 cf49 cl49 rfl ?_
      simp only [ac49]
      unfold ab49
      simp only [WU, seval, strs_eq, h4, he, decide_eq_true e1, decide_eq_false hn0, decide_eq_true c2.1, decide_eq_true c2.2, sg07, storeA, sets, setx, TS]
      exact ⟨_, pur_leafX, rfl⟩
    · refine ac_wp fn49 cf49 cl49 rfl ?_
      simp only [ac49]
      unfold ab49
      simp only [WU, seval, strs_eq, h4, he, decide_eq_false e1, decide_eq_true c2.1, decide_eq_true c2.2, sg07, storeA, sets, setx, TS]
      exact ⟨_, pur_leafX, rfl⟩
  have hv : leafM p r t (.mk wo wn wsx wk) = .mk 4 false 0 [] t.name [chB wn] [] := by rw [leafM, if_neg h1, if_neg h2, if_neg h3, if_neg c1, if_neg c2]
  rw [hv]
  have hq := ei_quo wn 3 (by decide)
  have hu8 : u8s [.int .u8 (chB wn).toNat] = some [chB wn] := u8s_of [chB wn]
  by_cases e1 : t.name = p
  · have hn0 : ¬ wn.tmod 3 = 0 := fun h => c1 ⟨e1, h⟩
    by_cases e2 : t.name = r
    · have hn1 : ¬ wn.tmod 3 = 1 := fun h => c2 ⟨e2, h⟩
      refine ac_wp fn49 cf49 cl49 rfl ?_
      simp only [ac49]
      unfold ab49
      simp only [WU, seval, strs_eq, h4, he, decide_eq_true e1, decide_eq_false hn0, decide_eq_true e2, decide_eq_false hn1]
      refine w_dreg follow [] rfl ?_
      generalize hs1 : addSlots _ 13 _ [] = s1
      have k1 : s1.cells 1 = some [.str p, .str a, .str r] := by rw [← hs1]; simp [sl_cells, push_get, push_n, st0_n]
      have k2 : s1.cells 2 = some [.int .i64 t.kind, .int .i64 t.of_, .str t.name] := by rw [← hs1]; simp [sl_cells, push_get, push_n, st0_n, h4]
      have k3 : s1.cells 3 = some [.int .i64 wo, .int .i64 wn, .psl (ofInts wsx) 0 wsx.length, .psl (rowc Rw.c wk) 0 wk.length] := by rw [← hs1]; simp [sl_cells, push_get, push_n, st0_n]
      have k4 : s1.cells 4 = some [.int .i64 0, .bool false, .int .i64 0, .str [], .str [], .str [], .nils] := by rw [← hs1]; simp [sl_cells, push_get, push_n, st0_n]
      have kn : s1.n = 18 := by rw [← hs1]; rfl
      clear hs1
      have f1 : firstA (s1.push (.cells [.int .u8 (chB wn).toNat])) 1 1 (.sl 18 0 1 (some 1) 1) = some [.int .u8 (chB wn).toNat] := firstA_own (cs := [.int .u8 (chB wn).toNat]) (by rw [push_get, if_pos kn.symm]) (by simp)
      have f2 : ∀ cs, firstA ((s1.push (.cells [.int .u8 (chB wn).toNat])).put 4 cs) 1 1 (.sl 18 0 1 (some 1) 1) = some [.int .u8 (chB wn).toNat] := fun cs => firstA_own (cs := [.int .u8 (chB wn).toNat]) (by rw [put_get, if_neg (by decide), push_get, if_pos kn.symm]) (by simp)
      have hch : b8 (IntKind.i64.wrap (97 + wi (quoI wn 3) 5)) = chB wn := rfl
      simp only [WU, seval, strs_eq, DU, k1, k2, k3, hq]
      refine (within11_ac (by decide) (by decide)).useD ?_
      simp only [WU, seval, strs_eq, DU, fillA, b8_eq, hch, kn, f1, hu8, k4, storeA, sets, setx, TS]
      refine ⟨⟨?_, ?_⟩, ?_⟩
      · intro l hl c hc hf
        simp only [List.mem_cons, List.mem_nil_iff, List.not_mem_nil, or_false] at hl hc
        rcases hl with rfl | rfl | rfl <;> rcases hc with rfl | rfl | rfl | rfl <;> dsimp only at hf ⊢ <;> first
          | (exact absurd hf (by decide +kernel))
          | (simp only [WU, seval, strs_eq, k2, k3, kn, f1, f2, hu8]; done)
      · intro sl hsl; simp at hsl
      · simp only [WU, seval, strs_eq, sg07]
        exact ⟨_, pur_leafX, rfl⟩
    · refine ac_wp fn49 cf49 cl49 rfl ?_
      simp only [ac49]
      unfold ab49
      simp only [WU, seval, strs_eq, h4, he, decide_eq_true e1, decide_eq_false hn0, decide_eq_false e2]
      refine w_dreg follow [] rfl ?_
      generalize hs1 : addSlots _ 13 _ [] = s1
      have k1 : s1.cells 1 = some [.str p, .str a, .str r] := by rw [← hs1]; simp [sl_cells, push_get, push_n, st0_n]
      have k2 : s1.cells 2 = some [.int .i64 t.kind, .int .i64 t.of_, .str t.name] := by rw [← hs1]; simp [sl_cells, push_get, push_n, st0_n, h4]
      have k3 : s1.cells 3 = some [.int .i64 wo, .int .i64 wn, .psl (ofInts wsx) 0 wsx.length, .psl (rowc Rw.c wk) 0 wk.length] := by rw [← hs1]; simp [sl_cells, push_get, push_n, st0_n]
      have k4 : s1.cells 4 = some [.int .i64 0, .bool false, .int .i64 0, .str [], .str [], .str [], .nils] := by rw [← hs1]; simp [sl_cells, push_get, push_n, st0_n]
      have kn : s1.n = 18 := by rw [← hs1]; rfl
      clear hs1
      have f1 : firstA (s1.push (.cells [.int .u8 (chB wn).toNat])) 1 1 (.sl 18 0 1 (some 1) 1) = some [.int .u8 (chB wn).toNat] := firstA_own (cs := [.int .u8 (chB wn).toNat]) (by rw [push_get, if_pos kn.symm]) (by simp)
      have f2 : ∀ cs, firstA ((s1.push (.cells [.int .u8 (chB wn).toNat])).put 4 cs) 1 1 (.sl 18 0 1 (some 1) 1) = some [.int .u8 (chB wn).toNat] := fun cs => firstA_own (cs := [.int .u8 (chB wn).toNat]) (by rw [put_get, if_neg (by decide), push_get, if_pos kn.symm]) (by simp)
      have hch : b8 (IntKind.i64.wrap (97 + wi (quoI wn 3) 5)) = chB wn := rfl
      simp only [WU, seval, strs_eq, DU, k1, k2, k3, hq]
      refine (within11_ac (by decide) (by decide)).useD ?_
      simp only [WU, seval, strs_eq, DU, fillA, b8_eq, hch, kn, f1, hu8, k4, storeA, sets, setx, TS]
      refine ⟨⟨?_, ?_⟩, ?_⟩
      · intro l hl c hc hf
        simp only [List.mem_cons, List.mem_nil_iff, List.not_mem_nil, or_false] at hl hc
        rcases hl with rfl | rfl | rfl <;> rcases hc with rfl | rfl | rfl | rfl <;> dsimp only at hf ⊢ <;> first
          | (exact absurd hf (by decide +kernel))
          | (simp only [WU, seval, strs_eq, k2, k3, kn, f1, f2, hu8]; done)
      · intro sl hsl; simp at hsl
      · simp only [WU, seval, strs_eq, sg07]
        exact ⟨_, pur_leafX, rfl⟩
  · by_cases e2 : t.name = r
    · have hn1 : ¬ wn.tmod 3 = 1 := fun h => c2 ⟨e2, h⟩
      refine ac_wp fn49 cf49 cl49 rfl ?_
      simp only [ac49]
      unfold ab49
      simp only [WU, seval, strs_eq, h4, he, decide_eq_false e1, decide_eq_true e2, decide_eq_false hn1]
      refine w_dreg follow [] rfl ?_
      generalize hs1 : addSlots _ 13 _ [] = s1
      have k1 : s1.cells 1 = some [.str p, .str a, .str r] := by rw [← hs1]; simp [sl_cells, push_get, push_n, st0_n]
      have k2 : s1.cells 2 = some [.int .i64 t.kind, .int .i64 t.of_, .str t.name] := by rw [← hs1]; simp [sl_cells, push_get, push_n, st0_n, h4]
      have k3 : s1.cells 3 = some [.int .i64 wo, .int .i64 wn, .psl (ofInts wsx) 0 wsx.length, .psl (rowc Rw.c wk) 0 wk.length] := by rw [← hs1]; simp [sl_cells, push_get, push_n, st0_n]
      have k4 : s1.cells 4 = some [.int .i64 0, .bool false, .int .i64 0, .str [], .str [], .str [], .nils] := by rw [← hs1]; simp [sl_cells, push_get, push_n, st0_n]
      have kn : s1.n = 18 := by rw [← hs1]; rfl
      clear hs1
      have f1 : firstA (s1.push (.cells [.int .u8 (chB wn).toNat])) 1 1 (.sl 18 0 1 (some 1) 1) = some [.int .u8 (chB wn).toNat] := firstA_own (cs := [.int .u8 (chB wn).toNat]) (by rw [push_get, if_pos kn.symm]) (by simp)
      have f2 : ∀ cs, firstA ((s1.push (.cells [.int .u8 (chB wn).toNat])).put 4 cs) 1 1 (.sl 18 0 1 (some 1) 1) = some [.int .u8 (chB wn).toNat] := fun cs => firstA_own (cs := [.int .u8 (chB wn).toNat]) (by rw [put_get, if_neg (by decide), push_get, if_pos kn.symm]) (by simp)
      have hch : b8 (IntKind.i64.wrap (97 + wi (quoI wn 3) 5)) = chB wn := rfl
      simp only [WU, seval, strs_eq, DU, k1, k2, k3, hq]
      refine (within11_ac (by decide) (by decide)).useD ?_
      simp only [WU, seval, strs_eq, DU, fillA, b8_eq, hch, kn, f1, hu8, k4, storeA, sets, setx, TS]
      refine ⟨⟨?_, ?_⟩, ?_⟩
      · intro l hl c hc hf
        simp only [List.mem_cons, List.mem_nil_iff, List.not_mem_nil, or_false] at hl hc
        rcases hl with rfl | rfl | rfl <;> rcases hc with rfl | rfl | rfl | rfl <;> dsimp only at hf ⊢ <;> first
          | (exact absurd hf (by decide +kernel))
          | (simp only [WU, seval, strs_eq, k2, k3, kn, f1, f2, hu8]; done)
      · intro sl hsl; simp at hsl
      · simp only [WU, seval, strs_eq, sg07]
        exact ⟨_, pur_leafX, rfl⟩
    · refine ac_wp fn49 cf49 cl49 rfl ?_
      simp only [ac49]
      unfold ab49
      simp only [WU, seval, strs_eq, h4, he, decide_eq_false e1, decide_eq_false e2]
      refine w_dreg follow [] rfl ?_
      generalize hs1 : addSlots _ 13 _ [] = s1
      have k1 : s1.cells 1 = some [.str p, .str a, .str r] := by rw [← hs1]; simp [sl_cells, push_get, push_n, st0_n]
      have k2 : s1.cells 2 = some [.int .i64 t.kind, .int .i64 t.of_, .str t.name] := by rw [← hs1]; simp [sl_cells, push_get, push_n, st0_n, h4]
      have k3 : s1.cells 3 = some [.int .i64 wo, .int .i64 wn, .psl (ofInts wsx) 0 wsx.length, .psl (rowc Rw.c wk) 0 wk.length] := by rw [← hs1]; simp [sl_cells, push_get, push_n, st0_n]
      have k4 : s1.cells 4 = some [.int .i64 0, .bool false, .int .i64 0, .str [], .str [], .str [], .nils] := by rw [← hs1]; simp [sl_cells, push_get, push_n, st0_n]
      have kn : s1.n = 18 := by rw [← hs1]; rfl
      clear hs1
      have f1 : firstA (s1.push (.cells [.int .u8 (chB wn).toNat])) 1 1 (.sl 18 0 1 (some 1) 1) = some [.int .u8 (chB wn).toNat] := firstA_own (cs := [.int .u8 (chB wn).toNat]) (by rw [push_get, if_pos kn.symm]) (by simp)
      have f2 : ∀ cs, firstA ((s1.push (.cells [.int .u8 (chB wn).toNat])).put 4 cs) 1 1 (.sl 18 0 1 (some 1) 1) = some [.int .u8 (chB wn).toNat] := fun cs => firstA_own (cs := [.int .u8 (chB wn).toNat]) (by rw [put_get, if_neg (by decide), push_get, if_pos kn.symm]) (by simp)
      have hch : b8 (IntKind.i64.wrap (97 + wi (quoI wn 3) 5)) = chB wn := rfl
      simp only [WU, seval, strs_eq, DU, k1, k2, k3, hq]
      refine (within11_ac (by decide) (by decide)).useD ?_
      simp only [WU, seval, strs_eq, DU, fillA, b8_eq, hch, kn, f1, hu8, k4, storeA, sets, setx, TS]
      refine ⟨⟨?_, ?_⟩, ?_⟩
      · intro l hl c hc hf
        simp only [List.mem_cons, List.mem_nil_iff, List.not_mem_nil, or_false] at hl hc
        rcases hl with rfl | rfl | rfl <;> rcases hc with rfl | rfl | rfl | rfl <;> dsimp only at hf ⊢ <;> first
          | (exact absurd hf (by decide +kernel))
          | (simp only [WU, seval, strs_eq, k2, k3, kn, f1, f2, hu8]; done)
      · intro sl hsl; simp at hsl
      · simp only [WU, seval, strs_eq, sg07]
        exact ⟨_, pur_leafX, rfl⟩
theorem plainB_ac {S : Sc} {p a r : Str} {t : Ty} {w : Rw} {σ : AState} (ht : TyB S t) (hw : w.ok) : AC Try.prog 49 [.agg S.c, .agg [.str p, .str a, .str r], .agg t.c, .agg w.c] σ fun v s => s = σ ∧ v = .agg (leafM p r t w).c :=
  AC.share mk_fxd (plainB_st0 ht hw)
theorem pur_oneX {σ : AState} {op : Int} {b : Bool} {n : Int} {s u v : Str} {q : Nat} {cap : Option Nat} {e : Ex} (hq : σ.cells q = some e.c) : Pur σ true (.agg [.int .i64 op, .bool b, .int .i64 n, .str s, .str u, .str v, .sl q 0 1 cap 7]) (.agg (Ex.mk op b n s u v [e]).c) :=
  pur_oneE hq (Ex.c_len e) (PurL.self (pur_ex σ e))
theorem plain_ac {S : Sc} {p a r : Str} {t : Ty} {w : Rw} {σ : AState} (ht : TyK S t) (hw : w.ok) : AC Try.prog 49 [.agg S.c, .agg [.str p, .str a, .str r], .agg t.c, .agg w.c] σ fun v s => s = σ ∧ v = .agg (plainX p r t w).c := by
  rcases ht with ht | ⟨h5, ht⟩
  · have hv : plainX p r t w = leafM p r t w := by unfold plainX; rw [if_neg (by have := ht.k; omega)]
    rw [hv]; exact plainB_ac ht hw
  · have hv : plainX p r t w = .mk 6 false 0 [] [] [] [leafM p r ⟨t.of_, 0, t.name⟩ w] := by unfold plainX; rw [if_pos h5]
    rw [hv]
    refine AC.share mk_fxd ?_
    have hB : ∀ σ, AC Try.prog 49 [.agg S.c, .agg [.str p, .str a, .str r], .agg (Ty.c ⟨t.of_, 0, t.name⟩), .agg w.c] σ fun v s => s = σ ∧ v = .agg (leafM p r ⟨t.of_, 0, t.name⟩ w).c := fun σ => plainB_ac ht hw
    generalize leafM p r ⟨t.of_, 0, t.name⟩ w = E at *
    have hE7 := Ex.c_len E
    have hpo := fun (σ : AState) (q : Nat) (h : σ.cells q = some E.c) => pur_oneX (op := 6) (b := false) (n := 0) (s := []) (u := []) (v := []) (cap := some 1) h
    obtain ⟨wo, wn, wsx, wk⟩ := w
    obtain ⟨eop, eb, en, es, eut, eui, ek⟩ := E
    have sg := scSeg S
    simp only [Rw.c_eq, Sc.c_eq, Ty.c_eq, Ex.c_eq, ints_eq, slc_eq] at hB hpo ⊢
    refine ac_wp fn49 cf49 cl49 rfl ?_
    simp only [ac49]
    unfold ab49
    simp only [WU, seval, strs_eq, h5, sg, sg03, sg04]
    refine (hB _).use ?_
    simp only [WU, seval, strs_eq, fillA, sg07, storeA, sets, setx, TS]
    exact ⟨_, hpo _ _ (by simp [put_get, push_get, push_n, st0_n]), rfl⟩
end Go.Proofs.Ytcdbpmmomgehfaa.Va
