/- The law TypesFields. Conditions: none. -/
import Derived.Test.YtcdbpmmomgehfaaTy26
set_option maxRecDepth 100000
set_option maxHeartbeats 4000000
set_option linter.all false
namespace Go.Proofs.Ytcdbpmmomgehfaa.Va
open Go.Proofs
/- ------------------------------------------------ schemas such as may be: names -/
theorem kN_ord : ∀ j, j < 4 → ∀ i, i < 4 → (Op.bytesLess (kN j) (kN i) || kN j == kN i) = false → i < j := by decide
theorem kN_inj {i j : Nat} (h : i < j) (hj : j < 4) : kN i ≠ kN j := by
  have : ∀ j, j < 4 → ∀ i, i < j → kN i ≠ kN j := by decide
  exact this j hj i h
theorem kindS_zero {ks : List Kd} {k : Kd} {last : Str} (h : kindS ks k last = 0) : (Op.bytesLess k.name last || k.name == last) = false ∧ k.parents.all (hasS ks) = true ∧ fieldsS ks [] k.fields = 0 := by
  unfold kindS at h
  split at h
  · cases h
  · split at h
    · cases h
    · rename_i h2
      split at h
      · cases h
      · split at h
        · cases h
        · rename_i h4
          exact ⟨by simpa using h2, by simpa using h4, h⟩
theorem kindsS_cons {ks : List Kd} {k : Kd} {r : List Kd} {last : Str} (h : kindsS ks last (k :: r) = 0) : kindS ks k last = 0 ∧ kindsS ks k.name r = 0 := by
  unfold kindsS at h
  split at h
  · rename_i h1; exact absurd h h1
  · rename_i h1; exact ⟨by simpa using h1, h⟩
theorem kinds_go {ks : List Kd} : ∀ (l : List Kd) (i : Nat), i < 4 → (∀ k ∈ l, ∃ j, j < 4 ∧ k.name = kN j) → kindsS ks (kN i) l = 0 → ∀ b ∈ l, ∃ j, i < j ∧ j < 4 ∧ b.name = kN j := by
  intro l
  induction l with
  | nil => intro i _ _ _ b hb; cases hb
  | cons k r ih =>
    intro i hi hn h b hb
    obtain ⟨h1, h2⟩ := kindsS_cons h
    obtain ⟨j, hj, e⟩ := hn k (by simp)
    have hlt : i < j := kN_ord j hj i hi (by rw [← e]; exact (kindS_zero h1).1)
    rcases List.mem_cons.1 hb with hb | hb
    · exact ⟨j, hlt, hj, by rw [hb]; exact e⟩
    · obtain ⟨j', h3, h4, h5⟩ := ih j hj (fun k hk => hn k (by simp [hk])) (by rw [← e]; exact h2) b hb
      exact ⟨j', by omega, h4, h5⟩
theorem kinds_find {ks : List Kd} : ∀ (l : List Kd) (last : Str), (∀ k ∈ l, ∃ j, j < 4 ∧ k.name = kN j) → kindsS ks last l = 0 → ∀ b ∈ l, l.find? (fun k => decide (k.name = b.name)) = some b := by
  intro l
  induction l with
  | nil => intro _ _ _ b hb; cases hb
  | cons k r ih =>
    intro last hn h b hb
    obtain ⟨h1, h2⟩ := kindsS_cons h
    rw [List.find?_cons]
    rcases List.mem_cons.1 hb with hb | hb
    · subst hb; simp
    · obtain ⟨i, hi, e⟩ := hn k (by simp)
      rw [e] at h2
      obtain ⟨j, h3, h4, h5⟩ := kinds_go r i hi (fun k hk => hn k (by simp [hk])) h2 b hb
      have : decide (k.name = b.name) = false := by rw [e, h5]; simpa using kN_inj h3 h4
      rw [this]
      exact ih k.name (fun k hk => hn k (by simp [hk])) (by rw [e]; exact h2) b hb
theorem ScN.ks {S : Sc} (h : ScN S) : kindsS S.kinds [] S.kinds = 0 ∧ actsS S.kinds [] S.acts = 0 := by
  have := h.chk
  unfold checkS at this
  split at this
  · cases this
  · split at this
    · rename_i h1; exact absurd this h1
    · rename_i h1; exact ⟨by simpa using h1, this⟩
theorem ScN.kindX {S : Sc} (h : ScN S) {k : Kd} (hk : k ∈ S.kinds) : Va.kindX S.kinds k.name = k ∧ hasS S.kinds k.name = true := by
  have hf := kinds_find S.kinds [] h.kn h.ks.1 k hk
  refine ⟨by unfold Va.kindX; rw [hf], ?_⟩
  unfold hasS
  rw [List.any_eq_true]
  exact ⟨k, hk, by simp⟩
theorem acts_go {ks : List Kd} : ∀ (l : List Ac) (last : Str), actsS ks last l = 0 → ∀ a ∈ l, (∀ n ∈ a.prins, hasS ks n = true) ∧ (∀ n ∈ a.ress, hasS ks n = true) := by
  intro l
  induction l with
  | nil => intro _ _ a ha; cases ha
  | cons b r ih =>
    intro last h a ha
    unfold actsS at h
    split at h
    · rename_i h1; exact absurd h h1
    · rename_i h1
      rcases List.mem_cons.1 ha with e | ha
      · subst e
        have h1' : actS ks a last = 0 := by simpa using h1
        unfold actS at h1'
        split at h1'
        · cases h1'
        · split at h1'
          · cases h1'
          · split at h1'
            · cases h1'
            · split at h1'
              · cases h1'
              · split at h1'
                · cases h1'
                · rename_i h6
                  have h7 : (a.prins ++ a.ress).all (hasS ks) = true := by simpa using h6
                  rw [List.all_eq_true] at h7
                  exact ⟨fun n hn => h7 n (by simp [hn]), fun n hn => h7 n (by simp [hn])⟩
      · exact ih _ h a ha
theorem ScN.acts {S : Sc} (h : ScN S) {a : Ac} (ha : a ∈ S.acts) : (∀ n ∈ a.prins, hasS S.kinds n = true) ∧ (∀ n ∈ a.ress, hasS S.kinds n = true) := acts_go S.acts [] h.ks.2 a ha
theorem envs_known {S : Sc} {P : Po} (h : ScN S) {e : En} (he : e ∈ envsS S P) : hasS S.kinds e.p = true ∧ hasS S.kinds e.r = true := by
  simp only [envsS, List.mem_flatMap] at he
  obtain ⟨a, ha, he⟩ := he
  unfold envsA at he
  split at he
  · cases he
  · simp only [envsP, List.mem_flatMap] at he
    obtain ⟨x, hx, he⟩ := he
    simp only [envsR, List.mem_map, List.mem_filter] at he
    obtain ⟨y, ⟨hy, _⟩, rfl⟩ := he
    exact ⟨(h.acts ha).1 x hx, (h.acts ha).2 y hy⟩
theorem envX_mem {S : Sc} {n : Int} (h : hasEnv S = true) : envX S n ∈ envsS S noPo := by
  unfold hasEnv at h
  have h0 : envsS S noPo ≠ [] := by simpa using h
  have hpos : 0 < (envsS S noPo).length := List.length_pos_iff.2 h0
  have hw := wi_range n (n := (envsS S noPo).length) (by omega)
  unfold envX
  have hlt : (wi n (envsS S noPo).length).toNat < (envsS S noPo).length := by omega
  rw [List.getD_eq_getElem?_getD, List.getElem?_eq_getElem hlt]
  exact List.getElem_mem hlt
theorem hasEnv_kinds {S : Sc} (h : ScN S) (he : hasEnv S = true) : 0 < S.kinds.length := by
  have := (envs_known h (envX_mem (n := 0) he)).1
  unfold hasS at this
  rw [List.any_eq_true] at this
  obtain ⟨k, hk, _⟩ := this
  exact List.length_pos_of_mem hk
/- ------------------------------------------------ small trees of one's own -/
theorem pur_leafE {σ : AState} {op : Int} {b : Bool} {n : Int} {s u v : Str} : PurL σ true [.int .i64 op, .bool b, .int .i64 n, .str s, .str u, .str v, .nils] (Ex.mk op b n s u v []).c :=
  .cons (.flat _ rfl) (.cons (.flat _ rfl) (.cons (.flat _ rfl) (.cons (.flat _ rfl) (.cons (.flat _ rfl) (.cons (.flat _ rfl) (.cons (.nils _ _) .nil))))))
theorem pur_oneE {σ : AState} {op : Int} {b : Bool} {n : Int} {s u v : Str} {q : Nat} {cap : Option Nat} {c : List AV} {e : Ex} (hq : σ.cells q = some c) (hc : c.length = 7) (hp : PurL σ true c e.c) :
    Pur σ true (.agg [.int .i64 op, .bool b, .int .i64 n, .str s, .str u, .str v, .sl q 0 1 cap 7]) (.agg (Ex.mk op b n s u v [e]).c) := by
  have hs : Pur σ true (.sl q 0 1 cap 7) (slc Ex.c [e]) := by
    have : slc Ex.c [e] = .psl e.c 0 1 := by rw [slc_eq, rowc_one]; rfl
    rw [this]
    exact .lit hq hc hp
  rw [Ex.c_eq]
  exact .agg _ _ rfl (PurL.cons (.flat _ rfl) (.cons (.flat _ rfl) (.cons (.flat _ rfl) (.cons (.flat _ rfl) (.cons (.flat _ rfl) (.cons (.flat _ rfl) (.cons hs .nil))))))).2
theorem of_own {S : Sc} {p a r : Str} {e : Ex} {x : AV} {σ : AState} (hs : ScR S) (hw : e.wf) (hx : Pur σ true x (.agg e.c)) : AC Try.prog 20 [.agg S.c, .agg [.str p, .str a, .str r], x] σ fun v s => s = σ ∧ v = tyP (ofP S p r e) :=
  AC.pureE (.cons (pur_schema σ S) (.cons (pur_en σ ⟨p, a, r⟩) (.cons hx .nil))) ((of_ac hs e hw st0).mono fun v s h => h.2)
theorem within11_ac {n k : Int} {σ : AState} (hk : 0 < k) (hk' : k < 4611686018427387904) : AC Try.prog 21 [.int .i64 n, .int .i64 k] σ fun v s' => s' = σ ∧ v = .int .i64 (wi n k) :=
  (within_ac (P := Try.prog) fn21 cf21 cl21 (x := n) (σ := σ) hk hk').mono fun _ _ h => ⟨h.2, h.1⟩
theorem wf_leaf {op : Int} {b : Bool} {n : Int} {s u v : Str} (h1 : 1 ≤ op) (h5 : op ≤ 5) : (Ex.mk op b n s u v []).wf := by
  rw [Ex.wf_eq]; exact ⟨.inl ⟨h1, h5, rfl⟩, by simp, by simp [Ex.wfs]⟩
theorem wf_one {op : Int} {b : Bool} {n : Int} {s u v : Str} {e : Ex} (h : op = 7 ∨ op = 8 ∨ op = 10 ∨ op = 11 ∨ op = 12) (he : e.wf) : (Ex.mk op b n s u v [e]).wf := by
  rw [Ex.wf_eq]; exact ⟨.inr (.inr (.inl ⟨h, rfl⟩)), by simp, Ex.wfs_all.2 (by simpa using he)⟩
theorem ofP_one {S : Sc} {p r : Str} {op : Int} {b : Bool} {n : Int} {s u v : Str} {e : Ex} {t : Ty} (h : op = 7 ∨ op = 8 ∨ op = 10 ∨ op = 11 ∨ op = 12) (he : ofP S p r e = (t, 0)) : ofP S p r (.mk op b n s u v [e]) = nodeP S op s [t] :=
  ofP_node (by rw [ofPs_cons, he, if_neg (by simp), ofPs_nil]) (by omega) (.inr (.inr (.inl ⟨h, rfl⟩)))
theorem known11_ac {σ : AState} : AC Try.prog 11 [] σ fun v s => s = σ ∧ v = .bool true := by
  have h : (match runF tab 400 11 [] st0 with | some (.bool true, _) => true | _ => false) = true := by kernel_rfl
  split at h
  · rename_i s e
    exact (AC.plain (a := .bool true) rfl (fun x hx => by cases hx) ((runs 400 _ _ _ _ _ e).mono fun v' s' hv => hv.1)).mono fun v s h => ⟨h.2, h.1⟩
  · cases h
/- Good's answer, as fixed data in a block. -/
theorem good_frz {ks : List RKd} {ac : List RAc} {σ : AState} {k : AV → AState → Prop} (h : ∀ x y s, x.one = true → y.one = true → Keeps σ.n σ s → (∀ (N : Nat) (s1 : AState) (b : Nat) (M : Env → AState → Prop) (ρ : Env), s1.cells b = some [x, y] → s.n ≤ b → s.n ≤ s1.n → (∀ c, c < s.n → s1.cells c = s.cells c) → (∀ S s2, ScN S → s2.n = s1.n → s2.cells b = some [slc Kd.c S.kinds, slc Ac.c S.acts] → (∀ c, c ≠ b → (c < σ.n ∨ s.n ≤ c) → s2.cells c = s1.cells c) → M ρ s2) → Frz N M ρ s1) → k (.agg [x, y]) s) :
    AC Try.prog 13 [slc RKd.c ks, slc RAc.c ac] σ k := by
  refine good_ac.mono ?_
  rintro v s ⟨hk, m, S, x, y, rfl, hm3, hms, hrx, hry, hS⟩
  refine h x y s ?_ ?_ hk ?_
  · rcases hrx.form with rfl | ⟨_, _, rfl⟩ <;> rfl
  · rcases hry.form with rfl | ⟨_, _, rfl⟩ <;> rfl
  intro N s1 b M ρ hb hnb hn1 hc hM
  refine Frz.sc (S := S) hb (p := fun b => σ.n ≤ b ∧ b < m) (p' := fun b => m ≤ b ∧ b < s.n) ?_ ?_ (by omega) (by omega) (fun b h1 h2 => by omega) fun s2 e1 e2 e3 => ?_
  · exact hrx.keep hn1 fun c hc' _ => hc c hc'
  · exact (hry.mono fun b h1 h2 => ⟨h1, h2⟩).keep hn1 fun c hc' _ => hc c hc'
  · exact hM S s2 hS e1 (by simpa [slc_eq] using e2) fun c h1 h2 => get_cells (e3 c h1 (by omega) (by omega))
theorem name_get {k : Nat} (h : k < 7) : [AV.str [97], .str [97, 103, 101], .str [105, 102], .str [99, 111, 110, 116, 97, 105, 110, 115], .str [112, 114, 105, 110, 99, 105, 112, 97, 108], .str [95, 120], .str [110, 97, 109, 101]][k]? = some (.str (nameN k)) := by
  match k, h with
  | 0, _ => rfl
  | 1, _ => rfl
  | 2, _ => rfl
  | 3, _ => rfl
  | 4, _ => rfl
  | 5, _ => rfl
  | 6, _ => rfl
end Go.Proofs.Ytcdbpmmomgehfaa.Va
