/- Trees that are made to be of a type are of it. Conditions: none. -/
import Derived.Test.YtcdbpmmomgehfaaTM
import Derived.Test.YtcdbpmmomgehfaaTy35
set_option maxRecDepth 100000
set_option maxHeartbeats 4000000
set_option linter.all false
namespace Go.Proofs.Ytcdbpmmomgehfaa.Va
open Go.Proofs
def opE : Ex → Int
  | .mk op _ _ _ _ _ _ => op
def makeX (S : Sc) (p r : Str) : Nat → Ty → Rw → Ex
  | 0, t, w => plainX p r t w
  | d + 1, t, w => if d = 0 then plainX p r t w else if opE (buildX S p r (makeX S p r d) t w) ≠ 0 then buildX S p r (makeX S p r d) t w else plainX p r t w
theorem make_step {S : Sc} {p a r : Str} {d : Nat} {t : Ty} {w : Rw} {σ : AState} (hd : d < 999) (hS : ScM S) (hkl : S.kinds.length ≤ 1000) (ht : TyK S t) (hp : hasS S.kinds p = true) (hr : hasS S.kinds r = true) (hw : w.ok)
    (hsub : 0 < d → SubAC S p a r ((d - 1 : Nat) : Int) (makeX S p r (d - 1))) :
    AC Try.prog 37 [.agg S.c, .agg [.str p, .str a, .str r], .agg t.c, .agg w.c, .int .i64 d] σ fun v s => s = σ ∧ v = .agg (makeX S p r d t w).c := by
  refine AC.share (.cons (.agg (Sc.fxd S)) (.cons (.agg (env_fxd p a r)) (.cons (.agg (Ty.fxd t)) (.cons (.agg (Rw.fxd w)) (.cons (.flat rfl) .nil))))) ?_
  have hPl : ∀ σ, AC Try.prog 49 [.agg S.c, .agg [.str p, .str a, .str r], .agg t.c, .agg w.c] σ fun v s => s = σ ∧ v = .agg (plainX p r t w).c := fun σ => plain_ac ht hw
  have hpp := fun σ => pur_ex σ (plainX p r t w)
  have sg := scSeg S
  have hleaf : makeX S p r d t w = plainX p r t w → ((d : Nat) : Int) ≤ 1 → AC Try.prog 37 [.agg S.c, .agg [.str p, .str a, .str r], .agg t.c, .agg w.c, .int .i64 d] st0 fun v s => ∃ x, Pur s true v x ∧ x = .agg (makeX S p r d t w).c := by
    intro hv h1
    rw [hv]
    clear hv hsub
    generalize plainX p r t w = E at *
    obtain ⟨wo, wn, wsx, wk⟩ := w
    obtain ⟨eop, eb, en, es, eut, eui, ek⟩ := E
    simp only [Rw.c_eq, Ty.c_eq, ints_eq, slc_eq, Sc.c_eq, Ex.c_eq] at hPl hpp ⊢
    refine ac_wp fn37 cf37 cl37 rfl ?_
    simp only [ac37]
    unfold ab37
    simp only [WU, seval, strs_eq, h1, sg, sg03, sg04]
    refine (hPl _).use ?_
    simp only [WU, seval, strs_eq, sg07, storeA, sets, setx, TS]
    exact ⟨_, .agg _ _ rfl (fun j hj hj' => hpp _ _ (List.getElem_mem hj)), rfl⟩
  by_cases h1 : d = 0 ∨ d = 1
  · refine hleaf ?_ (by omega)
    rcases h1 with h | h
    · subst h; rw [makeX]
    · subst h; rw [makeX, if_pos rfl]
  obtain ⟨d', rfl⟩ : ∃ d', d = d' + 1 := ⟨d - 1, by omega⟩
  have hd' : ¬ d' = 0 := by omega
  have hn1 : ¬ ((d' + 1 : Nat) : Int) ≤ 1 := by omega
  have hsub' := hsub (by omega)
  rw [Nat.add_sub_cancel] at hsub'
  have hB : ∀ σ, AC Try.prog 50 [.agg S.c, .agg [.str p, .str a, .str r], .agg t.c, .agg w.c, .int .i64 ((d' + 1 : Nat) : Int)] σ fun v s => s = σ ∧ v = .agg (buildX S p r (makeX S p r d') t w).c := fun σ =>
    AC.share (.cons (.agg (Sc.fxd S)) (.cons (.agg (env_fxd p a r)) (.cons (.agg (Ty.fxd t)) (.cons (.agg (Rw.fxd w)) (.cons (.flat rfl) .nil))))) (build_st0 (by omega) hS hkl ht hp hr hsub' hw)
  have hbp := fun σ => pur_ex σ (buildX S p r (makeX S p r d') t w)
  rw [makeX, if_neg hd']
  clear hsub hsub' hleaf
  generalize buildX S p r (makeX S p r d') t w = F at *
  generalize plainX p r t w = E at *
  by_cases h0' : opE F = 0
  · rw [if_neg (by simpa using h0')]
    obtain ⟨wo, wn, wsx, wk⟩ := w
    obtain ⟨eop, eb, en, es, eut, eui, ek⟩ := E
    obtain ⟨fop, fb, fn, fs, fut, fui, fk⟩ := F
    have h0 : fop = 0 := h0'
    simp only [Rw.c_eq, Ty.c_eq, ints_eq, slc_eq, Sc.c_eq, Ex.c_eq] at hPl hpp hB hbp ⊢
    refine ac_wp fn37 cf37 cl37 rfl ?_
    simp only [ac37]
    unfold ab37
    simp only [WU, seval, strs_eq, hn1, sg, sg03, sg04]
    refine (hB _).use ?_
    simp only [WU, seval, strs_eq, sg, sg03, sg04, sg07, decide_eq_true h0, decide_not, storeA, sets, setx, TS]
    refine (hPl _).use ?_
    simp only [WU, seval, strs_eq, sg07, storeA, sets, setx, TS]
    exact ⟨_, .agg _ _ rfl (fun j hj hj' => hpp _ _ (List.getElem_mem hj)), rfl⟩
  · rw [if_pos h0']
    obtain ⟨wo, wn, wsx, wk⟩ := w
    obtain ⟨fop, fb, fn, fs, fut, fui, fk⟩ := F
    have h0 : ¬ fop = 0 := h0'
    simp only [Rw.c_eq, Ty.c_eq, ints_eq, slc_eq, Sc.c_eq, Ex.c_eq] at hB hbp ⊢
    refine ac_wp fn37 cf37 cl37 rfl ?_
    simp only [ac37]
    unfold ab37
    simp only [WU, seval, strs_eq, hn1, sg, sg03, sg04]
    refine (hB _).use ?_
    simp only [WU, seval, strs_eq, sg07, decide_eq_false h0, decide_not, storeA, sets, setx, TS]
    exact ⟨_, .agg _ _ rfl (fun j hj hj' => hbp _ _ (List.getElem_mem hj)), rfl⟩
theorem ofM_step {S : Sc} {p a r : Str} {d : Nat} (hM : ∀ (t : Ty) (w : Rw) (σ : AState), TyK S t → w.ok → AC Try.prog 37 [.agg S.c, .agg [.str p, .str a, .str r], .agg t.c, .agg w.c, .int .i64 d] σ fun v s => s = σ ∧ v = .agg (makeX S p r d t w).c) : SubAC S p a r d (makeX S p r d) := by
  intro t w σ ht hw
  refine AC.share (.cons (.agg (mkC_fxd S p a r d)) (.cons (.agg (Ty.fxd t)) (.cons (.agg (Rw.fxd w)) .nil))) ?_
  have hM := fun σ => hM t w σ ht hw
  have hpp := fun σ => pur_ex σ (makeX S p r d t w)
  have sg62 : ∀ a b c d e f : AV, seg [a, b, c, d, e, f] 0 2 = [a, b] := fun _ _ _ _ _ _ => rfl
  have sg63' : ∀ a b c d e f : AV, seg [a, b, c, d, e, f] 2 3 = [c, d, e] := fun _ _ _ _ _ _ => rfl
  generalize makeX S p r d t w = E at *
  obtain ⟨wo, wn, wsx, wk⟩ := w
  obtain ⟨eop, eb, en, es, eut, eui, ek⟩ := E
  simp only [Rw.c_eq, Ty.c_eq, ints_eq, slc_eq, Sc.c_eq, Ex.c_eq, mkC_eq] at hM hpp ⊢
  refine ac_wp fn19 cf19 cl19 rfl ?_
  simp only [ac19]
  unfold ab19
  simp only [WU, seval, strs_eq, sg62, sg63', sg03, sg04]
  refine (hM _).use ?_
  simp only [WU, seval, strs_eq, sg07, storeA, sets, setx, TS]
  exact ⟨_, .agg _ _ rfl (fun j hj hj' => hpp _ _ (List.getElem_mem hj)), rfl⟩
theorem make_sub {S : Sc} {p a r : Str} (hS : ScM S) (hkl : S.kinds.length ≤ 1000) (hp : hasS S.kinds p = true) (hr : hasS S.kinds r = true) : ∀ d : Nat, d < 999 → SubAC S p a r d (makeX S p r d) := by
  intro d
  induction d with
  | zero => intro hd; exact ofM_step fun t w σ ht hw => make_step hd hS hkl ht hp hr hw fun h => absurd h (by omega)
  | succ d ih => intro hd; exact ofM_step fun t w σ ht hw => make_step hd hS hkl ht hp hr hw fun _ => by rw [Nat.add_sub_cancel]; exact ih (by omega)
theorem make_ac {S : Sc} {p a r : Str} {d : Nat} {t : Ty} {w : Rw} {σ : AState} (hd : d < 999) (hS : ScM S) (hkl : S.kinds.length ≤ 1000) (ht : TyK S t) (hp : hasS S.kinds p = true) (hr : hasS S.kinds r = true) (hw : w.ok) :
    AC Try.prog 37 [.agg S.c, .agg [.str p, .str a, .str r], .agg t.c, .agg w.c, .int .i64 d] σ fun v s => s = σ ∧ v = .agg (makeX S p r d t w).c :=
  make_step hd hS hkl ht hp hr hw fun h => make_sub hS hkl hp hr (d - 1) (by omega)
end Go.Proofs.Ytcdbpmmomgehfaa.Va
set_option maxRecDepth 100000
set_option maxHeartbeats 4000000
set_option linter.all false
namespace Go.Proofs.Ytcdbpmmomgehfaa.Va
open Go.Proofs
theorem bl_irr : ∀ a : Str, Op.bytesLess a a = false := by
  intro a
  induction a with
  | nil => rfl
  | cons x a ih => simp [Op.bytesLess, ih]
theorem bl_trans : ∀ a b c : Str, Op.bytesLess a b = true → Op.bytesLess b c = true → Op.bytesLess a c = true := by
  intro a
  induction a with
  | nil =>
    intro b c h1 h2
    cases b with
    | nil => simp [Op.bytesLess] at h1
    | cons y b => cases c with
      | nil => simp [Op.bytesLess] at h2
      | cons z c => rfl
  | cons x a ih =>
    intro b c h1 h2
    cases b with
    | nil => simp [Op.bytesLess] at h1
    | cons y b => cases c with
      | nil => simp [Op.bytesLess] at h2
      | cons z c =>
        simp only [Op.bytesLess, Bool.or_eq_true, decide_eq_true_eq, Bool.and_eq_true, beq_iff_eq] at h1 h2 ⊢
        rcases h1 with h1 | ⟨rfl, h1⟩
        · rcases h2 with h2 | ⟨rfl, h2⟩
          · exact .inl (UInt8.lt_trans h1 h2)
          · exact .inl h1
        · rcases h2 with h2 | ⟨rfl, h2⟩
          · exact .inl h2
          · exact .inr ⟨rfl, ih _ _ h1 h2⟩
theorem bl_tot : ∀ a b : Str, (Op.bytesLess b a || b == a) = false → Op.bytesLess a b = true := by
  intro a
  induction a with
  | nil =>
    intro b h
    cases b with
    | nil => simp [Op.bytesLess] at h
    | cons y b => rfl
  | cons x a ih =>
    intro b h
    cases b with
    | nil => simp [Op.bytesLess] at h
    | cons y b =>
      simp only [Op.bytesLess, Bool.or_eq_false_iff, decide_eq_false_iff_not, Bool.and_eq_false_iff, beq_eq_false_iff_ne, ne_eq, List.cons.injEq, not_and] at h
      simp only [Op.bytesLess, Bool.or_eq_true, decide_eq_true_eq, Bool.and_eq_true, beq_iff_eq]
      obtain ⟨⟨h1, h2⟩, h3⟩ := h
      by_cases e : x = y
      · subst e
        refine .inr ⟨rfl, ih b ?_⟩
        rcases h2 with h2 | h2
        · exact absurd rfl h2
        · rw [h2, Bool.false_or]
          simpa using h3 rfl
      · left
        have h1' : ¬ y.toNat < x.toNat := fun h => h1 (UInt8.lt_iff_toNat_lt.2 h)
        have e' : x.toNat ≠ y.toNat := fun h => e (UInt8.toNat_inj.1 h)
        exact UInt8.lt_iff_toNat_lt.2 (by omega)
theorem fieldsS_cons {ks : List Kd} {f : Fl} {r : List Fl} {last : Str} (h : fieldsS ks last (f :: r) = 0) : Op.bytesLess last f.name = true ∧ fieldsS ks f.name r = 0 := by
  unfold fieldsS at h
  split at h
  · cases h
  · split at h
    · cases h
    · rename_i h2
      split at h
      · rename_i h3; exact absurd h h3
      · exact ⟨bl_tot _ _ (by simpa using h2), h⟩
theorem fields_go {ks : List Kd} : ∀ (l : List Fl) (last : Str), fieldsS ks last l = 0 → ∀ f ∈ l, Op.bytesLess last f.name = true ∧ l.find? (fun g => decide (g.name = f.name)) = some f := by
  intro l
  induction l with
  | nil => intro _ _ f hf; cases hf
  | cons g r ih =>
    intro last h f hf
    obtain ⟨h1, h2⟩ := fieldsS_cons h
    rw [List.find?_cons]
    rcases List.mem_cons.1 hf with e | hf
    · subst e; exact ⟨h1, by simp⟩
    · obtain ⟨h3, h4⟩ := ih g.name h2 f hf
      have hne : decide (g.name = f.name) = false := by
        simp only [decide_eq_false_iff_not]
        intro e
        rw [e, bl_irr] at h3; cases h3
      rw [hne]
      exact ⟨bl_trans _ _ _ h1 h3, h4⟩
theorem kinds_each {ks : List Kd} : ∀ (l : List Kd) (last : Str), kindsS ks last l = 0 → ∀ k ∈ l, fieldsS ks [] k.fields = 0 := by
  intro l
  induction l with
  | nil => intro _ _ k hk; cases hk
  | cons g r ih =>
    intro last h k hk
    obtain ⟨h1, h2⟩ := kindsS_cons h
    rcases List.mem_cons.1 hk with e | hk
    · subst e; exact (kindS_zero h1).2.2
    · exact ih g.name h2 k hk
theorem ScN.field {S : Sc} (h : ScN S) {k : Kd} (hk : k ∈ S.kinds) {f : Fl} (hf : f ∈ k.fields) : fieldX k.fields f.name = some f.ty := by
  unfold fieldX
  rw [(fields_go k.fields [] (kinds_each S.kinds [] h.ks.1 k hk) f hf).2]; rfl
theorem fieldM_hit {S : Sc} {n : Int} {t : Ty} {x : Str × Str} (h : fieldM S n t = some x) : ∃ k ∈ S.kinds, k.name = x.2 ∧ ∃ f ∈ k.fields, f.name = x.1 ∧ f.ty = t := by
  unfold fieldM at h
  obtain ⟨i, hi, h1⟩ := List.exists_of_findSome?_eq_some h
  have hi' := List.mem_range.1 hi
  unfold fldM at h1
  simp only [Option.map_map, Option.map_eq_some_iff] at h1
  obtain ⟨f, hf, rfl⟩ := h1
  exact ⟨kindM S n i, kindM_mem hi', rfl, f, List.mem_of_find?_eq_some hf, rfl, by simpa using List.find?_some (p := fun f : Fl => decide (f.ty = t)) hf⟩
theorem ofPs_two {S : Sc} {p r : Str} {e f : Ex} {t u : Ty} (he : ofP S p r e = (t, 0)) (hf : ofP S p r f = (u, 0)) : ofPs S p r [e, f] = .ok [t, u] := by
  rw [ofPs_cons, he, if_neg (by simp), ofPs_cons, hf, if_neg (by simp), ofPs_nil]
theorem ofPs_three {S : Sc} {p r : Str} {e f g : Ex} {t u v : Ty} (he : ofP S p r e = (t, 0)) (hf : ofP S p r f = (u, 0)) (hg : ofP S p r g = (v, 0)) : ofPs S p r [e, f, g] = .ok [t, u, v] := by
  rw [ofPs_cons, he, if_neg (by simp), ofPs_two hf hg]
theorem ofP_two {S : Sc} {p r : Str} {op : Int} {b : Bool} {n : Int} {s u v : Str} {e f : Ex} {t t' : Ty} (h : op = 9 ∨ (13 ≤ op ∧ op ≤ 24)) (he : ofP S p r e = (t, 0)) (hf : ofP S p r f = (t', 0)) : ofP S p r (.mk op b n s u v [e, f]) = nodeP S op s [t, t'] :=
  ofP_node (ofPs_two he hf) (by omega) (.inr (.inr (.inr (.inl ⟨h, rfl⟩))))
theorem wf_two {op : Int} {b : Bool} {n : Int} {s u v : Str} {e f : Ex} (h : op = 9 ∨ (13 ≤ op ∧ op ≤ 24)) (he : e.wf) (hf : f.wf) : (Ex.mk op b n s u v [e, f]).wf := by
  rw [Ex.wf_eq]; exact ⟨.inr (.inr (.inr (.inl ⟨h, rfl⟩))), by simp, Ex.wfs_all.2 (by simp [he, hf])⟩
/- Both at once. -/
def Made (S : Sc) (p r : Str) (t : Ty) (e : Ex) : Prop := e.wf ∧ ofP S p r e = (t, 0)
theorem made_one {S : Sc} {p r : Str} {op : Int} {b : Bool} {n : Int} {s u v : Str} {e : Ex} {t t' : Ty} (h : op = 7 ∨ op = 8 ∨ op = 10 ∨ op = 11 ∨ op = 12) (he : Made S p r t e) (hn : nodeP S op s [t] = (t', 0)) : Made S p r t' (.mk op b n s u v [e]) :=
  ⟨wf_one h he.1, (ofP_one h he.2).trans hn⟩
theorem made_two {S : Sc} {p r : Str} {op : Int} {b : Bool} {n : Int} {s u v : Str} {e f : Ex} {t t' t'' : Ty} (h : op = 9 ∨ (13 ≤ op ∧ op ≤ 24)) (he : Made S p r t e) (hf : Made S p r t' f) (hn : nodeP S op s [t, t'] = (t'', 0)) : Made S p r t'' (.mk op b n s u v [e, f]) :=
  ⟨wf_two h he.1 hf.1, (ofP_two h he.2 hf.2).trans hn⟩
theorem alike_two (t : Ty) : alikeK [t, t] = true := by simp [alikeK]
theorem made_truth {S : Sc} {p r : Str} {sub : Ty → Rw → Ex} (hp : hasS S.kinds p = true) (hr : hasS S.kinds r = true) (hsub : ∀ t w, TyK S t → Made S p r t (sub t w)) (w : Rw) (k : Int) : Made S p r tB (truthX p r sub w k) := by
  have hT := someT_ok hp hr (nOf w)
  unfold truthX
  generalize someT p r (nOf w) = T at *
  have hB := fun w => hsub tB w (tyK_B S)
  have hL := fun w => hsub tL w (tyK_L S)
  have hS := fun w => hsub tS w (tyK_S S)
  have hP := fun w => hsub (tU p) w (tyK_U hp)
  have hR := fun w => hsub (tU r) w (tyK_U hr)
  have hQ := fun w => hsub ⟨5, 4, r⟩ w (tyK_set (t := tU r) ⟨rfl, .inr ⟨rfl, hr⟩⟩)
  have hTT := fun w => hsub T w (.inl hT)
  have hV := fun w => hsub ⟨5, T.kind, T.name⟩ w (tyK_set hT)
  split
  · exact made_one (by decide) (hB _) rfl
  split
  · split
    · exact made_two (by decide) (hB _) (hB _) rfl
    · exact made_two (by decide) (hB _) (hB _) rfl
  split
  · have hw := wi_range (nOf w) (n := 4) (by decide)
    rcases (by omega : wi (nOf w) 4 = 0 ∨ wi (nOf w) 4 = 1 ∨ wi (nOf w) 4 = 2 ∨ wi (nOf w) 4 = 3) with h | h | h | h <;> rw [h] <;> exact made_two (by decide) (hL _) (hL _) rfl
  split
  · have hw := wi_range (nOf w) (n := 2) (by decide)
    have ha := alike_two T
    rcases (by omega : wi (nOf w) 2 = 0 ∨ wi (nOf w) 2 = 1) with h | h <;> rw [h]
    · exact made_two (by decide) (hTT _) (hTT _) (by show gotP ⟨1, 0, []⟩ (alikeK [T, T] || allK [T, T] 4) = _; rw [ha]; rfl)
    · exact made_two (by decide) (hTT _) (hTT _) (by show gotP ⟨1, 0, []⟩ (alikeK [T, T] || allK [T, T] 4) = _; rw [ha]; rfl)
  split
  · exact made_two (by decide) (hP _) (hR _) rfl
  split
  · exact made_two (by decide) (hP _) (hQ _) rfl
  split
  · refine made_two (by decide) (hV _) (hTT _) ?_
    show gotP ⟨1, 0, []⟩ (holdsB ⟨5, T.kind, T.name⟩ T) = _
    have : holdsB ⟨5, T.kind, T.name⟩ T = true := by
      unfold holdsB
      obtain ⟨a, b, c⟩ := T
      have h0 : b = 0 := hT.1
      subst h0
      simp
    rw [this]; rfl
  split
  · exact made_one (by decide) (hS _) rfl
  · exact made_one (by decide) (hP _) rfl
theorem made_build {S : Sc} (hN : ScN S) {p r : Str} {sub : Ty → Rw → Ex} (hp : hasS S.kinds p = true) (hr : hasS S.kinds r = true) (hsub : ∀ t w, TyK S t → Made S p r t (sub t w)) {t : Ty} (ht : TyK S t) (w : Rw) (h0 : opE (buildX S p r sub t w) ≠ 0) : Made S p r t (buildX S p r sub t w) := by
  obtain ⟨wo, wn, wsx, wk⟩ := w
  rw [buildX] at h0 ⊢
  by_cases c0 : wi wo 12 = 0
  · rw [if_pos c0]
    refine ⟨?_, ?_⟩
    · rw [Ex.wf_eq]
      refine ⟨.inr (.inr (.inr (.inr ⟨rfl, rfl⟩))), by simp, Ex.wfs_all.2 ?_⟩
      intro e he
      simp only [List.mem_cons, List.not_mem_nil, or_false] at he
      rcases he with rfl | rfl | rfl
      · exact (hsub _ _ (tyK_B S)).1
      · exact (hsub _ _ ht).1
      · exact (hsub _ _ ht).1
    · rw [ofP_node (ofPs_three (hsub tB _ (tyK_B S)).2 (hsub t _ ht).2 (hsub t _ ht).2) (by decide) (.inr (.inr (.inr (.inr ⟨rfl, rfl⟩))))]
      show gotP t (decide ((1 : Int) = 1) && decide (t = t)) = (t, 0)
      simp [gotP]
  rw [if_neg c0] at h0 ⊢
  by_cases c3 : wi wo 12 ≤ 3
  · rw [if_pos c3] at h0 ⊢
    cases hf : fieldM S wn t with
    | none => rw [hf] at h0; exact absurd rfl h0
    | some x =>
      obtain ⟨k, hk, hkn, f, hfm, hfn, hft⟩ := fieldM_hit hf
      refine made_one (.inl rfl) (hsub (tU x.2) _ (tyK_U (by rw [← hkn]; exact hasS_mem hk))) ?_
      show fieldP S (tU x.2) x.1 = (t, 0)
      unfold fieldP
      rw [if_neg (by simp [tU])]
      have hnm : (tU x.2).name = x.2 := rfl
      rw [hnm, ← hkn, (hN.kindX hk).1, ← hfn, hN.field hk hfm, hft]
  rw [if_neg c3] at h0 ⊢
  by_cases c2 : t.kind = 2 ∧ wi wo 12 ≤ 8
  · rw [if_pos c2]
    have htL : t = tL := by
      rcases ht with ⟨h1, ⟨_, h2⟩ | ⟨h2, _⟩⟩ | ⟨h1, _⟩
      · obtain ⟨a, b, c⟩ := t; simp only at h1 h2 c2; rw [h1, h2, c2.1]; rfl
      · omega
      · omega
    rw [htL]
    unfold opM
    split
    · exact made_two (by decide) (hsub tL _ (tyK_L S)) (hsub tL _ (tyK_L S)) rfl
    · split
      · exact made_two (by decide) (hsub tL _ (tyK_L S)) (hsub tL _ (tyK_L S)) rfl
      · exact made_two (by decide) (hsub tL _ (tyK_L S)) (hsub tL _ (tyK_L S)) rfl
  rw [if_neg c2] at h0 ⊢
  by_cases c9 : t.kind = 2 ∧ wi wo 12 = 9
  · rw [if_pos c9]
    have htL : t = tL := by
      rcases ht with ⟨h1, ⟨_, h2⟩ | ⟨h2, _⟩⟩ | ⟨h1, _⟩
      · obtain ⟨a, b, c⟩ := t; simp only at h1 h2 c9; rw [h1, h2, c9.1]; rfl
      · omega
      · omega
    rw [htL]
    exact made_one (by decide) (hsub tL _ (tyK_L S)) rfl
  rw [if_neg c9] at h0 ⊢
  by_cases c1 : t.kind = 1
  · rw [if_pos c1]
    have htB : t = tB := by
      rcases ht with ⟨h1, ⟨_, h2⟩ | ⟨h2, _⟩⟩ | ⟨h1, _⟩
      · obtain ⟨a, b, c⟩ := t; simp only at h1 h2 c1; rw [h1, h2, c1]; rfl
      · omega
      · omega
    rw [htB]
    exact made_truth hp hr hsub _ _
  rw [if_neg c1] at h0 ⊢
  by_cases c5 : t.kind = 5
  · rw [if_pos c5]
    have hTB : TyB S ⟨t.of_, 0, t.name⟩ := by
      rcases ht with h | ⟨_, h⟩
      · have := h.k; omega
      · exact h
    have hall : ∀ e ∈ (List.range (1 + (wi wn 3).toNat)).map (fun i => sub ⟨t.of_, 0, t.name⟩ (kidM (.mk wo wn wsx wk) i)), Made S p r ⟨t.of_, 0, t.name⟩ e := by
      intro e he
      obtain ⟨i, _, rfl⟩ := List.mem_map.1 he
      exact hsub _ _ (.inl hTB)
    have hw3 := wi_range wn (n := 3) (by decide)
    refine ⟨wf_set (by rw [List.length_map, List.length_range]; omega) fun e he => (hall e he).1, ?_⟩
    rw [ofP_set (t := ⟨t.of_, 0, t.name⟩) (by rw [List.length_map, List.length_range]; omega) (by have := hTB.k; simp only at this; simp only [ne_eq]; omega) fun e he => (hall e he).2]
    obtain ⟨a, b, c⟩ := t
    simp only at c5
    subst c5; rfl
  · rw [if_neg c5] at h0; exact absurd rfl h0
theorem made_all {S : Sc} (hN : ScN S) {p r : Str} (hp : hasS S.kinds p = true) (hr : hasS S.kinds r = true) : ∀ (d : Nat) (t : Ty) (w : Rw), TyK S t → Made S p r t (makeX S p r d t w) := by
  intro d
  induction d with
  | zero => intro t w ht; rw [makeX]; exact ⟨plainX_wf _ _ _ _, plainX_of hN.r ht w⟩
  | succ d ih =>
    intro t w ht
    rw [makeX]
    split
    · exact ⟨plainX_wf _ _ _ _, plainX_of hN.r ht w⟩
    · split
      · rename_i h; exact made_build hN hp hr ih ht w h
      · exact ⟨plainX_wf _ _ _ _, plainX_of hN.r ht w⟩
end Go.Proofs.Ytcdbpmmomgehfaa.Va
set_option maxRecDepth 100000
set_option maxHeartbeats 4000000
set_option linter.all false
namespace Go.Proofs.Ytcdbpmmomgehfaa.Va
open Go.Proofs
/- How many there are matters only as a number. -/
theorem few11_step {op n : Int} {s : List Int} {kids : List Rw} {m : Int} (hl : kids.length ≤ Most)
    (ih : ∀ e ∈ kids, ∀ m σ, AC Try.prog 17 [.agg e.c, .int .i64 m] σ fun v s' => s' = σ ∧ ∃ k, v = .int .i64 k) :
    AC Try.prog 17 [.agg (Rw.mk op n s kids).c, .int .i64 m] st0 fun v _ => ∃ k, v = .int .i64 k := by
  rw [Rw.c_eq]
  by_cases h1 : m ≤ 0
  · refine ac_wp fn17 cf17 cl17 rfl ?_
    simp only [ac17]
    unfold ab17
    simp only [WU, seval, strs_eq, h1, ints_eq]
    exact ⟨_, rfl⟩
  by_cases h2 : (10 : Int) < ((kids.length : Nat) : Int)
  · refine ac_wp fn17 cf17 cl17 rfl ?_
    simp only [ac17]
    unfold ab17
    simp only [WU, seval, strs_eq, h1, h2, ints_eq]
    exact ⟨_, rfl⟩
  by_cases h3 : (60 : Int) < ((s.length : Nat) : Int)
  · refine ac_wp fn17 cf17 cl17 rfl ?_
    simp only [ac17]
    unfold ab17
    simp only [WU, seval, strs_eq, h1, h2, h3, ints_eq]
    exact ⟨_, rfl⟩
  refine ac_wp fn17 cf17 cl17 rfl ?_
  simp only [ac17]
  unfold ab17
  simp only [WU, seval, strs_eq, h1, h2, h3, ints_eq]
  refine w_for (fun i ρ s' => ρ.rd 5 = .int .i64 i ∧ ρ.rd 2 = .ptr 0 0 ∧ s'.cells 0 = some [.int .i64 op, .int .i64 n, ints s, slc Rw.c kids] ∧ ∃ k, ρ.rd 1 = .int .i64 k) kids.length ?_ ?_
  · simp only [WU, seval, strs_eq, ints_eq]
    first | done | exact ⟨rfl, _, rfl⟩ | exact ⟨_, rfl⟩
  rintro i ρ s' hi ⟨h5, hp, c0, k, hk⟩
  by_cases hlt : i < kids.length
  rotate_left
  · have hge : ¬ ((i : Nat) : Int) < ((kids.length : Nat) : Int) := by omega
    simp only [WU, seval, strs_eq, h5, hp, c0, hk, hge]
    exact ⟨_, rfl⟩
  have hr := lt_idx hlt
  have hlt' := hr.2
  have hfit := rowc_fit Rw.c_len hlt
  have hall := rowc_seg Rw.c_len hlt
  have hw : IntKind.i64.wrap ((i : Int) + 1) = ((i + 1 : Nat) : Int) := wrap_succ (by have : Most = 9223372036854775807 := rfl; omega)
  by_cases hk0 : 0 < k
  · simp only [WU, seval, strs_eq, h5, hp, c0, hk, hlt', hk0, hr, hfit, hall]
    refine (ih _ (List.getElem_mem hlt) k s').mono ?_
    rintro v s1 ⟨rfl, k', rfl⟩
    simp only [WU, seval, strs_eq, h5, hp, c0, hw]
    exact ⟨hlt, _, rfl⟩
  · simp only [WU, seval, strs_eq, h5, hp, c0, hk, hlt', hk0]
    exact ⟨_, rfl⟩
theorem few11_share {e : Rw} {m : Int} {σ : AState} (h : AC Try.prog 17 [.agg e.c, .int .i64 m] st0 fun v _ => ∃ k, v = .int .i64 k) : AC Try.prog 17 [.agg e.c, .int .i64 m] σ fun v s' => s' = σ ∧ ∃ k, v = .int .i64 k :=
  AC.share (R := fun v => ∃ k, v = .int .i64 k) (.cons (.agg (Rw.fxd e)) (.cons (.flat rfl) .nil)) (h.mono fun v s h => by obtain ⟨k, rfl⟩ := h; exact ⟨_, .flat _ rfl, k, rfl⟩)
mutual
theorem few11_ac : (e : Rw) → e.ok → ∀ m σ, AC Try.prog 17 [.agg e.c, .int .i64 m] σ fun v s' => s' = σ ∧ ∃ k, v = .int .i64 k
  | .mk op n s kids, h, m, σ => few11_share (few11_step ((Rw.ok_eq ..).mp h).2.1 (few11_all kids ((Rw.ok_eq ..).mp h).2.2))
theorem few11_all : (l : List Rw) → Rw.oks l → ∀ e ∈ l, ∀ m σ, AC Try.prog 17 [.agg e.c, .int .i64 m] σ fun v s' => s' = σ ∧ ∃ k, v = .int .i64 k
  | [], _, e, he, m, σ => absurd he (by simp)
  | k :: l, hw, e, he, m, σ => by
    have hw' : k.ok ∧ Rw.oks l := by rw [Rw.oks] at hw; exact hw
    rcases List.mem_cons.1 he with h | h
    · rw [h]; exact few11_ac k hw'.1 m σ
    · exact few11_all l hw'.2 e h m σ
end
end Go.Proofs.Ytcdbpmmomgehfaa.Va
