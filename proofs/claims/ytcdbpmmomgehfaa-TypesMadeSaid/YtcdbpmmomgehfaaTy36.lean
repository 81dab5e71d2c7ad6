/- Trees that are made to be of a type are of it. Conditions: none. -/
import Derived.Test.YtcdbpmmomgehfaaTM
import Derived.Test.YtcdbpmmomgehfaaTy35
set_option maxRecDepth 100000
set_option maxHeartbeats 4000000
set_option linter.all false
namespace Go.Proofs.Ytcdbpmmomgehfaa.Va
open Go.Proofs
def opE : Ex → Int
  | .mk op _ _ _ _ _ _ => op
def makeX (S : Sc) (p r : Str) : Nat → Ty → Rw → Ex
  | 0, t, w => plainX p r t w
  | d + 1, t, w => if d = 0 then plainX p r t w else if opE (buildX S p r (makeX S p r d) t w) ≠ 0 then buildX S p r (makeX S p r d) t w else plainX p r t w
theorem make_step {S : Sc} {p a r : Str} {d : Nat} {t : Ty} {w : Rw} {σ : AState} (hd : d < 999) (hS : ScM S) (hkl : S.kinds.length ≤ 1000) (ht : TyK S t) (hp : hasS S.kinds p = true) (hr : hasS S.kinds r = true) (hw : w.ok)
    (hsub : 0 < d → SubAC S p a r ((d - 1 : Nat) : Int) (makeX S p r (d - 1))) :
    AC Try.prog 37 [.agg S.c, .agg [.str p, .str a, .str r], .agg t.c, .agg w.c, .int .i64 d] σ fun v s => s = σ ∧ v = .agg (makeX S p r d t w).c := by
  refine AC.share (.cons (.agg (Sc.fxd S)) (.cons (.agg (env_fxd p a r)) (.cons (.agg (Ty.fxd t)) (.cons (.agg (Rw.fxd w)) (.cons (.flat rfl) .nil))))) ?_
  have hPl : ∀ σ, AC Try.prog 49 [.agg S.c, .agg [.str p, .str a, .str r], .agg t.c, .agg w.c] σ fun v s => s = σ ∧ v = .agg (plainX p r t w).c := fun σ => plain_ac ht hw
  have hpp := fun σ => pur_ex σ (plainX p r t w)
  have sg := scSeg S
  have hleaf : makeX S p r d t w = plainX p r t w → ((d : Nat) : Int) ≤ 1 → AC Try.prog 37 [.agg S.c, .agg [.str p, .str a, .str r], .agg t.c, .agg w.c, .int .i64 d] st0 fun v s => ∃ x, Pur s true v x ∧ x = .agg (makeX S p r d t w).c := by
    intro hv h1
    rw [hv]
    clear hv hsub
    generalize plainX p r t w = E at *
    obtain ⟨wo, wn, wsx, wk⟩ := w
    obtain ⟨eop, eb, en, es, eut, eui, ek⟩ := E
    simp only [Rw.c_eq, Ty.c_eq, ints_eq, slc_eq, Sc.c_eq, Ex.c_eq] at hPl hpp ⊢
    refine ac_wp fn37 cf37 cl37 rfl ?_
    simp only [ac37]
    unfold ab37
    simp only [WS, seval, stepW, evalA, evalBin, Option.getD, allocA, rowOf, fillA, partsV, setl, AV.len, evalUn, strs_eq, h1, sg, sg03, sg04]
    refine (hPl _).use ?_
    simp only [WS, seval, stepW, evalA, evalBin, Option.getD, allocA, rowOf, fillA, partsV, setl, AV.len, evalUn, strs_eq, sg07, storeA, sets, setx, TS]
    exact ⟨_, .agg _ _ rfl (fun j hj hj' => hpp _ _ (List.getElem_mem hj)), rfl⟩
  by_cases h1 : d = 0 ∨ d = 1
  · refine hleaf ?_ (by omega)
    rcases h1 with h | h
    · subst h; rw [makeX]
    · subst h; rw [makeX, if_pos rfl]
  obtain ⟨d', rfl⟩ : ∃ d', d = d' + 1 := ⟨d - 1, by omega⟩
  have hd' : ¬ d' = 0 := by omega
  have hn1 : ¬ ((d' + 1 : Nat) : Int) ≤ 1 := by omega
  have hsub' := hsub (by omega)
  rw [Nat.add_sub_cancel] at hsub'
  have hB : ∀ σ, AC Try.prog 50 [.agg S.c, .agg [.str p, .str a, .str r], .agg t.c, .agg w.c, .int .i64 ((d' + 1 : Nat) : Int)] σ fun v s => s = σ ∧ v = .agg (buildX S p r (makeX S p r d') t w).c := fun σ =>
    AC.share (.cons (.agg (Sc.fxd S)) (.cons (.agg (env_fxd p a r)) (.cons (.agg (Ty.fxd t)) (.cons (.agg (Rw.fxd w)) (.cons (.flat rfl) .nil))))) (build_st0 (by omega) hS hkl ht hp hr hsub' hw)
  have hbp := fun σ => pur_ex σ (buildX S p r (makeX S p r d') t w)
  rw [makeX, if_neg hd']
  clear hsub hsub' hleaf
  generalize buildX S p r (makeX S p r d') t w = F at *
  generalize plainX p r t w = E at *
  by_cases h0' : opE F = 0
  · rw [if_neg (by simpa using h0')]
    obtain ⟨wo, wn, wsx, wk⟩ := w
    obtain ⟨eop, eb, en, es, eut, eui, ek⟩ := E
    obtain ⟨fop, fb, fn, fs, fut, fui, fk⟩ := F
    have h0 : fop = 0 := h0'
    simp only [Rw.c_eq, Ty.c_eq, ints_eq, slc_eq, Sc.c_eq, Ex.c_eq] at hPl hpp hB hbp ⊢
    refine ac_wp fn37 cf37 cl37 rfl ?_
    simp only [ac37]
    unfold ab37
    simp only [WS, seval, stepW, evalA, evalBin, Option.getD, allocA, rowOf, fillA, partsV, setl, AV.len, evalUn, strs_eq, hn1, sg, sg03, sg04]
    refine (hB _).use ?_
    simp only [WS, seval, stepW, evalA, evalBin, Option.getD, allocA, rowOf, fillA, partsV, setl, AV.len, evalUn, strs_eq, sg, sg03, sg04, sg07, decide_eq_true h0, decide_not, storeA, sets, setx, TS]
    refine (hPl _).use ?_
    simp only [WS, seval, stepW, evalA, evalBin, Option.getD, allocA, rowOf, fillA, partsV, setl, AV.len, evalUn, strs_eq, sg07, storeA, sets, setx, TS]
    exact ⟨_, .agg _ _ rfl (fun j hj hj' => hpp _ _ (List.getElem_mem hj)), rfl⟩
  · rw [if_pos h0']
    obtain ⟨wo, wn, wsx, wk⟩ := w
    obtain ⟨fop, fb, fn, fs, fut, fui, fk⟩ := F
    have h0 : ¬ fop = 0 := h0'
    simp only [Rw.c_eq, Ty.c_eq, ints_eq, slc_eq, Sc.c_eq, Ex.c_eq] at hB hbp ⊢
    refine ac_wp fn37 cf37 cl37 rfl ?_
    simp only [ac37]
    unfold ab37
    simp only [WS, seval, stepW, evalA, evalBin, Option.getD, allocA, rowOf, fillA, partsV, setl, AV.len, evalUn, strs_eq, hn1, sg, sg03, sg04]
    refine (hB _).use ?_
    simp only [WS, seval, stepW, evalA, evalBin, Option.getD, allocA, rowOf, fillA, partsV, setl, AV.len, evalUn, strs_eq, sg07, decide_eq_false h0, decide_not, storeA, sets, setx, TS]
    exact ⟨_, .agg _ _ rfl (fun j hj hj' => hbp _ _ (List.getElem_mem hj)), rfl⟩
theorem ofM_step {S : Sc} {p a r : Str} {d : Nat} (hM : ∀ (t : Ty) (w : Rw) (σ : AState), TyK S t → w.ok → AC Try.prog 37 [.agg S.c, .agg [.str p, .str a, .str r], .agg t.c, .agg w.c, .int .i64 d] σ fun v s => s = σ ∧ v = .agg (makeX S p r d t w).c) : SubAC S p a r d (makeX S p r d) := by
  intro t w σ ht hw
  refine AC.share (.cons (.agg (mkC_fxd S p a r d)) (.cons (.agg (Ty.fxd t)) (.cons (.agg (Rw.fxd w)) .nil))) ?_
  have hM := fun σ => hM t w σ ht hw
  have hpp := fun σ => pur_ex σ (makeX S p r d t w)
  have sg62 : ∀ a b c d e f : AV, seg [a, b, c, d, e, f] 0 2 = [a, b] := fun _ _ _ _ _ _ => rfl
  have sg63' : ∀ a b c d e f : AV, seg [a, b, c, d, e, f] 2 3 = [c, d, e] := fun _ _ _ _ _ _ => rfl
  generalize makeX S p r d t w = E at *
  obtain ⟨wo, wn, wsx, wk⟩ := w
  obtain ⟨eop, eb, en, es, eut, eui, ek⟩ := E
  simp only [Rw.c_eq, Ty.c_eq, ints_eq, slc_eq, Sc.c_eq, Ex.c_eq, mkC_eq] at hM hpp ⊢
  refine ac_wp fn19 cf19 cl19 rfl ?_
  simp only [ac19]
  unfold ab19
  simp only [WS, seval, stepW, evalA, evalBin, Option.getD, allocA, rowOf, fillA, partsV, setl, AV.len, evalUn, strs_eq, sg62, sg63', sg03, sg04]
  refine (hM _).use ?_
  simp only [WS, seval, stepW, evalA, evalBin, Option.getD, allocA, rowOf, fillA, partsV, setl, AV.len, evalUn, strs_eq, sg07, storeA, sets, setx, TS]
  exact ⟨_, .agg _ _ rfl (fun j hj hj' => hpp _ _ (List.getElem_mem hj)), rfl⟩
theorem make_sub {S : Sc} {p a r : Str} (hS : ScM S) (hkl : S.kinds.length ≤ 1000) (hp : hasS S.kinds p = true) (hr : hasS S.kinds r = true) : ∀ d : Nat, d < 999 → SubAC S p a r d (makeX S p r d) := by
  intro d
  induction d with
  | zero => intro hd; exact ofM_step fun t w σ ht hw => make_step hd hS hkl ht hp hr hw fun h => absurd h (by omega)
  | succ d ih => intro hd; exact ofM_step fun t w σ ht hw => make_step hd hS hkl ht hp hr hw fun _ => by rw [Nat.add_sub_cancel]; exact ih (by omega)
theorem make_ac {S : Sc} {p a r : Str} {d : Nat} {t : Ty} {w : Rw} {σ : AState} (hd : d < 999) (hS : ScM S) (hkl : S.kinds.length ≤ 1000) (ht : TyK S t) (hp : hasS S.kinds p = true) (hr : hasS S.kinds r = true) (hw : w.ok) :
    AC Try.prog 37 [.agg S.c, .agg [.str p, .str a, .str r], .agg t.c, .agg w.c, .int .i64 d] σ fun v s => s = σ ∧ v = .agg (makeX S p r d t w).c :=
  make_step hd hS hkl ht hp hr hw fun h => make_sub hS hkl hp hr (d - 1) (by omega)
end Go.Proofs.Ytcdbpmmomgehfaa.Va
