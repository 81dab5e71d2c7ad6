/- The reference: nodes of each operation. Conditions: none. -/
import Derived.Test.YtcdbpmmomgehfaaTy16
set_option maxRecDepth 100000
set_option maxHeartbeats 4000000
set_option linter.all false
namespace Go.Proofs.Ytcdbpmmomgehfaa.Va
open Go.Proofs
theorem own12_st0 {S : Sc} {l : List Ty} {b : Bool} {n : Int} {s ut ui : Str} {kids : List Ex} (hl : l.length ≤ 1000) : AC Try.prog 48 [.agg S.c, .agg (Ex.mk 12 b n s ut ui kids).c, slc Ty.c l] st0 fun v _ => v = tyP (nodeP S 12 s l) := by
  rw [Ex.c_eq]
  have hG : ∀ σ, AC Try.prog 67 [slc Ty.c l, .int .i64 2, .int .i64 2] σ fun v s => s = σ ∧ v = tyP (gotP ⟨2, 0, []⟩ (allK l 2)) := fun σ => needR_ac hl
  have hv : nodeP S 12 s l = gotP ⟨2, 0, []⟩ (allK l 2) := rfl
  rw [hv]
  generalize gotP ⟨2, 0, []⟩ (allK l 2) = x at *
  simp only [Ty.c_eq, tyP, tyE, slc_eq] at hG ⊢
  refine ac_wp fn48 cf48 cl48 rfl ?_
  simp only [ac48]
  unfold ab48
  simp only [WU, seval, strs_eq, Sc.c_eq, z01, z02, z12, z03, z13, z23, sg03, sg33, sg63, storeA, sets, setx, TS]
  refine (hG _).use ?_
  simp only [WU, seval, strs_eq, z01, z02, z12, z03, z13, z23, sg03, sg33, sg63, storeA, sets, setx, TS]
theorem own13_st0 {S : Sc} {l : List Ty} {b : Bool} {n : Int} {s ut ui : Str} {kids : List Ex} (hl : l.length ≤ 1000) : AC Try.prog 48 [.agg S.c, .agg (Ex.mk 13 b n s ut ui kids).c, slc Ty.c l] st0 fun v _ => v = tyP (nodeP S 13 s l) := by
  rw [Ex.c_eq]
  have hG : ∀ σ, AC Try.prog 67 [slc Ty.c l, .int .i64 2, .int .i64 2] σ fun v s => s = σ ∧ v = tyP (gotP ⟨2, 0, []⟩ (allK l 2)) := fun σ => needR_ac hl
  have hv : nodeP S 13 s l = gotP ⟨2, 0, []⟩ (allK l 2) := rfl
  rw [hv]
  generalize gotP ⟨2, 0, []⟩ (allK l 2) = x at *
  simp only [Ty.c_eq, tyP, tyE, slc_eq] at hG ⊢
  refine ac_wp fn48 cf48 cl48 rfl ?_
  simp only [ac48]
  unfold ab48
  simp only [WU, seval, strs_eq, Sc.c_eq, z01, z02, z12, z03, z13, z23, sg03, sg33, sg63, storeA, sets, setx, TS]
  refine (hG _).use ?_
  simp only [WU, seval, strs_eq, z01, z02, z12, z03, z13, z23, sg03, sg33, sg63, storeA, sets, setx, TS]
theorem own14_st0 {S : Sc} {l : List Ty} {b : Bool} {n : Int} {s ut ui : Str} {kids : List Ex} (hl : l.length ≤ 1000) : AC Try.prog 48 [.agg S.c, .agg (Ex.mk 14 b n s ut ui kids).c, slc Ty.c l] st0 fun v _ => v = tyP (nodeP S 14 s l) := by
  rw [Ex.c_eq]
  have hG : ∀ σ, AC Try.prog 67 [slc Ty.c l, .int .i64 2, .int .i64 2] σ fun v s => s = σ ∧ v = tyP (gotP ⟨2, 0, []⟩ (allK l 2)) := fun σ => needR_ac hl
  have hv : nodeP S 14 s l = gotP ⟨2, 0, []⟩ (allK l 2) := rfl
  rw [hv]
  generalize gotP ⟨2, 0, []⟩ (allK l 2) = x at *
  simp only [Ty.c_eq, tyP, tyE, slc_eq] at hG ⊢
  refine ac_wp fn48 cf48 cl48 rfl ?_
  simp only [ac48]
  unfold ab48
  simp only [WU, seval, strs_eq, Sc.c_eq, z01, z02, z12, z03, z13, z23, sg03, sg33, sg63, storeA, sets, setx, TS]
  refine (hG _).use ?_
  simp only [WU, seval, strs_eq, z01, z02, z12, z03, z13, z23, sg03, sg33, sg63, storeA, sets, setx, TS]
theorem own15_st0 {S : Sc} {l : List Ty} {b : Bool} {n : Int} {s ut ui : Str} {kids : List Ex} (hl : l.length ≤ 1000) : AC Try.prog 48 [.agg S.c, .agg (Ex.mk 15 b n s ut ui kids).c, slc Ty.c l] st0 fun v _ => v = tyP (nodeP S 15 s l) := by
  rw [Ex.c_eq]
  have hG : ∀ σ, AC Try.prog 67 [slc Ty.c l, .int .i64 2, .int .i64 2] σ fun v s => s = σ ∧ v = tyP (gotP ⟨2, 0, []⟩ (allK l 2)) := fun σ => needR_ac hl
  have hv : nodeP S 15 s l = gotP ⟨2, 0, []⟩ (allK l 2) := rfl
  rw [hv]
  generalize gotP ⟨2, 0, []⟩ (allK l 2) = x at *
  simp only [Ty.c_eq, tyP, tyE, slc_eq] at hG ⊢
  refine ac_wp fn48 cf48 cl48 rfl ?_
  simp only [ac48]
  unfold ab48
  simp only [WU, seval, strs_eq, Sc.c_eq, z01, z02, z12, z03, z13, z23, sg03, sg33, sg63, storeA, sets, setx, TS]
  refine (hG _).use ?_
  simp only [WU, seval, strs_eq, z01, z02, z12, z03, z13, z23, sg03, sg33, sg63, storeA, sets, setx, TS]
theorem own16_st0 {S : Sc} {l : List Ty} {b : Bool} {n : Int} {s ut ui : Str} {kids : List Ex} (hl : l.length ≤ 1000) : AC Try.prog 48 [.agg S.c, .agg (Ex.mk 16 b n s ut ui kids).c, slc Ty.c l] st0 fun v _ => v = tyP (nodeP S 16 s l) := by
  rw [Ex.c_eq]
  have hG : ∀ σ, AC Try.prog 67 [slc Ty.c l, .int .i64 2, .int .i64 1] σ fun v s => s = σ ∧ v = tyP (gotP ⟨1, 0, []⟩ (allK l 2)) := fun σ => needR_ac hl
  have hv : nodeP S 16 s l = gotP ⟨1, 0, []⟩ (allK l 2) := rfl
  rw [hv]
  generalize gotP ⟨1, 0, []⟩ (allK l 2) = x at *
  simp only [Ty.c_eq, tyP, tyE, slc_eq] at hG ⊢
  refine ac_wp fn48 cf48 cl48 rfl ?_
  simp only [ac48]
  unfold ab48
  simp only [WU, seval, strs_eq, Sc.c_eq, z01, z02, z12, z03, z13, z23, sg03, sg33, sg63, storeA, sets, setx, TS]
  refine (hG _).use ?_
  simp only [WU, seval, strs_eq, z01, z02, z12, z03, z13, z23, sg03, sg33, sg63, storeA, sets, setx, TS]
theorem own17_st0 {S : Sc} {l : List Ty} {b : Bool} {n : Int} {s ut ui : Str} {kids : List Ex} (hl : l.length ≤ 1000) : AC Try.prog 48 [.agg S.c, .agg (Ex.mk 17 b n s ut ui kids).c, slc Ty.c l] st0 fun v _ => v = tyP (nodeP S 17 s l) := by
  rw [Ex.c_eq]
  have hG : ∀ σ, AC Try.prog 67 [slc Ty.c l, .int .i64 2, .int .i64 1] σ fun v s => s = σ ∧ v = tyP (gotP ⟨1, 0, []⟩ (allK l 2)) := fun σ => needR_ac hl
  have hv : nodeP S 17 s l = gotP ⟨1, 0, []⟩ (allK l 2) := rfl
  rw [hv]
  generalize gotP ⟨1, 0, []⟩ (allK l 2) = x at *
  simp only [Ty.c_eq, tyP, tyE, slc_eq] at hG ⊢
  refine ac_wp fn48 cf48 cl48 rfl ?_
  simp only [ac48]
  unfold ab48
  simp only [WU, seval, strs_eq, Sc.c_eq, z01, z02, z12, z03, z13, z23, sg03, sg33, sg63, storeA, sets, setx, TS]
  refine (hG _).use ?_
  simp only [WU, seval, strs_eq, z01, z02, z12, z03, z13, z23, sg03, sg33, sg63, storeA, sets, setx, TS]
theorem own18_st0 {S : Sc} {l : List Ty} {b : Bool} {n : Int} {s ut ui : Str} {kids : List Ex} (hl : l.length ≤ 1000) : AC Try.prog 48 [.agg S.c, .agg (Ex.mk 18 b n s ut ui kids).c, slc Ty.c l] st0 fun v _ => v = tyP (nodeP S 18 s l) := by
  rw [Ex.c_eq]
  have hG : ∀ σ, AC Try.prog 67 [slc Ty.c l, .int .i64 2, .int .i64 1] σ fun v s => s = σ ∧ v = tyP (gotP ⟨1, 0, []⟩ (allK l 2)) := fun σ => needR_ac hl
  have hv : nodeP S 18 s l = gotP ⟨1, 0, []⟩ (allK l 2) := rfl
  rw [hv]
  generalize gotP ⟨1, 0, []⟩ (allK l 2) = x at *
  simp only [Ty.c_eq, tyP, tyE, slc_eq] at hG ⊢
  refine ac_wp fn48 cf48 cl48 rfl ?_
  simp only [ac48]
  unfold ab48
  simp only [WU, seval, strs_eq, Sc.c_eq, z01, z02, z12, z03, z13, z23, sg03, sg33, sg63, storeA, sets, setx, TS]
  refine (hG _).use ?_
  simp only [WU, seval, strs_eq, z01, z02, z12, z03, z13, z23, sg03, sg33, sg63, storeA, sets, setx, TS]
theorem own19_st0 {S : Sc} {l : List Ty} {b : Bool} {n : Int} {s ut ui : Str} {kids : List Ex} (hl : l.length ≤ 1000) : AC Try.prog 48 [.agg S.c, .agg (Ex.mk 19 b n s ut ui kids).c, slc Ty.c l] st0 fun v _ => v = tyP (nodeP S 19 s l) := by
  rw [Ex.c_eq]
  have hG : ∀ σ, AC Try.prog 67 [slc Ty.c l, .int .i64 2, .int .i64 1] σ fun v s => s = σ ∧ v = tyP (gotP ⟨1, 0, []⟩ (allK l 2)) := fun σ => needR_ac hl
  have hv : nodeP S 19 s l = gotP ⟨1, 0, []⟩ (allK l 2) := rfl
  rw [hv]
  generalize gotP ⟨1, 0, []⟩ (allK l 2) = x at *
  simp only [Ty.c_eq, tyP, tyE, slc_eq] at hG ⊢
  refine ac_wp fn48 cf48 cl48 rfl ?_
  simp only [ac48]
  unfold ab48
  simp only [WU, seval, strs_eq, Sc.c_eq, z01, z02, z12, z03, z13, z23, sg03, sg33, sg63, storeA, sets, setx, TS]
  refine (hG _).use ?_
  simp only [WU, seval, strs_eq, z01, z02, z12, z03, z13, z23, sg03, sg33, sg63, storeA, sets, setx, TS]
theorem own11_st0 {S : Sc} {l : List Ty} {b : Bool} {n : Int} {s ut ui : Str} {kids : List Ex} (hl : l.length ≤ 1000) : AC Try.prog 48 [.agg S.c, .agg (Ex.mk 11 b n s ut ui kids).c, slc Ty.c l] st0 fun v _ => v = tyP (nodeP S 11 s l) := by
  rw [Ex.c_eq]
  have hG : ∀ σ, AC Try.prog 67 [slc Ty.c l, .int .i64 1, .int .i64 1] σ fun v s => s = σ ∧ v = tyP (gotP ⟨1, 0, []⟩ (allK l 1)) := fun σ => needR_ac hl
  have hv : nodeP S 11 s l = gotP ⟨1, 0, []⟩ (allK l 1) := rfl
  rw [hv]
  generalize gotP ⟨1, 0, []⟩ (allK l 1) = x at *
  simp only [Ty.c_eq, tyP, tyE, slc_eq] at hG ⊢
  refine ac_wp fn48 cf48 cl48 rfl ?_
  simp only [ac48]
  unfold ab48
  simp only [WU, seval, strs_eq, Sc.c_eq, z01, z02, z12, z03, z13, z23, sg03, sg33, sg63, storeA, sets, setx, TS]
  refine (hG _).use ?_
  simp only [WU, seval, strs_eq, z01, z02, z12, z03, z13, z23, sg03, sg33, sg63, storeA, sets, setx, TS]
theorem own23_st0 {S : Sc} {l : List Ty} {b : Bool} {n : Int} {s ut ui : Str} {kids : List Ex} (hl : l.length ≤ 1000) : AC Try.prog 48 [.agg S.c, .agg (Ex.mk 23 b n s ut ui kids).c, slc Ty.c l] st0 fun v _ => v = tyP (nodeP S 23 s l) := by
  rw [Ex.c_eq]
  have hG : ∀ σ, AC Try.prog 67 [slc Ty.c l, .int .i64 1, .int .i64 1] σ fun v s => s = σ ∧ v = tyP (gotP ⟨1, 0, []⟩ (allK l 1)) := fun σ => needR_ac hl
  have hv : nodeP S 23 s l = gotP ⟨1, 0, []⟩ (allK l 1) := rfl
  rw [hv]
  generalize gotP ⟨1, 0, []⟩ (allK l 1) = x at *
  simp only [Ty.c_eq, tyP, tyE, slc_eq] at hG ⊢
  refine ac_wp fn48 cf48 cl48 rfl ?_
  simp only [ac48]
  unfold ab48
  simp only [WU, seval, strs_eq, Sc.c_eq, z01, z02, z12, z03, z13, z23, sg03, sg33, sg63, storeA, sets, setx, TS]
  refine (hG _).use ?_
  simp only [WU, seval, strs_eq, z01, z02, z12, z03, z13, z23, sg03, sg33, sg63, storeA, sets, setx, TS]
theorem own24_st0 {S : Sc} {l : List Ty} {b : Bool} {n : Int} {s ut ui : Str} {kids : List Ex} (hl : l.length ≤ 1000) : AC Try.prog 48 [.agg S.c, .agg (Ex.mk 24 b n s ut ui kids).c, slc Ty.c l] st0 fun v _ => v = tyP (nodeP S 24 s l) := by
  rw [Ex.c_eq]
  have hG : ∀ σ, AC Try.prog 67 [slc Ty.c l, .int .i64 1, .int .i64 1] σ fun v s => s = σ ∧ v = tyP (gotP ⟨1, 0, []⟩ (allK l 1)) := fun σ => needR_ac hl
  have hv : nodeP S 24 s l = gotP ⟨1, 0, []⟩ (allK l 1) := rfl
  rw [hv]
  generalize gotP ⟨1, 0, []⟩ (allK l 1) = x at *
  simp only [Ty.c_eq, tyP, tyE, slc_eq] at hG ⊢
  refine ac_wp fn48 cf48 cl48 rfl ?_
  simp only [ac48]
  unfold ab48
  simp only [WU, seval, strs_eq, Sc.c_eq, z01, z02, z12, z03, z13, z23, sg03, sg33, sg63, storeA, sets, setx, TS]
  refine (hG _).use ?_
  simp only [WU, seval, strs_eq, z01, z02, z12, z03, z13, z23, sg03, sg33, sg63, storeA, sets, setx, TS]
theorem own10_st0 {S : Sc} {t0 : Ty} {b : Bool} {n : Int} {s ut ui : Str} {kids : List Ex} : AC Try.prog 48 [.agg S.c, .agg (Ex.mk 10 b n s ut ui kids).c, slc Ty.c [t0]] st0 fun v _ => v = tyP (nodeP S 10 s [t0]) := by
  rw [Ex.c_eq]
  have hG : ∀ σ, AC Try.prog 67 [slc Ty.c [t0], .int .i64 3, .int .i64 1] σ fun v s => s = σ ∧ v = tyP (gotP ⟨1, 0, []⟩ (allK [t0] 3)) := fun σ => needR_ac (by simp)
  have h0 : allK [t0] 3 = decide (t0.kind = 3) := by unfold allK; simp
  have hv : nodeP S 10 s [t0] = gotP ⟨1, 0, []⟩ (allK [t0] 3) := by rw [h0]; rfl
  rw [hv]
  generalize gotP ⟨1, 0, []⟩ (allK [t0] 3) = x at *
  simp only [Ty.c_eq, tyP, tyE, slc_eq] at hG ⊢
  refine ac_wp fn48 cf48 cl48 rfl ?_
  simp only [ac48]
  unfold ab48
  simp only [WU, seval, strs_eq, Sc.c_eq, z01, z02, z12, z03, z13, z23, sg03, sg33, sg63, storeA, sets, setx, TS]
  refine (hG _).use ?_
  simp only [WU, seval, strs_eq, z01, z02, z12, z03, z13, z23, sg03, sg33, sg63, storeA, sets, setx, TS]
theorem own8_st0 {S : Sc} {t0 : Ty} {b : Bool} {n : Int} {s ut ui : Str} {kids : List Ex} : AC Try.prog 48 [.agg S.c, .agg (Ex.mk 8 b n s ut ui kids).c, slc Ty.c [t0]] st0 fun v _ => v = tyP (nodeP S 8 s [t0]) := by
  rw [Ex.c_eq]
  rw [ty1]
  have hv : nodeP S 8 s [t0] = gotP ⟨1, 0, []⟩ (decide (t0.kind = 4)) := rfl
  rw [hv]
  by_cases h4 : t0.kind = 4
  · rw [decide_eq_true h4]
    refine ac_wp fn48 cf48 cl48 rfl ?_
    simp only [ac48]
    unfold ab48
    simp only [WU, seval, strs_eq, Sc.c_eq, z01, z02, z12, z03, z13, z23, sg03, sg33, sg63, storeA, sets, setx, TS, h4]
    refine ofK_ac.use ?_
    simp only [WU, seval, strs_eq, Ty.c_eq, z01, z02, z12, z03, z13, z23, sg03, sg33, sg63, storeA, sets, setx, TS]
    rfl
  · rw [decide_eq_false h4]
    refine ac_wp fn48 cf48 cl48 rfl ?_
    simp only [ac48]
    unfold ab48
    simp only [WU, seval, strs_eq, Sc.c_eq, z01, z02, z12, z03, z13, z23, sg03, sg33, sg63, storeA, sets, setx, TS, h4]
    rfl
theorem own7_st0 {S : Sc} {t0 : Ty} {b : Bool} {n : Int} {s ut ui : Str} {kids : List Ex} (hs : ScR S) : AC Try.prog 48 [.agg S.c, .agg (Ex.mk 7 b n s ut ui kids).c, slc Ty.c [t0]] st0 fun v _ => v = tyP (nodeP S 7 s [t0]) := by
  rw [Ex.c_eq]
  rw [ty1]
  have hv : nodeP S 7 s [t0] = fieldP S t0 s := rfl
  rw [hv]
  by_cases h4 : t0.kind = 4
  rotate_left
  · have hf : fieldP S t0 s = (noTy, 16) := by unfold fieldP; rw [if_pos h4]
    rw [hf]
    refine ac_wp fn48 cf48 cl48 rfl ?_
    simp only [ac48]
    unfold ab48
    simp only [WU, seval, strs_eq, Sc.c_eq, z01, z02, z12, z03, z13, z23, sg03, sg33, sg63, storeA, sets, setx, TS, h4]
    rfl
  have hC : ∀ σ, AC Try.prog 45 [.agg S.c, .str t0.name] σ fun v s' => s' = σ ∧ v = kindV S.kinds t0.name := fun σ => kindR_ac hs.m.ok
  have hF : ∀ σ, AC Try.prog 66 [.agg (kindX S.kinds t0.name).c, .str s] σ fun v s' => s' = σ ∧ v = fieldV (kindX S.kinds t0.name).fields s := fun σ => fieldR_ac (by have := kindX_len hs.m.k t0.name; omega)
  have hdef : fieldP S t0 s = match fieldX (kindX S.kinds t0.name).fields s with | some u => (u, 0) | none => (noTy, 15) := by unfold fieldP; rw [if_neg (by simpa using h4)]; cases fieldX (kindX S.kinds t0.name).fields s <;> rfl
  have hact : t0.name = actionT → fieldX (kindX S.kinds t0.name).fields s = none := fun h => by rw [h, kindX_act hs]; rfl
  have hAc : ([65, 99, 116, 105, 111, 110] : List UInt8) = actionT := rfl
  have sg := scSeg S
  simp only [Sc.c_eq, slc_eq, kindV_X] at hC
  rw [hdef]
  generalize kindX S.kinds t0.name = K at *
  simp only [Kd.c_eq, strs_eq, slc_eq, fieldV_X] at hF hC
  have sgK : ∀ a b c : AV, seg [a, b, c] 0 3 = [a, b, c] := fun _ _ _ => rfl
  cases hfx : fieldX K.fields s with
  | none =>
    simp only [hfx] at hF
    refine ac_wp fn48 cf48 cl48 rfl ?_
    simp only [ac48]
    unfold ab48
    simp only [WU, seval, strs_eq, Sc.c_eq, z01, z02, z12, z03, z13, z23, sg03, sg33, sg63, storeA, sets, setx, TS, h4]
    refine w_dreg follow [(9, [.str [], .nils, .nils])] rfl ?_
    generalize hsA : (((((st0.push _).push _).push _).push _).put _ _) = sA
    have f0 : sA.cells 0 = some [.psl (rowc Kd.c S.kinds) 0 S.kinds.length, .psl (rowc Ac.c S.acts) 0 S.acts.length] := by rw [← hsA]; simp [put_get, push_get, push_n, put_n, st0_n]
    have f1 : sA.cells 1 = some [.int .i64 7, .bool b, .int .i64 n, .str s, .str ut, .str ui, .psl (rowc Ex.c kids) 0 kids.length] := by rw [← hsA]; simp [put_get, push_get, push_n, put_n, st0_n]
    have f2 : sA.cells 2 = some [.int .i64 0, .int .i64 0, .str []] := by rw [← hsA]; simp [put_get, push_get, push_n, put_n, st0_n]
    have f3 : sA.cells 3 = some [.int .i64 0, .int .i64 0, .str []] := by rw [← hsA]; simp [put_get, push_get, push_n, put_n, st0_n]
    have fn : sA.n = 4 := by rw [← hsA]; rfl
    have g9 := slots_get (s := sA) (m := 12) [(9, [.str [], .nils, .nils])] 9 _ rfl
    have e0 := (slots_old (m := 12) [(9, [.str [], .nils, .nils])] (b := 0) (by omega)).trans f0
    have e1 := (slots_old (m := 12) [(9, [.str [], .nils, .nils])] (b := 1) (by omega)).trans f1
    have e2 := (slots_old (m := 12) [(9, [.str [], .nils, .nils])] (b := 2) (by omega)).trans f2
    have e3 := (slots_old (m := 12) [(9, [.str [], .nils, .nils])] (b := 3) (by omega)).trans f3
    have hnA : (addSlots sA.n 12 sA [(9, [.str [], .nils, .nils])]).n = sA.n + 12 := rfl
    generalize addSlots sA.n 12 sA [(9, [.str [], .nils, .nils])] = s1 at *
    have c9 := cells_of g9
    rw [fn] at c9 g9 hnA ⊢
    have hn16 : s1.n = 16 := hnA
    simp only [WU, seval, strs_eq, DU, z01, z02, z12, z03, z13, z23, sg03, sg33, sg63, e0, e1, sg, sgK, h4]
    refine (hC _).useD ?_
    simp only [WU, seval, strs_eq, DU, z01, z02, z12, z03, z13, z23, sg03, sg33, sg63, c9, storeA, sets, setx, TS]
    refine ⟨⟨?_, ?_⟩, ?_⟩
    · intro l hl c hc hf
      simp only [List.mem_cons, List.mem_nil_iff, List.not_mem_nil, or_false] at hl hc
      rcases hl with rfl | rfl <;> rcases hc with rfl | rfl | rfl <;> dsimp only at hf ⊢ <;> first
        | (exact absurd hf (by decide +kernel))
        | (simp only [WU, seval, strs_eq, z01, z02, z12, z03, z13, z23, sg03, sg33, sg63, e0, sg]; done)
    · intro sl hsl c hc hf
      simp only [List.mem_cons, List.mem_nil_iff, List.not_mem_nil, or_false] at hsl hc
      subst hsl
      rcases hc with rfl | rfl | rfl <;> dsimp only at hf ⊢ <;> first
        | (exact absurd hf (by decide +kernel))
        | (exact ⟨by omega, g9⟩)
    have n0 : ¬ 0 = 4 + 9 := by decide
    have n1 : ¬ 1 = 4 + 9 := by decide
    have n2 : ¬ 2 = 4 + 9 := by decide
    have n3 : ¬ 3 = 4 + 9 := by decide
    simp only [WU, seval, strs_eq, e1, e2, e3, n0, n1, n2, n3, sgK, Nat.reduceAdd, hn16]
    refine (hF _).use ?_
    simp only [WU, seval, strs_eq, Ty.c_eq, noTy, e2, e3, n2, n3, hn16, Nat.reduceAdd, hAc, sg03, storeA, sets, setx, TS]
    rfl
  | some w =>
    have hna : ¬ t0.name = actionT := fun h => by rw [hact h] at hfx; cases hfx
    simp only [hfx] at hF
    refine ac_wp fn48 cf48 cl48 rfl ?_
    simp only [ac48]
    unfold ab48
    simp only [WU, seval, strs_eq, Sc.c_eq, z01, z02, z12, z03, z13, z23, sg03, sg33, sg63, storeA, sets, setx, TS, h4]
    refine w_dreg follow [(9, [.str [], .nils, .nils])] rfl ?_
    generalize hsA : (((((st0.push _).push _).push _).push _).put _ _) = sA
    have f0 : sA.cells 0 = some [.psl (rowc Kd.c S.kinds) 0 S.kinds.length, .psl (rowc Ac.c S.acts) 0 S.acts.length] := by rw [← hsA]; simp [put_get, push_get, push_n, put_n, st0_n]
    have f1 : sA.cells 1 = some [.int .i64 7, .bool b, .int .i64 n, .str s, .str ut, .str ui, .psl (rowc Ex.c kids) 0 kids.length] := by rw [← hsA]; simp [put_get, push_get, push_n, put_n, st0_n]
    have f2 : sA.cells 2 = some [.int .i64 0, .int .i64 0, .str []] := by rw [← hsA]; simp [put_get, push_get, push_n, put_n, st0_n]
    have f3 : sA.cells 3 = some [.int .i64 0, .int .i64 0, .str []] := by rw [← hsA]; simp [put_get, push_get, push_n, put_n, st0_n]
    have fn : sA.n = 4 := by rw [← hsA]; rfl
    have g9 := slots_get (s := sA) (m := 12) [(9, [.str [], .nils, .nils])] 9 _ rfl
    have e0 := (slots_old (m := 12) [(9, [.str [], .nils, .nils])] (b := 0) (by omega)).trans f0
    have e1 := (slots_old (m := 12) [(9, [.str [], .nils, .nils])] (b := 1) (by omega)).trans f1
    have e2 := (slots_old (m := 12) [(9, [.str [], .nils, .nils])] (b := 2) (by omega)).trans f2
    have e3 := (slots_old (m := 12) [(9, [.str [], .nils, .nils])] (b := 3) (by omega)).trans f3
    have hnA : (addSlots sA.n 12 sA [(9, [.str [], .nils, .nils])]).n = sA.n + 12 := rfl
    generalize addSlots sA.n 12 sA [(9, [.str [], .nils, .nils])] = s1 at *
    have c9 := cells_of g9
    rw [fn] at c9 g9 hnA ⊢
    have hn16 : s1.n = 16 := hnA
    simp only [WU, seval, strs_eq, DU, z01, z02, z12, z03, z13, z23, sg03, sg33, sg63, e0, e1, sg, sgK, h4]
    refine (hC _).useD ?_
    simp only [WU, seval, strs_eq, DU, z01, z02, z12, z03, z13, z23, sg03, sg33, sg63, c9, storeA, sets, setx, TS]
    refine ⟨⟨?_, ?_⟩, ?_⟩
    · intro l hl c hc hf
      simp only [List.mem_cons, List.mem_nil_iff, List.not_mem_nil, or_false] at hl hc
      rcases hl with rfl | rfl <;> rcases hc with rfl | rfl | rfl <;> dsimp only at hf ⊢ <;> first
        | (exact absurd hf (by decide +kernel))
        | (simp only [WU, seval, strs_eq, z01, z02, z12, z03, z13, z23, sg03, sg33, sg63, e0, sg]; done)
    · intro sl hsl c hc hf
      simp only [List.mem_cons, List.mem_nil_iff, List.not_mem_nil, or_false] at hsl hc
      subst hsl
      rcases hc with rfl | rfl | rfl <;> dsimp only at hf ⊢ <;> first
        | (exact absurd hf (by decide +kernel))
        | (exact ⟨by omega, g9⟩)
    have n0 : ¬ 0 = 4 + 9 := by decide
    have n1 : ¬ 1 = 4 + 9 := by decide
    have n2 : ¬ 2 = 4 + 9 := by decide
    have n3 : ¬ 3 = 4 + 9 := by decide
    simp only [WU, seval, strs_eq, e1, e2, e3, n0, n1, n2, n3, sgK, Nat.reduceAdd, hn16]
    refine (hF _).use ?_
    simp only [WU, seval, strs_eq, Ty.c_eq, e2, e3, n2, n3, hn16, Nat.reduceAdd, hAc, hna, sg03, storeA, sets, setx, TS, z01]
    rfl
theorem own9_st0 {S : Sc} {t0 t1 : Ty} {b : Bool} {n : Int} {s ut ui : Str} {kids : List Ex} : AC Try.prog 48 [.agg S.c, .agg (Ex.mk 9 b n s ut ui kids).c, slc Ty.c [t0, t1]] st0 fun v _ => v = tyP (nodeP S 9 s [t0, t1]) := by
  rw [Ex.c_eq]
  rw [ty2]
  have hv : nodeP S 9 s [t0, t1] = gotP ⟨1, 0, []⟩ (holdsB t0 t1) := rfl
  rw [hv]
  unfold holdsB
  have hE := eqTys t1 ⟨t0.of_, 0, t0.name⟩
  by_cases h5 : t0.kind = 5
  · rw [decide_eq_true h5]
    by_cases he : t1 = ⟨t0.of_, 0, t0.name⟩
    · rw [decide_eq_true he] at hE ⊢
      refine ac_wp fn48 cf48 cl48 rfl ?_
      simp only [ac48]
      unfold ab48
      simp only [WU, seval, strs_eq, Sc.c_eq, z01, z02, z12, z03, z13, z23, sg03, sg33, sg63, storeA, sets, setx, TS]
      refine w_dreg0 follow ?_ rfl
      simp only [WU, seval, strs_eq, z01, z02, z12, z03, z13, z23, sg03, sg33, sg63, storeA, sets, setx, TS, sl_cells, decide_eq_true h5, decide_not, evalEq, hE]
      refine ofK_ac.use ?_
      simp only [WU, seval, strs_eq, Ty.c_eq, z01, z02, z12, z03, z13, z23, sg03, sg33, sg63, storeA, sets, setx, TS, sl_cells]
      rfl
    · rw [decide_eq_false he] at hE ⊢
      refine ac_wp fn48 cf48 cl48 rfl ?_
      simp only [ac48]
      unfold ab48
      simp only [WU, seval, strs_eq, Sc.c_eq, z01, z02, z12, z03, z13, z23, sg03, sg33, sg63, storeA, sets, setx, TS]
      refine w_dreg0 follow ?_ rfl
      simp only [WU, seval, strs_eq, z01, z02, z12, z03, z13, z23, sg03, sg33, sg63, storeA, sets, setx, TS, sl_cells, decide_eq_true h5, decide_not, evalEq, hE]
      rfl
  · rw [decide_eq_false h5]
    refine ac_wp fn48 cf48 cl48 rfl ?_
    simp only [ac48]
    unfold ab48
    simp only [WU, seval, strs_eq, Sc.c_eq, z01, z02, z12, z03, z13, z23, sg03, sg33, sg63, storeA, sets, setx, TS]
    refine w_dreg0 follow ?_ rfl
    simp only [WU, seval, strs_eq, z01, z02, z12, z03, z13, z23, sg03, sg33, sg63, storeA, sets, setx, TS, sl_cells, decide_eq_false h5, decide_not, evalEq]
    rfl
theorem own20_st0 {S : Sc} {t0 t1 : Ty} {b : Bool} {n : Int} {s ut ui : Str} {kids : List Ex} : AC Try.prog 48 [.agg S.c, .agg (Ex.mk 20 b n s ut ui kids).c, slc Ty.c [t0, t1]] st0 fun v _ => v = tyP (nodeP S 20 s [t0, t1]) := by
  rw [Ex.c_eq]
  rw [ty2]
  have hv : nodeP S 20 s [t0, t1] = gotP ⟨1, 0, []⟩ (decide (t1 = t0) || (decide (t0.kind = 4) && decide (t1.kind = 4))) := by
    have h0 : (alikeK [t0, t1] || allK [t0, t1] 4) = (decide (t1 = t0) || (decide (t0.kind = 4) && decide (t1.kind = 4))) := by
      unfold alikeK allK
      by_cases h1 : t1 = t0 <;> by_cases h2 : t0.kind = 4 <;> by_cases h3 : t1.kind = 4 <;> simp [h1, h2, h3]
    rw [← h0]; rfl
  rw [hv]
  have hE := eqTys t0 t1
  by_cases he : t1 = t0
  · rw [decide_eq_true he.symm] at hE
    rw [decide_eq_true he]
    refine ac_wp fn48 cf48 cl48 rfl ?_
    simp only [ac48]
    unfold ab48
    simp only [WU, seval, strs_eq, Sc.c_eq, z01, z02, z12, z03, z13, z23, sg03, sg33, sg63, storeA, sets, setx, TS]
    refine w_dreg0 follow ?_ rfl
    simp only [WU, seval, strs_eq, z01, z02, z12, z03, z13, z23, sg03, sg33, sg63, storeA, sets, setx, TS, sl_cells, decide_not, evalEq, hE]
    refine ofK_ac.use ?_
    simp only [WU, seval, strs_eq, Ty.c_eq, z01, z02, z12, z03, z13, z23, sg03, sg33, sg63, storeA, sets, setx, TS, sl_cells]
    rfl
  · rw [decide_eq_false (fun h : t0 = t1 => he h.symm)] at hE
    rw [decide_eq_false he]
    by_cases h4 : t0.kind = 4
    · by_cases h4' : t1.kind = 4
      · rw [decide_eq_true h4, decide_eq_true h4']
        refine ac_wp fn48 cf48 cl48 rfl ?_
        simp only [ac48]
        unfold ab48
        simp only [WU, seval, strs_eq, Sc.c_eq, z01, z02, z12, z03, z13, z23, sg03, sg33, sg63, storeA, sets, setx, TS]
        refine w_dreg0 follow ?_ rfl
        simp only [WU, seval, strs_eq, z01, z02, z12, z03, z13, z23, sg03, sg33, sg63, storeA, sets, setx, TS, sl_cells, decide_not, evalEq, hE, decide_eq_true h4, decide_eq_true h4']
        refine ofK_ac.use ?_
        simp only [WU, seval, strs_eq, Ty.c_eq, z01, z02, z12, z03, z13, z23, sg03, sg33, sg63, storeA, sets, setx, TS, sl_cells]
        rfl
      · rw [decide_eq_true h4, decide_eq_false h4']
        refine ac_wp fn48 cf48 cl48 rfl ?_
        simp only [ac48]
        unfold ab48
        simp only [WU, seval, strs_eq, Sc.c_eq, z01, z02, z12, z03, z13, z23, sg03, sg33, sg63, storeA, sets, setx, TS]
        refine w_dreg0 follow ?_ rfl
        simp only [WU, seval, strs_eq, z01, z02, z12, z03, z13, z23, sg03, sg33, sg63, storeA, sets, setx, TS, sl_cells, decide_not, evalEq, hE, decide_eq_true h4, decide_eq_false h4']
        rfl
    · rw [decide_eq_false h4]
      refine ac_wp fn48 cf48 cl48 rfl ?_
      simp only [ac48]
      unfold ab48
      simp only [WU, seval, strs_eq, Sc.c_eq, z01, z02, z12, z03, z13, z23, sg03, sg33, sg63, storeA, sets, setx, TS]
      refine w_dreg0 follow ?_ rfl
      simp only [WU, seval, strs_eq, z01, z02, z12, z03, z13, z23, sg03, sg33, sg63, storeA, sets, setx, TS, sl_cells, decide_not, evalEq, hE, decide_eq_false h4]
      rfl
theorem own21_st0 {S : Sc} {t0 t1 : Ty} {b : Bool} {n : Int} {s ut ui : Str} {kids : List Ex} : AC Try.prog 48 [.agg S.c, .agg (Ex.mk 21 b n s ut ui kids).c, slc Ty.c [t0, t1]] st0 fun v _ => v = tyP (nodeP S 21 s [t0, t1]) := by
  rw [Ex.c_eq]
  rw [ty2]
  have hv : nodeP S 21 s [t0, t1] = gotP ⟨1, 0, []⟩ (decide (t1 = t0) || (decide (t0.kind = 4) && decide (t1.kind = 4))) := by
    have h0 : (alikeK [t0, t1] || allK [t0, t1] 4) = (decide (t1 = t0) || (decide (t0.kind = 4) && decide (t1.kind = 4))) := by
      unfold alikeK allK
      by_cases h1 : t1 = t0 <;> by_cases h2 : t0.kind = 4 <;> by_cases h3 : t1.kind = 4 <;> simp [h1, h2, h3]
    rw [← h0]; rfl
  rw [hv]
  have hE := eqTys t0 t1
  by_cases he : t1 = t0
  · rw [decide_eq_true he.symm] at hE
    rw [decide_eq_true he]
    refine ac_wp fn48 cf48 cl48 rfl ?_
    simp only [ac48]
    unfold ab48
    simp only [WU, seval, strs_eq, Sc.c_eq, z01, z02, z12, z03, z13, z23, sg03, sg33, sg63, storeA, sets, setx, TS]
    refine w_dreg0 follow ?_ rfl
    simp only [WU, seval, strs_eq, z01, z02, z12, z03, z13, z23, sg03, sg33, sg63, storeA, sets, setx, TS, sl_cells, decide_not, evalEq, hE]
    refine ofK_ac.use ?_
    simp only [WU, seval, strs_eq, Ty.c_eq, z01, z02, z12, z03, z13, z23, sg03, sg33, sg63, storeA, sets, setx, TS, sl_cells]
    rfl
  · rw [decide_eq_false (fun h : t0 = t1 => he h.symm)] at hE
    rw [decide_eq_false he]
    by_cases h4 : t0.kind = 4
    · by_cases h4' : t1.kind = 4
      · rw [decide_eq_true h4, decide_eq_true h4']
        refine ac_wp fn48 cf48 cl48 rfl ?_
        simp only [ac48]
        unfold ab48
        simp only [WU, seval, strs_eq, Sc.c_eq, z01, z02, z12, z03, z13, z23, sg03, sg33, sg63, storeA, sets, setx, TS]
        refine w_dreg0 follow ?_ rfl
        simp only [WU, seval, strs_eq, z01, z02, z12, z03, z13, z23, sg03, sg33, sg63, storeA, sets, setx, TS, sl_cells, decide_not, evalEq, hE, decide_eq_true h4, decide_eq_true h4']
        refine ofK_ac.use ?_
        simp only [WU, seval, strs_eq, Ty.c_eq, z01, z02, z12, z03, z13, z23, sg03, sg33, sg63, storeA, sets, setx, TS, sl_cells]
        rfl
      · rw [decide_eq_true h4, decide_eq_false h4']
        refine ac_wp fn48 cf48 cl48 rfl ?_
        simp only [ac48]
        unfold ab48
        simp only [WU, seval, strs_eq, Sc.c_eq, z01, z02, z12, z03, z13, z23, sg03, sg33, sg63, storeA, sets, setx, TS]
        refine w_dreg0 follow ?_ rfl
        simp only [WU, seval, strs_eq, z01, z02, z12, z03, z13, z23, sg03, sg33, sg63, storeA, sets, setx, TS, sl_cells, decide_not, evalEq, hE, decide_eq_true h4, decide_eq_false h4']
        rfl
    · rw [decide_eq_false h4]
      refine ac_wp fn48 cf48 cl48 rfl ?_
      simp only [ac48]
      unfold ab48
      simp only [WU, seval, strs_eq, Sc.c_eq, z01, z02, z12, z03, z13, z23, sg03, sg33, sg63, storeA, sets, setx, TS]
      refine w_dreg0 follow ?_ rfl
      simp only [WU, seval, strs_eq, z01, z02, z12, z03, z13, z23, sg03, sg33, sg63, storeA, sets, setx, TS, sl_cells, decide_not, evalEq, hE, decide_eq_false h4]
      rfl
theorem own22_st0 {S : Sc} {t0 t1 : Ty} {b : Bool} {n : Int} {s ut ui : Str} {kids : List Ex} : AC Try.prog 48 [.agg S.c, .agg (Ex.mk 22 b n s ut ui kids).c, slc Ty.c [t0, t1]] st0 fun v _ => v = tyP (nodeP S 22 s [t0, t1]) := by
  rw [Ex.c_eq]
  rw [ty2]
  have hv : nodeP S 22 s [t0, t1] = gotP ⟨1, 0, []⟩ (decide (t0.kind = 4) && uidsB t1) := rfl
  rw [hv]
  unfold uidsB
  by_cases h4 : t0.kind = 4
  rotate_left
  · rw [decide_eq_false h4]
    refine ac_wp fn48 cf48 cl48 rfl ?_
    simp only [ac48]
    unfold ab48
    simp only [WU, seval, strs_eq, Sc.c_eq, z01, z02, z12, z03, z13, z23, sg03, sg33, sg63, storeA, sets, setx, TS, decide_eq_false h4, decide_not]
    rfl
  by_cases h14 : t1.kind = 4
  · rw [decide_eq_true h4, decide_eq_true h14]
    refine ac_wp fn48 cf48 cl48 rfl ?_
    simp only [ac48]
    unfold ab48
    simp only [WU, seval, strs_eq, Sc.c_eq, z01, z02, z12, z03, z13, z23, sg03, sg33, sg63, storeA, sets, setx, TS, decide_eq_true h4, decide_eq_true h14, decide_not]
    refine ofK_ac.use ?_
    simp only [WU, seval, strs_eq, Ty.c_eq, z01, z02, z12, z03, z13, z23, sg03, sg33, sg63, storeA, sets, setx, TS]
    rfl
  by_cases h5 : t1.kind = 5
  rotate_left
  · rw [decide_eq_true h4, decide_eq_false h14, decide_eq_false h5]
    refine ac_wp fn48 cf48 cl48 rfl ?_
    simp only [ac48]
    unfold ab48
    simp only [WU, seval, strs_eq, Sc.c_eq, z01, z02, z12, z03, z13, z23, sg03, sg33, sg63, storeA, sets, setx, TS, decide_eq_true h4, decide_eq_false h14, decide_eq_false h5, decide_not]
    rfl
  by_cases ho : t1.of_ = 4
  · rw [decide_eq_true h4, decide_eq_false h14, decide_eq_true h5, decide_eq_true ho]
    refine ac_wp fn48 cf48 cl48 rfl ?_
    simp only [ac48]
    unfold ab48
    simp only [WU, seval, strs_eq, Sc.c_eq, z01, z02, z12, z03, z13, z23, sg03, sg33, sg63, storeA, sets, setx, TS, decide_eq_true h4, decide_eq_false h14, decide_eq_true h5, decide_eq_true ho, decide_not]
    refine ofK_ac.use ?_
    simp only [WU, seval, strs_eq, Ty.c_eq, z01, z02, z12, z03, z13, z23, sg03, sg33, sg63, storeA, sets, setx, TS]
    rfl
  · rw [decide_eq_true h4, decide_eq_false h14, decide_eq_true h5, decide_eq_false ho]
    refine ac_wp fn48 cf48 cl48 rfl ?_
    simp only [ac48]
    unfold ab48
    simp only [WU, seval, strs_eq, Sc.c_eq, z01, z02, z12, z03, z13, z23, sg03, sg33, sg63, storeA, sets, setx, TS, decide_eq_true h4, decide_eq_false h14, decide_eq_true h5, decide_eq_false ho, decide_not]
    rfl
theorem own25_st0 {S : Sc} {t0 t1 t2 : Ty} {b : Bool} {n : Int} {s ut ui : Str} {kids : List Ex} : AC Try.prog 48 [.agg S.c, .agg (Ex.mk 25 b n s ut ui kids).c, slc Ty.c [t0, t1, t2]] st0 fun v _ => v = tyP (nodeP S 25 s [t0, t1, t2]) := by
  rw [Ex.c_eq]
  rw [ty3]
  have hv : nodeP S 25 s [t0, t1, t2] = gotP t1 (decide (t0.kind = 1) && decide (t1 = t2)) := rfl
  rw [hv]
  have hE := eqTys t1 t2
  by_cases h1 : t0.kind = 1
  · rw [decide_eq_true h1]
    by_cases he : t1 = t2
    · rw [decide_eq_true he] at hE ⊢
      refine ac_wp fn48 cf48 cl48 rfl ?_
      simp only [ac48]
      unfold ab48
      simp only [WU, seval, strs_eq, Sc.c_eq, z01, z02, z12, z03, z13, z23, sg03, sg33, sg63, storeA, sets, setx, TS]
      refine w_dreg0 follow ?_ rfl
      simp only [WU, seval, strs_eq, z01, z02, z12, z03, z13, z23, sg03, sg33, sg63, storeA, sets, setx, TS, sl_cells, decide_eq_true h1, decide_not, evalEq, hE]
      rfl
    · rw [decide_eq_false he] at hE ⊢
      refine ac_wp fn48 cf48 cl48 rfl ?_
      simp only [ac48]
      unfold ab48
      simp only [WU, seval, strs_eq, Sc.c_eq, z01, z02, z12, z03, z13, z23, sg03, sg33, sg63, storeA, sets, setx, TS]
      refine w_dreg0 follow ?_ rfl
      simp only [WU, seval, strs_eq, z01, z02, z12, z03, z13, z23, sg03, sg33, sg63, storeA, sets, setx, TS, sl_cells, decide_eq_true h1, decide_not, evalEq, hE]
      rfl
  · rw [decide_eq_false h1]
    refine ac_wp fn48 cf48 cl48 rfl ?_
    simp only [ac48]
    unfold ab48
    simp only [WU, seval, strs_eq, Sc.c_eq, z01, z02, z12, z03, z13, z23, sg03, sg33, sg63, storeA, sets, setx, TS]
    refine w_dreg0 follow ?_ rfl
    simp only [WU, seval, strs_eq, z01, z02, z12, z03, z13, z23, sg03, sg33, sg63, storeA, sets, setx, TS, sl_cells, decide_eq_false h1, decide_not]
    rfl
end Go.Proofs.Ytcdbpmmomgehfaa.Va
