/- What the checker tells of a node. Conditions: none. -/
import Derived.Test.YtcdbpmmomgehfaaTy8
set_option maxRecDepth 100000
set_option maxHeartbeats 4000000
set_option linter.all false
namespace Go.Proofs.Ytcdbpmmomgehfaa.Va
open Go.Proofs
theorem ty1 (t0 : Ty) : slc Ty.c [t0] = .psl [.int .i64 t0.kind, .int .i64 t0.of_, .str t0.name] 0 1 := rfl
theorem ty2 (t0 t1 : Ty) : slc Ty.c [t0, t1] = .psl [.int .i64 t0.kind, .int .i64 t0.of_, .str t0.name, .int .i64 t1.kind, .int .i64 t1.of_, .str t1.name] 0 2 := rfl
theorem ty3 (t0 t1 t2 : Ty) : slc Ty.c [t0, t1, t2] = .psl [.int .i64 t0.kind, .int .i64 t0.of_, .str t0.name, .int .i64 t1.kind, .int .i64 t1.of_, .str t1.name, .int .i64 t2.kind, .int .i64 t2.of_, .str t2.name] 0 3 := rfl
theorem z01 : (0 : Int) < (1 : Int) := by decide
theorem z02 : (0 : Int) < (2 : Int) := by decide
theorem z12 : (1 : Int) < (2 : Int) := by decide
theorem z03 : (0 : Int) < (3 : Int) := by decide
theorem z13 : (1 : Int) < (3 : Int) := by decide
theorem z23 : (2 : Int) < (3 : Int) := by decide
theorem sl_cells (m k : Nat) (s : AState) (b : Nat) : (addSlots m k s []).cells b = s.cells b := Eq.trans rfl rfl
theorem sl_n (m k : Nat) (s : AState) (sl : List (Nat × List AV)) : (addSlots m k s sl).n = s.n + k := Eq.trans rfl rfl
theorem sg03 (a b c : AV) (l : List AV) : seg (a :: b :: c :: l) 0 3 = [a, b, c] := Eq.trans rfl rfl
theorem sg33 (x y z a b c : AV) (l : List AV) : seg (x :: y :: z :: a :: b :: c :: l) 3 3 = [a, b, c] := Eq.trans rfl rfl
theorem sg63 (x y z a b c d e f : AV) (l : List AV) : seg (x :: y :: z :: a :: b :: c :: d :: e :: f :: l) 6 3 = [d, e, f] := Eq.trans rfl rfl
theorem node8_st0 {S : Sc} {t0 : Ty} {b : Bool} {n : Int} {s ut ui : Str} {kids : List Ex} : AC Try.prog 40 [.agg S.c, .agg (Ex.mk 8 b n s ut ui kids).c, slc Ty.c [t0]] st0 fun v _ => v = tyP (nodeP S 8 s [t0]) := by
  rw [Ex.c_eq]
  refine ac_wp fn40 cf40 cl40 rfl ?_
  simp only [ac40]
  unfold ab40
  rw [ty1]
  have hG : ∀ σ, AC Try.prog 56 [.agg (Ty.c ⟨1, 0, []⟩), .bool (decide (t0.kind = 4))] σ fun v s => s = σ ∧ v = tyP (gotP ⟨1, 0, []⟩ (decide (t0.kind = 4))) := fun σ => gotP_ac
  have hv : nodeP S 8 s [t0] = gotP ⟨1, 0, []⟩ (decide (t0.kind = 4)) := rfl
  rw [hv]
  generalize gotP ⟨1, 0, []⟩ (decide (t0.kind = 4)) = x at *
  simp only [Ty.c_eq, tyP, tyE] at hG ⊢
  simp only [WU, seval, strs_eq, Sc.c_eq]
  refine w_dreg follow [] rfl ?_
  simp only [WU, seval, strs_eq, DU, z01, z02, z12, z03, z13, z23, sg03, sg33, sg63]
  refine truth_ac.useD ?_
  simp only [WU, seval, strs_eq, DU, Ty.c_eq, z01, z02, z12, z03, z13, z23, sg03, sg33, sg63, sl_cells, storeA, sets, setx, TS]
  refine (hG _).useD ?_
  simp only [WU, seval, strs_eq, DU, Ty.c_eq, z01, z02, z12, z03, z13, z23, sg03, sg33, sg63, sl_cells, storeA, sets, setx, TS]
  refine ⟨?_, ?_⟩
  · intro l hl c hc hf
    simp only [List.mem_cons, List.mem_nil_iff, List.not_mem_nil, or_false] at hl hc
    rcases hl with rfl <;> rcases hc with rfl | rfl | rfl | rfl <;> dsimp only at hf ⊢ <;> first
      | (exact absurd hf (by decide +kernel))
      | (simp only [WU, seval, strs_eq, z01, z02, z12, z03, z13, z23, sg03, sg33, sg63]; done)
  · intro sl hsl; simp at hsl
theorem node9_st0 {S : Sc} {t0 t1 : Ty} {b : Bool} {n : Int} {s ut ui : Str} {kids : List Ex} : AC Try.prog 40 [.agg S.c, .agg (Ex.mk 9 b n s ut ui kids).c, slc Ty.c [t0, t1]] st0 fun v _ => v = tyP (nodeP S 9 s [t0, t1]) := by
  rw [Ex.c_eq]
  refine ac_wp fn40 cf40 cl40 rfl ?_
  simp only [ac40]
  unfold ab40
  rw [ty2]
  have hG : ∀ σ, AC Try.prog 56 [.agg (Ty.c ⟨1, 0, []⟩), .bool (holdsB t0 t1)] σ fun v s => s = σ ∧ v = tyP (gotP ⟨1, 0, []⟩ (holdsB t0 t1)) := fun σ => gotP_ac
  have hv : nodeP S 9 s [t0, t1] = gotP ⟨1, 0, []⟩ (holdsB t0 t1) := rfl
  rw [hv]
  generalize gotP ⟨1, 0, []⟩ (holdsB t0 t1) = x at *
  simp only [Ty.c_eq, tyP, tyE] at hG ⊢
  simp only [WU, seval, strs_eq, Sc.c_eq]
  refine w_dreg follow [] rfl ?_
  simp only [WU, seval, strs_eq, DU, z01, z02, z12, z03, z13, z23, sg03, sg33, sg63]
  refine truth_ac.useD ?_
  simp only [WU, seval, strs_eq, DU, Ty.c_eq, z01, z02, z12, z03, z13, z23, sg03, sg33, sg63, sl_cells, storeA, sets, setx, TS]
  refine (holds_ac (s := t0) (t := t1)).useD ?_
  simp only [WU, seval, strs_eq, DU, Ty.c_eq, z01, z02, z12, z03, z13, z23, sg03, sg33, sg63, sl_cells, storeA, sets, setx, TS]
  refine (hG _).useD ?_
  simp only [WU, seval, strs_eq, DU, Ty.c_eq, z01, z02, z12, z03, z13, z23, sg03, sg33, sg63, sl_cells, storeA, sets, setx, TS]
  refine ⟨?_, ?_⟩
  · intro l hl c hc hf
    simp only [List.mem_cons, List.mem_nil_iff, List.not_mem_nil, or_false] at hl hc
    rcases hl with rfl | rfl <;> rcases hc with rfl | rfl | rfl | rfl | rfl <;> dsimp only at hf ⊢ <;> first
      | (exact absurd hf (by decide +kernel))
      | (simp only [WU, seval, strs_eq, z01, z02, z12, z03, z13, z23, sg03, sg33, sg63]; done)
  · intro sl hsl; simp at hsl
theorem node10_st0 {S : Sc} {t0 : Ty} {b : Bool} {n : Int} {s ut ui : Str} {kids : List Ex} : AC Try.prog 40 [.agg S.c, .agg (Ex.mk 10 b n s ut ui kids).c, slc Ty.c [t0]] st0 fun v _ => v = tyP (nodeP S 10 s [t0]) := by
  rw [Ex.c_eq]
  refine ac_wp fn40 cf40 cl40 rfl ?_
  simp only [ac40]
  unfold ab40
  rw [ty1]
  have hG : ∀ σ, AC Try.prog 56 [.agg (Ty.c ⟨1, 0, []⟩), .bool (decide (t0.kind = 3))] σ fun v s => s = σ ∧ v = tyP (gotP ⟨1, 0, []⟩ (decide (t0.kind = 3))) := fun σ => gotP_ac
  have hv : nodeP S 10 s [t0] = gotP ⟨1, 0, []⟩ (decide (t0.kind = 3)) := rfl
  rw [hv]
  generalize gotP ⟨1, 0, []⟩ (decide (t0.kind = 3)) = x at *
  simp only [Ty.c_eq, tyP, tyE] at hG ⊢
  simp only [WU, seval, strs_eq, Sc.c_eq]
  refine w_dreg follow [] rfl ?_
  simp only [WU, seval, strs_eq, DU, z01, z02, z12, z03, z13, z23, sg03, sg33, sg63]
  refine truth_ac.useD ?_
  simp only [WU, seval, strs_eq, DU, Ty.c_eq, z01, z02, z12, z03, z13, z23, sg03, sg33, sg63, sl_cells, storeA, sets, setx, TS]
  refine (hG _).useD ?_
  simp only [WU, seval, strs_eq, DU, Ty.c_eq, z01, z02, z12, z03, z13, z23, sg03, sg33, sg63, sl_cells, storeA, sets, setx, TS]
  refine ⟨?_, ?_⟩
  · intro l hl c hc hf
    simp only [List.mem_cons, List.mem_nil_iff, List.not_mem_nil, or_false] at hl hc
    rcases hl with rfl <;> rcases hc with rfl | rfl | rfl | rfl <;> dsimp only at hf ⊢ <;> first
      | (exact absurd hf (by decide +kernel))
      | (simp only [WU, seval, strs_eq, z01, z02, z12, z03, z13, z23, sg03, sg33, sg63]; done)
  · intro sl hsl; simp at hsl
theorem node12_st0 {S : Sc} {l : List Ty} {b : Bool} {n : Int} {s ut ui : Str} {kids : List Ex} (hl : l.length ≤ 1000) (h0 : 0 < l.length) : AC Try.prog 40 [.agg S.c, .agg (Ex.mk 12 b n s ut ui kids).c, slc Ty.c l] st0 fun v _ => v = tyP (nodeP S 12 s l) := by
  rw [Ex.c_eq]
  refine ac_wp fn40 cf40 cl40 rfl ?_
  simp only [ac40]
  unfold ab40
  have hG : ∀ σ, AC Try.prog 56 [.agg (Ty.c ⟨2, 0, []⟩), .bool (allK l 2)] σ fun v s => s = σ ∧ v = tyP (gotP ⟨2, 0, []⟩ (allK l 2)) := fun σ => gotP_ac
  have hv : nodeP S 12 s l = gotP ⟨2, 0, []⟩ (allK l 2) := rfl
  rw [hv]
  generalize gotP ⟨2, 0, []⟩ (allK l 2) = x at *
  simp only [Ty.c_eq, tyP, tyE] at hG ⊢
  simp only [WU, seval, strs_eq, Sc.c_eq]
  refine number_ac.use ?_
  simp only [WU, seval, strs_eq, Ty.c_eq, z01, z02, z12, z03, z13, z23, sg03, sg33, sg63, storeA, sets, setx, TS]
  refine (all_ac (k := 2) hl).use ?_
  simp only [WU, seval, strs_eq, Ty.c_eq, z01, z02, z12, z03, z13, z23, sg03, sg33, sg63, storeA, sets, setx, TS]
  refine (hG _).use ?_
  simp only [WU, seval, strs_eq, Ty.c_eq, z01, z02, z12, z03, z13, z23, sg03, sg33, sg63, storeA, sets, setx, TS]
theorem node13_st0 {S : Sc} {l : List Ty} {b : Bool} {n : Int} {s ut ui : Str} {kids : List Ex} (hl : l.length ≤ 1000) (h0 : 0 < l.length) : AC Try.prog 40 [.agg S.c, .agg (Ex.mk 13 b n s ut ui kids).c, slc Ty.c l] st0 fun v _ => v = tyP (nodeP S 13 s l) := by
  rw [Ex.c_eq]
  refine ac_wp fn40 cf40 cl40 rfl ?_
  simp only [ac40]
  unfold ab40
  have hG : ∀ σ, AC Try.prog 56 [.agg (Ty.c ⟨2, 0, []⟩), .bool (allK l 2)] σ fun v s => s = σ ∧ v = tyP (gotP ⟨2, 0, []⟩ (allK l 2)) := fun σ => gotP_ac
  have hv : nodeP S 13 s l = gotP ⟨2, 0, []⟩ (allK l 2) := rfl
  rw [hv]
  generalize gotP ⟨2, 0, []⟩ (allK l 2) = x at *
  simp only [Ty.c_eq, tyP, tyE] at hG ⊢
  simp only [WU, seval, strs_eq, Sc.c_eq]
  refine number_ac.use ?_
  simp only [WU, seval, strs_eq, Ty.c_eq, z01, z02, z12, z03, z13, z23, sg03, sg33, sg63, storeA, sets, setx, TS]
  refine (all_ac (k := 2) hl).use ?_
  simp only [WU, seval, strs_eq, Ty.c_eq, z01, z02, z12, z03, z13, z23, sg03, sg33, sg63, storeA, sets, setx, TS]
  refine (hG _).use ?_
  simp only [WU, seval, strs_eq, Ty.c_eq, z01, z02, z12, z03, z13, z23, sg03, sg33, sg63, storeA, sets, setx, TS]
theorem node14_st0 {S : Sc} {l : List Ty} {b : Bool} {n : Int} {s ut ui : Str} {kids : List Ex} (hl : l.length ≤ 1000) (h0 : 0 < l.length) : AC Try.prog 40 [.agg S.c, .agg (Ex.mk 14 b n s ut ui kids).c, slc Ty.c l] st0 fun v _ => v = tyP (nodeP S 14 s l) := by
  rw [Ex.c_eq]
  refine ac_wp fn40 cf40 cl40 rfl ?_
  simp only [ac40]
  unfold ab40
  have hG : ∀ σ, AC Try.prog 56 [.agg (Ty.c ⟨2, 0, []⟩), .bool (allK l 2)] σ fun v s => s = σ ∧ v = tyP (gotP ⟨2, 0, []⟩ (allK l 2)) := fun σ => gotP_ac
  have hv : nodeP S 14 s l = gotP ⟨2, 0, []⟩ (allK l 2) := rfl
  rw [hv]
  generalize gotP ⟨2, 0, []⟩ (allK l 2) = x at *
  simp only [Ty.c_eq, tyP, tyE] at hG ⊢
  simp only [WU, seval, strs_eq, Sc.c_eq]
  refine number_ac.use ?_
  simp only [WU, seval, strs_eq, Ty.c_eq, z01, z02, z12, z03, z13, z23, sg03, sg33, sg63, storeA, sets, setx, TS]
  refine (all_ac (k := 2) hl).use ?_
  simp only [WU, seval, strs_eq, Ty.c_eq, z01, z02, z12, z03, z13, z23, sg03, sg33, sg63, storeA, sets, setx, TS]
  refine (hG _).use ?_
  simp only [WU, seval, strs_eq, Ty.c_eq, z01, z02, z12, z03, z13, z23, sg03, sg33, sg63, storeA, sets, setx, TS]
theorem node15_st0 {S : Sc} {l : List Ty} {b : Bool} {n : Int} {s ut ui : Str} {kids : List Ex} (hl : l.length ≤ 1000) (h0 : 0 < l.length) : AC Try.prog 40 [.agg S.c, .agg (Ex.mk 15 b n s ut ui kids).c, slc Ty.c l] st0 fun v _ => v = tyP (nodeP S 15 s l) := by
  rw [Ex.c_eq]
  refine ac_wp fn40 cf40 cl40 rfl ?_
  simp only [ac40]
  unfold ab40
  have hG : ∀ σ, AC Try.prog 56 [.agg (Ty.c ⟨2, 0, []⟩), .bool (allK l 2)] σ fun v s => s = σ ∧ v = tyP (gotP ⟨2, 0, []⟩ (allK l 2)) := fun σ => gotP_ac
  have hv : nodeP S 15 s l = gotP ⟨2, 0, []⟩ (allK l 2) := rfl
  rw [hv]
  generalize gotP ⟨2, 0, []⟩ (allK l 2) = x at *
  simp only [Ty.c_eq, tyP, tyE] at hG ⊢
  simp only [WU, seval, strs_eq, Sc.c_eq]
  refine number_ac.use ?_
  simp only [WU, seval, strs_eq, Ty.c_eq, z01, z02, z12, z03, z13, z23, sg03, sg33, sg63, storeA, sets, setx, TS]
  refine (all_ac (k := 2) hl).use ?_
  simp only [WU, seval, strs_eq, Ty.c_eq, z01, z02, z12, z03, z13, z23, sg03, sg33, sg63, storeA, sets, setx, TS]
  refine (hG _).use ?_
  simp only [WU, seval, strs_eq, Ty.c_eq, z01, z02, z12, z03, z13, z23, sg03, sg33, sg63, storeA, sets, setx, TS]
theorem node16_st0 {S : Sc} {l : List Ty} {b : Bool} {n : Int} {s ut ui : Str} {kids : List Ex} (hl : l.length ≤ 1000) (h0 : 0 < l.length) : AC Try.prog 40 [.agg S.c, .agg (Ex.mk 16 b n s ut ui kids).c, slc Ty.c l] st0 fun v _ => v = tyP (nodeP S 16 s l) := by
  rw [Ex.c_eq]
  refine ac_wp fn40 cf40 cl40 rfl ?_
  simp only [ac40]
  unfold ab40
  have hG : ∀ σ, AC Try.prog 56 [.agg (Ty.c ⟨1, 0, []⟩), .bool (allK l 2)] σ fun v s => s = σ ∧ v = tyP (gotP ⟨1, 0, []⟩ (allK l 2)) := fun σ => gotP_ac
  have hv : nodeP S 16 s l = gotP ⟨1, 0, []⟩ (allK l 2) := rfl
  rw [hv]
  generalize gotP ⟨1, 0, []⟩ (allK l 2) = x at *
  simp only [Ty.c_eq, tyP, tyE] at hG ⊢
  simp only [WU, seval, strs_eq, Sc.c_eq]
  refine truth_ac.use ?_
  simp only [WU, seval, strs_eq, Ty.c_eq, z01, z02, z12, z03, z13, z23, sg03, sg33, sg63, storeA, sets, setx, TS]
  refine (all_ac (k := 2) hl).use ?_
  simp only [WU, seval, strs_eq, Ty.c_eq, z01, z02, z12, z03, z13, z23, sg03, sg33, sg63, storeA, sets, setx, TS]
  refine (hG _).use ?_
  simp only [WU, seval, strs_eq, Ty.c_eq, z01, z02, z12, z03, z13, z23, sg03, sg33, sg63, storeA, sets, setx, TS]
theorem node17_st0 {S : Sc} {l : List Ty} {b : Bool} {n : Int} {s ut ui : Str} {kids : List Ex} (hl : l.length ≤ 1000) (h0 : 0 < l.length) : AC Try.prog 40 [.agg S.c, .agg (Ex.mk 17 b n s ut ui kids).c, slc Ty.c l] st0 fun v _ => v = tyP (nodeP S 17 s l) := by
  rw [Ex.c_eq]
  refine ac_wp fn40 cf40 cl40 rfl ?_
  simp only [ac40]
  unfold ab40
  have hG : ∀ σ, AC Try.prog 56 [.agg (Ty.c ⟨1, 0, []⟩), .bool (allK l 2)] σ fun v s => s = σ ∧ v = tyP (gotP ⟨1, 0, []⟩ (allK l 2)) := fun σ => gotP_ac
  have hv : nodeP S 17 s l = gotP ⟨1, 0, []⟩ (allK l 2) := rfl
  rw [hv]
  generalize gotP ⟨1, 0, []⟩ (allK l 2) = x at *
  simp only [Ty.c_eq, tyP, tyE] at hG ⊢
  simp only [WU, seval, strs_eq, Sc.c_eq]
  refine truth_ac.use ?_
  simp only [WU, seval, strs_eq, Ty.c_eq, z01, z02, z12, z03, z13, z23, sg03, sg33, sg63, storeA, sets, setx, TS]
  refine (all_ac (k := 2) hl).use ?_
  simp only [WU, seval, strs_eq, Ty.c_eq, z01, z02, z12, z03, z13, z23, sg03, sg33, sg63, storeA, sets, setx, TS]
  refine (hG _).use ?_
  simp only [WU, seval, strs_eq, Ty.c_eq, z01, z02, z12, z03, z13, z23, sg03, sg33, sg63, storeA, sets, setx, TS]
theorem node18_st0 {S : Sc} {l : List Ty} {b : Bool} {n : Int} {s ut ui : Str} {kids : List Ex} (hl : l.length ≤ 1000) (h0 : 0 < l.length) : AC Try.prog 40 [.agg S.c, .agg (Ex.mk 18 b n s ut ui kids).c, slc Ty.c l] st0 fun v _ => v = tyP (nodeP S 18 s l) := by
  rw [Ex.c_eq]
  refine ac_wp fn40 cf40 cl40 rfl ?_
  simp only [ac40]
  unfold ab40
  have hG : ∀ σ, AC Try.prog 56 [.agg (Ty.c ⟨1, 0, []⟩), .bool (allK l 2)] σ fun v s => s = σ ∧ v = tyP (gotP ⟨1, 0, []⟩ (allK l 2)) := fun σ => gotP_ac
  have hv : nodeP S 18 s l = gotP ⟨1, 0, []⟩ (allK l 2) := rfl
  rw [hv]
  generalize gotP ⟨1, 0, []⟩ (allK l 2) = x at *
  simp only [Ty.c_eq, tyP, tyE] at hG ⊢
  simp only [WU, seval, strs_eq, Sc.c_eq]
  refine truth_ac.use ?_
  simp only [WU, seval, strs_eq, Ty.c_eq, z01, z02, z12, z03, z13, z23, sg03, sg33, sg63, storeA, sets, setx, TS]
  refine (all_ac (k := 2) hl).use ?_
  simp only [WU, seval, strs_eq, Ty.c_eq, z01, z02, z12, z03, z13, z23, sg03, sg33, sg63, storeA, sets, setx, TS]
  refine (hG _).use ?_
  simp only [WU, seval, strs_eq, Ty.c_eq, z01, z02, z12, z03, z13, z23, sg03, sg33, sg63, storeA, sets, setx, TS]
theorem node19_st0 {S : Sc} {l : List Ty} {b : Bool} {n : Int} {s ut ui : Str} {kids : List Ex} (hl : l.length ≤ 1000) (h0 : 0 < l.length) : AC Try.prog 40 [.agg S.c, .agg (Ex.mk 19 b n s ut ui kids).c, slc Ty.c l] st0 fun v _ => v = tyP (nodeP S 19 s l) := by
  rw [Ex.c_eq]
  refine ac_wp fn40 cf40 cl40 rfl ?_
  simp only [ac40]
  unfold ab40
  have hG : ∀ σ, AC Try.prog 56 [.agg (Ty.c ⟨1, 0, []⟩), .bool (allK l 2)] σ fun v s => s = σ ∧ v = tyP (gotP ⟨1, 0, []⟩ (allK l 2)) := fun σ => gotP_ac
  have hv : nodeP S 19 s l = gotP ⟨1, 0, []⟩ (allK l 2) := rfl
  rw [hv]
  generalize gotP ⟨1, 0, []⟩ (allK l 2) = x at *
  simp only [Ty.c_eq, tyP, tyE] at hG ⊢
  simp only [WU, seval, strs_eq, Sc.c_eq]
  refine truth_ac.use ?_
  simp only [WU, seval, strs_eq, Ty.c_eq, z01, z02, z12, z03, z13, z23, sg03, sg33, sg63, storeA, sets, setx, TS]
  refine (all_ac (k := 2) hl).use ?_
  simp only [WU, seval, strs_eq, Ty.c_eq, z01, z02, z12, z03, z13, z23, sg03, sg33, sg63, storeA, sets, setx, TS]
  refine (hG _).use ?_
  simp only [WU, seval, strs_eq, Ty.c_eq, z01, z02, z12, z03, z13, z23, sg03, sg33, sg63, storeA, sets, setx, TS]
theorem node11_st0 {S : Sc} {l : List Ty} {b : Bool} {n : Int} {s ut ui : Str} {kids : List Ex} (hl : l.length ≤ 1000) (h0 : 0 < l.length) : AC Try.prog 40 [.agg S.c, .agg (Ex.mk 11 b n s ut ui kids).c, slc Ty.c l] st0 fun v _ => v = tyP (nodeP S 11 s l) := by
  rw [Ex.c_eq]
  refine ac_wp fn40 cf40 cl40 rfl ?_
  simp only [ac40]
  unfold ab40
  have hG : ∀ σ, AC Try.prog 56 [.agg (Ty.c ⟨1, 0, []⟩), .bool (allK l 1)] σ fun v s => s = σ ∧ v = tyP (gotP ⟨1, 0, []⟩ (allK l 1)) := fun σ => gotP_ac
  have hv : nodeP S 11 s l = gotP ⟨1, 0, []⟩ (allK l 1) := rfl
  rw [hv]
  generalize gotP ⟨1, 0, []⟩ (allK l 1) = x at *
  simp only [Ty.c_eq, tyP, tyE] at hG ⊢
  simp only [WU, seval, strs_eq, Sc.c_eq]
  refine truth_ac.use ?_
  simp only [WU, seval, strs_eq, Ty.c_eq, z01, z02, z12, z03, z13, z23, sg03, sg33, sg63, storeA, sets, setx, TS]
  refine (all_ac (k := 1) hl).use ?_
  simp only [WU, seval, strs_eq, Ty.c_eq, z01, z02, z12, z03, z13, z23, sg03, sg33, sg63, storeA, sets, setx, TS]
  refine (hG _).use ?_
  simp only [WU, seval, strs_eq, Ty.c_eq, z01, z02, z12, z03, z13, z23, sg03, sg33, sg63, storeA, sets, setx, TS]
theorem node23_st0 {S : Sc} {l : List Ty} {b : Bool} {n : Int} {s ut ui : Str} {kids : List Ex} (hl : l.length ≤ 1000) (h0 : 0 < l.length) : AC Try.prog 40 [.agg S.c, .agg (Ex.mk 23 b n s ut ui kids).c, slc Ty.c l] st0 fun v _ => v = tyP (nodeP S 23 s l) := by
  rw [Ex.c_eq]
  refine ac_wp fn40 cf40 cl40 rfl ?_
  simp only [ac40]
  unfold ab40
  have hG : ∀ σ, AC Try.prog 56 [.agg (Ty.c ⟨1, 0, []⟩), .bool (allK l 1)] σ fun v s => s = σ ∧ v = tyP (gotP ⟨1, 0, []⟩ (allK l 1)) := fun σ => gotP_ac
  have hv : nodeP S 23 s l = gotP ⟨1, 0, []⟩ (allK l 1) := rfl
  rw [hv]
  generalize gotP ⟨1, 0, []⟩ (allK l 1) = x at *
  simp only [Ty.c_eq, tyP, tyE] at hG ⊢
  simp only [WU, seval, strs_eq, Sc.c_eq]
  refine truth_ac.use ?_
  simp only [WU, seval, strs_eq, Ty.c_eq, z01, z02, z12, z03, z13, z23, sg03, sg33, sg63, storeA, sets, setx, TS]
  refine (all_ac (k := 1) hl).use ?_
  simp only [WU, seval, strs_eq, Ty.c_eq, z01, z02, z12, z03, z13, z23, sg03, sg33, sg63, storeA, sets, setx, TS]
  refine (hG _).use ?_
  simp only [WU, seval, strs_eq, Ty.c_eq, z01, z02, z12, z03, z13, z23, sg03, sg33, sg63, storeA, sets, setx, TS]
theorem node24_st0 {S : Sc} {l : List Ty} {b : Bool} {n : Int} {s ut ui : Str} {kids : List Ex} (hl : l.length ≤ 1000) (h0 : 0 < l.length) : AC Try.prog 40 [.agg S.c, .agg (Ex.mk 24 b n s ut ui kids).c, slc Ty.c l] st0 fun v _ => v = tyP (nodeP S 24 s l) := by
  rw [Ex.c_eq]
  refine ac_wp fn40 cf40 cl40 rfl ?_
  simp only [ac40]
  unfold ab40
  have hG : ∀ σ, AC Try.prog 56 [.agg (Ty.c ⟨1, 0, []⟩), .bool (allK l 1)] σ fun v s => s = σ ∧ v = tyP (gotP ⟨1, 0, []⟩ (allK l 1)) := fun σ => gotP_ac
  have hv : nodeP S 24 s l = gotP ⟨1, 0, []⟩ (allK l 1) := rfl
  rw [hv]
  generalize gotP ⟨1, 0, []⟩ (allK l 1) = x at *
  simp only [Ty.c_eq, tyP, tyE] at hG ⊢
  simp only [WU, seval, strs_eq, Sc.c_eq]
  refine truth_ac.use ?_
  simp only [WU, seval, strs_eq, Ty.c_eq, z01, z02, z12, z03, z13, z23, sg03, sg33, sg63, storeA, sets, setx, TS]
  refine (all_ac (k := 1) hl).use ?_
  simp only [WU, seval, strs_eq, Ty.c_eq, z01, z02, z12, z03, z13, z23, sg03, sg33, sg63, storeA, sets, setx, TS]
  refine (hG _).use ?_
  simp only [WU, seval, strs_eq, Ty.c_eq, z01, z02, z12, z03, z13, z23, sg03, sg33, sg63, storeA, sets, setx, TS]
theorem node7_st0 {S : Sc} {t0 : Ty} {b : Bool} {n : Int} {s ut ui : Str} {kids : List Ex} (hs : ScM S) : AC Try.prog 40 [.agg S.c, .agg (Ex.mk 7 b n s ut ui kids).c, slc Ty.c [t0]] st0 fun v _ => v = tyP (nodeP S 7 s [t0]) := by
  rw [Ex.c_eq]
  refine ac_wp fn40 cf40 cl40 rfl ?_
  simp only [ac40]
  unfold ab40
  rw [ty1]
  have hG : ∀ σ, AC Try.prog 55 [.agg S.c, .agg t0.c, .str s] σ fun v s' => s' = σ ∧ v = tyP (fieldP S t0 s) := fun σ => by rw [← fieldT_P]; exact fieldT_ac hs
  have hv : nodeP S 7 s [t0] = fieldP S t0 s := rfl
  rw [hv]
  generalize fieldP S t0 s = x at *
  have sg := scSeg S
  simp only [Ty.c_eq, tyP, tyE, Sc.c_eq, slc_eq] at hG ⊢
  simp only [WU, seval, strs_eq]
  refine w_dreg follow [] rfl ?_
  simp only [WU, seval, strs_eq, DU, z01, z02, z12, z03, z13, z23, sg03, sg33, sg63, sg, sl_cells]
  refine (hG _).useD ?_
  simp only [WU, seval, strs_eq, DU, z01, z02, z12, z03, z13, z23, sg03, sg33, sg63, sl_cells, storeA, sets, setx, TS]
  refine ⟨?_, ?_⟩
  · intro l hl c hc hf
    simp only [List.mem_cons, List.mem_nil_iff, List.not_mem_nil, or_false] at hl hc
    rcases hl with rfl | rfl | rfl <;> rcases hc with rfl | rfl | rfl <;> dsimp only at hf ⊢ <;> first
      | (exact absurd hf (by decide +kernel))
      | (simp only [WU, seval, strs_eq, z01, z02, z12, z03, z13, z23, sg03, sg33, sg63, sl_cells, sg, storeA, sets, setx, TS]; done)
  · intro sl hsl; simp at hsl
theorem node60_st0 {S : Sc} {b : Bool} {n : Int} {s ut ui : Str} {kids : List Ex} : AC Try.prog 40 [.agg S.c, .agg (Ex.mk 6 b n s ut ui kids).c, slc Ty.c []] st0 fun v _ => v = tyP (nodeP S 6 s []) := by
  rw [Ex.c_eq]
  refine ac_wp fn40 cf40 cl40 rfl ?_
  simp only [ac40]
  unfold ab40
  have h0 : slc Ty.c [] = .psl [] 0 0 := rfl
  rw [h0]
  have hv : nodeP S 6 s [] = (noTy, 16) := rfl
  rw [hv]
  have z00 : (0 : Int) = 0 := rfl
  simp only [WU, seval, strs_eq, Sc.c_eq, z00, z01, z02, z12, z03, z13, z23, sg03, sg33, sg63, storeA, sets, setx, TS]
  rfl
theorem node61_st0 {S : Sc} {l : List Ty} {b : Bool} {n : Int} {s ut ui : Str} {kids : List Ex} (hl : l.length ≤ 1000) (h0 : 0 < l.length) : AC Try.prog 40 [.agg S.c, .agg (Ex.mk 6 b n s ut ui kids).c, slc Ty.c l] st0 fun v _ => v = tyP (nodeP S 6 s l) := by
  rw [Ex.c_eq]
  refine ac_wp fn40 cf40 cl40 rfl ?_
  simp only [ac40]
  unfold ab40
  have A := tyAt h0
  have hne : ¬ ((l.length : Nat) : Int) = 0 := by omega
  have hr : (0 : Int) < ((l.length : Nat) : Int) := by omega
  have g0 := A.g0
  have g2 := A.g2
  rw [Nat.zero_mul] at g0
  rw [Nat.zero_mul, Nat.zero_add] at g2
  have hh : l.headD noTy = l[0] := by cases l with | nil => simp at h0 | cons a r => rfl
  have hv : nodeP S 6 s l = if 0 < l.length ∧ alikeK l = true ∧ l[0].kind ≠ 5 then (⟨5, l[0].kind, l[0].name⟩, 0) else (noTy, 16) := by rw [← hh]; rfl
  rw [hv]
  cases hk : alikeK l with
  | false =>
    rw [if_neg (by simp)]
    simp only [WU, seval, strs_eq, Sc.c_eq, hne]
    refine (alike_ac hl h0).use ?_
    simp only [WU, seval, strs_eq, hk, z01, z02, z12, z03, z13, z23, sg03, sg33, sg63, storeA, sets, setx, TS]
    rfl
  | true =>
    by_cases h5 : l[0].kind = 5
    · rw [if_neg (by simp [h5])]
      simp only [WU, seval, strs_eq, Sc.c_eq, hne]
      refine (alike_ac hl h0).use ?_
      simp only [WU, seval, strs_eq, hk, hr, g0, h5, z01, z02, z12, z03, z13, z23, sg03, sg33, sg63, storeA, sets, setx, TS]
      rfl
    · rw [if_pos ⟨h0, rfl, h5⟩]
      simp only [WU, seval, strs_eq, Sc.c_eq, hne]
      refine (alike_ac hl h0).use ?_
      simp only [WU, seval, strs_eq, hk, hr, g0, h5]
      refine w_dreg follow [] rfl ?_
      simp only [WU, seval, strs_eq, DU, hr, g0, g2, sl_cells, storeA, sets, setx, TS]
      refine ⟨⟨?_, ?_⟩, ?_⟩
      · intro l hl c hc hf
        simp only [List.mem_cons, List.mem_nil_iff, List.not_mem_nil, or_false] at hl hc
        rcases hl with rfl | rfl <;> rcases hc with rfl | rfl <;> dsimp only at hf ⊢ <;> first
          | (exact absurd hf (by decide +kernel))
          | (simp only [WU, seval, strs_eq, g0, g2]; done)
      · intro sl hsl; simp at hsl
      · rfl
theorem node20_st0 {S : Sc} {l : List Ty} {b : Bool} {n : Int} {s ut ui : Str} {kids : List Ex} (hl : l.length ≤ 1000) (h0 : 0 < l.length) : AC Try.prog 40 [.agg S.c, .agg (Ex.mk 20 b n s ut ui kids).c, slc Ty.c l] st0 fun v _ => v = tyP (nodeP S 20 s l) := by
  rw [Ex.c_eq]
  refine ac_wp fn40 cf40 cl40 rfl ?_
  simp only [ac40]
  unfold ab40
  have hG : ∀ σ, AC Try.prog 56 [.agg (Ty.c ⟨1, 0, []⟩), .bool (alikeK l || allK l 4)] σ fun v s => s = σ ∧ v = tyP (gotP ⟨1, 0, []⟩ (alikeK l || allK l 4)) := fun σ => gotP_ac
  have hv : nodeP S 20 s l = gotP ⟨1, 0, []⟩ (alikeK l || allK l 4) := rfl
  rw [hv]
  generalize hX : gotP ⟨1, 0, []⟩ (alikeK l || allK l 4) = x at *
  simp only [Ty.c_eq, tyP, tyE] at hG ⊢
  cases hk : alikeK l with
  | true =>
    simp only [hk, Bool.true_or] at hG
    simp only [WU, seval, strs_eq, Sc.c_eq]
    refine truth_ac.use ?_
    simp only [WU, seval, strs_eq, Ty.c_eq]
    refine (alike_ac hl h0).use ?_
    simp only [WU, seval, strs_eq, hk]
    refine (hG _).use ?_
    simp only [WU, seval, strs_eq, z01, z02, z12, z03, z13, z23, sg03, sg33, sg63, storeA, sets, setx, TS]
  | false =>
    simp only [hk, Bool.false_or] at hG
    simp only [WU, seval, strs_eq, Sc.c_eq]
    refine truth_ac.use ?_
    simp only [WU, seval, strs_eq, Ty.c_eq]
    refine (alike_ac hl h0).use ?_
    simp only [WU, seval, strs_eq, hk]
    refine (all_ac (k := 4) hl).use ?_
    simp only [WU, seval, strs_eq]
    refine (hG _).use ?_
    simp only [WU, seval, strs_eq, z01, z02, z12, z03, z13, z23, sg03, sg33, sg63, storeA, sets, setx, TS]
theorem node21_st0 {S : Sc} {l : List Ty} {b : Bool} {n : Int} {s ut ui : Str} {kids : List Ex} (hl : l.length ≤ 1000) (h0 : 0 < l.length) : AC Try.prog 40 [.agg S.c, .agg (Ex.mk 21 b n s ut ui kids).c, slc Ty.c l] st0 fun v _ => v = tyP (nodeP S 21 s l) := by
  rw [Ex.c_eq]
  refine ac_wp fn40 cf40 cl40 rfl ?_
  simp only [ac40]
  unfold ab40
  have hG : ∀ σ, AC Try.prog 56 [.agg (Ty.c ⟨1, 0, []⟩), .bool (alikeK l || allK l 4)] σ fun v s => s = σ ∧ v = tyP (gotP ⟨1, 0, []⟩ (alikeK l || allK l 4)) := fun σ => gotP_ac
  have hv : nodeP S 21 s l = gotP ⟨1, 0, []⟩ (alikeK l || allK l 4) := rfl
  rw [hv]
  generalize hX : gotP ⟨1, 0, []⟩ (alikeK l || allK l 4) = x at *
  simp only [Ty.c_eq, tyP, tyE] at hG ⊢
  cases hk : alikeK l with
  | true =>
    simp only [hk, Bool.true_or] at hG
    simp only [WU, seval, strs_eq, Sc.c_eq]
    refine truth_ac.use ?_
    simp only [WU, seval, strs_eq, Ty.c_eq]
    refine (alike_ac hl h0).use ?_
    simp only [WU, seval, strs_eq, hk]
    refine (hG _).use ?_
    simp only [WU, seval, strs_eq, z01, z02, z12, z03, z13, z23, sg03, sg33, sg63, storeA, sets, setx, TS]
  | false =>
    simp only [hk, Bool.false_or] at hG
    simp only [WU, seval, strs_eq, Sc.c_eq]
    refine truth_ac.use ?_
    simp only [WU, seval, strs_eq, Ty.c_eq]
    refine (alike_ac hl h0).use ?_
    simp only [WU, seval, strs_eq, hk]
    refine (all_ac (k := 4) hl).use ?_
    simp only [WU, seval, strs_eq]
    refine (hG _).use ?_
    simp only [WU, seval, strs_eq, z01, z02, z12, z03, z13, z23, sg03, sg33, sg63, storeA, sets, setx, TS]
theorem node22_st0 {S : Sc} {t0 t1 : Ty} {b : Bool} {n : Int} {s ut ui : Str} {kids : List Ex} : AC Try.prog 40 [.agg S.c, .agg (Ex.mk 22 b n s ut ui kids).c, slc Ty.c [t0, t1]] st0 fun v _ => v = tyP (nodeP S 22 s [t0, t1]) := by
  rw [Ex.c_eq]
  refine ac_wp fn40 cf40 cl40 rfl ?_
  simp only [ac40]
  unfold ab40
  rw [ty2]
  have hG : ∀ σ, AC Try.prog 56 [.agg (Ty.c ⟨1, 0, []⟩), .bool (decide (t0.kind = 4) && uidsB t1)] σ fun v s => s = σ ∧ v = tyP (gotP ⟨1, 0, []⟩ (decide (t0.kind = 4) && uidsB t1)) := fun σ => gotP_ac
  have hv : nodeP S 22 s [t0, t1] = gotP ⟨1, 0, []⟩ (decide (t0.kind = 4) && uidsB t1) := rfl
  rw [hv]
  generalize gotP ⟨1, 0, []⟩ (decide (t0.kind = 4) && uidsB t1) = x at *
  simp only [Ty.c_eq, tyP, tyE] at hG ⊢
  by_cases h4 : t0.kind = 4
  · have hU : ∀ σ, AC Try.prog 59 [.agg [.int .i64 t1.kind, .int .i64 t1.of_, .str t1.name]] σ fun v s' => s' = σ ∧ v = .bool (uidsB t1) := fun σ => uids_ac
    simp only [h4, decide_true, Bool.true_and] at hG
    simp only [WU, seval, strs_eq, Sc.c_eq]
    refine w_dreg follow [] rfl ?_
    simp only [WU, seval, strs_eq, DU, z01, z02, z12, z03, z13, z23, sg03, sg33, sg63, h4]
    refine truth_ac.useD ?_
    simp only [WU, seval, strs_eq, DU, Ty.c_eq, z01, z02, z12, z03, z13, z23, sg03, sg33, sg63, h4]
    refine (hU _).useD ?_
    simp only [WU, seval, strs_eq, DU]
    refine (hG _).useD ?_
    simp only [WU, seval, strs_eq, DU, z01, z02, z12, z03, z13, z23, sg03, sg33, sg63, sl_cells, storeA, sets, setx, TS]
    refine ⟨?_, ?_⟩
    · intro l hl c hc hf
      simp only [List.mem_cons, List.mem_nil_iff, List.not_mem_nil, or_false] at hl hc
      rcases hl with rfl | rfl <;> rcases hc with rfl | rfl | rfl | rfl | rfl <;> dsimp only at hf ⊢ <;> first
        | (exact absurd hf (by decide +kernel))
        | (simp only [WU, seval, strs_eq, z01, z02, z12, z03, z13, z23, sg03, sg33, sg63, h4]; done)
    · intro sl hsl; simp at hsl
  · simp only [h4, decide_false, Bool.false_and] at hG
    simp only [WU, seval, strs_eq, Sc.c_eq]
    refine w_dreg follow [] rfl ?_
    simp only [WU, seval, strs_eq, DU, z01, z02, z12, z03, z13, z23, sg03, sg33, sg63, h4]
    refine truth_ac.useD ?_
    simp only [WU, seval, strs_eq, DU, Ty.c_eq, z01, z02, z12, z03, z13, z23, sg03, sg33, sg63, h4]
    refine (hG _).useD ?_
    simp only [WU, seval, strs_eq, DU, z01, z02, z12, z03, z13, z23, sg03, sg33, sg63, sl_cells, storeA, sets, setx, TS]
    refine ⟨?_, ?_⟩
    · intro l hl c hc hf
      simp only [List.mem_cons, List.mem_nil_iff, List.not_mem_nil, or_false] at hl hc
      rcases hl with rfl <;> rcases hc with rfl | rfl | rfl | rfl | rfl <;> dsimp only at hf ⊢ <;> first
        | (exact absurd hf (by decide +kernel))
        | (simp only [WU, seval, strs_eq, z01, z02, z12, z03, z13, z23, sg03, sg33, sg63, h4]; done)
    · intro sl hsl; simp at hsl
theorem node25_st0 {S : Sc} {t0 t1 t2 : Ty} {b : Bool} {n : Int} {s ut ui : Str} {kids : List Ex} : AC Try.prog 40 [.agg S.c, .agg (Ex.mk 25 b n s ut ui kids).c, slc Ty.c [t0, t1, t2]] st0 fun v _ => v = tyP (nodeP S 25 s [t0, t1, t2]) := by
  rw [Ex.c_eq]
  refine ac_wp fn40 cf40 cl40 rfl ?_
  simp only [ac40]
  unfold ab40
  rw [ty3]
  have hG : ∀ σ, AC Try.prog 56 [.agg t1.c, .bool (decide (t0.kind = 1) && decide (t1 = t2))] σ fun v s => s = σ ∧ v = tyP (gotP t1 (decide (t0.kind = 1) && decide (t1 = t2))) := fun σ => gotP_ac
  have hv : nodeP S 25 s [t0, t1, t2] = gotP t1 (decide (t0.kind = 1) && decide (t1 = t2)) := rfl
  rw [hv]
  generalize gotP t1 (decide (t0.kind = 1) && decide (t1 = t2)) = x at *
  simp only [Ty.c_eq, tyP, tyE] at hG ⊢
  have hE := eqTys t1 t2
  by_cases h1 : t0.kind = 1
  · simp only [h1, decide_true, Bool.true_and] at hG
    simp only [WU, seval, strs_eq, Sc.c_eq]
    refine w_dreg follow [] rfl ?_
    simp only [WU, seval, strs_eq, DU, z01, z02, z12, z03, z13, z23, sg03, sg33, sg63, h1, evalEq, hE]
    refine (hG _).useD ?_
    simp only [WU, seval, strs_eq, DU, z01, z02, z12, z03, z13, z23, sg03, sg33, sg63, sl_cells, storeA, sets, setx, TS]
    refine ⟨?_, ?_⟩
    · intro l hl c hc hf
      simp only [List.mem_cons, List.mem_nil_iff, List.not_mem_nil, or_false] at hl hc
      rcases hl with rfl | rfl | rfl | rfl <;> rcases hc with rfl | rfl | rfl <;> dsimp only at hf ⊢ <;> first
        | (exact absurd hf (by decide +kernel))
        | (simp only [WU, seval, strs_eq, z01, z02, z12, z03, z13, z23, sg03, sg33, sg63, h1]; done)
    · intro sl hsl; simp at hsl
  · simp only [h1, decide_false, Bool.false_and] at hG
    simp only [WU, seval, strs_eq, Sc.c_eq]
    refine w_dreg follow [] rfl ?_
    simp only [WU, seval, strs_eq, DU, z01, z02, z12, z03, z13, z23, sg03, sg33, sg63, h1]
    refine (hG _).useD ?_
    simp only [WU, seval, strs_eq, DU, z01, z02, z12, z03, z13, z23, sg03, sg33, sg63, sl_cells, storeA, sets, setx, TS]
    refine ⟨?_, ?_⟩
    · intro l hl c hc hf
      simp only [List.mem_cons, List.mem_nil_iff, List.not_mem_nil, or_false] at hl hc
      rcases hl with rfl | rfl <;> rcases hc with rfl | rfl | rfl <;> dsimp only at hf ⊢ <;> first
        | (exact absurd hf (by decide +kernel))
        | (simp only [WU, seval, strs_eq, z01, z02, z12, z03, z13, z23, sg03, sg33, sg63, h1]; done)
    · intro sl hsl; simp at hsl
end Go.Proofs.Ytcdbpmmomgehfaa.Va
