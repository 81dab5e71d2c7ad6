/- The law 'TypesOps' returns true at each input: a closed run for each choice of its numbers. Conditions: none. -/
import Derived.Test.YtcdbpmmomgehfaaTypesOpsRun
import Derived.KernelRfl
set_option maxRecDepth 100000
set_option maxHeartbeats 4000000
set_option linter.all false
namespace Go.Proofs.Ytcdbpmmomgehfaa.Va
open Go.Proofs
theorem typesOps_g6 (x0 : Int) (x1 : Int) (x2 : Int) (x3 : Int) (y2 : Int) : (((ints 6).flatMap fun c0 => ((ints 6).flatMap fun c1 => [(c0, c1)])) : List (Int × Int)).map (fun t => typesOpsRun (x0) (x1) (x2) (x3) (t.1) (t.2) (y2) (6)) = List.replicate 36 (some (typesOpsOwed x0 x1 x2 x3)) := by kernel_rfl
theorem typesOps_m6 (x0 : Int) (x1 : Int) (x2 : Int) (x3 : Int) (y0 : Int) (y1 : Int) (y2 : Int) (h0 : 0 ≤ y0 ∧ y0 < 6) (h1 : 0 ≤ y1 ∧ y1 < 6) : typesOpsRun x0 x1 x2 x3 y0 y1 y2 (6) = some (typesOpsOwed x0 x1 x2 x3) := by
  refine of_map (typesOps_g6 x0 x1 x2 x3 y2) (a := (y0, y1)) ?_
  simp only [List.mem_flatMap, List.mem_singleton]
  exact ⟨_, ints_mem 6 y0 h0.1 h0.2, ⟨_, ints_mem 6 y1 h1.1 h1.2, rfl⟩⟩
theorem typesOps_g7 (x0 : Int) (x1 : Int) (x2 : Int) (x3 : Int) (y2 : Int) : (((ints 6).flatMap fun c0 => ((ints 6).flatMap fun c1 => [(c0, c1)])) : List (Int × Int)).map (fun t => typesOpsRun (x0) (x1) (x2) (x3) (t.1) (t.2) (y2) (7)) = List.replicate 36 (some (typesOpsOwed x0 x1 x2 x3)) := by kernel_rfl
theorem typesOps_m7 (x0 : Int) (x1 : Int) (x2 : Int) (x3 : Int) (y0 : Int) (y1 : Int) (y2 : Int) (h0 : 0 ≤ y0 ∧ y0 < 6) (h1 : 0 ≤ y1 ∧ y1 < 6) : typesOpsRun x0 x1 x2 x3 y0 y1 y2 (7) = some (typesOpsOwed x0 x1 x2 x3) := by
  refine of_map (typesOps_g7 x0 x1 x2 x3 y2) (a := (y0, y1)) ?_
  simp only [List.mem_flatMap, List.mem_singleton]
  exact ⟨_, ints_mem 6 y0 h0.1 h0.2, ⟨_, ints_mem 6 y1 h1.1 h1.2, rfl⟩⟩
theorem typesOps_g8 (x0 : Int) (x1 : Int) (x2 : Int) (x3 : Int) (y2 : Int) : (((ints 6).flatMap fun c0 => ((ints 6).flatMap fun c1 => [(c0, c1)])) : List (Int × Int)).map (fun t => typesOpsRun (x0) (x1) (x2) (x3) (t.1) (t.2) (y2) (8)) = List.replicate 36 (some (typesOpsOwed x0 x1 x2 x3)) := by kernel_rfl
theorem typesOps_m8 (x0 : Int) (x1 : Int) (x2 : Int) (x3 : Int) (y0 : Int) (y1 : Int) (y2 : Int) (h0 : 0 ≤ y0 ∧ y0 < 6) (h1 : 0 ≤ y1 ∧ y1 < 6) : typesOpsRun x0 x1 x2 x3 y0 y1 y2 (8) = some (typesOpsOwed x0 x1 x2 x3) := by
  refine of_map (typesOps_g8 x0 x1 x2 x3 y2) (a := (y0, y1)) ?_
  simp only [List.mem_flatMap, List.mem_singleton]
  exact ⟨_, ints_mem 6 y0 h0.1 h0.2, ⟨_, ints_mem 6 y1 h1.1 h1.2, rfl⟩⟩
theorem typesOps_g9 (x0 : Int) (x1 : Int) (x2 : Int) (x3 : Int) (y2 : Int) : (((ints 6).flatMap fun c0 => ((ints 6).flatMap fun c1 => [(c0, c1)])) : List (Int × Int)).map (fun t => typesOpsRun (x0) (x1) (x2) (x3) (t.1) (t.2) (y2) (9)) = List.replicate 36 (some (typesOpsOwed x0 x1 x2 x3)) := by kernel_rfl
theorem typesOps_m9 (x0 : Int) (x1 : Int) (x2 : Int) (x3 : Int) (y0 : Int) (y1 : Int) (y2 : Int) (h0 : 0 ≤ y0 ∧ y0 < 6) (h1 : 0 ≤ y1 ∧ y1 < 6) : typesOpsRun x0 x1 x2 x3 y0 y1 y2 (9) = some (typesOpsOwed x0 x1 x2 x3) := by
  refine of_map (typesOps_g9 x0 x1 x2 x3 y2) (a := (y0, y1)) ?_
  simp only [List.mem_flatMap, List.mem_singleton]
  exact ⟨_, ints_mem 6 y0 h0.1 h0.2, ⟨_, ints_mem 6 y1 h1.1 h1.2, rfl⟩⟩
theorem typesOps_g10 (x0 : Int) (x1 : Int) (x2 : Int) (x3 : Int) (y2 : Int) : (((ints 6).flatMap fun c0 => ((ints 6).flatMap fun c1 => [(c0, c1)])) : List (Int × Int)).map (fun t => typesOpsRun (x0) (x1) (x2) (x3) (t.1) (t.2) (y2) (10)) = List.replicate 36 (some (typesOpsOwed x0 x1 x2 x3)) := by kernel_rfl
theorem typesOps_m10 (x0 : Int) (x1 : Int) (x2 : Int) (x3 : Int) (y0 : Int) (y1 : Int) (y2 : Int) (h0 : 0 ≤ y0 ∧ y0 < 6) (h1 : 0 ≤ y1 ∧ y1 < 6) : typesOpsRun x0 x1 x2 x3 y0 y1 y2 (10) = some (typesOpsOwed x0 x1 x2 x3) := by
  refine of_map (typesOps_g10 x0 x1 x2 x3 y2) (a := (y0, y1)) ?_
  simp only [List.mem_flatMap, List.mem_singleton]
  exact ⟨_, ints_mem 6 y0 h0.1 h0.2, ⟨_, ints_mem 6 y1 h1.1 h1.2, rfl⟩⟩
theorem typesOps_g11 (x0 : Int) (x1 : Int) (x2 : Int) (x3 : Int) (y2 : Int) : (((ints 6).flatMap fun c0 => ((ints 6).flatMap fun c1 => [(c0, c1)])) : List (Int × Int)).map (fun t => typesOpsRun (x0) (x1) (x2) (x3) (t.1) (t.2) (y2) (11)) = List.replicate 36 (some (typesOpsOwed x0 x1 x2 x3)) := by kernel_rfl
theorem typesOps_m11 (x0 : Int) (x1 : Int) (x2 : Int) (x3 : Int) (y0 : Int) (y1 : Int) (y2 : Int) (h0 : 0 ≤ y0 ∧ y0 < 6) (h1 : 0 ≤ y1 ∧ y1 < 6) : typesOpsRun x0 x1 x2 x3 y0 y1 y2 (11) = some (typesOpsOwed x0 x1 x2 x3) := by
  refine of_map (typesOps_g11 x0 x1 x2 x3 y2) (a := (y0, y1)) ?_
  simp only [List.mem_flatMap, List.mem_singleton]
  exact ⟨_, ints_mem 6 y0 h0.1 h0.2, ⟨_, ints_mem 6 y1 h1.1 h1.2, rfl⟩⟩
end Go.Proofs.Ytcdbpmmomgehfaa.Va
