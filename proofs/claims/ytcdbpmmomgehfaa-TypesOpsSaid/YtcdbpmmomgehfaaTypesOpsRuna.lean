/- The law 'TypesOps' returns true at each input: a closed run for each choice of its numbers. Conditions: none. -/
import Derived.Test.YtcdbpmmomgehfaaTypesOpsRun
import Derived.KernelRfl
set_option maxRecDepth 100000
set_option maxHeartbeats 4000000
set_option linter.all false
namespace Go.Proofs.Ytcdbpmmomgehfaa.Va
open Go.Proofs
theorem typesOps_g0 (x0 : Int) (x1 : Int) (x2 : Int) (x3 : Int) (y2 : Int) : (((ints 6).flatMap fun c0 => ((ints 6).flatMap fun c1 => [(c0, c1)])) : List (Int × Int)).map (fun t => typesOpsRun (x0) (x1) (x2) (x3) (t.1) (t.2) (y2) (0)) = List.replicate 36 (some (typesOpsOwed x0 x1 x2 x3)) := by kernel_rfl
theorem typesOps_m0 (x0 : Int) (x1 : Int) (x2 : Int) (x3 : Int) (y0 : Int) (y1 : Int) (y2 : Int) (h0 : 0 ≤ y0 ∧ y0 < 6) (h1 : 0 ≤ y1 ∧ y1 < 6) : typesOpsRun x0 x1 x2 x3 y0 y1 y2 (0) = some (typesOpsOwed x0 x1 x2 x3) := by
  refine of_map (typesOps_g0 x0 x1 x2 x3 y2) (a := (y0, y1)) ?_
  simp only [List.mem_flatMap, List.mem_singleton]
  exact ⟨_, ints_mem 6 y0 h0.1 h0.2, ⟨_, ints_mem 6 y1 h1.1 h1.2, rfl⟩⟩
theorem typesOps_g1 (x0 : Int) (x1 : Int) (x2 : Int) (x3 : Int) (y2 : Int) : (((ints 6).flatMap fun c0 => ((ints 6).flatMap fun c1 => [(c0, c1)])) : List (Int × Int)).map (fun t => typesOpsRun (x0) (x1) (x2) (x3) (t.1) (t.2) (y2) (1)) = List.replicate 36 (some (typesOpsOwed x0 x1 x2 x3)) := by kernel_rfl
theorem typesOps_m1 (x0 : Int) (x1 : Int) (x2 : Int) (x3 : Int) (y0 : Int) (y1 : Int) (y2 : Int) (h0 : 0 ≤ y0 ∧ y0 < 6) (h1 : 0 ≤ y1 ∧ y1 < 6) : typesOpsRun x0 x1 x2 x3 y0 y1 y2 (1) = some (typesOpsOwed x0 x1 x2 x3) := by
  refine of_map (typesOps_g1 x0 x1 x2 x3 y2) (a := (y0, y1)) ?_
  simp only [List.mem_flatMap, List.mem_singleton]
  exact ⟨_, ints_mem 6 y0 h0.1 h0.2, ⟨_, ints_mem 6 y1 h1.1 h1.2, rfl⟩⟩
theorem typesOps_g2 (x0 : Int) (x1 : Int) (x2 : Int) (x3 : Int) (y2 : Int) : (((ints 6).flatMap fun c0 => ((ints 6).flatMap fun c1 => [(c0, c1)])) : List (Int × Int)).map (fun t => typesOpsRun (x0) (x1) (x2) (x3) (t.1) (t.2) (y2) (2)) = List.replicate 36 (some (typesOpsOwed x0 x1 x2 x3)) := by kernel_rfl
theorem typesOps_m2 (x0 : Int) (x1 : Int) (x2 : Int) (x3 : Int) (y0 : Int) (y1 : Int) (y2 : Int) (h0 : 0 ≤ y0 ∧ y0 < 6) (h1 : 0 ≤ y1 ∧ y1 < 6) : typesOpsRun x0 x1 x2 x3 y0 y1 y2 (2) = some (typesOpsOwed x0 x1 x2 x3) := by
  refine of_map (typesOps_g2 x0 x1 x2 x3 y2) (a := (y0, y1)) ?_
  simp only [List.mem_flatMap, List.mem_singleton]
  exact ⟨_, ints_mem 6 y0 h0.1 h0.2, ⟨_, ints_mem 6 y1 h1.1 h1.2, rfl⟩⟩
theorem typesOps_g3 (x0 : Int) (x1 : Int) (x2 : Int) (x3 : Int) (y2 : Int) : (((ints 6).flatMap fun c0 => ((ints 6).flatMap fun c1 => [(c0, c1)])) : List (Int × Int)).map (fun t => typesOpsRun (x0) (x1) (x2) (x3) (t.1) (t.2) (y2) (3)) = List.replicate 36 (some (typesOpsOwed x0 x1 x2 x3)) := by kernel_rfl
theorem typesOps_m3 (x0 : Int) (x1 : Int) (x2 : Int) (x3 : Int) (y0 : Int) (y1 : Int) (y2 : Int) (h0 : 0 ≤ y0 ∧ y0 < 6) (h1 : 0 ≤ y1 ∧ y1 < 6) : typesOpsRun x0 x1 x2 x3 y0 y1 y2 (3) = some (typesOpsOwed x0 x1 x2 x3) := by
  refine of_map (typesOps_g3 x0 x1 x2 x3 y2) (a := (y0, y1)) ?_
  simp only [List.mem_flatMap, List.mem_singleton]
  exact ⟨_, ints_mem 6 y0 h0.1 h0.2, ⟨_, ints_mem 6 y1 h1.1 h1.2, rfl⟩⟩
theorem typesOps_g4 (x0 : Int) (x1 : Int) (x2 : Int) (x3 : Int) (y2 : Int) : (((ints 6).flatMap fun c0 => ((ints 6).flatMap fun c1 => [(c0, c1)])) : List (Int × Int)).map (fun t => typesOpsRun (x0) (x1) (x2) (x3) (t.1) (t.2) (y2) (4)) = List.replicate 36 (some (typesOpsOwed x0 x1 x2 x3)) := by kernel_rfl
theorem typesOps_m4 (x0 : Int) (x1 : Int) (x2 : Int) (x3 : Int) (y0 : Int) (y1 : Int) (y2 : Int) (h0 : 0 ≤ y0 ∧ y0 < 6) (h1 : 0 ≤ y1 ∧ y1 < 6) : typesOpsRun x0 x1 x2 x3 y0 y1 y2 (4) = some (typesOpsOwed x0 x1 x2 x3) := by
  refine of_map (typesOps_g4 x0 x1 x2 x3 y2) (a := (y0, y1)) ?_
  simp only [List.mem_flatMap, List.mem_singleton]
  exact ⟨_, ints_mem 6 y0 h0.1 h0.2, ⟨_, ints_mem 6 y1 h1.1 h1.2, rfl⟩⟩
theorem typesOps_g5 (x0 : Int) (x1 : Int) (x2 : Int) (x3 : Int) (y2 : Int) : (((ints 6).flatMap fun c0 => ((ints 6).flatMap fun c1 => [(c0, c1)])) : List (Int × Int)).map (fun t => typesOpsRun (x0) (x1) (x2) (x3) (t.1) (t.2) (y2) (5)) = List.replicate 36 (some (typesOpsOwed x0 x1 x2 x3)) := by kernel_rfl
theorem typesOps_m5 (x0 : Int) (x1 : Int) (x2 : Int) (x3 : Int) (y0 : Int) (y1 : Int) (y2 : Int) (h0 : 0 ≤ y0 ∧ y0 < 6) (h1 : 0 ≤ y1 ∧ y1 < 6) : typesOpsRun x0 x1 x2 x3 y0 y1 y2 (5) = some (typesOpsOwed x0 x1 x2 x3) := by
  refine of_map (typesOps_g5 x0 x1 x2 x3 y2) (a := (y0, y1)) ?_
  simp only [List.mem_flatMap, List.mem_singleton]
  exact ⟨_, ints_mem 6 y0 h0.1 h0.2, ⟨_, ints_mem 6 y1 h1.1 h1.2, rfl⟩⟩
end Go.Proofs.Ytcdbpmmomgehfaa.Va
