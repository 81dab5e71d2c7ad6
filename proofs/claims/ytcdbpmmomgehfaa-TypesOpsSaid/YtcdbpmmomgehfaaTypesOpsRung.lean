/- The law 'TypesOps' returns true at each input: a closed run for each choice of its numbers. Conditions: none. -/
import Derived.Test.YtcdbpmmomgehfaaTypesOpsRun
import Derived.KernelRfl
set_option maxRecDepth 100000
set_option maxHeartbeats 4000000
set_option linter.all false
namespace Go.Proofs.Ytcdbpmmomgehfaa.Va
open Go.Proofs
theorem typesOps_g28 (x0 : Int) (x1 : Int) (x2 : Int) (x3 : Int) : (((ints 6).flatMap fun c2 => [c2]) : List (Int)).map (fun t => typesOpsRun (x0) (x1) (x2) (x3) (5) (2) (t) (16)) = List.replicate 6 (some (typesOpsOwed x0 x1 x2 x3)) := by kernel_rfl
theorem typesOps_m28 (x0 : Int) (x1 : Int) (x2 : Int) (x3 : Int) (y2 : Int) (h2 : 0 ≤ y2 ∧ y2 < 6) : typesOpsRun x0 x1 x2 x3 (5) (2) y2 (16) = some (typesOpsOwed x0 x1 x2 x3) := by
  refine of_map (typesOps_g28 x0 x1 x2 x3) (a := y2) ?_
  simp only [List.mem_flatMap, List.mem_singleton]
  exact ⟨_, ints_mem 6 y2 h2.1 h2.2, rfl⟩
theorem typesOps_g29 (x0 : Int) (x1 : Int) (x2 : Int) (x3 : Int) : (((ints 6).flatMap fun c2 => [c2]) : List (Int)).map (fun t => typesOpsRun (x0) (x1) (x2) (x3) (5) (3) (t) (16)) = List.replicate 6 (some (typesOpsOwed x0 x1 x2 x3)) := by kernel_rfl
theorem typesOps_m29 (x0 : Int) (x1 : Int) (x2 : Int) (x3 : Int) (y2 : Int) (h2 : 0 ≤ y2 ∧ y2 < 6) : typesOpsRun x0 x1 x2 x3 (5) (3) y2 (16) = some (typesOpsOwed x0 x1 x2 x3) := by
  refine of_map (typesOps_g29 x0 x1 x2 x3) (a := y2) ?_
  simp only [List.mem_flatMap, List.mem_singleton]
  exact ⟨_, ints_mem 6 y2 h2.1 h2.2, rfl⟩
theorem typesOps_g30 (x0 : Int) (x1 : Int) (x2 : Int) (x3 : Int) : (((ints 6).flatMap fun c2 => [c2]) : List (Int)).map (fun t => typesOpsRun (x0) (x1) (x2) (x3) (5) (4) (t) (16)) = List.replicate 6 (some (typesOpsOwed x0 x1 x2 x3)) := by kernel_rfl
theorem typesOps_m30 (x0 : Int) (x1 : Int) (x2 : Int) (x3 : Int) (y2 : Int) (h2 : 0 ≤ y2 ∧ y2 < 6) : typesOpsRun x0 x1 x2 x3 (5) (4) y2 (16) = some (typesOpsOwed x0 x1 x2 x3) := by
  refine of_map (typesOps_g30 x0 x1 x2 x3) (a := y2) ?_
  simp only [List.mem_flatMap, List.mem_singleton]
  exact ⟨_, ints_mem 6 y2 h2.1 h2.2, rfl⟩
theorem typesOps_g31 (x0 : Int) (x1 : Int) (x2 : Int) (x3 : Int) : (((ints 6).flatMap fun c2 => [c2]) : List (Int)).map (fun t => typesOpsRun (x0) (x1) (x2) (x3) (5) (5) (t) (16)) = List.replicate 6 (some (typesOpsOwed x0 x1 x2 x3)) := by kernel_rfl
theorem typesOps_m31 (x0 : Int) (x1 : Int) (x2 : Int) (x3 : Int) (y2 : Int) (h2 : 0 ≤ y2 ∧ y2 < 6) : typesOpsRun x0 x1 x2 x3 (5) (5) y2 (16) = some (typesOpsOwed x0 x1 x2 x3) := by
  refine of_map (typesOps_g31 x0 x1 x2 x3) (a := y2) ?_
  simp only [List.mem_flatMap, List.mem_singleton]
  exact ⟨_, ints_mem 6 y2 h2.1 h2.2, rfl⟩
end Go.Proofs.Ytcdbpmmomgehfaa.Va
