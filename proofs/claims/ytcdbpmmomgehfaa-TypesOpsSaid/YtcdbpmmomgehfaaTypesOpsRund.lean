/- The law 'TypesOps' returns true at each input: a closed run for each choice of its numbers. Conditions: none. -/
import Derived.Test.YtcdbpmmomgehfaaTypesOpsRun
import Derived.KernelRfl
set_option maxRecDepth 100000
set_option maxHeartbeats 4000000
set_option linter.all false
namespace Go.Proofs.Ytcdbpmmomgehfaa.Va
open Go.Proofs
theorem typesOps_g18 (x0 : Int) (x1 : Int) (x2 : Int) (x3 : Int) : (((ints 6).flatMap fun c1 => ((ints 6).flatMap fun c2 => [(c1, c2)])) : List (Int × Int)).map (fun t => typesOpsRun (x0) (x1) (x2) (x3) (2) (t.1) (t.2) (16)) = List.replicate 36 (some (typesOpsOwed x0 x1 x2 x3)) := by kernel_rfl
theorem typesOps_m18 (x0 : Int) (x1 : Int) (x2 : Int) (x3 : Int) (y1 : Int) (y2 : Int) (h1 : 0 ≤ y1 ∧ y1 < 6) (h2 : 0 ≤ y2 ∧ y2 < 6) : typesOpsRun x0 x1 x2 x3 (2) y1 y2 (16) = some (typesOpsOwed x0 x1 x2 x3) := by
  refine of_map (typesOps_g18 x0 x1 x2 x3) (a := (y1, y2)) ?_
  simp only [List.mem_flatMap, List.mem_singleton]
  exact ⟨_, ints_mem 6 y1 h1.1 h1.2, ⟨_, ints_mem 6 y2 h2.1 h2.2, rfl⟩⟩
theorem typesOps_g19 (x0 : Int) (x1 : Int) (x2 : Int) (x3 : Int) : (((ints 6).flatMap fun c1 => ((ints 6).flatMap fun c2 => [(c1, c2)])) : List (Int × Int)).map (fun t => typesOpsRun (x0) (x1) (x2) (x3) (3) (t.1) (t.2) (16)) = List.replicate 36 (some (typesOpsOwed x0 x1 x2 x3)) := by kernel_rfl
theorem typesOps_m19 (x0 : Int) (x1 : Int) (x2 : Int) (x3 : Int) (y1 : Int) (y2 : Int) (h1 : 0 ≤ y1 ∧ y1 < 6) (h2 : 0 ≤ y2 ∧ y2 < 6) : typesOpsRun x0 x1 x2 x3 (3) y1 y2 (16) = some (typesOpsOwed x0 x1 x2 x3) := by
  refine of_map (typesOps_g19 x0 x1 x2 x3) (a := (y1, y2)) ?_
  simp only [List.mem_flatMap, List.mem_singleton]
  exact ⟨_, ints_mem 6 y1 h1.1 h1.2, ⟨_, ints_mem 6 y2 h2.1 h2.2, rfl⟩⟩
end Go.Proofs.Ytcdbpmmomgehfaa.Va
