/- The law 'TypesRefuses' returns true at each input: a closed run for each choice of its numbers. Conditions: none. -/
import Derived.Test.YtcdbpmmomgehfaaTypesRefusesRun
import Derived.KernelRfl
set_option maxRecDepth 100000
set_option maxHeartbeats 4000000
set_option linter.all false
namespace Go.Proofs.Ytcdbpmmomgehfaa.Va
open Go.Proofs
theorem typesRefuses_g0 (x0 : Int) (x1 : Int) : (((ints 8).flatMap fun c0 => [c0]) : List (Int)).map (fun t => typesRefusesRun (x0) (x1) (t)) = List.replicate 8 (some (typesRefusesOwed x0 x1)) := by kernel_rfl
theorem typesRefuses_m0 (x0 : Int) (x1 : Int) (y0 : Int) (h0 : 0 ≤ y0 ∧ y0 < 8) : typesRefusesRun x0 x1 y0 = some (typesRefusesOwed x0 x1) := by
  refine of_map (typesRefuses_g0 x0 x1) (a := y0) ?_
  simp only [List.mem_flatMap, List.mem_singleton]
  exact ⟨_, ints_mem 8 y0 h0.1 h0.2, rfl⟩
end Go.Proofs.Ytcdbpmmomgehfaa.Va
