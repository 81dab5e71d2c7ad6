/- The law 'TypesRefuses' returns true at each input: a closed run for each choice of its numbers. Conditions: none. -/
import Derived.Test.YtcdbpmmomgehfaaTypesRefusesRun
import Derived.Test.YtcdbpmmomgehfaaTypesRefusesRuna
import Derived.KernelRfl
set_option maxRecDepth 100000
set_option maxHeartbeats 4000000
set_option linter.all false
namespace Go.Proofs.Ytcdbpmmomgehfaa.Va
open Go.Proofs
theorem typesRefuses_ac (x0 : Int) (x1 : Int) : AC Try.prog 10 [.int .i64 x0, .int .i64 x1] st0 fun v _ => v = .bool true := by
  refine typesRefuses_of_run x0 x1 ?_
  have h0 := wi_range x0 (n := 8) (by decide)
  generalize wi x0 8 = y0 at *
  exact typesRefuses_m0 x0 x1 y0 h0
end Go.Proofs.Ytcdbpmmomgehfaa.Va
