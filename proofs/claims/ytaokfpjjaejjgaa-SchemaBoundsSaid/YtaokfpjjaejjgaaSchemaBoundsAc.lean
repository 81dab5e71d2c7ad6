/- The law 'SchemaBounds' returns true at each input: a closed run for each choice of its numbers. Conditions: none. -/
import Derived.Test.YtaokfpjjaejjgaaSchemaBoundsRun
import Derived.Test.YtaokfpjjaejjgaaSchemaBoundsRuna
import Derived.KernelRfl
set_option maxRecDepth 100000
set_option maxHeartbeats 4000000
set_option linter.all false
namespace Go.Proofs.Ytaokfpjjaejjgaa.Va
open Go.Proofs
theorem schemaBounds_ac (x0 : Int) (x1 : Int) : AC Try.prog 5 [.int .i64 x0, .int .i64 x1] st0 fun v _ => v = .bool true := by
  refine schemaBounds_of_run x0 x1 ?_
  have h0 := wi_range x1 (n := 4) (by decide)
  have h1 := wi_range x0 (n := 5) (by decide)
  generalize wi x1 4 = y0 at *
  generalize wi x0 5 = y1 at *
  rcases (by omega : y1 = 0 ∨ y1 = 1 ∨ y1 = 2 ∨ y1 = 3 ∨ y1 = 4) with rfl | rfl | rfl | rfl | rfl
  · exact schemaBounds_m0 x0 x1 y0 h0
  · exact schemaBounds_m1 x0 x1 y0 h0
  · exact schemaBounds_m2 x0 x1 y0 h0
  · exact schemaBounds_m3 x0 x1 y0 h0
  · exact schemaBounds_m4 x0 x1 y0 h0
end Go.Proofs.Ytaokfpjjaejjgaa.Va
