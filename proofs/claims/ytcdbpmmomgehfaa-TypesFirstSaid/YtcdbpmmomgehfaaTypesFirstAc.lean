/- The law 'TypesFirst' returns true at each input: a closed run for each choice of its numbers. Conditions: none. -/
import Derived.Test.YtcdbpmmomgehfaaTypesFirstRun
import Derived.Test.YtcdbpmmomgehfaaTypesFirstRuna
import Derived.Test.YtcdbpmmomgehfaaTypesFirstRunb
import Derived.KernelRfl
set_option maxRecDepth 100000
set_option maxHeartbeats 4000000
set_option linter.all false
namespace Go.Proofs.Ytcdbpmmomgehfaa.Va
open Go.Proofs
theorem typesFirst_ac (x0 : Int) (x1 : Int) (x2 : Int) : AC Try.prog 6 [.int .i64 x0, .int .i64 x1, .int .i64 x2] st0 fun v _ => v = .bool true := by
  refine typesFirst_of_run x0 x1 x2 ?_
  have h0 := wi_range x0 (n := 4) (by decide)
  have h1 := wi_range x1 (n := 4) (by decide)
  have h2 := wi_range x2 (n := 12) (by decide)
  generalize wi x0 4 = y0 at *
  generalize wi x1 4 = y1 at *
  generalize wi x2 12 = y2 at *
  rcases (by omega : y2 = 0 ∨ y2 = 1 ∨ y2 = 2 ∨ y2 = 3 ∨ y2 = 4 ∨ y2 = 5 ∨ y2 = 6 ∨ y2 = 7 ∨ y2 = 8 ∨ y2 = 9 ∨ y2 = 10 ∨ y2 = 11) with rfl | rfl | rfl | rfl | rfl | rfl | rfl | rfl | rfl | rfl | rfl | rfl
  · exact typesFirst_m0 x0 x1 x2 y0 y1 h0 h1
  · exact typesFirst_m1 x0 x1 x2 y0 y1 h0 h1
  · exact typesFirst_m2 x0 x1 x2 y0 y1 h0 h1
  · exact typesFirst_m3 x0 x1 x2 y0 y1 h0 h1
  · exact typesFirst_m4 x0 x1 x2 y0 y1 h0 h1
  · exact typesFirst_m5 x0 x1 x2 y0 y1 h0 h1
  · exact typesFirst_m6 x0 x1 x2 y0 y1 h0 h1
  · exact typesFirst_m7 x0 x1 x2 y0 y1 h0 h1
  · exact typesFirst_m8 x0 x1 x2 y0 y1 h0 h1
  · exact typesFirst_m9 x0 x1 x2 y0 y1 h0 h1
  · exact typesFirst_m10 x0 x1 x2 y0 y1 h0 h1
  · exact typesFirst_m11 x0 x1 x2 y0 y1 h0 h1
end Go.Proofs.Ytcdbpmmomgehfaa.Va
