/- The law 'TypesOps' returns true at each input: a closed run for each choice of its numbers. Conditions: none. -/
import Derived.Test.YtcdbpmmomgehfaaTypesOpsRun
import Derived.Test.YtcdbpmmomgehfaaTypesOpsRuna
import Derived.Test.YtcdbpmmomgehfaaTypesOpsRunb
import Derived.Test.YtcdbpmmomgehfaaTypesOpsRunc
import Derived.Test.YtcdbpmmomgehfaaTypesOpsRund
import Derived.Test.YtcdbpmmomgehfaaTypesOpsRune
import Derived.Test.YtcdbpmmomgehfaaTypesOpsRunf
import Derived.Test.YtcdbpmmomgehfaaTypesOpsRung
import Derived.KernelRfl
set_option maxRecDepth 100000
set_option maxHeartbeats 4000000
set_option linter.all false
namespace Go.Proofs.Ytcdbpmmomgehfaa.Va
open Go.Proofs
theorem typesOps_ac (x0 : Int) (x1 : Int) (x2 : Int) (x3 : Int) : AC Try.prog 5 [.int .i64 x0, .int .i64 x1, .int .i64 x2, .int .i64 x3] st0 fun v _ => v = .bool true := by
  refine typesOps_of_run x0 x1 x2 x3 ?_
  have h0 := wi_range x1 (n := 6) (by decide)
  have h1 := wi_range x2 (n := 6) (by decide)
  have h2 := wi_range x3 (n := 6) (by decide)
  have h3 := wi_range x0 (n := 17) (by decide)
  generalize wi x1 6 = y0 at *
  generalize wi x2 6 = y1 at *
  generalize wi x3 6 = y2 at *
  generalize wi x0 17 = y3 at *
  rcases (by omega : y3 = 0 ∨ y3 = 1 ∨ y3 = 2 ∨ y3 = 3 ∨ y3 = 4 ∨ y3 = 5 ∨ y3 = 6 ∨ y3 = 7 ∨ y3 = 8 ∨ y3 = 9 ∨ y3 = 10 ∨ y3 = 11 ∨ y3 = 12 ∨ y3 = 13 ∨ y3 = 14 ∨ y3 = 15 ∨ y3 = 16) with rfl | rfl | rfl | rfl | rfl | rfl | rfl | rfl | rfl | rfl | rfl | rfl | rfl | rfl | rfl | rfl | rfl
  · exact typesOps_m0 x0 x1 x2 x3 y0 y1 y2 h0 h1
  · exact typesOps_m1 x0 x1 x2 x3 y0 y1 y2 h0 h1
  · exact typesOps_m2 x0 x1 x2 x3 y0 y1 y2 h0 h1
  · exact typesOps_m3 x0 x1 x2 x3 y0 y1 y2 h0 h1
  · exact typesOps_m4 x0 x1 x2 x3 y0 y1 y2 h0 h1
  · exact typesOps_m5 x0 x1 x2 x3 y0 y1 y2 h0 h1
  · exact typesOps_m6 x0 x1 x2 x3 y0 y1 y2 h0 h1
  · exact typesOps_m7 x0 x1 x2 x3 y0 y1 y2 h0 h1
  · exact typesOps_m8 x0 x1 x2 x3 y0 y1 y2 h0 h1
  · exact typesOps_m9 x0 x1 x2 x3 y0 y1 y2 h0 h1
  · exact typesOps_m10 x0 x1 x2 x3 y0 y1 y2 h0 h1
  · exact typesOps_m11 x0 x1 x2 x3 y0 y1 y2 h0 h1
  · exact typesOps_m12 x0 x1 x2 x3 y0 y1 y2 h0 h1
  · exact typesOps_m13 x0 x1 x2 x3 y0 y1 y2 h0 h1
  · exact typesOps_m14 x0 x1 x2 x3 y0 y1 y2 h0 h1
  · exact typesOps_m15 x0 x1 x2 x3 y0 y1 y2 h0 h1
  · rcases (by omega : y0 = 0 ∨ y0 = 1 ∨ y0 = 2 ∨ y0 = 3 ∨ y0 = 4 ∨ y0 = 5) with rfl | rfl | rfl | rfl | rfl | rfl
    · exact typesOps_m16 x0 x1 x2 x3 y1 y2 h1 h2
    · exact typesOps_m17 x0 x1 x2 x3 y1 y2 h1 h2
    · exact typesOps_m18 x0 x1 x2 x3 y1 y2 h1 h2
    · exact typesOps_m19 x0 x1 x2 x3 y1 y2 h1 h2
    · rcases (by omega : y1 = 0 ∨ y1 = 1 ∨ y1 = 2 ∨ y1 = 3 ∨ y1 = 4 ∨ y1 = 5) with rfl | rfl | rfl | rfl | rfl | rfl
      · exact typesOps_m20 x0 x1 x2 x3 y2 h2
      · exact typesOps_m21 x0 x1 x2 x3 y2 h2
      · exact typesOps_m22 x0 x1 x2 x3 y2 h2
      · exact typesOps_m23 x0 x1 x2 x3 y2 h2
      · exact typesOps_m24 x0 x1 x2 x3 y2 h2
      · exact typesOps_m25 x0 x1 x2 x3 y2 h2
    · rcases (by omega : y1 = 0 ∨ y1 = 1 ∨ y1 = 2 ∨ y1 = 3 ∨ y1 = 4 ∨ y1 = 5) with rfl | rfl | rfl | rfl | rfl | rfl
      · exact typesOps_m26 x0 x1 x2 x3 y2 h2
      · exact typesOps_m27 x0 x1 x2 x3 y2 h2
      · exact typesOps_m28 x0 x1 x2 x3 y2 h2
      · exact typesOps_m29 x0 x1 x2 x3 y2 h2
      · exact typesOps_m30 x0 x1 x2 x3 y2 h2
      · exact typesOps_m31 x0 x1 x2 x3 y2 h2
end Go.Proofs.Ytcdbpmmomgehfaa.Va
