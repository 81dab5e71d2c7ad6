/- The law 'SchemaTypes' returns true at each input: a closed run for each choice of its numbers. Conditions: none. -/
import Derived.Test.YtaokfpjjaejjgaaSchemaTypesRun
import Derived.Test.YtaokfpjjaejjgaaSchemaTypesRuna
import Derived.Test.YtaokfpjjaejjgaaSchemaTypesRunb
import Derived.Test.YtaokfpjjaejjgaaSchemaTypesRunc
import Derived.Test.YtaokfpjjaejjgaaSchemaTypesRund
import Derived.KernelRfl
set_option maxRecDepth 100000
set_option maxHeartbeats 4000000
set_option linter.all false
namespace Go.Proofs.Ytaokfpjjaejjgaa.Va
open Go.Proofs
theorem schemaTypes_ac (x0 : Int) (x1 : Int) (x2 : Int) (x3 : Bool) : AC Try.prog 4 [.int .i64 x0, .int .i64 x1, .int .i64 x2, .bool x3] st0 fun v _ => v = .bool true := by
  refine schemaTypes_of_run x0 x1 x2 x3 ?_
  have h0 := wi_range x0 (n := 8) (by decide)
  have h1 := wi_range x1 (n := 7) (by decide)
  have h2 := wi_range x2 (n := 4) (by decide)
  generalize wi x0 8 = y0 at *
  generalize wi x1 7 = y1 at *
  generalize wi x2 4 = y2 at *
  rcases (by omega : y0 = 0 ∨ y0 = 1 ∨ y0 = 2 ∨ y0 = 3 ∨ y0 = 4 ∨ y0 = 5 ∨ y0 = 6 ∨ y0 = 7) with rfl | rfl | rfl | rfl | rfl | rfl | rfl | rfl
  · exact schemaTypes_m0 x0 x1 x2 x3 y1 y2 h1 h2
  · exact schemaTypes_m1 x0 x1 x2 x3 y1 y2 h1 h2
  · exact schemaTypes_m2 x0 x1 x2 x3 y1 y2 h1 h2
  · exact schemaTypes_m3 x0 x1 x2 x3 y1 y2 h1 h2
  · exact schemaTypes_m4 x0 x1 x2 x3 y1 y2 h1 h2
  · exact schemaTypes_m5 x0 x1 x2 x3 y1 y2 h1 h2
  · exact schemaTypes_m6 x0 x1 x2 x3 y1 y2 h1 h2
  · exact schemaTypes_m7 x0 x1 x2 x3 y1 y2 h1 h2
end Go.Proofs.Ytaokfpjjaejjgaa.Va
