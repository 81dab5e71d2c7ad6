/- The law 'SchemaTypes' returns true at each input: a closed run for each choice of its numbers. Conditions: none. -/
import Derived.Test.YtaokfpjjaejjgaaSchemaTypesRun
import Derived.KernelRfl
set_option maxRecDepth 100000
set_option maxHeartbeats 4000000
set_option linter.all false
namespace Go.Proofs.Ytaokfpjjaejjgaa.Va
open Go.Proofs
theorem schemaTypes_g0 (x0 : Int) (x1 : Int) (x2 : Int) : (((ints 7).flatMap fun c1 => ((ints 4).flatMap fun c2 => ([false, true].flatMap fun e3 => [(c1, c2, e3)]))) : List (Int × Int × Bool)).map (fun t => schemaTypesRun (x0) (x1) (x2) (t.2.2) (0) (t.1) (t.2.1)) = List.replicate 56 (some (schemaTypesOwed x0 x1 x2 false)) := by kernel_rfl
theorem schemaTypes_m0 (x0 : Int) (x1 : Int) (x2 : Int) (x3 : Bool) (y1 : Int) (y2 : Int) (h1 : 0 ≤ y1 ∧ y1 < 7) (h2 : 0 ≤ y2 ∧ y2 < 4) : schemaTypesRun x0 x1 x2 x3 (0) y1 y2 = some (schemaTypesOwed x0 x1 x2 false) := by
  refine of_map (schemaTypes_g0 x0 x1 x2) (a := (y1, y2, x3)) ?_
  simp only [List.mem_flatMap, List.mem_singleton]
  exact ⟨_, ints_mem 7 y1 h1.1 h1.2, ⟨_, ints_mem 4 y2 h2.1 h2.2, ⟨x3, by cases x3 <;> simp, rfl⟩⟩⟩
theorem schemaTypes_g1 (x0 : Int) (x1 : Int) (x2 : Int) : (((ints 7).flatMap fun c1 => ((ints 4).flatMap fun c2 => ([false, true].flatMap fun e3 => [(c1, c2, e3)]))) : List (Int × Int × Bool)).map (fun t => schemaTypesRun (x0) (x1) (x2) (t.2.2) (1) (t.1) (t.2.1)) = List.replicate 56 (some (schemaTypesOwed x0 x1 x2 false)) := by kernel_rfl
theorem schemaTypes_m1 (x0 : Int) (x1 : Int) (x2 : Int) (x3 : Bool) (y1 : Int) (y2 : Int) (h1 : 0 ≤ y1 ∧ y1 < 7) (h2 : 0 ≤ y2 ∧ y2 < 4) : schemaTypesRun x0 x1 x2 x3 (1) y1 y2 = some (schemaTypesOwed x0 x1 x2 false) := by
  refine of_map (schemaTypes_g1 x0 x1 x2) (a := (y1, y2, x3)) ?_
  simp only [List.mem_flatMap, List.mem_singleton]
  exact ⟨_, ints_mem 7 y1 h1.1 h1.2, ⟨_, ints_mem 4 y2 h2.1 h2.2, ⟨x3, by cases x3 <;> simp, rfl⟩⟩⟩
end Go.Proofs.Ytaokfpjjaejjgaa.Va
