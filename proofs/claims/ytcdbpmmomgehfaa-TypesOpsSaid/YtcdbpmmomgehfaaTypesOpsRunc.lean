/- The law 'TypesOps' returns true at each input: a closed run for each choice of its numbers. Conditions: none. -/
import Derived.Test.YtcdbpmmomgehfaaTypesOpsRun
import Derived.KernelRfl
set_option maxRecDepth 100000
set_option maxHeartbeats 4000000
set_option linter.all false
namespace Go.Proofs.Ytcdbpmmomgehfaa.Va
open Go.Proofs
theorem typesOps_g12 (x0 : Int) (x1 : Int) (x2 : Int) (x3 : Int) (y2 : Int) : (((ints 6).flatMap fun c0 => ((ints 6).flatMap fun c1 => [(c0, c1)])) : List (Int × Int)).map (fun t => typesOpsRun (x0) (x1) (x2) (x3) (t.1) (t.2) (y2) (12)) = List.replicate 36 (some (typesOpsOwed x0 x1 x2 x3)) := by kernel_rfl
theorem typesOps_m12 (x0 : Int) (x1 : Int) (x2 : Int) (x3 : Int) (y0 : Int) (y1 : Int) (y2 : Int) (h0 : 0 ≤ y0 ∧ y0 < 6) (h1 : 0 ≤ y1 ∧ y1 < 6) : typesOpsRun x0 x1 x2 x3 y0 y1 y2 (12) = some (typesOpsOwed x0 x1 x2 x3) := by
  refine of_map (typesOps_g12 x0 x1 x2 x3 y2) (a := (y0, y1)) ?_
  simp only [List.mem_flatMap, List.mem_singleton]
  exact ⟨_, ints_mem 6 y0 h0.1 h0.2, ⟨_, ints_mem 6 y1 h1.1 h1.2, rfl⟩⟩
theorem typesOps_g13 (x0 : Int) (x1 : Int) (x2 : Int) (x3 : Int) (y2 : Int) : (((ints 6).flatMap fun c0 => ((ints 6).flatMap fun c1 => [(c0, c1)])) : List (Int × Int)).map (fun t => typesOpsRun (x0) (x1) (x2) (x3) (t.1) (t.2) (y2) (13)) = List.replicate 36 (some (typesOpsOwed x0 x1 x2 x3)) := by kernel_rfl
theorem typesOps_m13 (x0 : Int) (x1 : Int) (x2 : Int) (x3 : Int) (y0 : Int) (y1 : Int) (y2 : Int) (h0 : 0 ≤ y0 ∧ y0 < 6) (h1 : 0 ≤ y1 ∧ y1 < 6) : typesOpsRun x0 x1 x2 x3 y0 y1 y2 (13) = some (typesOpsOwed x0 x1 x2 x3) := by
  refine of_map (typesOps_g13 x0 x1 x2 x3 y2) (a := (y0, y1)) ?_
  simp only [List.mem_flatMap, List.mem_singleton]
  exact ⟨_, ints_mem 6 y0 h0.1 h0.2, ⟨_, ints_mem 6 y1 h1.1 h1.2, rfl⟩⟩
theorem typesOps_g14 (x0 : Int) (x1 : Int) (x2 : Int) (x3 : Int) (y2 : Int) : (((ints 6).flatMap fun c0 => ((ints 6).flatMap fun c1 => [(c0, c1)])) : List (Int × Int)).map (fun t => typesOpsRun (x0) (x1) (x2) (x3) (t.1) (t.2) (y2) (14)) = List.replicate 36 (some (typesOpsOwed x0 x1 x2 x3)) := by kernel_rfl
theorem typesOps_m14 (x0 : Int) (x1 : Int) (x2 : Int) (x3 : Int) (y0 : Int) (y1 : Int) (y2 : Int) (h0 : 0 ≤ y0 ∧ y0 < 6) (h1 : 0 ≤ y1 ∧ y1 < 6) : typesOpsRun x0 x1 x2 x3 y0 y1 y2 (14) = some (typesOpsOwed x0 x1 x2 x3) := by
  refine of_map (typesOps_g14 x0 x1 x2 x3 y2) (a := (y0, y1)) ?_
  simp only [List.mem_flatMap, List.mem_singleton]
  exact ⟨_, ints_mem 6 y0 h0.1 h0.2, ⟨_, ints_mem 6 y1 h1.1 h1.2, rfl⟩⟩
theorem typesOps_g15 (x0 : Int) (x1 : Int) (x2 : Int) (x3 : Int) (y2 : Int) : (((ints 6).flatMap fun c0 => ((ints 6).flatMap fun c1 => [(c0, c1)])) : List (Int × Int)).map (fun t => typesOpsRun (x0) (x1) (x2) (x3) (t.1) (t.2) (y2) (15)) = List.replicate 36 (some (typesOpsOwed x0 x1 x2 x3)) := by kernel_rfl
theorem typesOps_m15 (x0 : Int) (x1 : Int) (x2 : Int) (x3 : Int) (y0 : Int) (y1 : Int) (y2 : Int) (h0 : 0 ≤ y0 ∧ y0 < 6) (h1 : 0 ≤ y1 ∧ y1 < 6) : typesOpsRun x0 x1 x2 x3 y0 y1 y2 (15) = some (typesOpsOwed x0 x1 x2 x3) := by
  refine of_map (typesOps_g15 x0 x1 x2 x3 y2) (a := (y0, y1)) ?_
  simp only [List.mem_flatMap, List.mem_singleton]
  exact ⟨_, ints_mem 6 y0 h0.1 h0.2, ⟨_, ints_mem 6 y1 h1.1 h1.2, rfl⟩⟩
theorem typesOps_g16 (x0 : Int) (x1 : Int) (x2 : Int) (x3 : Int) : (((ints 6).flatMap fun c1 => ((ints 6).flatMap fun c2 => [(c1, c2)])) : List (Int × Int)).map (fun t => typesOpsRun (x0) (x1) (x2) (x3) (0) (t.1) (t.2) (16)) = List.replicate 36 (some (typesOpsOwed x0 x1 x2 x3)) := by kernel_rfl
theorem typesOps_m16 (x0 : Int) (x1 : Int) (x2 : Int) (x3 : Int) (y1 : Int) (y2 : Int) (h1 : 0 ≤ y1 ∧ y1 < 6) (h2 : 0 ≤ y2 ∧ y2 < 6) : typesOpsRun x0 x1 x2 x3 (0) y1 y2 (16) = some (typesOpsOwed x0 x1 x2 x3) := by
  refine of_map (typesOps_g16 x0 x1 x2 x3) (a := (y1, y2)) ?_
  simp only [List.mem_flatMap, List.mem_singleton]
  exact ⟨_, ints_mem 6 y1 h1.1 h1.2, ⟨_, ints_mem 6 y2 h2.1 h2.2, rfl⟩⟩
theorem typesOps_g17 (x0 : Int) (x1 : Int) (x2 : Int) (x3 : Int) : (((ints 6).flatMap fun c1 => ((ints 6).flatMap fun c2 => [(c1, c2)])) : List (Int × Int)).map (fun t => typesOpsRun (x0) (x1) (x2) (x3) (1) (t.1) (t.2) (16)) = List.replicate 36 (some (typesOpsOwed x0 x1 x2 x3)) := by kernel_rfl
theorem typesOps_m17 (x0 : Int) (x1 : Int) (x2 : Int) (x3 : Int) (y1 : Int) (y2 : Int) (h1 : 0 ≤ y1 ∧ y1 < 6) (h2 : 0 ≤ y2 ∧ y2 < 6) : typesOpsRun x0 x1 x2 x3 (1) y1 y2 (16) = some (typesOpsOwed x0 x1 x2 x3) := by
  refine of_map (typesOps_g17 x0 x1 x2 x3) (a := (y1, y2)) ?_
  simp only [List.mem_flatMap, List.mem_singleton]
  exact ⟨_, ints_mem 6 y1 h1.1 h1.2, ⟨_, ints_mem 6 y2 h2.1 h2.2, rfl⟩⟩
end Go.Proofs.Ytcdbpmmomgehfaa.Va
