/- The law 'PackBounds' returns true at each input: a closed run for each choice of its numbers. Conditions: none. -/
import Derived.Test.YthobpdfchhihnaaPackBoundsRun
import Derived.KernelRfl
set_option maxRecDepth 100000
set_option maxHeartbeats 4000000
set_option linter.all false
namespace Go.Proofs.Ythobpdfchhihnaa.Va
open Go.Proofs
theorem packBounds_g0 (x0 : Int) (x1 : Int) : (((ints 4).flatMap fun c0 => [c0]) : List (Int)).map (fun t => packBoundsRun (x0) (x1) (t) (0)) = List.replicate 4 (some (packBoundsOwed x0 x1)) := by kernel_rfl
theorem packBounds_m0 (x0 : Int) (x1 : Int) (y0 : Int) (h0 : 0 ≤ y0 ∧ y0 < 4) : packBoundsRun x0 x1 y0 (0) = some (packBoundsOwed x0 x1) := by
  refine of_map (packBounds_g0 x0 x1) (a := y0) ?_
  simp only [List.mem_flatMap, List.mem_singleton]
  exact ⟨_, ints_mem 4 y0 h0.1 h0.2, rfl⟩
theorem packBounds_g1 (x0 : Int) (x1 : Int) : (((ints 4).flatMap fun c0 => [c0]) : List (Int)).map (fun t => packBoundsRun (x0) (x1) (t) (1)) = List.replicate 4 (some (packBoundsOwed x0 x1)) := by kernel_rfl
theorem packBounds_m1 (x0 : Int) (x1 : Int) (y0 : Int) (h0 : 0 ≤ y0 ∧ y0 < 4) : packBoundsRun x0 x1 y0 (1) = some (packBoundsOwed x0 x1) := by
  refine of_map (packBounds_g1 x0 x1) (a := y0) ?_
  simp only [List.mem_flatMap, List.mem_singleton]
  exact ⟨_, ints_mem 4 y0 h0.1 h0.2, rfl⟩
theorem packBounds_g2 (x0 : Int) (x1 : Int) : (((ints 4).flatMap fun c0 => [c0]) : List (Int)).map (fun t => packBoundsRun (x0) (x1) (t) (2)) = List.replicate 4 (some (packBoundsOwed x0 x1)) := by kernel_rfl
theorem packBounds_m2 (x0 : Int) (x1 : Int) (y0 : Int) (h0 : 0 ≤ y0 ∧ y0 < 4) : packBoundsRun x0 x1 y0 (2) = some (packBoundsOwed x0 x1) := by
  refine of_map (packBounds_g2 x0 x1) (a := y0) ?_
  simp only [List.mem_flatMap, List.mem_singleton]
  exact ⟨_, ints_mem 4 y0 h0.1 h0.2, rfl⟩
theorem packBounds_g3 (x0 : Int) (x1 : Int) : (((ints 4).flatMap fun c0 => [c0]) : List (Int)).map (fun t => packBoundsRun (x0) (x1) (t) (4)) = List.replicate 4 (some (packBoundsOwed x0 x1)) := by kernel_rfl
theorem packBounds_m3 (x0 : Int) (x1 : Int) (y0 : Int) (h0 : 0 ≤ y0 ∧ y0 < 4) : packBoundsRun x0 x1 y0 (4) = some (packBoundsOwed x0 x1) := by
  refine of_map (packBounds_g3 x0 x1) (a := y0) ?_
  simp only [List.mem_flatMap, List.mem_singleton]
  exact ⟨_, ints_mem 4 y0 h0.1 h0.2, rfl⟩
end Go.Proofs.Ythobpdfchhihnaa.Va
