/- The law 'TypesFirst' returns true at each input: a closed run for each choice of its numbers. Conditions: none. -/
import Derived.Test.YtcdbpmmomgehfaaTypesFirstRun
import Derived.KernelRfl
set_option maxRecDepth 100000
set_option maxHeartbeats 4000000
set_option linter.all false
namespace Go.Proofs.Ytcdbpmmomgehfaa.Va
open Go.Proofs
theorem typesFirst_g0 (x0 : Int) (x1 : Int) (x2 : Int) : (((ints 4).flatMap fun c0 => ((ints 4).flatMap fun c1 => [(c0, c1)])) : List (Int × Int)).map (fun t => typesFirstRun (x0) (x1) (x2) (t.1) (t.2) (0)) = List.replicate 16 (some (typesFirstOwed x0 x1 x2)) := by kernel_rfl
theorem typesFirst_m0 (x0 : Int) (x1 : Int) (x2 : Int) (y0 : Int) (y1 : Int) (h0 : 0 ≤ y0 ∧ y0 < 4) (h1 : 0 ≤ y1 ∧ y1 < 4) : typesFirstRun x0 x1 x2 y0 y1 (0) = some (typesFirstOwed x0 x1 x2) := by
  refine of_map (typesFirst_g0 x0 x1 x2) (a := (y0, y1)) ?_
  simp only [List.mem_flatMap, List.mem_singleton]
  exact ⟨_, ints_mem 4 y0 h0.1 h0.2, ⟨_, ints_mem 4 y1 h1.1 h1.2, rfl⟩⟩
theorem typesFirst_g1 (x0 : Int) (x1 : Int) (x2 : Int) : (((ints 4).flatMap fun c0 => ((ints 4).flatMap fun c1 => [(c0, c1)])) : List (Int × Int)).map (fun t => typesFirstRun (x0) (x1) (x2) (t.1) (t.2) (1)) = List.replicate 16 (some (typesFirstOwed x0 x1 x2)) := by kernel_rfl
theorem typesFirst_m1 (x0 : Int) (x1 : Int) (x2 : Int) (y0 : Int) (y1 : Int) (h0 : 0 ≤ y0 ∧ y0 < 4) (h1 : 0 ≤ y1 ∧ y1 < 4) : typesFirstRun x0 x1 x2 y0 y1 (1) = some (typesFirstOwed x0 x1 x2) := by
  refine of_map (typesFirst_g1 x0 x1 x2) (a := (y0, y1)) ?_
  simp only [List.mem_flatMap, List.mem_singleton]
  exact ⟨_, ints_mem 4 y0 h0.1 h0.2, ⟨_, ints_mem 4 y1 h1.1 h1.2, rfl⟩⟩
theorem typesFirst_g2 (x0 : Int) (x1 : Int) (x2 : Int) : (((ints 4).flatMap fun c0 => ((ints 4).flatMap fun c1 => [(c0, c1)])) : List (Int × Int)).map (fun t => typesFirstRun (x0) (x1) (x2) (t.1) (t.2) (2)) = List.replicate 16 (some (typesFirstOwed x0 x1 x2)) := by kernel_rfl
theorem typesFirst_m2 (x0 : Int) (x1 : Int) (x2 : Int) (y0 : Int) (y1 : Int) (h0 : 0 ≤ y0 ∧ y0 < 4) (h1 : 0 ≤ y1 ∧ y1 < 4) : typesFirstRun x0 x1 x2 y0 y1 (2) = some (typesFirstOwed x0 x1 x2) := by
  refine of_map (typesFirst_g2 x0 x1 x2) (a := (y0, y1)) ?_
  simp only [List.mem_flatMap, List.mem_singleton]
  exact ⟨_, ints_mem 4 y0 h0.1 h0.2, ⟨_, ints_mem 4 y1 h1.1 h1.2, rfl⟩⟩
theorem typesFirst_g3 (x0 : Int) (x1 : Int) (x2 : Int) : (((ints 4).flatMap fun c0 => ((ints 4).flatMap fun c1 => [(c0, c1)])) : List (Int × Int)).map (fun t => typesFirstRun (x0) (x1) (x2) (t.1) (t.2) (3)) = List.replicate 16 (some (typesFirstOwed x0 x1 x2)) := by kernel_rfl
theorem typesFirst_m3 (x0 : Int) (x1 : Int) (x2 : Int) (y0 : Int) (y1 : Int) (h0 : 0 ≤ y0 ∧ y0 < 4) (h1 : 0 ≤ y1 ∧ y1 < 4) : typesFirstRun x0 x1 x2 y0 y1 (3) = some (typesFirstOwed x0 x1 x2) := by
  refine of_map (typesFirst_g3 x0 x1 x2) (a := (y0, y1)) ?_
  simp only [List.mem_flatMap, List.mem_singleton]
  exact ⟨_, ints_mem 4 y0 h0.1 h0.2, ⟨_, ints_mem 4 y1 h1.1 h1.2, rfl⟩⟩
theorem typesFirst_g4 (x0 : Int) (x1 : Int) (x2 : Int) : (((ints 4).flatMap fun c0 => ((ints 4).flatMap fun c1 => [(c0, c1)])) : List (Int × Int)).map (fun t => typesFirstRun (x0) (x1) (x2) (t.1) (t.2) (4)) = List.replicate 16 (some (typesFirstOwed x0 x1 x2)) := by kernel_rfl
theorem typesFirst_m4 (x0 : Int) (x1 : Int) (x2 : Int) (y0 : Int) (y1 : Int) (h0 : 0 ≤ y0 ∧ y0 < 4) (h1 : 0 ≤ y1 ∧ y1 < 4) : typesFirstRun x0 x1 x2 y0 y1 (4) = some (typesFirstOwed x0 x1 x2) := by
  refine of_map (typesFirst_g4 x0 x1 x2) (a := (y0, y1)) ?_
  simp only [List.mem_flatMap, List.mem_singleton]
  exact ⟨_, ints_mem 4 y0 h0.1 h0.2, ⟨_, ints_mem 4 y1 h1.1 h1.2, rfl⟩⟩
theorem typesFirst_g5 (x0 : Int) (x1 : Int) (x2 : Int) : (((ints 4).flatMap fun c0 => ((ints 4).flatMap fun c1 => [(c0, c1)])) : List (Int × Int)).map (fun t => typesFirstRun (x0) (x1) (x2) (t.1) (t.2) (5)) = List.replicate 16 (some (typesFirstOwed x0 x1 x2)) := by kernel_rfl
theorem typesFirst_m5 (x0 : Int) (x1 : Int) (x2 : Int) (y0 : Int) (y1 : Int) (h0 : 0 ≤ y0 ∧ y0 < 4) (h1 : 0 ≤ y1 ∧ y1 < 4) : typesFirstRun x0 x1 x2 y0 y1 (5) = some (typesFirstOwed x0 x1 x2) := by
  refine of_map (typesFirst_g5 x0 x1 x2) (a := (y0, y1)) ?_
  simp only [List.mem_flatMap, List.mem_singleton]
  exact ⟨_, ints_mem 4 y0 h0.1 h0.2, ⟨_, ints_mem 4 y1 h1.1 h1.2, rfl⟩⟩
end Go.Proofs.Ytcdbpmmomgehfaa.Va
