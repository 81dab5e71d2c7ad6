/- The law 'TypesFirst' returns true at each input: a closed run for each choice of its numbers. Conditions: none. -/
import Derived.Test.YtcdbpmmomgehfaaTypesFirstRun
import Derived.KernelRfl
set_option maxRecDepth 100000
set_option maxHeartbeats 4000000
set_option linter.all false
namespace Go.Proofs.Ytcdbpmmomgehfaa.Va
open Go.Proofs
theorem typesFirst_g6 (x0 : Int) (x1 : Int) (x2 : Int) : (((ints 4).flatMap fun c0 => ((ints 4).flatMap fun c1 => [(c0, c1)])) : List (Int × Int)).map (fun t => typesFirstRun (x0) (x1) (x2) (t.1) (t.2) (6)) = List.replicate 16 (some (typesFirstOwed x0 x1 x2)) := by kernel_rfl
theorem typesFirst_m6 (x0 : Int) (x1 : Int) (x2 : Int) (y0 : Int) (y1 : Int) (h0 : 0 ≤ y0 ∧ y0 < 4) (h1 : 0 ≤ y1 ∧ y1 < 4) : typesFirstRun x0 x1 x2 y0 y1 (6) = some (typesFirstOwed x0 x1 x2) := by
  refine of_map (typesFirst_g6 x0 x1 x2) (a := (y0, y1)) ?_
  simp only [List.mem_flatMap, List.mem_singleton]
  exact ⟨_, ints_mem 4 y0 h0.1 h0.2, ⟨_, ints_mem 4 y1 h1.1 h1.2, rfl⟩⟩
theorem typesFirst_g7 (x0 : Int) (x1 : Int) (x2 : Int) : (((ints 4).flatMap fun c0 => ((ints 4).flatMap fun c1 => [(c0, c1)])) : List (Int × Int)).map (fun t => typesFirstRun (x0) (x1) (x2) (t.1) (t.2) (7)) = List.replicate 16 (some (typesFirstOwed x0 x1 x2)) := by kernel_rfl
theorem typesFirst_m7 (x0 : Int) (x1 : Int) (x2 : Int) (y0 : Int) (y1 : Int) (h0 : 0 ≤ y0 ∧ y0 < 4) (h1 : 0 ≤ y1 ∧ y1 < 4) : typesFirstRun x0 x1 x2 y0 y1 (7) = some (typesFirstOwed x0 x1 x2) := by
  refine of_map (typesFirst_g7 x0 x1 x2) (a := (y0, y1)) ?_
  simp only [List.mem_flatMap, List.mem_singleton]
  exact ⟨_, ints_mem 4 y0 h0.1 h0.2, ⟨_, ints_mem 4 y1 h1.1 h1.2, rfl⟩⟩
theorem typesFirst_g8 (x0 : Int) (x1 : Int) (x2 : Int) : (((ints 4).flatMap fun c0 => ((ints 4).flatMap fun c1 => [(c0, c1)])) : List (Int × Int)).map (fun t => typesFirstRun (x0) (x1) (x2) (t.1) (t.2) (8)) = List.replicate 16 (some (typesFirstOwed x0 x1 x2)) := by kernel_rfl
theorem typesFirst_m8 (x0 : Int) (x1 : Int) (x2 : Int) (y0 : Int) (y1 : Int) (h0 : 0 ≤ y0 ∧ y0 < 4) (h1 : 0 ≤ y1 ∧ y1 < 4) : typesFirstRun x0 x1 x2 y0 y1 (8) = some (typesFirstOwed x0 x1 x2) := by
  refine of_map (typesFirst_g8 x0 x1 x2) (a := (y0, y1)) ?_
  simp only [List.mem_flatMap, List.mem_singleton]
  exact ⟨_, ints_mem 4 y0 h0.1 h0.2, ⟨_, ints_mem 4 y1 h1.1 h1.2, rfl⟩⟩
theorem typesFirst_g9 (x0 : Int) (x1 : Int) (x2 : Int) : (((ints 4).flatMap fun c0 => ((ints 4).flatMap fun c1 => [(c0, c1)])) : List (Int × Int)).map (fun t => typesFirstRun (x0) (x1) (x2) (t.1) (t.2) (9)) = List.replicate 16 (some (typesFirstOwed x0 x1 x2)) := by kernel_rfl
theorem typesFirst_m9 (x0 : Int) (x1 : Int) (x2 : Int) (y0 : Int) (y1 : Int) (h0 : 0 ≤ y0 ∧ y0 < 4) (h1 : 0 ≤ y1 ∧ y1 < 4) : typesFirstRun x0 x1 x2 y0 y1 (9) = some (typesFirstOwed x0 x1 x2) := by
  refine of_map (typesFirst_g9 x0 x1 x2) (a := (y0, y1)) ?_
  simp only [List.mem_flatMap, List.mem_singleton]
  exact ⟨_, ints_mem 4 y0 h0.1 h0.2, ⟨_, ints_mem 4 y1 h1.1 h1.2, rfl⟩⟩
theorem typesFirst_g10 (x0 : Int) (x1 : Int) (x2 : Int) : (((ints 4).flatMap fun c0 => ((ints 4).flatMap fun c1 => [(c0, c1)])) : List (Int × Int)).map (fun t => typesFirstRun (x0) (x1) (x2) (t.1) (t.2) (10)) = List.replicate 16 (some (typesFirstOwed x0 x1 x2)) := by kernel_rfl
theorem typesFirst_m10 (x0 : Int) (x1 : Int) (x2 : Int) (y0 : Int) (y1 : Int) (h0 : 0 ≤ y0 ∧ y0 < 4) (h1 : 0 ≤ y1 ∧ y1 < 4) : typesFirstRun x0 x1 x2 y0 y1 (10) = some (typesFirstOwed x0 x1 x2) := by
  refine of_map (typesFirst_g10 x0 x1 x2) (a := (y0, y1)) ?_
  simp only [List.mem_flatMap, List.mem_singleton]
  exact ⟨_, ints_mem 4 y0 h0.1 h0.2, ⟨_, ints_mem 4 y1 h1.1 h1.2, rfl⟩⟩
theorem typesFirst_g11 (x0 : Int) (x1 : Int) (x2 : Int) : (((ints 4).flatMap fun c0 => ((ints 4).flatMap fun c1 => [(c0, c1)])) : List (Int × Int)).map (fun t => typesFirstRun (x0) (x1) (x2) (t.1) (t.2) (11)) = List.replicate 16 (some (typesFirstOwed x0 x1 x2)) := by kernel_rfl
theorem typesFirst_m11 (x0 : Int) (x1 : Int) (x2 : Int) (y0 : Int) (y1 : Int) (h0 : 0 ≤ y0 ∧ y0 < 4) (h1 : 0 ≤ y1 ∧ y1 < 4) : typesFirstRun x0 x1 x2 y0 y1 (11) = some (typesFirstOwed x0 x1 x2) := by
  refine of_map (typesFirst_g11 x0 x1 x2) (a := (y0, y1)) ?_
  simp only [List.mem_flatMap, List.mem_singleton]
  exact ⟨_, ints_mem 4 y0 h0.1 h0.2, ⟨_, ints_mem 4 y1 h1.1 h1.2, rfl⟩⟩
end Go.Proofs.Ytcdbpmmomgehfaa.Va
