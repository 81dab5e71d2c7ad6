/- known's closed run, in pieces (printed by gen_known.py). Conditions: none. -/
import Derived.Test.YthojhpjjkfjeiaaRkB
set_option maxRecDepth 100000
set_option maxHeartbeats 4000000
set_option linter.all false
namespace Go.Proofs.Ythojhpjjkfjeiaa.Va
open Go.Proofs
def st_quiet12 : BlkL := [(1, [.int .i64 1, .sl 6 0 1 none 1, .sl 203 0 1 none 1, .nils, .sl 7427 0 1 none 5, .sl 205 0 1 none 1, .sl 207 0 1 none 1, .int .i64 0, .int .i64 1] ++ List.replicate 398 (.int .i64 0) ++ [.sl 209 0 1 none 1, .int .i64 0, .int .i64 0]),
  (6, [.ptr 2 0]),
  (2, [.int .i64 0, .int .i64 0, .sl 4 0 1 none 1, .nils, .sl 3508 0 1 none 4, .int .i64 0, .int .i64 1, .int .i64 0, .int .i64 1, .int .i64 2, .sl 3182 0 1 (some 1) 1, .int .i64 1, .int .i64 0, .int .i64 0, .bool false, .int .i64 0, .int .i64 1, .int .i64 0, .int .i64 0, .bool false, .int .i64 0, .int .i64 1, .int .i64 0, .int .i64 0, .bool false, .int .i64 0, .int .i64 1, .int .i64 0, .int .i64 0, .bool false, .int .i64 0, .int .i64 1, .int .i64 0, .int .i64 0, .bool false, .int .i64 0, .int .i64 1, .int .i64 0, .int .i64 0, .bool false, .int .i64 0, .int .i64 1, .int .i64 0, .int .i64 0, .bool false, .int .i64 0, .int .i64 0, .nils, .nils, .int .i64 10, .int .i64 0, .int .i64 3, .nils]),
  (4, [.int .i64 0]),
  (3508, [.int .i64 1, .int .i64 0, .nils, .nils]),
  (3182, [.int .i64 0]),
  (203, [.sl 9739 0 105 none 1]),
  (7427, [.int .i64 1, .int .i64 1, .int .i64 0, .nils, .nils]),
  (205, [.int .i64 1]),
  (207, [.int .i64 1]),
  (209, [.nils])]
theorem run_quiet12 (s : AState) (hs : HasL 8854 st_quiet11 s) : AC Try.prog 31 [.ptr 1 0] s fun v s' => v = .bool true ∧ HasL 11167 st_quiet12 s' :=
  piece (by kernel_rfl) s hs
def st_quiet13 : BlkL := [(1, [.int .i64 1, .sl 6 0 1 none 1, .sl 203 0 1 none 1, .nils, .sl 7427 0 1 none 5, .sl 205 0 1 none 1, .sl 207 0 1 none 1, .int .i64 0, .int .i64 1] ++ List.replicate 398 (.int .i64 0) ++ [.sl 209 0 1 none 1, .int .i64 0, .int .i64 0]),
  (6, [.ptr 2 0]),
  (2, [.int .i64 0, .int .i64 0, .sl 4 0 1 none 1, .nils, .sl 3508 0 1 none 4, .int .i64 0, .int .i64 1, .int .i64 0, .int .i64 1, .int .i64 2, .sl 3182 0 1 (some 1) 1, .int .i64 1, .int .i64 0, .int .i64 0, .bool false, .int .i64 0, .int .i64 1, .int .i64 0, .int .i64 0, .bool false, .int .i64 0, .int .i64 1, .int .i64 0, .int .i64 0, .bool false, .int .i64 0, .int .i64 1, .int .i64 0, .int .i64 0, .bool false, .int .i64 0, .int .i64 1, .int .i64 0, .int .i64 0, .bool false, .int .i64 0, .int .i64 1, .int .i64 0, .int .i64 0, .bool false, .int .i64 0, .int .i64 1, .int .i64 0, .int .i64 0, .bool false, .int .i64 0, .int .i64 0, .nils, .nils, .int .i64 10, .int .i64 0, .int .i64 4, .nils]),
  (4, [.int .i64 0]),
  (3508, [.int .i64 1, .int .i64 0, .nils, .nils]),
  (3182, [.int .i64 0]),
  (203, [.sl 11428 0 105 none 1]),
  (7427, [.int .i64 1, .int .i64 1, .int .i64 0, .nils, .nils]),
  (205, [.int .i64 1]),
  (207, [.int .i64 1]),
  (209, [.nils])]
theorem run_quiet13 (s : AState) (hs : HasL 11167 st_quiet12 s) : AC Try.prog 31 [.ptr 1 0] s fun v s' => v = .bool true ∧ HasL 11656 st_quiet13 s' :=
  piece (by kernel_rfl) s hs
def st_quiet14 : BlkL := [(1, [.int .i64 1, .sl 6 0 1 none 1, .sl 203 0 1 none 1, .nils, .sl 7427 0 1 none 5, .sl 205 0 1 none 1, .sl 207 0 1 none 1, .int .i64 0, .int .i64 1] ++ List.replicate 398 (.int .i64 0) ++ [.sl 209 0 1 none 1, .int .i64 0, .int .i64 0]),
  (6, [.ptr 2 0]),
  (2, [.int .i64 0, .int .i64 0, .sl 4 0 1 none 1, .nils, .sl 3508 0 1 none 4, .int .i64 0, .int .i64 1, .int .i64 0, .int .i64 1, .int .i64 2, .sl 3182 0 1 (some 1) 1, .int .i64 1, .int .i64 0, .int .i64 0, .bool false, .int .i64 0, .int .i64 1, .int .i64 0, .int .i64 0, .bool false, .int .i64 0, .int .i64 1, .int .i64 0, .int .i64 0, .bool false, .int .i64 0, .int .i64 1, .int .i64 0, .int .i64 0, .bool false, .int .i64 0, .int .i64 1, .int .i64 0, .int .i64 0, .bool false, .int .i64 0, .int .i64 1, .int .i64 0, .int .i64 0, .bool false, .int .i64 0, .int .i64 1, .int .i64 0, .int .i64 0, .bool false, .int .i64 0, .int .i64 0, .nils, .nils, .int .i64 10, .int .i64 0, .int .i64 5, .nils]),
  (4, [.int .i64 0]),
  (3508, [.int .i64 1, .int .i64 0, .nils, .nils]),
  (3182, [.int .i64 0]),
  (203, [.sl 11917 0 105 none 1]),
  (7427, [.int .i64 1, .int .i64 1, .int .i64 0, .nils, .nils]),
  (205, [.int .i64 1]),
  (207, [.int .i64 1]),
  (209, [.nils])]
theorem run_quiet14 (s : AState) (hs : HasL 11656 st_quiet13 s) : AC Try.prog 31 [.ptr 1 0] s fun v s' => v = .bool true ∧ HasL 12145 st_quiet14 s' :=
  piece (by kernel_rfl) s hs
def st_quiet15 : BlkL := [(1, [.int .i64 1, .sl 6 0 1 none 1, .sl 203 0 1 none 1, .nils, .sl 7427 0 1 none 5, .sl 205 0 1 none 1, .sl 207 0 1 none 1, .int .i64 0, .int .i64 1] ++ List.replicate 398 (.int .i64 0) ++ [.sl 209 0 1 none 1, .int .i64 0, .int .i64 0]),
  (6, [.ptr 2 0]),
  (2, [.int .i64 0, .int .i64 0, .sl 4 0 1 none 1, .nils, .sl 3508 0 1 none 4, .int .i64 0, .int .i64 1, .int .i64 0, .int .i64 1, .int .i64 2, .sl 3182 0 1 (some 1) 1, .int .i64 1, .int .i64 0, .int .i64 0, .bool false, .int .i64 0, .int .i64 1, .int .i64 0, .int .i64 0, .bool false, .int .i64 0, .int .i64 1, .int .i64 0, .int .i64 0, .bool false, .int .i64 0, .int .i64 1, .int .i64 0, .int .i64 0, .bool false, .int .i64 0, .int .i64 1, .int .i64 0, .int .i64 0, .bool false, .int .i64 0, .int .i64 1, .int .i64 0, .int .i64 0, .bool false, .int .i64 0, .int .i64 1, .int .i64 0, .int .i64 0, .bool false, .int .i64 0, .int .i64 0, .nils, .nils, .int .i64 10, .int .i64 0, .int .i64 6, .nils]),
  (4, [.int .i64 0]),
  (3508, [.int .i64 1, .int .i64 0, .nils, .nils]),
  (3182, [.int .i64 0]),
  (203, [.sl 13030 0 105 none 1]),
  (7427, [.int .i64 1, .int .i64 1, .int .i64 0, .nils, .nils]),
  (205, [.int .i64 1]),
  (207, [.int .i64 1]),
  (209, [.nils])]
theorem run_quiet15 (s : AState) (hs : HasL 12145 st_quiet14 s) : AC Try.prog 31 [.ptr 1 0] s fun v s' => v = .bool true ∧ HasL 14458 st_quiet15 s' :=
  piece (by kernel_rfl) s hs
end Go.Proofs.Ythojhpjjkfjeiaa.Va
