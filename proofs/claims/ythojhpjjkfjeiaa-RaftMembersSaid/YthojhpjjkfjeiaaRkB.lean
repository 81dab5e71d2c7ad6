/- known's closed run, in pieces (printed by gen_known.py). Conditions: none. -/
import Derived.Test.YthojhpjjkfjeiaaRkA
set_option maxRecDepth 100000
set_option maxHeartbeats 4000000
set_option linter.all false
namespace Go.Proofs.Ythojhpjjkfjeiaa.Va
open Go.Proofs
def st_quiet9 : BlkL := [(1, [.int .i64 1, .sl 6 0 1 none 1, .sl 203 0 1 none 1, .nils, .sl 7427 0 1 none 5, .sl 205 0 1 none 1, .sl 207 0 1 none 1, .int .i64 0, .int .i64 1] ++ List.replicate 398 (.int .i64 0) ++ [.sl 209 0 1 none 1, .int .i64 0, .int .i64 0]),
  (6, [.ptr 2 0]),
  (2, [.int .i64 0, .int .i64 0, .sl 4 0 1 none 1, .nils, .sl 3508 0 1 none 4, .int .i64 0, .int .i64 1, .int .i64 0, .int .i64 1, .int .i64 2, .sl 3182 0 1 (some 1) 1, .int .i64 1, .int .i64 0, .int .i64 0, .bool false, .int .i64 0, .int .i64 1, .int .i64 0, .int .i64 0, .bool false, .int .i64 0, .int .i64 1, .int .i64 0, .int .i64 0, .bool false, .int .i64 0, .int .i64 1, .int .i64 0, .int .i64 0, .bool false, .int .i64 0, .int .i64 1, .int .i64 0, .int .i64 0, .bool false, .int .i64 0, .int .i64 1, .int .i64 0, .int .i64 0, .bool false, .int .i64 0, .int .i64 1, .int .i64 0, .int .i64 0, .bool false, .int .i64 0, .int .i64 0, .nils, .nils, .int .i64 10, .int .i64 0, .int .i64 0, .nils]),
  (4, [.int .i64 0]),
  (3508, [.int .i64 1, .int .i64 0, .nils, .nils]),
  (3182, [.int .i64 0]),
  (203, [.sl 5235 0 105 none 1]),
  (7427, [.int .i64 1, .int .i64 1, .int .i64 0, .nils, .nils]),
  (205, [.int .i64 1]),
  (207, [.int .i64 1]),
  (209, [.nils])]
theorem run_quiet9 (s : AState) (hs : HasL 3135 st_quiet8 s) : AC Try.prog 31 [.ptr 1 0] s fun v s' => v = .bool true ∧ HasL 7876 st_quiet9 s' :=
  piece (by kernel_rfl) s hs
def st_quiet10 : BlkL := [(1, [.int .i64 1, .sl 6 0 1 none 1, .sl 203 0 1 none 1, .nils, .sl 7427 0 1 none 5, .sl 205 0 1 none 1, .sl 207 0 1 none 1, .int .i64 0, .int .i64 1] ++ List.replicate 398 (.int .i64 0) ++ [.sl 209 0 1 none 1, .int .i64 0, .int .i64 0]),
  (6, [.ptr 2 0]),
  (2, [.int .i64 0, .int .i64 0, .sl 4 0 1 none 1, .nils, .sl 3508 0 1 none 4, .int .i64 0, .int .i64 1, .int .i64 0, .int .i64 1, .int .i64 2, .sl 3182 0 1 (some 1) 1, .int .i64 1, .int .i64 0, .int .i64 0, .bool false, .int .i64 0, .int .i64 1, .int .i64 0, .int .i64 0, .bool false, .int .i64 0, .int .i64 1, .int .i64 0, .int .i64 0, .bool false, .int .i64 0, .int .i64 1, .int .i64 0, .int .i64 0, .bool false, .int .i64 0, .int .i64 1, .int .i64 0, .int .i64 0, .bool false, .int .i64 0, .int .i64 1, .int .i64 0, .int .i64 0, .bool false, .int .i64 0, .int .i64 1, .int .i64 0, .int .i64 0, .bool false, .int .i64 0, .int .i64 0, .nils, .nils, .int .i64 10, .int .i64 0, .int .i64 1, .nils]),
  (4, [.int .i64 0]),
  (3508, [.int .i64 1, .int .i64 0, .nils, .nils]),
  (3182, [.int .i64 0]),
  (203, [.sl 8137 0 105 none 1]),
  (7427, [.int .i64 1, .int .i64 1, .int .i64 0, .nils, .nils]),
  (205, [.int .i64 1]),
  (207, [.int .i64 1]),
  (209, [.nils])]
theorem run_quiet10 (s : AState) (hs : HasL 7876 st_quiet9 s) : AC Try.prog 31 [.ptr 1 0] s fun v s' => v = .bool true ∧ HasL 8365 st_quiet10 s' :=
  piece (by kernel_rfl) s hs
def st_quiet11 : BlkL := [(1, [.int .i64 1, .sl 6 0 1 none 1, .sl 203 0 1 none 1, .nils, .sl 7427 0 1 none 5, .sl 205 0 1 none 1, .sl 207 0 1 none 1, .int .i64 0, .int .i64 1] ++ List.replicate 398 (.int .i64 0) ++ [.sl 209 0 1 none 1, .int .i64 0, .int .i64 0]),
  (6, [.ptr 2 0]),
  (2, [.int .i64 0, .int .i64 0, .sl 4 0 1 none 1, .nils, .sl 3508 0 1 none 4, .int .i64 0, .int .i64 1, .int .i64 0, .int .i64 1, .int .i64 2, .sl 3182 0 1 (some 1) 1, .int .i64 1, .int .i64 0, .int .i64 0, .bool false, .int .i64 0, .int .i64 1, .int .i64 0, .int .i64 0, .bool false, .int .i64 0, .int .i64 1, .int .i64 0, .int .i64 0, .bool false, .int .i64 0, .int .i64 1, .int .i64 0, .int .i64 0, .bool false, .int .i64 0, .int .i64 1, .int .i64 0, .int .i64 0, .bool false, .int .i64 0, .int .i64 1, .int .i64 0, .int .i64 0, .bool false, .int .i64 0, .int .i64 1, .int .i64 0, .int .i64 0, .bool false, .int .i64 0, .int .i64 0, .nils, .nils, .int .i64 10, .int .i64 0, .int .i64 2, .nils]),
  (4, [.int .i64 0]),
  (3508, [.int .i64 1, .int .i64 0, .nils, .nils]),
  (3182, [.int .i64 0]),
  (203, [.sl 8626 0 105 none 1]),
  (7427, [.int .i64 1, .int .i64 1, .int .i64 0, .nils, .nils]),
  (205, [.int .i64 1]),
  (207, [.int .i64 1]),
  (209, [.nils])]
theorem run_quiet11 (s : AState) (hs : HasL 8365 st_quiet10 s) : AC Try.prog 31 [.ptr 1 0] s fun v s' => v = .bool true ∧ HasL 8854 st_quiet11 s' :=
  piece (by kernel_rfl) s hs
end Go.Proofs.Ythojhpjjkfjeiaa.Va
