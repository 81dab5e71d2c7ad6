/- known's closed run, in pieces (printed by gen_known.py). Conditions: none. -/
import Derived.Test.YthojhpjjkfjeiaaRkC
set_option maxRecDepth 100000
set_option maxHeartbeats 4000000
set_option linter.all false
namespace Go.Proofs.Ythojhpjjkfjeiaa.Va
open Go.Proofs
def st_quiet16 : BlkL := [(1, [.int .i64 1, .sl 6 0 1 none 1, .sl 203 0 1 none 1, .nils, .sl 7427 0 1 none 5, .sl 205 0 1 none 1, .sl 207 0 1 none 1, .int .i64 0, .int .i64 1] ++ List.replicate 398 (.int .i64 0) ++ [.sl 209 0 1 none 1, .int .i64 0, .int .i64 0]),
  (6, [.ptr 2 0]),
  (2, [.int .i64 0, .int .i64 0, .sl 4 0 1 none 1, .nils, .sl 3508 0 1 none 4, .int .i64 0, .int .i64 1, .int .i64 0, .int .i64 1, .int .i64 2, .sl 3182 0 1 (some 1) 1, .int .i64 1, .int .i64 0, .int .i64 0, .bool false, .int .i64 0, .int .i64 1, .int .i64 0, .int .i64 0, .bool false, .int .i64 0, .int .i64 1, .int .i64 0, .int .i64 0, .bool false, .int .i64 0, .int .i64 1, .int .i64 0, .int .i64 0, .bool false, .int .i64 0, .int .i64 1, .int .i64 0, .int .i64 0, .bool false, .int .i64 0, .int .i64 1, .int .i64 0, .int .i64 0, .bool false, .int .i64 0, .int .i64 1, .int .i64 0, .int .i64 0, .bool false, .int .i64 0, .int .i64 0, .nils, .nils, .int .i64 10, .int .i64 0, .int .i64 7, .nils]),
  (4, [.int .i64 0]),
  (3508, [.int .i64 1, .int .i64 0, .nils, .nils]),
  (3182, [.int .i64 0]),
  (203, [.sl 14719 0 105 none 1]),
  (7427, [.int .i64 1, .int .i64 1, .int .i64 0, .nils, .nils]),
  (205, [.int .i64 1]),
  (207, [.int .i64 1]),
  (209, [.nils])]
theorem run_quiet16 (s : AState) (hs : HasL 14458 st_quiet15 s) : AC Try.prog 31 [.ptr 1 0] s fun v s' => v = .bool true ∧ HasL 14947 st_quiet16 s' :=
  piece (by kernel_rfl) s hs
def st_quiet17 : BlkL := [(1, [.int .i64 1, .sl 6 0 1 none 1, .sl 203 0 1 none 1, .nils, .sl 7427 0 1 none 5, .sl 205 0 1 none 1, .sl 207 0 1 none 1, .int .i64 0, .int .i64 1] ++ List.replicate 398 (.int .i64 0) ++ [.sl 209 0 1 none 1, .int .i64 0, .int .i64 0]),
  (6, [.ptr 2 0]),
  (2, [.int .i64 0, .int .i64 0, .sl 4 0 1 none 1, .nils, .sl 3508 0 1 none 4, .int .i64 0, .int .i64 1, .int .i64 0, .int .i64 1, .int .i64 2, .sl 3182 0 1 (some 1) 1, .int .i64 1, .int .i64 0, .int .i64 0, .bool false, .int .i64 0, .int .i64 1, .int .i64 0, .int .i64 0, .bool false, .int .i64 0, .int .i64 1, .int .i64 0, .int .i64 0, .bool false, .int .i64 0, .int .i64 1, .int .i64 0, .int .i64 0, .bool false, .int .i64 0, .int .i64 1, .int .i64 0, .int .i64 0, .bool false, .int .i64 0, .int .i64 1, .int .i64 0, .int .i64 0, .bool false, .int .i64 0, .int .i64 1, .int .i64 0, .int .i64 0, .bool false, .int .i64 0, .int .i64 0, .nils, .nils, .int .i64 10, .int .i64 0, .int .i64 8, .nils]),
  (4, [.int .i64 0]),
  (3508, [.int .i64 1, .int .i64 0, .nils, .nils]),
  (3182, [.int .i64 0]),
  (203, [.sl 15208 0 105 none 1]),
  (7427, [.int .i64 1, .int .i64 1, .int .i64 0, .nils, .nils]),
  (205, [.int .i64 1]),
  (207, [.int .i64 1]),
  (209, [.nils])]
theorem run_quiet17 (s : AState) (hs : HasL 14947 st_quiet16 s) : AC Try.prog 31 [.ptr 1 0] s fun v s' => v = .bool true ∧ HasL 15436 st_quiet17 s' :=
  piece (by kernel_rfl) s hs
def st_quiet18 : BlkL := [(1, [.int .i64 1, .sl 6 0 1 none 1, .sl 203 0 1 none 1, .nils, .sl 7427 0 1 none 5, .sl 205 0 1 none 1, .sl 207 0 1 none 1, .int .i64 0, .int .i64 1] ++ List.replicate 398 (.int .i64 0) ++ [.sl 209 0 1 none 1, .int .i64 0, .int .i64 0]),
  (6, [.ptr 2 0]),
  (2, [.int .i64 0, .int .i64 0, .sl 4 0 1 none 1, .nils, .sl 3508 0 1 none 4, .int .i64 0, .int .i64 1, .int .i64 0, .int .i64 1, .int .i64 2, .sl 3182 0 1 (some 1) 1, .int .i64 1, .int .i64 0, .int .i64 0, .bool false, .int .i64 0, .int .i64 1, .int .i64 0, .int .i64 0, .bool false, .int .i64 0, .int .i64 1, .int .i64 0, .int .i64 0, .bool false, .int .i64 0, .int .i64 1, .int .i64 0, .int .i64 0, .bool false, .int .i64 0, .int .i64 1, .int .i64 0, .int .i64 0, .bool false, .int .i64 0, .int .i64 1, .int .i64 0, .int .i64 0, .bool false, .int .i64 0, .int .i64 1, .int .i64 0, .int .i64 0, .bool false, .int .i64 0, .int .i64 0, .nils, .nils, .int .i64 10, .int .i64 0, .int .i64 9, .nils]),
  (4, [.int .i64 0]),
  (3508, [.int .i64 1, .int .i64 0, .nils, .nils]),
  (3182, [.int .i64 0]),
  (203, [.sl 16321 0 105 none 1]),
  (7427, [.int .i64 1, .int .i64 1, .int .i64 0, .nils, .nils]),
  (205, [.int .i64 1]),
  (207, [.int .i64 1]),
  (209, [.nils])]
theorem run_quiet18 (s : AState) (hs : HasL 15436 st_quiet17 s) : AC Try.prog 31 [.ptr 1 0] s fun v s' => v = .bool true ∧ HasL 17749 st_quiet18 s' :=
  piece (by kernel_rfl) s hs
def st_quiet19 : BlkL := [(1, [.int .i64 1, .sl 6 0 1 none 1, .sl 203 0 1 none 1, .nils, .sl 7427 0 1 none 5, .sl 205 0 1 none 1, .sl 207 0 1 none 1, .int .i64 0, .int .i64 1] ++ List.replicate 398 (.int .i64 0) ++ [.sl 209 0 1 none 1, .int .i64 0, .int .i64 0]),
  (6, [.ptr 2 0]),
  (2, [.int .i64 0, .int .i64 0, .sl 4 0 1 none 1, .nils, .sl 3508 0 1 none 4, .int .i64 0, .int .i64 1, .int .i64 0, .int .i64 1, .int .i64 2, .sl 3182 0 1 (some 1) 1, .int .i64 1, .int .i64 0, .int .i64 0, .bool false, .int .i64 0, .int .i64 1, .int .i64 0, .int .i64 0, .bool false, .int .i64 0, .int .i64 1, .int .i64 0, .int .i64 0, .bool false, .int .i64 0, .int .i64 1, .int .i64 0, .int .i64 0, .bool false, .int .i64 0, .int .i64 1, .int .i64 0, .int .i64 0, .bool false, .int .i64 0, .int .i64 1, .int .i64 0, .int .i64 0, .bool false, .int .i64 0, .int .i64 1, .int .i64 0, .int .i64 0, .bool false, .int .i64 0, .int .i64 0, .nils, .nils, .int .i64 10, .int .i64 0, .int .i64 10, .nils]),
  (4, [.int .i64 0]),
  (3508, [.int .i64 1, .int .i64 0, .nils, .nils]),
  (3182, [.int .i64 0]),
  (203, [.sl 18010 0 105 none 1]),
  (7427, [.int .i64 1, .int .i64 1, .int .i64 0, .nils, .nils]),
  (205, [.int .i64 1]),
  (207, [.int .i64 1]),
  (209, [.nils])]
theorem run_quiet19 (s : AState) (hs : HasL 17749 st_quiet18 s) : AC Try.prog 31 [.ptr 1 0] s fun v s' => v = .bool true ∧ HasL 18238 st_quiet19 s' :=
  piece (by kernel_rfl) s hs
end Go.Proofs.Ythojhpjjkfjeiaa.Va
