/- known's closed run, in pieces (printed by gen_known.py). Conditions: none. -/
import Derived.Test.YthojhpjjkfjeiaaRkD
set_option maxRecDepth 100000
set_option maxHeartbeats 4000000
set_option linter.all false
namespace Go.Proofs.Ythojhpjjkfjeiaa.Va
open Go.Proofs
def st_data : BlkL := [(1, [.int .i64 1, .sl 6 0 1 none 1, .sl 203 0 1 none 1, .nils, .sl 7427 0 1 none 5, .sl 205 0 1 none 1, .sl 207 0 1 none 1, .int .i64 0, .int .i64 1] ++ List.replicate 398 (.int .i64 0) ++ [.sl 209 0 1 none 1, .int .i64 1, .int .i64 0]),
  (6, [.ptr 2 0]),
  (2, [.int .i64 0, .int .i64 0, .sl 4 0 1 none 1, .nils, .sl 3508 0 1 none 4, .int .i64 0, .int .i64 1, .int .i64 0, .int .i64 1, .int .i64 2, .sl 3182 0 1 (some 1) 1, .int .i64 1, .int .i64 0, .int .i64 0, .bool false, .int .i64 0, .int .i64 1, .int .i64 0, .int .i64 0, .bool false, .int .i64 0, .int .i64 1, .int .i64 0, .int .i64 0, .bool false, .int .i64 0, .int .i64 1, .int .i64 0, .int .i64 0, .bool false, .int .i64 0, .int .i64 1, .int .i64 0, .int .i64 0, .bool false, .int .i64 0, .int .i64 1, .int .i64 0, .int .i64 0, .bool false, .int .i64 0, .int .i64 1, .int .i64 0, .int .i64 0, .bool false, .int .i64 0, .int .i64 0, .nils, .nils, .int .i64 10, .int .i64 0, .int .i64 10, .nils]),
  (4, [.int .i64 0]),
  (3508, [.int .i64 1, .int .i64 0, .nils, .nils]),
  (3182, [.int .i64 0]),
  (203, [.sl 18010 0 105 none 1]),
  (7427, [.int .i64 1, .int .i64 1, .int .i64 0, .nils, .nils]),
  (205, [.int .i64 1]),
  (207, [.int .i64 1]),
  (209, [.nils]),
  (18251, [.int .u8 100, .int .u8 1, .int .u8 0])]
theorem run_data (s : AState) (hs : HasL 18238 st_quiet19 s) : AC Try.prog 17 [.ptr 1 0] s fun v s' => v = .sl 18251 0 3 (some 3) 1 ∧ HasL 18252 st_data s' :=
  piece (by kernel_rfl) s hs
def st_propose : BlkL := [(1, [.int .i64 1, .sl 6 0 1 none 1, .sl 203 0 1 none 1, .sl 22169 0 12 none 14, .sl 22400 0 2 none 5, .sl 205 0 1 none 1, .sl 207 0 1 none 1, .int .i64 0, .int .i64 1] ++ List.replicate 398 (.int .i64 0) ++ [.sl 209 0 1 none 1, .int .i64 1, .int .i64 0]),
  (6, [.ptr 2 0]),
  (2, [.int .i64 0, .int .i64 0, .sl 4 0 1 none 1, .nils, .sl 18298 0 2 none 4, .int .i64 0, .int .i64 1, .int .i64 0, .int .i64 2, .int .i64 2, .sl 3182 0 1 (some 1) 1, .int .i64 1, .int .i64 0, .int .i64 0, .bool false, .int .i64 0, .int .i64 1, .int .i64 0, .int .i64 0, .bool false, .int .i64 0, .int .i64 1, .int .i64 0, .int .i64 0, .bool false, .int .i64 0, .int .i64 1, .int .i64 0, .int .i64 0, .bool false, .int .i64 0, .int .i64 1, .int .i64 0, .int .i64 0, .bool false, .int .i64 0, .int .i64 1, .int .i64 0, .int .i64 0, .bool false, .int .i64 0, .int .i64 1, .int .i64 0, .int .i64 0, .bool false, .int .i64 0, .int .i64 0, .nils, .nils, .int .i64 10, .int .i64 0, .int .i64 10, .nils]),
  (4, [.int .i64 0]),
  (18298, [.int .i64 1, .int .i64 0, .nils, .nils, .int .i64 1, .int .i64 1, .sl 18296 0 3 none 1, .nils]),
  (18296, [.int .u8 100, .int .u8 1, .int .u8 0]),
  (3182, [.int .i64 0]),
  (203, [.sl 20141 0 140 none 1]),
  (22169, [.int .i64 0, .int .i64 1, .int .i64 3, .int .i64 1, .int .i64 2, .int .i64 1, .int .i64 1, .int .i64 0, .bool false, .nils, .nils, .nils, .nils, .nils, .int .i64 0, .int .i64 2, .int .i64 3, .int .i64 1, .int .i64 2, .int .i64 1, .int .i64 1, .int .i64 0, .bool false, .nils, .nils, .nils, .nils, .nils, .int .i64 0, .int .i64 3, .int .i64 3, .int .i64 1, .int .i64 2, .int .i64 1, .int .i64 1, .int .i64 0, .bool false, .nils, .nils, .nils, .nils, .nils, .int .i64 0, .int .i64 4, .int .i64 3, .int .i64 1, .int .i64 2, .int .i64 1, .int .i64 1, .int .i64 0, .bool false, .nils, .nils, .nils, .nils, .nils, .int .i64 0, .int .i64 5, .int .i64 3, .int .i64 1, .int .i64 2, .int .i64 1, .int .i64 1, .int .i64 0, .bool false, .nils, .nils, .nils, .nils, .nils, .int .i64 0, .int .i64 6, .int .i64 3, .int .i64 1, .int .i64 2, .int .i64 1, .int .i64 1, .int .i64 0, .bool false, .nils, .nils, .nils, .nils, .nils, .int .i64 0, .int .i64 1, .int .i64 3, .int .i64 1, .int .i64 2, .int .i64 1, .int .i64 2, .int .i64 0, .bool false, .nils, .nils, .nils, .nils, .nils, .int .i64 0, .int .i64 2, .int .i64 3, .int .i64 1, .int .i64 2, .int .i64 1, .int .i64 2, .int .i64 0, .bool false, .nils, .nils, .nils, .nils, .nils, .int .i64 0, .int .i64 3, .int .i64 3, .int .i64 1, .int .i64 2, .int .i64 1, .int .i64 2, .int .i64 0, .bool false, .nils, .nils, .nils, .nils, .nils, .int .i64 0, .int .i64 4, .int .i64 3, .int .i64 1, .int .i64 2, .int .i64 1, .int .i64 2, .int .i64 0, .bool false, .nils, .nils, .nils, .nils, .nils, .int .i64 0, .int .i64 5, .int .i64 3, .int .i64 1, .int .i64 2, .int .i64 1, .int .i64 2, .int .i64 0, .bool false, .nils, .nils, .nils, .nils, .nils, .int .i64 0, .int .i64 6, .int .i64 3, .int .i64 1, .int .i64 2, .int .i64 1, .int .i64 2, .int .i64 0, .bool false, .nils, .nils, .nils, .nils, .nils]),
  (22400, [.int .i64 1, .int .i64 1, .int .i64 0, .nils, .nils, .int .i64 2, .int .i64 1, .int .i64 1, .sl 22385 0 3 none 1, .nils]),
  (22385, [.int .u8 100, .int .u8 1, .int .u8 0]),
  (205, [.int .i64 1]),
  (207, [.int .i64 2]),
  (209, [.nils])]
theorem run_propose (s : AState) (hs : HasL 18252 st_data s) : AC Try.prog 14 [.ptr 1 0, .int .i64 0, .sl 18251 0 3 (some 3) 1] s fun v s' => v = .tup [.int .i64 2, .int .i64 0, .bool true] ∧ HasL 22452 st_propose s' :=
  piece (by kernel_rfl) s hs
def st_ask : BlkL := [(1, [.int .i64 1, .sl 6 0 1 none 1, .sl 203 0 1 none 1, .sl 24650 0 18 none 14, .sl 22400 0 2 none 5, .sl 205 0 1 none 1, .sl 207 0 1 none 1, .int .i64 0, .int .i64 1] ++ List.replicate 398 (.int .i64 0) ++ [.sl 209 0 1 none 1, .int .i64 2, .int .i64 1]),
  (6, [.ptr 2 0]),
  (2, [.int .i64 0, .int .i64 0, .sl 4 0 1 none 1, .nils, .sl 18298 0 2 none 4, .int .i64 0, .int .i64 1, .int .i64 0, .int .i64 2, .int .i64 2, .sl 3182 0 1 (some 1) 1, .int .i64 1, .int .i64 0, .int .i64 0, .bool false, .int .i64 0, .int .i64 1, .int .i64 0, .int .i64 0, .bool false, .int .i64 0, .int .i64 1, .int .i64 0, .int .i64 0, .bool false, .int .i64 0, .int .i64 1, .int .i64 0, .int .i64 0, .bool false, .int .i64 0, .int .i64 1, .int .i64 0, .int .i64 0, .bool false, .int .i64 0, .int .i64 1, .int .i64 0, .int .i64 0, .bool false, .int .i64 0, .int .i64 1, .int .i64 0, .int .i64 0, .bool false, .int .i64 0, .int .i64 1, .sl 22529 3 0 none 3, .nils, .int .i64 10, .int .i64 0, .int .i64 10, .nils]),
  (4, [.int .i64 0]),
  (18298, [.int .i64 1, .int .i64 0, .nils, .nils, .int .i64 1, .int .i64 1, .sl 18296 0 3 none 1, .nils]),
  (18296, [.int .u8 100, .int .u8 1, .int .u8 0]),
  (3182, [.int .i64 0]),
  (22529, [.int .i64 2, .int .i64 2, .int .i64 1]),
  (203, [.sl 23636 0 140 none 1]),
  (24650, [.int .i64 0, .int .i64 1, .int .i64 3, .int .i64 1, .int .i64 2, .int .i64 1, .int .i64 1, .int .i64 0, .bool false, .nils, .nils, .nils, .nils, .nils, .int .i64 0, .int .i64 2, .int .i64 3, .int .i64 1, .int .i64 2, .int .i64 1, .int .i64 1, .int .i64 0, .bool false, .nils, .nils, .nils, .nils, .nils, .int .i64 0, .int .i64 3, .int .i64 3, .int .i64 1, .int .i64 2, .int .i64 1, .int .i64 1, .int .i64 0, .bool false, .nils, .nils, .nils, .nils, .nils, .int .i64 0, .int .i64 4, .int .i64 3, .int .i64 1, .int .i64 2, .int .i64 1, .int .i64 1, .int .i64 0, .bool false, .nils, .nils, .nils, .nils, .nils, .int .i64 0, .int .i64 5, .int .i64 3, .int .i64 1, .int .i64 2, .int .i64 1, .int .i64 1, .int .i64 0, .bool false, .nils, .nils, .nils, .nils, .nils, .int .i64 0, .int .i64 6, .int .i64 3, .int .i64 1, .int .i64 2, .int .i64 1, .int .i64 1, .int .i64 0, .bool false, .nils, .nils, .nils, .nils, .nils, .int .i64 0, .int .i64 1, .int .i64 3, .int .i64 1, .int .i64 2, .int .i64 1, .int .i64 2, .int .i64 0, .bool false, .nils, .nils, .nils, .nils, .nils, .int .i64 0, .int .i64 2, .int .i64 3, .int .i64 1, .int .i64 2, .int .i64 1, .int .i64 2, .int .i64 0, .bool false, .nils, .nils, .nils, .nils, .nils, .int .i64 0, .int .i64 3, .int .i64 3, .int .i64 1, .int .i64 2, .int .i64 1, .int .i64 2, .int .i64 0, .bool false, .nils, .nils, .nils, .nils, .nils, .int .i64 0, .int .i64 4, .int .i64 3, .int .i64 1, .int .i64 2, .int .i64 1, .int .i64 2, .int .i64 0, .bool false, .nils, .nils, .nils, .nils, .nils, .int .i64 0, .int .i64 5, .int .i64 3, .int .i64 1, .int .i64 2, .int .i64 1, .int .i64 2, .int .i64 0, .bool false, .nils, .nils, .nils, .nils, .nils, .int .i64 0, .int .i64 6, .int .i64 3, .int .i64 1, .int .i64 2, .int .i64 1, .int .i64 2, .int .i64 0, .bool false, .nils, .nils, .nils, .nils, .nils, .int .i64 0, .int .i64 1, .int .i64 3, .int .i64 1, .int .i64 2, .int .i64 1, .int .i64 2, .int .i64 1, .bool false, .nils, .nils, .nils, .nils, .nils, .int .i64 0, .int .i64 2, .int .i64 3, .int .i64 1, .int .i64 2, .int .i64 1, .int .i64 2, .int .i64 1, .bool false, .nils, .nils, .nils, .nils, .nils, .int .i64 0, .int .i64 3, .int .i64 3, .int .i64 1, .int .i64 2, .int .i64 1, .int .i64 2, .int .i64 1, .bool false, .nils, .nils, .nils, .nils, .nils, .int .i64 0, .int .i64 4, .int .i64 3, .int .i64 1, .int .i64 2, .int .i64 1, .int .i64 2, .int .i64 1, .bool false, .nils, .nils, .nils, .nils, .nils, .int .i64 0, .int .i64 5, .int .i64 3, .int .i64 1, .int .i64 2, .int .i64 1, .int .i64 2, .int .i64 1, .bool false, .nils, .nils, .nils, .nils, .nils, .int .i64 0, .int .i64 6, .int .i64 3, .int .i64 1, .int .i64 2, .int .i64 1, .int .i64 2, .int .i64 1, .bool false, .nils, .nils, .nils, .nils, .nils]),
  (22400, [.int .i64 1, .int .i64 1, .int .i64 0, .nils, .nils, .int .i64 2, .int .i64 1, .int .i64 1, .sl 22385 0 3 none 1, .nils]),
  (22385, [.int .u8 100, .int .u8 1, .int .u8 0]),
  (205, [.int .i64 1]),
  (207, [.int .i64 2]),
  (209, [.sl 24994 0 0 (some 0) 2]),
  (24994, [])]
theorem run_ask (s : AState) (hs : HasL 22452 st_propose s) : AC Try.prog 28 [.ptr 1 0, .int .i64 0] s fun v s' => v = .bool true ∧ HasL 24995 st_ask s' :=
  piece (by kernel_rfl) s hs
end Go.Proofs.Ythojhpjjkfjeiaa.Va
