/- known's closed run, in pieces (printed by gen_known.py). Conditions: none. -/
import Derived.Test.YthojhpjjkfjeiaaRk0
set_option maxRecDepth 100000
set_option maxHeartbeats 4000000
set_option linter.all false
namespace Go.Proofs.Ythojhpjjkfjeiaa.Va
open Go.Proofs
def st_NewGroup : BlkL := [(1, [.int .i64 1, .sl 6 0 1 none 1, .sl 203 0 1 none 1, .nils, .nils, .sl 205 0 1 none 1, .sl 207 0 1 none 1] ++ List.replicate 400 (.int .i64 0) ++ [.sl 209 0 1 none 1, .int .i64 0, .int .i64 0]),
  (6, [.ptr 2 0]),
  (2, [.int .i64 0, .int .i64 0, .sl 4 0 1 none 1, .nils, .nils, .int .i64 0, .int .i64 0, .int .i64 (-1), .int .i64 0, .int .i64 0, .nils, .int .i64 0, .int .i64 0, .int .i64 0, .bool false, .int .i64 0, .int .i64 0, .int .i64 0, .int .i64 0, .bool false, .int .i64 0, .int .i64 0, .int .i64 0, .int .i64 0, .bool false, .int .i64 0, .int .i64 0, .int .i64 0, .int .i64 0, .bool false, .int .i64 0, .int .i64 0, .int .i64 0, .int .i64 0, .bool false, .int .i64 0, .int .i64 0, .int .i64 0, .int .i64 0, .bool false, .int .i64 0, .int .i64 0, .int .i64 0, .int .i64 0, .bool false, .int .i64 0, .int .i64 0, .nils, .nils, .int .i64 10, .int .i64 0, .int .i64 0, .nils]),
  (4, [.int .i64 0]),
  (203, [.sl 201 0 73 none 1]),
  (205, [.int .i64 0]),
  (207, [.int .i64 0]),
  (209, [.nils])]
theorem run_NewGroup (s : AState) (hs : HasL 1 [(0, [.int .i64 0])] s) : AC Try.prog 9 [.int .i64 1, .sl 0 0 1 (some 1) 1] s fun v s' => v = .ptr 1 0 ∧ HasL 210 st_NewGroup s' :=
  piece (by kernel_rfl) s hs
def st_quiet0 : BlkL := [(1, [.int .i64 1, .sl 6 0 1 none 1, .sl 203 0 1 none 1, .nils, .nils, .sl 205 0 1 none 1, .sl 207 0 1 none 1] ++ List.replicate 400 (.int .i64 0) ++ [.sl 209 0 1 none 1, .int .i64 0, .int .i64 0]),
  (6, [.ptr 2 0]),
  (2, [.int .i64 0, .int .i64 0, .sl 4 0 1 none 1, .nils, .nils, .int .i64 0, .int .i64 0, .int .i64 (-1), .int .i64 0, .int .i64 0, .nils, .int .i64 0, .int .i64 0, .int .i64 0, .bool false, .int .i64 0, .int .i64 0, .int .i64 0, .int .i64 0, .bool false, .int .i64 0, .int .i64 0, .int .i64 0, .int .i64 0, .bool false, .int .i64 0, .int .i64 0, .int .i64 0, .int .i64 0, .bool false, .int .i64 0, .int .i64 0, .int .i64 0, .int .i64 0, .bool false, .int .i64 0, .int .i64 0, .int .i64 0, .int .i64 0, .bool false, .int .i64 0, .int .i64 0, .int .i64 0, .int .i64 0, .bool false, .int .i64 0, .int .i64 0, .nils, .nils, .int .i64 9, .int .i64 0, .int .i64 0, .nils]),
  (4, [.int .i64 0]),
  (203, [.sl 401 0 73 none 1]),
  (205, [.int .i64 0]),
  (207, [.int .i64 0]),
  (209, [.nils])]
theorem run_quiet0 (s : AState) (hs : HasL 210 st_NewGroup s) : AC Try.prog 31 [.ptr 1 0] s fun v s' => v = .bool true ∧ HasL 535 st_quiet0 s' :=
  piece (by kernel_rfl) s hs
def st_quiet1 : BlkL := [(1, [.int .i64 1, .sl 6 0 1 none 1, .sl 203 0 1 none 1, .nils, .nils, .sl 205 0 1 none 1, .sl 207 0 1 none 1] ++ List.replicate 400 (.int .i64 0) ++ [.sl 209 0 1 none 1, .int .i64 0, .int .i64 0]),
  (6, [.ptr 2 0]),
  (2, [.int .i64 0, .int .i64 0, .sl 4 0 1 none 1, .nils, .nils, .int .i64 0, .int .i64 0, .int .i64 (-1), .int .i64 0, .int .i64 0, .nils, .int .i64 0, .int .i64 0, .int .i64 0, .bool false, .int .i64 0, .int .i64 0, .int .i64 0, .int .i64 0, .bool false, .int .i64 0, .int .i64 0, .int .i64 0, .int .i64 0, .bool false, .int .i64 0, .int .i64 0, .int .i64 0, .int .i64 0, .bool false, .int .i64 0, .int .i64 0, .int .i64 0, .int .i64 0, .bool false, .int .i64 0, .int .i64 0, .int .i64 0, .int .i64 0, .bool false, .int .i64 0, .int .i64 0, .int .i64 0, .int .i64 0, .bool false, .int .i64 0, .int .i64 0, .nils, .nils, .int .i64 8, .int .i64 0, .int .i64 0, .nils]),
  (4, [.int .i64 0]),
  (203, [.sl 726 0 73 none 1]),
  (205, [.int .i64 0]),
  (207, [.int .i64 0]),
  (209, [.nils])]
theorem run_quiet1 (s : AState) (hs : HasL 535 st_quiet0 s) : AC Try.prog 31 [.ptr 1 0] s fun v s' => v = .bool true ∧ HasL 860 st_quiet1 s' :=
  piece (by kernel_rfl) s hs
def st_quiet2 : BlkL := [(1, [.int .i64 1, .sl 6 0 1 none 1, .sl 203 0 1 none 1, .nils, .nils, .sl 205 0 1 none 1, .sl 207 0 1 none 1] ++ List.replicate 400 (.int .i64 0) ++ [.sl 209 0 1 none 1, .int .i64 0, .int .i64 0]),
  (6, [.ptr 2 0]),
  (2, [.int .i64 0, .int .i64 0, .sl 4 0 1 none 1, .nils, .nils, .int .i64 0, .int .i64 0, .int .i64 (-1), .int .i64 0, .int .i64 0, .nils, .int .i64 0, .int .i64 0, .int .i64 0, .bool false, .int .i64 0, .int .i64 0, .int .i64 0, .int .i64 0, .bool false, .int .i64 0, .int .i64 0, .int .i64 0, .int .i64 0, .bool false, .int .i64 0, .int .i64 0, .int .i64 0, .int .i64 0, .bool false, .int .i64 0, .int .i64 0, .int .i64 0, .int .i64 0, .bool false, .int .i64 0, .int .i64 0, .int .i64 0, .int .i64 0, .bool false, .int .i64 0, .int .i64 0, .int .i64 0, .int .i64 0, .bool false, .int .i64 0, .int .i64 0, .nils, .nils, .int .i64 7, .int .i64 0, .int .i64 0, .nils]),
  (4, [.int .i64 0]),
  (203, [.sl 1051 0 73 none 1]),
  (205, [.int .i64 0]),
  (207, [.int .i64 0]),
  (209, [.nils])]
theorem run_quiet2 (s : AState) (hs : HasL 860 st_quiet1 s) : AC Try.prog 31 [.ptr 1 0] s fun v s' => v = .bool true ∧ HasL 1185 st_quiet2 s' :=
  piece (by kernel_rfl) s hs
def st_quiet3 : BlkL := [(1, [.int .i64 1, .sl 6 0 1 none 1, .sl 203 0 1 none 1, .nils, .nils, .sl 205 0 1 none 1, .sl 207 0 1 none 1] ++ List.replicate 400 (.int .i64 0) ++ [.sl 209 0 1 none 1, .int .i64 0, .int .i64 0]),
  (6, [.ptr 2 0]),
  (2, [.int .i64 0, .int .i64 0, .sl 4 0 1 none 1, .nils, .nils, .int .i64 0, .int .i64 0, .int .i64 (-1), .int .i64 0, .int .i64 0, .nils, .int .i64 0, .int .i64 0, .int .i64 0, .bool false, .int .i64 0, .int .i64 0, .int .i64 0, .int .i64 0, .bool false, .int .i64 0, .int .i64 0, .int .i64 0, .int .i64 0, .bool false, .int .i64 0, .int .i64 0, .int .i64 0, .int .i64 0, .bool false, .int .i64 0, .int .i64 0, .int .i64 0, .int .i64 0, .bool false, .int .i64 0, .int .i64 0, .int .i64 0, .int .i64 0, .bool false, .int .i64 0, .int .i64 0, .int .i64 0, .int .i64 0, .bool false, .int .i64 0, .int .i64 0, .nils, .nils, .int .i64 6, .int .i64 0, .int .i64 0, .nils]),
  (4, [.int .i64 0]),
  (203, [.sl 1376 0 73 none 1]),
  (205, [.int .i64 0]),
  (207, [.int .i64 0]),
  (209, [.nils])]
theorem run_quiet3 (s : AState) (hs : HasL 1185 st_quiet2 s) : AC Try.prog 31 [.ptr 1 0] s fun v s' => v = .bool true ∧ HasL 1510 st_quiet3 s' :=
  piece (by kernel_rfl) s hs
def st_quiet4 : BlkL := [(1, [.int .i64 1, .sl 6 0 1 none 1, .sl 203 0 1 none 1, .nils, .nils, .sl 205 0 1 none 1, .sl 207 0 1 none 1] ++ List.replicate 400 (.int .i64 0) ++ [.sl 209 0 1 none 1, .int .i64 0, .int .i64 0]),
  (6, [.ptr 2 0]),
  (2, [.int .i64 0, .int .i64 0, .sl 4 0 1 none 1, .nils, .nils, .int .i64 0, .int .i64 0, .int .i64 (-1), .int .i64 0, .int .i64 0, .nils, .int .i64 0, .int .i64 0, .int .i64 0, .bool false, .int .i64 0, .int .i64 0, .int .i64 0, .int .i64 0, .bool false, .int .i64 0, .int .i64 0, .int .i64 0, .int .i64 0, .bool false, .int .i64 0, .int .i64 0, .int .i64 0, .int .i64 0, .bool false, .int .i64 0, .int .i64 0, .int .i64 0, .int .i64 0, .bool false, .int .i64 0, .int .i64 0, .int .i64 0, .int .i64 0, .bool false, .int .i64 0, .int .i64 0, .int .i64 0, .int .i64 0, .bool false, .int .i64 0, .int .i64 0, .nils, .nils, .int .i64 5, .int .i64 0, .int .i64 0, .nils]),
  (4, [.int .i64 0]),
  (203, [.sl 1701 0 73 none 1]),
  (205, [.int .i64 0]),
  (207, [.int .i64 0]),
  (209, [.nils])]
theorem run_quiet4 (s : AState) (hs : HasL 1510 st_quiet3 s) : AC Try.prog 31 [.ptr 1 0] s fun v s' => v = .bool true ∧ HasL 1835 st_quiet4 s' :=
  piece (by kernel_rfl) s hs
def st_quiet5 : BlkL := [(1, [.int .i64 1, .sl 6 0 1 none 1, .sl 203 0 1 none 1, .nils, .nils, .sl 205 0 1 none 1, .sl 207 0 1 none 1] ++ List.replicate 400 (.int .i64 0) ++ [.sl 209 0 1 none 1, .int .i64 0, .int .i64 0]),
  (6, [.ptr 2 0]),
  (2, [.int .i64 0, .int .i64 0, .sl 4 0 1 none 1, .nils, .nils, .int .i64 0, .int .i64 0, .int .i64 (-1), .int .i64 0, .int .i64 0, .nils, .int .i64 0, .int .i64 0, .int .i64 0, .bool false, .int .i64 0, .int .i64 0, .int .i64 0, .int .i64 0, .bool false, .int .i64 0, .int .i64 0, .int .i64 0, .int .i64 0, .bool false, .int .i64 0, .int .i64 0, .int .i64 0, .int .i64 0, .bool false, .int .i64 0, .int .i64 0, .int .i64 0, .int .i64 0, .bool false, .int .i64 0, .int .i64 0, .int .i64 0, .int .i64 0, .bool false, .int .i64 0, .int .i64 0, .int .i64 0, .int .i64 0, .bool false, .int .i64 0, .int .i64 0, .nils, .nils, .int .i64 4, .int .i64 0, .int .i64 0, .nils]),
  (4, [.int .i64 0]),
  (203, [.sl 2026 0 73 none 1]),
  (205, [.int .i64 0]),
  (207, [.int .i64 0]),
  (209, [.nils])]
theorem run_quiet5 (s : AState) (hs : HasL 1835 st_quiet4 s) : AC Try.prog 31 [.ptr 1 0] s fun v s' => v = .bool true ∧ HasL 2160 st_quiet5 s' :=
  piece (by kernel_rfl) s hs
def st_quiet6 : BlkL := [(1, [.int .i64 1, .sl 6 0 1 none 1, .sl 203 0 1 none 1, .nils, .nils, .sl 205 0 1 none 1, .sl 207 0 1 none 1] ++ List.replicate 400 (.int .i64 0) ++ [.sl 209 0 1 none 1, .int .i64 0, .int .i64 0]),
  (6, [.ptr 2 0]),
  (2, [.int .i64 0, .int .i64 0, .sl 4 0 1 none 1, .nils, .nils, .int .i64 0, .int .i64 0, .int .i64 (-1), .int .i64 0, .int .i64 0, .nils, .int .i64 0, .int .i64 0, .int .i64 0, .bool false, .int .i64 0, .int .i64 0, .int .i64 0, .int .i64 0, .bool false, .int .i64 0, .int .i64 0, .int .i64 0, .int .i64 0, .bool false, .int .i64 0, .int .i64 0, .int .i64 0, .int .i64 0, .bool false, .int .i64 0, .int .i64 0, .int .i64 0, .int .i64 0, .bool false, .int .i64 0, .int .i64 0, .int .i64 0, .int .i64 0, .bool false, .int .i64 0, .int .i64 0, .int .i64 0, .int .i64 0, .bool false, .int .i64 0, .int .i64 0, .nils, .nils, .int .i64 3, .int .i64 0, .int .i64 0, .nils]),
  (4, [.int .i64 0]),
  (203, [.sl 2351 0 73 none 1]),
  (205, [.int .i64 0]),
  (207, [.int .i64 0]),
  (209, [.nils])]
theorem run_quiet6 (s : AState) (hs : HasL 2160 st_quiet5 s) : AC Try.prog 31 [.ptr 1 0] s fun v s' => v = .bool true ∧ HasL 2485 st_quiet6 s' :=
  piece (by kernel_rfl) s hs
def st_quiet7 : BlkL := [(1, [.int .i64 1, .sl 6 0 1 none 1, .sl 203 0 1 none 1, .nils, .nils, .sl 205 0 1 none 1, .sl 207 0 1 none 1] ++ List.replicate 400 (.int .i64 0) ++ [.sl 209 0 1 none 1, .int .i64 0, .int .i64 0]),
  (6, [.ptr 2 0]),
  (2, [.int .i64 0, .int .i64 0, .sl 4 0 1 none 1, .nils, .nils, .int .i64 0, .int .i64 0, .int .i64 (-1), .int .i64 0, .int .i64 0, .nils, .int .i64 0, .int .i64 0, .int .i64 0, .bool false, .int .i64 0, .int .i64 0, .int .i64 0, .int .i64 0, .bool false, .int .i64 0, .int .i64 0, .int .i64 0, .int .i64 0, .bool false, .int .i64 0, .int .i64 0, .int .i64 0, .int .i64 0, .bool false, .int .i64 0, .int .i64 0, .int .i64 0, .int .i64 0, .bool false, .int .i64 0, .int .i64 0, .int .i64 0, .int .i64 0, .bool false, .int .i64 0, .int .i64 0, .int .i64 0, .int .i64 0, .bool false, .int .i64 0, .int .i64 0, .nils, .nils, .int .i64 2, .int .i64 0, .int .i64 0, .nils]),
  (4, [.int .i64 0]),
  (203, [.sl 2676 0 73 none 1]),
  (205, [.int .i64 0]),
  (207, [.int .i64 0]),
  (209, [.nils])]
theorem run_quiet7 (s : AState) (hs : HasL 2485 st_quiet6 s) : AC Try.prog 31 [.ptr 1 0] s fun v s' => v = .bool true ∧ HasL 2810 st_quiet7 s' :=
  piece (by kernel_rfl) s hs
def st_quiet8 : BlkL := [(1, [.int .i64 1, .sl 6 0 1 none 1, .sl 203 0 1 none 1, .nils, .nils, .sl 205 0 1 none 1, .sl 207 0 1 none 1] ++ List.replicate 400 (.int .i64 0) ++ [.sl 209 0 1 none 1, .int .i64 0, .int .i64 0]),
  (6, [.ptr 2 0]),
  (2, [.int .i64 0, .int .i64 0, .sl 4 0 1 none 1, .nils, .nils, .int .i64 0, .int .i64 0, .int .i64 (-1), .int .i64 0, .int .i64 0, .nils, .int .i64 0, .int .i64 0, .int .i64 0, .bool false, .int .i64 0, .int .i64 0, .int .i64 0, .int .i64 0, .bool false, .int .i64 0, .int .i64 0, .int .i64 0, .int .i64 0, .bool false, .int .i64 0, .int .i64 0, .int .i64 0, .int .i64 0, .bool false, .int .i64 0, .int .i64 0, .int .i64 0, .int .i64 0, .bool false, .int .i64 0, .int .i64 0, .int .i64 0, .int .i64 0, .bool false, .int .i64 0, .int .i64 0, .int .i64 0, .int .i64 0, .bool false, .int .i64 0, .int .i64 0, .nils, .nils, .int .i64 1, .int .i64 0, .int .i64 0, .nils]),
  (4, [.int .i64 0]),
  (203, [.sl 3001 0 73 none 1]),
  (205, [.int .i64 0]),
  (207, [.int .i64 0]),
  (209, [.nils])]
theorem run_quiet8 (s : AState) (hs : HasL 2810 st_quiet7 s) : AC Try.prog 31 [.ptr 1 0] s fun v s' => v = .bool true ∧ HasL 3135 st_quiet8 s' :=
  piece (by kernel_rfl) s hs
end Go.Proofs.Ythojhpjjkfjeiaa.Va
