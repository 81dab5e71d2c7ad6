/- Functions of the program as resolved code (printed by gen.py from the kernel's own value). Conditions: none. -/
import Derived.Test.YtcdbpmmomgehfaaProg
import Derived.Test.YtcdbpmmomgehfaaVaF
import Derived.KernelRfl
set_option maxRecDepth 100000
set_option maxHeartbeats 4000000
set_option linter.all false
namespace Go.Proofs.Ytcdbpmmomgehfaa.Va
open Go.Proofs
/- chancel/chancellaw11.TypesMade -/
def ab4 : ACode := (.seq (.reg [⟨some 10, .box (.tmp 4), none⟩, ⟨some 11, .box (.tmp 5), none⟩, ⟨some 12, .mv (.con (.bool false)), none⟩])
 (.seq (.seq (.reg [⟨some 23, .call 11 [], none⟩, ⟨some 24, .un .not (.tmp 23), none⟩])
 (.cond (.tmp 24)
 (.seq (.reg [⟨some 12, .mv (.con (.bool false)), none⟩])
 .ret)
 .skip))
 (.seq (.reg [⟨some 25, .mv (.tmp 0), none⟩, ⟨some 26, .mv (.tmp 1), none⟩, ⟨some 27, .call 13 [.tmp 25, .tmp 26], none⟩, ⟨some 13, .alloc [.nils, .nils], none⟩, ⟨none, .store 2 (.tmp 13) (.tmp 27), none⟩])
 (.seq (.reg [⟨some 29, .load true 2 (.tmp 13), none⟩, ⟨some 30, .mv (.tmp 2), none⟩, ⟨some 31, .call 15 [.tmp 29, .tmp 30], none⟩, ⟨some 28, .mv (.tmp 31), none⟩, ⟨some 32, .ext (.tmp 28) 0, none⟩, ⟨some 33, .ext (.tmp 28) 1, none⟩, ⟨some 14, .alloc [.str [], .str [], .str []], none⟩, ⟨none, .store 3 (.tmp 14) (.tmp 32), none⟩, ⟨some 15, .mv (.tmp 33), none⟩])
 (.seq (.seq (.reg [⟨some 34, .mv (.tmp 15), none⟩, ⟨some 35, .un .not (.tmp 34), none⟩, ⟨some 36, .mv (.tmp 35), none⟩, ⟨some 37, .load true 4 (.tmp 10), some (36, false)⟩, ⟨some 38, .call 17 [.tmp 37, .con (.int .i64 60)], some (36, false)⟩, ⟨some 39, .bin .eql .plain (.tmp 38) (.con (.int .i64 0)), some (36, false)⟩, ⟨some 40, .pick (.tmp 36) (.con (.bool true)) (.tmp 39), none⟩, ⟨some 41, .mv (.tmp 40), none⟩, ⟨some 42, .load true 4 (.tmp 11), some (41, false)⟩, ⟨some 43, .call 17 [.tmp 42, .con (.int .i64 60)], some (41, false)⟩, ⟨some 44, .bin .eql .plain (.tmp 43) (.con (.int .i64 0)), some (41, false)⟩, ⟨some 45, .pick (.tmp 41) (.con (.bool true)) (.tmp 44), none⟩])
 (.cond (.tmp 45)
 (.seq (.reg [⟨some 12, .mv (.con (.bool true)), none⟩])
 .ret)
 .skip))
 (.seq (.reg [⟨some 46, .load true 2 (.tmp 13), none⟩, ⟨some 47, .load true 3 (.tmp 14), none⟩, ⟨some 48, .build [.nils, .nils, .str [], .str [], .str [], .int .i64 0] [(0, 2, .tmp 46), (2, 3, .tmp 47), (5, 1, .con (.int .i64 6))], none⟩, ⟨some 16, .alloc [.nils, .nils, .str [], .str [], .str [], .int .i64 0], none⟩, ⟨none, .store 6 (.tmp 16) (.tmp 48), none⟩])
 (.seq (.reg [⟨some 49, .load true 6 (.tmp 16), none⟩, ⟨some 50, .mv (.tmp 3), none⟩, ⟨some 51, .call 18 [.tmp 49, .tmp 50], none⟩, ⟨some 17, .alloc [.int .i64 0, .int .i64 0, .str []], none⟩, ⟨none, .store 3 (.tmp 17) (.tmp 51), none⟩])
 (.seq (.seq (.reg [⟨some 52, .mv (.tmp 3), none⟩, ⟨some 53, .bin .rem .plain (.tmp 52) (.con (.int .i64 6)), none⟩, ⟨some 54, .bin .eql .plain (.tmp 53) (.con (.int .i64 5)), none⟩])
 (.cond (.tmp 54)
 (.reg [⟨some 55, .faddr 0 (.tmp 17), none⟩, ⟨some 56, .load false 1 (.tmp 55), none⟩, ⟨some 57, .faddr 2 (.tmp 17), none⟩, ⟨some 58, .load false 1 (.tmp 57), none⟩, ⟨some 59, .build [.int .i64 0, .int .i64 0, .str []] [(0, 1, .con (.int .i64 5)), (1, 1, .tmp 56), (2, 1, .tmp 58)], none⟩, ⟨none, .store 3 (.tmp 17) (.tmp 59), none⟩])
 .skip))
 (.seq (.dreg [⟨some 60, .load true 6 (.tmp 16), none⟩, ⟨some 61, .load true 3 (.tmp 17), none⟩, ⟨some 62, .load true 4 (.tmp 10), none⟩, ⟨some 63, .call 19 [.tmp 60, .tmp 61, .tmp 62], none⟩, ⟨some 64, .load true 6 (.tmp 16), none⟩, ⟨some 65, .load true 6 (.tmp 16), none⟩, ⟨some 66, .mv (.tmp 3), none⟩, ⟨some 67, .bin .quo .plain (.tmp 66) (.con (.int .i64 5)), none⟩, ⟨some 68, .call 18 [.tmp 65, .tmp 67], none⟩, ⟨some 69, .load true 4 (.tmp 11), none⟩, ⟨some 70, .call 19 [.tmp 64, .tmp 68, .tmp 69], none⟩, ⟨some 18, .alloc [.int .i64 0, .bool false, .int .i64 0, .str [], .str [], .str [], .nils], none⟩, ⟨some 19, .alloc [.int .i64 0, .bool false, .int .i64 0, .str [], .str [], .str [], .nils], none⟩, ⟨none, .store 7 (.tmp 18) (.tmp 63), none⟩, ⟨none, .store 7 (.tmp 19) (.tmp 70), none⟩] [3, 8, 10, 13, 14] [0, 0, 0, 7, 0, 0, 0, 64, 239, 0, 1023, 0, 0, 8191, 16383] [11, 12])
 (.seq (.reg [⟨some 72, .load true 2 (.tmp 13), none⟩, ⟨some 73, .faddr 0 (.tmp 14), none⟩, ⟨some 74, .load false 1 (.tmp 73), none⟩, ⟨some 75, .faddr 1 (.tmp 14), none⟩, ⟨some 76, .load false 1 (.tmp 75), none⟩, ⟨some 77, .faddr 2 (.tmp 14), none⟩, ⟨some 78, .load false 1 (.tmp 77), none⟩, ⟨some 79, .build [.str [], .str [], .str []] [(0, 1, .tmp 74), (1, 1, .tmp 76), (2, 1, .tmp 78)], none⟩, ⟨some 80, .load true 7 (.tmp 18), none⟩, ⟨some 81, .call 20 [.tmp 72, .tmp 79, .tmp 80], none⟩, ⟨some 71, .mv (.tmp 81), none⟩, ⟨some 82, .ext (.tmp 71) 0, none⟩, ⟨some 83, .ext (.tmp 71) 1, none⟩, ⟨some 20, .alloc [.int .i64 0, .int .i64 0, .str []], none⟩, ⟨none, .store 3 (.tmp 20) (.tmp 82), none⟩, ⟨some 21, .mv (.tmp 83), none⟩])
 (.seq (.seq (.reg [⟨some 84, .mv (.tmp 21), none⟩, ⟨some 85, .bin .neq .plain (.tmp 84) (.con (.int .i64 0)), none⟩, ⟨some 86, .mv (.tmp 85), none⟩, ⟨some 87, .load true 3 (.tmp 20), some (86, false)⟩, ⟨some 88, .load true 3 (.tmp 17), some (86, false)⟩, ⟨some 89, .bin .neq (.agg [.i, .i, .s]) (.tmp 87) (.tmp 88), some (86, false)⟩, ⟨some 90, .pick (.tmp 86) (.con (.bool true)) (.tmp 89), none⟩])
 (.cond (.tmp 90)
 (.seq (.reg [⟨some 12, .mv (.con (.bool false)), none⟩])
 .ret)
 .skip))
 (.seq (.seq (.reg [⟨some 91, .faddr 6 (.tmp 18), none⟩, ⟨some 92, .load false 1 (.tmp 91), none⟩, ⟨some 93, .lenL (.tmp 92), none⟩, ⟨some 94, .bin .gtr .plain (.tmp 93) (.con (.int .i64 0)), none⟩])
 (.cond (.tmp 94)
 (.seq (.reg [⟨some 95, .bslice 7 0 [.int .i64 0, .bool false, .int .i64 0, .str [], .str [], .str [], .nils] [], none⟩, ⟨some 96, .faddr 6 (.tmp 18), none⟩, ⟨some 97, .load false 1 (.tmp 96), none⟩, ⟨some 98, .append 7 96 (.tmp 95) (.tmp 97), none⟩, ⟨some 22, .mv (.tmp 98), none⟩])
 (.seq (.dreg [⟨some 99, .mv (.tmp 22), none⟩, ⟨some 100, .mv (.tmp 2), none⟩, ⟨some 101, .bin .quo .plain (.tmp 100) (.con (.int .i64 7)), none⟩, ⟨some 102, .mv (.tmp 22), none⟩, ⟨some 103, .lenL (.tmp 102), none⟩, ⟨some 104, .call 21 [.tmp 101, .tmp 103], none⟩, ⟨some 105, .load true 7 (.tmp 19), none⟩, ⟨some 106, .iaddr 7 (.tmp 99) (.tmp 104), none⟩, ⟨none, .store 7 (.tmp 106) (.tmp 105), none⟩] [5, 8] [0, 0, 2, 0, 8, 30, 0, 127, 255] [])
 (.reg [⟨some 107, .mv (.tmp 22), none⟩, ⟨some 108, .faddr 6 (.tmp 18), none⟩, ⟨none, .store 1 (.tmp 108) (.tmp 107), none⟩])))
 .skip))
 (.seq (.reg [⟨some 109, .load true 2 (.tmp 13), none⟩, ⟨some 110, .load true 3 (.tmp 14), none⟩, ⟨some 111, .load true 7 (.tmp 18), none⟩, ⟨some 112, .call 16 [.tmp 109, .tmp 110, .tmp 111], none⟩, ⟨some 12, .mv (.tmp 112), none⟩])
 .ret)))))))))))))
def ac4 : AFun := ⟨6, 113, ab4, [(.tmp 12)]⟩
theorem cf4 : compF Try.prog Try.f4 = some ac4 := by kernel_rfl
theorem cl4 : callable Try.prog 4 = true := by kernel_rfl
theorem fn4 : Try.prog.funcs[4]? = some Try.f4 := by kernel_rfl
end Go.Proofs.Ytcdbpmmomgehfaa.Va
