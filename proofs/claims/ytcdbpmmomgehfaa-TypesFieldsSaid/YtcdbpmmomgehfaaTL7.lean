/- Functions of the program as resolved code (printed by gen.py from the kernel's own value). Conditions: none. -/
import Derived.Test.YtcdbpmmomgehfaaProg
import Derived.Test.YtcdbpmmomgehfaaVaF
import Derived.KernelRfl
set_option maxRecDepth 100000
set_option maxHeartbeats 4000000
set_option linter.all false
namespace Go.Proofs.Ytcdbpmmomgehfaa.Va
open Go.Proofs
/- chancel/chancellaw11.TypesFields -/
def ab7 : ACode := (.seq (.reg [⟨some 10, .mv (.con (.bool false)), none⟩])
 (.seq (.seq (.reg [⟨some 25, .call 11 [], none⟩, ⟨some 26, .un .not (.tmp 25), none⟩])
 (.cond (.tmp 26)
 (.seq (.reg [⟨some 10, .mv (.con (.bool false)), none⟩])
 .ret)
 .skip))
 (.seq (.reg [⟨some 27, .mv (.tmp 0), none⟩, ⟨some 28, .mv (.tmp 1), none⟩, ⟨some 29, .call 13 [.tmp 27, .tmp 28], none⟩, ⟨some 11, .alloc [.nils, .nils], none⟩, ⟨none, .store 2 (.tmp 11) (.tmp 29), none⟩])
 (.seq (.reg [⟨some 31, .load true 2 (.tmp 11), none⟩, ⟨some 32, .mv (.tmp 2), none⟩, ⟨some 33, .call 15 [.tmp 31, .tmp 32], none⟩, ⟨some 30, .mv (.tmp 33), none⟩, ⟨some 34, .ext (.tmp 30) 0, none⟩, ⟨some 35, .ext (.tmp 30) 1, none⟩, ⟨some 12, .alloc [.str [], .str [], .str []], none⟩, ⟨none, .store 3 (.tmp 12) (.tmp 34), none⟩, ⟨some 13, .mv (.tmp 35), none⟩])
 (.seq (.seq (.reg [⟨some 36, .mv (.tmp 13), none⟩, ⟨some 37, .un .not (.tmp 36), none⟩])
 (.cond (.tmp 37)
 (.seq (.reg [⟨some 10, .mv (.con (.bool true)), none⟩])
 .ret)
 .skip))
 (.seq (.dreg [⟨some 38, .faddr 0 (.tmp 11), none⟩, ⟨some 39, .load false 1 (.tmp 38), none⟩, ⟨some 40, .mv (.tmp 3), none⟩, ⟨some 41, .faddr 0 (.tmp 11), none⟩, ⟨some 42, .load false 1 (.tmp 41), none⟩, ⟨some 43, .lenL (.tmp 42), none⟩, ⟨some 44, .call 21 [.tmp 40, .tmp 43], none⟩, ⟨some 45, .iaddr 3 (.tmp 39) (.tmp 44), none⟩, ⟨some 46, .load true 3 (.tmp 45), none⟩, ⟨some 14, .alloc [.str [], .nils, .nils], none⟩, ⟨none, .store 3 (.tmp 14) (.tmp 46), none⟩] [6, 10] [0, 1, 0, 0, 8, 24, 60, 127, 255, 0, 1023] [9])
 (.seq (.reg [⟨some 47, .bslice 1 7 [.str []] [(0, 1, .con (.str [97])), (1, 1, .con (.str [97, 103, 101])), (2, 1, .con (.str [105, 102])), (3, 1, .con (.str [99, 111, 110, 116, 97, 105, 110, 115])), (4, 1, .con (.str [112, 114, 105, 110, 99, 105, 112, 97, 108])), (5, 1, .con (.str [95, 120])), (6, 1, .con (.str [110, 97, 109, 101]))], none⟩, ⟨some 48, .mv (.tmp 4), none⟩, ⟨some 49, .call 21 [.tmp 48, .con (.int .i64 7)], none⟩, ⟨some 50, .iaddr 1 (.tmp 47) (.tmp 49), none⟩, ⟨some 51, .load false 1 (.tmp 50), none⟩, ⟨some 15, .mv (.tmp 51), none⟩])
 (.seq (.reg [⟨some 52, .faddr 0 (.tmp 12), none⟩, ⟨some 53, .load false 1 (.tmp 52), none⟩, ⟨some 54, .faddr 1 (.tmp 12), none⟩, ⟨some 55, .load false 1 (.tmp 54), none⟩, ⟨some 56, .faddr 2 (.tmp 12), none⟩, ⟨some 57, .load false 1 (.tmp 56), none⟩, ⟨some 58, .build [.str [], .str [], .str []] [(0, 1, .tmp 53), (1, 1, .tmp 55), (2, 1, .tmp 57)], none⟩, ⟨some 16, .alloc [.str [], .str [], .str []], none⟩, ⟨none, .store 3 (.tmp 16) (.tmp 58), none⟩])
 (.seq (.reg [⟨some 59, .faddr 0 (.tmp 14), none⟩, ⟨some 60, .load false 1 (.tmp 59), none⟩, ⟨some 61, .build [.str [], .str []] [(0, 1, .tmp 60), (1, 1, .con (.str [122]))], none⟩, ⟨some 62, .build [.int .i64 0, .bool false, .int .i64 0, .str [], .str [], .str [], .nils] [(0, 1, .con (.int .i64 4)), (4, 2, .tmp 61)], none⟩, ⟨some 17, .alloc [.int .i64 0, .bool false, .int .i64 0, .str [], .str [], .str [], .nils], none⟩, ⟨none, .store 7 (.tmp 17) (.tmp 62), none⟩])
 (.seq (.reg [⟨some 64, .load true 2 (.tmp 11), none⟩, ⟨some 65, .load true 3 (.tmp 16), none⟩, ⟨some 66, .mv (.tmp 15), none⟩, ⟨some 67, .load true 7 (.tmp 17), none⟩, ⟨some 68, .bslice 7 1 [.int .i64 0, .bool false, .int .i64 0, .str [], .str [], .str [], .nils] [(0, 7, .tmp 67)], none⟩, ⟨some 69, .build [.int .i64 0, .bool false, .int .i64 0, .str [], .str [], .str [], .nils] [(0, 1, .con (.int .i64 7)), (3, 1, .tmp 66), (6, 1, .tmp 68)], none⟩, ⟨some 70, .call 20 [.tmp 64, .tmp 65, .tmp 69], none⟩, ⟨some 63, .mv (.tmp 70), none⟩, ⟨some 71, .ext (.tmp 63) 0, none⟩, ⟨some 72, .ext (.tmp 63) 1, none⟩, ⟨some 18, .alloc [.int .i64 0, .int .i64 0, .str []], none⟩, ⟨none, .store 3 (.tmp 18) (.tmp 71), none⟩, ⟨some 19, .mv (.tmp 72), none⟩])
 (.seq (.reg [⟨some 74, .load true 2 (.tmp 11), none⟩, ⟨some 75, .load true 3 (.tmp 16), none⟩, ⟨some 76, .mv (.tmp 15), none⟩, ⟨some 77, .load true 7 (.tmp 17), none⟩, ⟨some 78, .bslice 7 1 [.int .i64 0, .bool false, .int .i64 0, .str [], .str [], .str [], .nils] [(0, 7, .tmp 77)], none⟩, ⟨some 79, .build [.int .i64 0, .bool false, .int .i64 0, .str [], .str [], .str [], .nils] [(0, 1, .con (.int .i64 8)), (3, 1, .tmp 76), (6, 1, .tmp 78)], none⟩, ⟨some 80, .call 20 [.tmp 74, .tmp 75, .tmp 79], none⟩, ⟨some 73, .mv (.tmp 80), none⟩, ⟨some 81, .ext (.tmp 73) 0, none⟩, ⟨some 82, .ext (.tmp 73) 1, none⟩, ⟨some 20, .alloc [.int .i64 0, .int .i64 0, .str []], none⟩, ⟨none, .store 3 (.tmp 20) (.tmp 81), none⟩, ⟨some 21, .mv (.tmp 82), none⟩])
 (.seq (.reg [⟨some 84, .load true 2 (.tmp 11), none⟩, ⟨some 85, .load true 3 (.tmp 16), none⟩, ⟨some 86, .mv (.tmp 15), none⟩, ⟨some 87, .build [.int .i64 0, .bool false, .int .i64 0, .str [], .str [], .str [], .nils] [(0, 1, .con (.int .i64 5)), (3, 1, .con (.str [97, 99, 116, 105, 111, 110]))], none⟩, ⟨some 88, .bslice 7 1 [.int .i64 0, .bool false, .int .i64 0, .str [], .str [], .str [], .nils] [(0, 7, .tmp 87)], none⟩, ⟨some 89, .build [.int .i64 0, .bool false, .int .i64 0, .str [], .str [], .str [], .nils] [(0, 1, .con (.int .i64 7)), (3, 1, .tmp 86), (6, 1, .tmp 88)], none⟩, ⟨some 90, .call 20 [.tmp 84, .tmp 85, .tmp 89], none⟩, ⟨some 83, .mv (.tmp 90), none⟩, ⟨some 91, .ext (.tmp 83) 0, none⟩, ⟨some 92, .ext (.tmp 83) 1, none⟩, ⟨some 22, .alloc [.int .i64 0, .int .i64 0, .str []], none⟩, ⟨none, .store 3 (.tmp 22) (.tmp 91), none⟩, ⟨some 23, .mv (.tmp 92), none⟩])
 (.seq (.seq (.reg [⟨some 93, .mv (.tmp 21), none⟩, ⟨some 94, .bin .neq .plain (.tmp 93) (.con (.int .i64 0)), none⟩, ⟨some 95, .mv (.tmp 94), none⟩, ⟨some 96, .faddr 0 (.tmp 20), some (95, false)⟩, ⟨some 97, .load false 1 (.tmp 96), some (95, false)⟩, ⟨some 98, .bin .neq .plain (.tmp 97) (.con (.int .i64 1)), some (95, false)⟩, ⟨some 99, .pick (.tmp 95) (.con (.bool true)) (.tmp 98), none⟩, ⟨some 100, .mv (.tmp 99), none⟩, ⟨some 101, .mv (.tmp 23), some (100, false)⟩, ⟨some 102, .bin .neq .plain (.tmp 101) (.con (.int .i64 15)), some (100, false)⟩, ⟨some 103, .pick (.tmp 100) (.con (.bool true)) (.tmp 102), none⟩])
 (.cond (.tmp 103)
 (.seq (.reg [⟨some 10, .mv (.con (.bool false)), none⟩])
 .ret)
 .skip))
 (.seq (.seq (.reg [⟨some 24, .mv (.con (.int .i64 0)), none⟩])
 (.block 0
 (.loop (.seq (.seq (.reg [⟨some 104, .mv (.tmp 24), none⟩, ⟨some 105, .faddr 2 (.tmp 14), none⟩, ⟨some 106, .load false 1 (.tmp 105), none⟩, ⟨some 107, .lenL (.tmp 106), none⟩, ⟨some 108, .bin .lss .plain (.tmp 104) (.tmp 107), none⟩])
 (.cond (.tmp 108)
 .skip
 (.exit 0)))
 (.seq (.block 1
 (.seq (.reg [⟨some 111, .faddr 2 (.tmp 14), none⟩, ⟨some 112, .load false 1 (.tmp 111), none⟩, ⟨some 113, .mv (.tmp 24), none⟩, ⟨some 114, .iaddr 4 (.tmp 112) (.tmp 113), none⟩, ⟨some 115, .faddr 0 (.tmp 114), none⟩, ⟨some 116, .load false 1 (.tmp 115), none⟩, ⟨some 117, .mv (.tmp 15), none⟩, ⟨some 118, .bin .eql .plain (.tmp 116) (.tmp 117), none⟩])
 (.cond (.tmp 118)
 (.seq (.dreg [⟨some 119, .mv (.tmp 19), none⟩, ⟨some 120, .bin .eql .plain (.tmp 119) (.con (.int .i64 0)), none⟩, ⟨some 121, .mv (.tmp 120), none⟩, ⟨some 122, .load true 3 (.tmp 18), some (121, true)⟩, ⟨some 123, .faddr 2 (.tmp 14), some (121, true)⟩, ⟨some 124, .load false 1 (.tmp 123), some (121, true)⟩, ⟨some 125, .mv (.tmp 24), some (121, true)⟩, ⟨some 126, .iaddr 4 (.tmp 124) (.tmp 125), some (121, true)⟩, ⟨some 127, .faddr 1 (.tmp 126), some (121, true)⟩, ⟨some 128, .load true 3 (.tmp 127), some (121, true)⟩, ⟨some 129, .bin .eql (.agg [.i, .i, .s]) (.tmp 122) (.tmp 128), some (121, true)⟩, ⟨some 130, .pick (.tmp 121) (.tmp 129) (.con (.bool false)), none⟩, ⟨some 10, .mv (.tmp 130), none⟩] [] [0, 1, 3, 7, 7, 23, 7, 119, 247, 503, 1023, 2047, 4095] [])
 .ret)
 .skip)))
 (.reg [⟨some 109, .mv (.tmp 24), none⟩, ⟨some 110, .bin .add .plain (.tmp 109) (.con (.int .i64 1)), none⟩, ⟨some 24, .mv (.tmp 110), none⟩]))))))
 (.seq (.reg [⟨some 131, .mv (.tmp 19), none⟩, ⟨some 132, .bin .eql .plain (.tmp 131) (.con (.int .i64 15)), none⟩, ⟨some 10, .mv (.tmp 132), none⟩])
 .ret)))))))))))))))
def ac7 : AFun := ⟨5, 133, ab7, [(.tmp 10)]⟩
theorem cf7 : compF Try.prog Try.f7 = some ac7 := by kernel_rfl
theorem cl7 : callable Try.prog 7 = true := by kernel_rfl
theorem fn7 : Try.prog.funcs[7]? = some Try.f7 := by kernel_rfl
end Go.Proofs.Ytcdbpmmomgehfaa.Va
