/- Functions of the program as resolved code (printed by gen.py from the kernel's own value). Conditions: none. -/
import Derived.Test.YtcdbpmmomgehfaaProg
import Derived.Test.YtcdbpmmomgehfaaVaF
import Derived.KernelRfl
set_option maxRecDepth 100000
set_option maxHeartbeats 4000000
set_option linter.all false
namespace Go.Proofs.Ytcdbpmmomgehfaa.Va
open Go.Proofs
/- chancel/chancellaw11.TypesEnvs -/
def ab8 : ACode := (.seq (.reg [⟨some 8, .mv (.con (.bool false)), none⟩])
 (.seq (.seq (.reg [⟨some 18, .call 11 [], none⟩, ⟨some 19, .un .not (.tmp 18), none⟩])
 (.cond (.tmp 19)
 (.seq (.reg [⟨some 8, .mv (.con (.bool false)), none⟩])
 .ret)
 .skip))
 (.seq (.reg [⟨some 20, .mv (.tmp 0), none⟩, ⟨some 21, .mv (.tmp 1), none⟩, ⟨some 22, .call 13 [.tmp 20, .tmp 21], none⟩, ⟨some 9, .alloc [.nils, .nils], none⟩, ⟨none, .store 2 (.tmp 9) (.tmp 22), none⟩])
 (.seq (.reg [⟨some 23, .load true 2 (.tmp 9), none⟩, ⟨some 24, .build [.bool false, .int .i64 0, .str [], .str [], .int .i64 0, .str [], .str [], .int .i64 0, .str [], .str [], .nils] [], none⟩, ⟨some 25, .call 22 [.tmp 23, .tmp 24], none⟩, ⟨some 10, .mv (.tmp 25), none⟩])
 (.seq (.reg [⟨some 11, .mv (.con (.int .i64 0)), none⟩])
 (.seq (.seq (.reg [⟨some 12, .mv (.con (.int .i64 0)), none⟩])
 (.block 0
 (.loop (.seq (.seq (.reg [⟨some 26, .mv (.tmp 12), none⟩, ⟨some 27, .faddr 1 (.tmp 9), none⟩, ⟨some 28, .load false 1 (.tmp 27), none⟩, ⟨some 29, .lenL (.tmp 28), none⟩, ⟨some 30, .bin .lss .plain (.tmp 26) (.tmp 29), none⟩])
 (.cond (.tmp 30)
 .skip
 (.exit 0)))
 (.seq (.block 1
 (.dreg [⟨some 33, .mv (.tmp 11), none⟩, ⟨some 34, .faddr 1 (.tmp 9), none⟩, ⟨some 35, .load false 1 (.tmp 34), none⟩, ⟨some 36, .mv (.tmp 12), none⟩, ⟨some 37, .iaddr 3 (.tmp 35) (.tmp 36), none⟩, ⟨some 38, .faddr 1 (.tmp 37), none⟩, ⟨some 39, .load false 1 (.tmp 38), none⟩, ⟨some 40, .lenL (.tmp 39), none⟩, ⟨some 41, .faddr 1 (.tmp 9), none⟩, ⟨some 42, .load false 1 (.tmp 41), none⟩, ⟨some 43, .mv (.tmp 12), none⟩, ⟨some 44, .iaddr 3 (.tmp 42) (.tmp 43), none⟩, ⟨some 45, .faddr 2 (.tmp 44), none⟩, ⟨some 46, .load false 1 (.tmp 45), none⟩, ⟨some 47, .lenL (.tmp 46), none⟩, ⟨some 48, .bin .mul .plain (.tmp 40) (.tmp 47), none⟩, ⟨some 49, .bin .add .plain (.tmp 33) (.tmp 48), none⟩, ⟨some 11, .mv (.tmp 49), none⟩] [] [0, 0, 2, 0, 14, 30, 62, 126, 0, 256, 0, 1792, 3840, 7936, 16128, 32766, 65535, 131071] []))
 (.reg [⟨some 31, .mv (.tmp 12), none⟩, ⟨some 32, .bin .add .plain (.tmp 31) (.con (.int .i64 1)), none⟩, ⟨some 12, .mv (.tmp 32), none⟩]))))))
 (.seq (.reg [⟨some 50, .mv (.tmp 2), none⟩, ⟨some 51, .mv (.tmp 3), none⟩, ⟨some 52, .call 23 [.tmp 50, .tmp 51], none⟩, ⟨some 13, .alloc [.str [], .str []], none⟩, ⟨none, .store 2 (.tmp 13) (.tmp 52), none⟩])
 (.seq (.reg [⟨some 53, .load true 2 (.tmp 9), none⟩, ⟨some 54, .load true 2 (.tmp 13), none⟩, ⟨some 55, .build [.int .i64 0, .str [], .str []] [(0, 1, .con (.int .i64 2)), (1, 2, .tmp 54)], none⟩, ⟨some 56, .load true 2 (.tmp 13), none⟩, ⟨some 57, .build [.int .i64 0, .str [], .str []] [(0, 1, .con (.int .i64 2)), (1, 2, .tmp 56)], none⟩, ⟨some 58, .build [.bool false, .int .i64 0, .str [], .str [], .int .i64 0, .str [], .str [], .int .i64 0, .str [], .str [], .nils] [(1, 3, .tmp 55), (7, 3, .tmp 57)], none⟩, ⟨some 59, .call 22 [.tmp 53, .tmp 58], none⟩, ⟨some 14, .mv (.tmp 59), none⟩])
 (.seq (.reg [⟨some 60, .load true 2 (.tmp 9), none⟩, ⟨some 61, .load true 2 (.tmp 13), none⟩, ⟨some 62, .build [.int .i64 0, .str [], .str []] [(0, 1, .con (.int .i64 1)), (1, 2, .tmp 61)], none⟩, ⟨some 63, .build [.bool false, .int .i64 0, .str [], .str [], .int .i64 0, .str [], .str [], .int .i64 0, .str [], .str [], .nils] [(1, 3, .tmp 62)], none⟩, ⟨some 64, .call 22 [.tmp 60, .tmp 63], none⟩, ⟨some 15, .mv (.tmp 64), none⟩])
 (.seq (.reg [⟨some 16, .mv (.con (.int .i64 0)), none⟩])
 (.seq (.seq (.reg [⟨some 17, .mv (.con (.int .i64 0)), none⟩])
 (.block 2
 (.loop (.seq (.seq (.reg [⟨some 65, .mv (.tmp 17), none⟩, ⟨some 66, .mv (.tmp 10), none⟩, ⟨some 67, .lenL (.tmp 66), none⟩, ⟨some 68, .bin .lss .plain (.tmp 65) (.tmp 67), none⟩])
 (.cond (.tmp 68)
 .skip
 (.exit 2)))
 (.seq (.block 3
 (.seq (.dreg [⟨some 71, .mv (.tmp 10), none⟩, ⟨some 72, .mv (.tmp 17), none⟩, ⟨some 73, .iaddr 3 (.tmp 71) (.tmp 72), none⟩, ⟨some 74, .faddr 0 (.tmp 73), none⟩, ⟨some 75, .load false 1 (.tmp 74), none⟩, ⟨some 76, .faddr 0 (.tmp 13), none⟩, ⟨some 77, .load false 1 (.tmp 76), none⟩, ⟨some 78, .bin .eql .plain (.tmp 75) (.tmp 77), none⟩] [] [0, 0, 3, 7, 15, 0, 32, 127] [])
 (.cond (.tmp 78)
 (.seq (.seq (.dreg [⟨some 79, .mv (.tmp 16), none⟩, ⟨some 80, .mv (.tmp 15), none⟩, ⟨some 81, .lenL (.tmp 80), none⟩, ⟨some 82, .bin .geq .plain (.tmp 79) (.tmp 81), none⟩, ⟨some 83, .mv (.tmp 82), none⟩, ⟨some 84, .mv (.tmp 15), some (83, false)⟩, ⟨some 85, .mv (.tmp 16), some (83, false)⟩, ⟨some 86, .iaddr 3 (.tmp 84) (.tmp 85), some (83, false)⟩, ⟨some 87, .load true 3 (.tmp 86), some (83, false)⟩, ⟨some 88, .mv (.tmp 10), some (83, false)⟩, ⟨some 89, .mv (.tmp 17), some (83, false)⟩, ⟨some 90, .iaddr 3 (.tmp 88) (.tmp 89), some (83, false)⟩, ⟨some 91, .load true 3 (.tmp 90), some (83, false)⟩, ⟨some 92, .bin .neq (.agg [.s, .s, .s]) (.tmp 87) (.tmp 91), some (83, false)⟩, ⟨some 93, .pick (.tmp 83) (.con (.bool true)) (.tmp 92), none⟩] [] [0, 0, 2, 7, 15, 31, 31, 127, 255, 31, 31, 1567, 3615, 8191, 16383] [])
 (.cond (.tmp 93)
 (.seq (.reg [⟨some 8, .mv (.con (.bool false)), none⟩])
 .ret)
 .skip))
 (.reg [⟨some 94, .mv (.tmp 16), none⟩, ⟨some 95, .bin .add .plain (.tmp 94) (.con (.int .i64 1)), none⟩, ⟨some 16, .mv (.tmp 95), none⟩]))
 .skip)))
 (.reg [⟨some 69, .mv (.tmp 17), none⟩, ⟨some 70, .bin .add .plain (.tmp 69) (.con (.int .i64 1)), none⟩, ⟨some 17, .mv (.tmp 70), none⟩]))))))
 (.seq (.reg [⟨some 96, .mv (.tmp 10), none⟩, ⟨some 97, .lenL (.tmp 96), none⟩, ⟨some 98, .mv (.tmp 11), none⟩, ⟨some 99, .bin .eql .plain (.tmp 97) (.tmp 98), none⟩, ⟨some 100, .mv (.tmp 99), none⟩, ⟨some 101, .mv (.tmp 14), some (100, true)⟩, ⟨some 102, .lenL (.tmp 101), some (100, true)⟩, ⟨some 103, .mv (.tmp 11), some (100, true)⟩, ⟨some 104, .bin .eql .plain (.tmp 102) (.tmp 103), some (100, true)⟩, ⟨some 105, .pick (.tmp 100) (.tmp 104) (.con (.bool false)), none⟩, ⟨some 106, .mv (.tmp 105), none⟩, ⟨some 107, .mv (.tmp 16), some (106, true)⟩, ⟨some 108, .mv (.tmp 15), some (106, true)⟩, ⟨some 109, .lenL (.tmp 108), some (106, true)⟩, ⟨some 110, .bin .eql .plain (.tmp 107) (.tmp 109), some (106, true)⟩, ⟨some 111, .pick (.tmp 106) (.tmp 110) (.con (.bool false)), none⟩, ⟨some 8, .mv (.tmp 111), none⟩])
 .ret))))))))))))
def ac8 : AFun := ⟨4, 112, ab8, [(.tmp 8)]⟩
theorem cf8 : compF Try.prog Try.f8 = some ac8 := by kernel_rfl
theorem cl8 : callable Try.prog 8 = true := by kernel_rfl
theorem fn8 : Try.prog.funcs[8]? = some Try.f8 := by kernel_rfl
end Go.Proofs.Ytcdbpmmomgehfaa.Va
