/- Functions of the program as resolved code (printed by gen.py from the kernel's own value). Conditions: none. -/
import Derived.Test.YthobpdfchhihnaaProg
import Derived.Test.YthobpdfchhihnaaVaF
import Derived.KernelRfl
set_option maxRecDepth 100000
set_option maxHeartbeats 4000000
set_option linter.all false
namespace Go.Proofs.Ythobpdfchhihnaa.Va
open Go.Proofs
/- gosem.cut.init -/
def ab2 : ACode := (.reg [⟨some 0, .call 1 [], none⟩])
def ac2 : AFun := ⟨0, 1, ab2, []⟩
theorem cf2 : compF Try.prog Try.f2 = some ac2 := by kernel_rfl
theorem cl2 : callable Try.prog 2 = true := by kernel_rfl
theorem fn2 : Try.prog.funcs[2]? = some Try.f2 := by kernel_rfl
/- chancel/chancellaw7.PackFrames -/
def ab3 : ACode := (.seq (.reg [⟨some 6, .mv (.con (.bool false)), none⟩])
 (.seq (.seq (.reg [⟨some 19, .call 6 [], none⟩, ⟨some 20, .un .not (.tmp 19), none⟩])
 (.cond (.tmp 20)
 (.seq (.reg [⟨some 6, .mv (.con (.bool false)), none⟩])
 .ret)
 .skip))
 (.seq (.seq (.reg [⟨some 21, .mv (.tmp 0), none⟩, ⟨some 22, .lenL (.tmp 21), none⟩, ⟨some 23, .bin .gtr .plain (.tmp 22) (.con (.int .i64 3000)), none⟩])
 (.cond (.tmp 23)
 (.seq (.reg [⟨some 6, .mv (.con (.bool true)), none⟩])
 .ret)
 .skip))
 (.seq (.reg [⟨some 25, .mv (.tmp 0), none⟩, ⟨some 26, .call 7 [.tmp 25], none⟩, ⟨some 24, .mv (.tmp 26), none⟩, ⟨some 27, .ext (.tmp 24) 0, none⟩, ⟨some 28, .ext (.tmp 24) 1, none⟩, ⟨some 7, .mv (.tmp 27), none⟩, ⟨some 8, .mv (.tmp 28), none⟩])
 (.seq (.reg [⟨some 30, .mv (.tmp 0), none⟩, ⟨some 31, .call 8 [.tmp 30], none⟩, ⟨some 29, .mv (.tmp 31), none⟩, ⟨some 32, .ext (.tmp 29) 0, none⟩, ⟨some 33, .ext (.tmp 29) 1, none⟩, ⟨some 9, .mv (.tmp 32), none⟩, ⟨some 10, .mv (.tmp 33), none⟩])
 (.seq (.reg [⟨some 35, .mv (.tmp 7), none⟩, ⟨some 36, .call 9 [.tmp 35], none⟩, ⟨some 34, .mv (.tmp 36), none⟩, ⟨some 37, .ext (.tmp 34) 0, none⟩, ⟨some 38, .ext (.tmp 34) 1, none⟩, ⟨some 11, .mv (.tmp 37), none⟩, ⟨some 12, .mv (.tmp 38), none⟩])
 (.seq (.seq (.reg [⟨some 39, .mv (.tmp 7), none⟩, ⟨some 40, .cvBS (.tmp 39), none⟩, ⟨some 41, .mv (.tmp 9), none⟩, ⟨some 42, .cvBS (.tmp 41), none⟩, ⟨some 43, .bin .neq .plain (.tmp 40) (.tmp 42), none⟩, ⟨some 44, .mv (.tmp 43), none⟩, ⟨some 45, .mv (.tmp 8), some (44, false)⟩, ⟨some 46, .mv (.tmp 10), some (44, false)⟩, ⟨some 47, .bin .neq .plain (.tmp 45) (.tmp 46), some (44, false)⟩, ⟨some 48, .pick (.tmp 44) (.con (.bool true)) (.tmp 47), none⟩, ⟨some 49, .mv (.tmp 48), none⟩, ⟨some 50, .mv (.tmp 12), some (49, false)⟩, ⟨some 51, .bin .neq .plain (.tmp 50) (.con (.int .i64 0)), some (49, false)⟩, ⟨some 52, .pick (.tmp 49) (.con (.bool true)) (.tmp 51), none⟩, ⟨some 53, .mv (.tmp 52), none⟩, ⟨some 54, .mv (.tmp 11), some (53, false)⟩, ⟨some 55, .cvBS (.tmp 54), some (53, false)⟩, ⟨some 56, .mv (.tmp 0), some (53, false)⟩, ⟨some 57, .cvBS (.tmp 56), some (53, false)⟩, ⟨some 58, .bin .neq .plain (.tmp 55) (.tmp 57), some (53, false)⟩, ⟨some 59, .pick (.tmp 53) (.con (.bool true)) (.tmp 58), none⟩, ⟨some 60, .mv (.tmp 59), none⟩, ⟨some 61, .mv (.tmp 0), some (60, false)⟩, ⟨some 62, .call 10 [.tmp 61], some (60, false)⟩, ⟨some 63, .mv (.tmp 0), some (60, false)⟩, ⟨some 64, .call 11 [.tmp 63], some (60, false)⟩, ⟨some 65, .bin .neq .plain (.tmp 62) (.tmp 64), some (60, false)⟩, ⟨some 66, .pick (.tmp 60) (.con (.bool true)) (.tmp 65), none⟩])
 (.cond (.tmp 66)
 (.seq (.reg [⟨some 6, .mv (.con (.bool false)), none⟩])
 .ret)
 .skip))
 (.seq (.reg [⟨some 68, .mv (.tmp 0), none⟩, ⟨some 69, .call 9 [.tmp 68], none⟩, ⟨some 67, .mv (.tmp 69), none⟩, ⟨some 70, .ext (.tmp 67) 0, none⟩, ⟨some 71, .ext (.tmp 67) 1, none⟩, ⟨some 13, .mv (.tmp 70), none⟩, ⟨some 14, .mv (.tmp 71), none⟩])
 (.seq (.reg [⟨some 73, .mv (.tmp 0), none⟩, ⟨some 74, .call 12 [.tmp 73], none⟩, ⟨some 72, .mv (.tmp 74), none⟩, ⟨some 75, .ext (.tmp 72) 0, none⟩, ⟨some 76, .ext (.tmp 72) 1, none⟩, ⟨some 15, .mv (.tmp 75), none⟩, ⟨some 16, .mv (.tmp 76), none⟩])
 (.seq (.seq (.reg [⟨some 77, .mv (.tmp 13), none⟩, ⟨some 78, .cvBS (.tmp 77), none⟩, ⟨some 79, .mv (.tmp 15), none⟩, ⟨some 80, .cvBS (.tmp 79), none⟩, ⟨some 81, .bin .neq .plain (.tmp 78) (.tmp 80), none⟩, ⟨some 82, .mv (.tmp 81), none⟩, ⟨some 83, .mv (.tmp 14), some (82, false)⟩, ⟨some 84, .mv (.tmp 16), some (82, false)⟩, ⟨some 85, .bin .neq .plain (.tmp 83) (.tmp 84), some (82, false)⟩, ⟨some 86, .pick (.tmp 82) (.con (.bool true)) (.tmp 85), none⟩, ⟨some 87, .mv (.tmp 86), none⟩, ⟨some 88, .mv (.tmp 2), some (87, false)⟩, ⟨some 89, .bin .eql .plain (.tmp 88) (.con (.int .u8 0)), some (87, false)⟩, ⟨some 90, .pick (.tmp 87) (.con (.bool true)) (.tmp 89), none⟩])
 (.cond (.tmp 90)
 (.seq (.reg [⟨some 91, .mv (.tmp 13), none⟩, ⟨some 92, .cvBS (.tmp 91), none⟩, ⟨some 93, .mv (.tmp 15), none⟩, ⟨some 94, .cvBS (.tmp 93), none⟩, ⟨some 95, .bin .eql .plain (.tmp 92) (.tmp 94), none⟩, ⟨some 96, .mv (.tmp 95), none⟩, ⟨some 97, .mv (.tmp 14), some (96, true)⟩, ⟨some 98, .mv (.tmp 16), some (96, true)⟩, ⟨some 99, .bin .eql .plain (.tmp 97) (.tmp 98), some (96, true)⟩, ⟨some 100, .pick (.tmp 96) (.tmp 99) (.con (.bool false)), none⟩, ⟨some 6, .mv (.tmp 100), none⟩])
 .ret)
 .skip))
 (.seq (.reg [⟨some 101, .mv (.tmp 7), none⟩, ⟨some 102, .mv (.tmp 1), none⟩, ⟨some 103, .mv (.tmp 7), none⟩, ⟨some 104, .lenL (.tmp 103), none⟩, ⟨some 105, .call 13 [.tmp 102, .tmp 104], none⟩, ⟨some 106, .iaddr 1 (.tmp 101) (.tmp 105), none⟩, ⟨some 107, .load false 1 (.tmp 106), none⟩, ⟨some 108, .mv (.tmp 2), none⟩, ⟨some 109, .bin .xor .plain (.tmp 107) (.tmp 108), none⟩, ⟨some 110, .iaddr 1 (.tmp 101) (.tmp 105), none⟩, ⟨none, .store 1 (.tmp 110) (.tmp 109), none⟩])
 (.seq (.reg [⟨some 112, .mv (.tmp 7), none⟩, ⟨some 113, .call 9 [.tmp 112], none⟩, ⟨some 111, .mv (.tmp 113), none⟩, ⟨some 114, .ext (.tmp 111) 0, none⟩, ⟨some 115, .ext (.tmp 111) 1, none⟩, ⟨some 17, .mv (.tmp 114), none⟩, ⟨some 18, .mv (.tmp 115), none⟩])
 (.seq (.reg [⟨some 116, .mv (.tmp 18), none⟩, ⟨some 117, .bin .eql .plain (.tmp 116) (.con (.int .i64 31)), none⟩, ⟨some 6, .mv (.tmp 117), none⟩])
 .ret)))))))))))))
def ac3 : AFun := ⟨3, 118, ab3, [(.tmp 6)]⟩
theorem cf3 : compF Try.prog Try.f3 = some ac3 := by kernel_rfl
theorem cl3 : callable Try.prog 3 = true := by kernel_rfl
theorem fn3 : Try.prog.funcs[3]? = some Try.f3 := by kernel_rfl
/- chancel/chancellaw7.PackCmds -/
def ab4 : ACode := (.seq (.reg [⟨some 5, .box (.tmp 0), none⟩, ⟨some 10, .mv (.con (.bool false)), none⟩])
 (.seq (.seq (.reg [⟨some 25, .call 6 [], none⟩, ⟨some 26, .un .not (.tmp 25), none⟩])
 (.cond (.tmp 26)
 (.seq (.reg [⟨some 10, .mv (.con (.bool false)), none⟩])
 .ret)
 .skip))
 (.seq (.seq (.reg [⟨some 27, .faddr 3 (.tmp 5), none⟩, ⟨some 28, .load false 1 (.tmp 27), none⟩, ⟨some 29, .lenS (.tmp 28), none⟩, ⟨some 30, .bin .gtr .plain (.tmp 29) (.con (.int .i64 300)), none⟩, ⟨some 31, .mv (.tmp 30), none⟩, ⟨some 32, .faddr 4 (.tmp 5), some (31, false)⟩, ⟨some 33, .load false 1 (.tmp 32), some (31, false)⟩, ⟨some 34, .lenS (.tmp 33), some (31, false)⟩, ⟨some 35, .bin .gtr .plain (.tmp 34) (.con (.int .i64 1000)), some (31, false)⟩, ⟨some 36, .pick (.tmp 31) (.con (.bool true)) (.tmp 35), none⟩, ⟨some 37, .mv (.tmp 36), none⟩, ⟨some 38, .mv (.tmp 4), some (37, false)⟩, ⟨some 39, .lenL (.tmp 38), some (37, false)⟩, ⟨some 40, .bin .gtr .plain (.tmp 39) (.con (.int .i64 500)), some (37, false)⟩, ⟨some 41, .pick (.tmp 37) (.con (.bool true)) (.tmp 40), none⟩])
 (.cond (.tmp 41)
 (.seq (.reg [⟨some 10, .mv (.con (.bool true)), none⟩])
 .ret)
 .skip))
 (.seq (.reg [⟨some 43, .load true 5 (.tmp 5), none⟩, ⟨some 44, .call 14 [.tmp 43], none⟩, ⟨some 42, .mv (.tmp 44), none⟩, ⟨some 45, .ext (.tmp 42) 0, none⟩, ⟨some 46, .ext (.tmp 42) 1, none⟩, ⟨some 11, .mv (.tmp 45), none⟩, ⟨some 12, .mv (.tmp 46), none⟩])
 (.seq (.reg [⟨some 48, .load true 5 (.tmp 5), none⟩, ⟨some 49, .call 15 [.tmp 48], none⟩, ⟨some 47, .mv (.tmp 49), none⟩, ⟨some 50, .ext (.tmp 47) 0, none⟩, ⟨some 51, .ext (.tmp 47) 1, none⟩, ⟨some 13, .mv (.tmp 50), none⟩, ⟨some 14, .mv (.tmp 51), none⟩])
 (.seq (.seq (.reg [⟨some 52, .mv (.tmp 11), none⟩, ⟨some 53, .cvBS (.tmp 52), none⟩, ⟨some 54, .mv (.tmp 13), none⟩, ⟨some 55, .cvBS (.tmp 54), none⟩, ⟨some 56, .bin .neq .plain (.tmp 53) (.tmp 55), none⟩, ⟨some 57, .mv (.tmp 56), none⟩, ⟨some 58, .mv (.tmp 12), some (57, false)⟩, ⟨some 59, .mv (.tmp 14), some (57, false)⟩, ⟨some 60, .bin .neq .plain (.tmp 58) (.tmp 59), some (57, false)⟩, ⟨some 61, .pick (.tmp 57) (.con (.bool true)) (.tmp 60), none⟩])
 (.cond (.tmp 61)
 (.seq (.reg [⟨some 10, .mv (.con (.bool false)), none⟩])
 .ret)
 .skip))
 (.seq (.seq (.reg [⟨some 62, .mv (.tmp 12), none⟩, ⟨some 63, .bin .eql .plain (.tmp 62) (.con (.int .i64 0)), none⟩])
 (.cond (.tmp 63)
 (.seq (.reg [⟨some 65, .mv (.tmp 11), none⟩, ⟨some 66, .call 16 [.tmp 65], none⟩, ⟨some 64, .mv (.tmp 66), none⟩, ⟨some 67, .ext (.tmp 64) 0, none⟩, ⟨some 68, .ext (.tmp 64) 1, none⟩, ⟨some 15, .alloc [.int .i64 0, .int .i64 0, .int .i64 0, .str [], .str []], none⟩, ⟨none, .store 5 (.tmp 15) (.tmp 67), none⟩, ⟨some 16, .mv (.tmp 68), none⟩])
 (.seq (.seq (.reg [⟨some 69, .mv (.tmp 16), none⟩, ⟨some 70, .bin .neq .plain (.tmp 69) (.con (.int .i64 0)), none⟩, ⟨some 71, .mv (.tmp 70), none⟩, ⟨some 72, .load true 5 (.tmp 15), some (71, false)⟩, ⟨some 73, .load true 5 (.tmp 5), some (71, false)⟩, ⟨some 74, .bin .neq (.agg [.i, .i, .i, .s, .s]) (.tmp 72) (.tmp 73), some (71, false)⟩, ⟨some 75, .pick (.tmp 71) (.con (.bool true)) (.tmp 74), none⟩])
 (.cond (.tmp 75)
 (.seq (.reg [⟨some 10, .mv (.con (.bool false)), none⟩])
 .ret)
 .skip))
 (.seq (.reg [⟨some 76, .mv (.tmp 13), none⟩, ⟨some 77, .mv (.tmp 1), none⟩, ⟨some 78, .mv (.tmp 13), none⟩, ⟨some 79, .lenL (.tmp 78), none⟩, ⟨some 80, .call 13 [.tmp 77, .tmp 79], none⟩, ⟨some 81, .iaddr 1 (.tmp 76) (.tmp 80), none⟩, ⟨some 82, .load false 1 (.tmp 81), none⟩, ⟨some 83, .mv (.tmp 2), none⟩, ⟨some 84, .bin .add .plain (.tmp 82) (.tmp 83), none⟩, ⟨some 85, .iaddr 1 (.tmp 76) (.tmp 80), none⟩, ⟨none, .store 1 (.tmp 85) (.tmp 84), none⟩])
 (.seq (.reg [⟨some 86, .mv (.tmp 3), none⟩, ⟨some 87, .bin .rem .plain (.tmp 86) (.con (.int .i64 2)), none⟩, ⟨some 88, .bin .eql .plain (.tmp 87) (.con (.int .i64 1)), none⟩])
 (.cond (.tmp 88)
 (.reg [⟨some 89, .mv (.tmp 13), none⟩, ⟨some 90, .mv (.tmp 3), none⟩, ⟨some 91, .bin .quo .plain (.tmp 90) (.con (.int .i64 2)), none⟩, ⟨some 92, .mv (.tmp 13), none⟩, ⟨some 93, .lenL (.tmp 92), none⟩, ⟨some 94, .bin .add .plain (.tmp 93) (.con (.int .i64 1)), none⟩, ⟨some 95, .call 13 [.tmp 91, .tmp 94], none⟩, ⟨some 96, .slSl 1 (.tmp 89) none (some (.tmp 95)) none, none⟩, ⟨some 13, .mv (.tmp 96), none⟩])
 .skip)))))
 .skip))
 (.seq (.reg [⟨some 97, .mv (.tmp 13), none⟩, ⟨some 98, .bslice 1 0 [.int .u8 0] [], none⟩, ⟨some 99, .mv (.tmp 13), none⟩, ⟨some 100, .append 1 1 (.tmp 98) (.tmp 99), none⟩, ⟨some 101, .mv (.tmp 4), none⟩, ⟨some 102, .append 1 1 (.tmp 100) (.tmp 101), none⟩, ⟨some 103, .mv (.tmp 4), none⟩, ⟨some 104, .bslice 1 3 [.nils] [(0, 1, .tmp 97), (1, 1, .tmp 102), (2, 1, .tmp 103)], none⟩, ⟨some 17, .mv (.tmp 104), none⟩])
 (.seq (.seq (.reg [⟨some 18, .mv (.con (.int .i64 0)), none⟩])
 (.block 0
 (.loop (.seq (.seq (.reg [⟨some 105, .mv (.tmp 18), none⟩, ⟨some 106, .bin .lss .plain (.tmp 105) (.con (.int .i64 3)), none⟩])
 (.cond (.tmp 106)
 .skip
 (.exit 0)))
 (.seq (.block 1
 (.seq (.reg [⟨some 110, .bslice 1 0 [.int .u8 0] [], none⟩, ⟨some 111, .mv (.tmp 17), none⟩, ⟨some 112, .mv (.tmp 18), none⟩, ⟨some 113, .iaddr 1 (.tmp 111) (.tmp 112), none⟩, ⟨some 114, .load false 1 (.tmp 113), none⟩, ⟨some 115, .append 1 1 (.tmp 110) (.tmp 114), none⟩, ⟨some 116, .call 16 [.tmp 115], none⟩, ⟨some 109, .mv (.tmp 116), none⟩, ⟨some 117, .ext (.tmp 109) 0, none⟩, ⟨some 118, .ext (.tmp 109) 1, none⟩, ⟨some 19, .alloc [.int .i64 0, .int .i64 0, .int .i64 0, .str [], .str []], none⟩, ⟨none, .store 5 (.tmp 19) (.tmp 117), none⟩, ⟨some 20, .mv (.tmp 118), none⟩])
 (.seq (.reg [⟨some 120, .mv (.tmp 17), none⟩, ⟨some 121, .mv (.tmp 18), none⟩, ⟨some 122, .iaddr 1 (.tmp 120) (.tmp 121), none⟩, ⟨some 123, .load false 1 (.tmp 122), none⟩, ⟨some 124, .call 17 [.tmp 123], none⟩, ⟨some 119, .mv (.tmp 124), none⟩, ⟨some 125, .ext (.tmp 119) 0, none⟩, ⟨some 126, .ext (.tmp 119) 1, none⟩, ⟨some 21, .alloc [.int .i64 0, .int .i64 0, .int .i64 0, .str [], .str []], none⟩, ⟨none, .store 5 (.tmp 21) (.tmp 125), none⟩, ⟨some 22, .mv (.tmp 126), none⟩])
 (.seq (.seq (.reg [⟨some 127, .load true 5 (.tmp 19), none⟩, ⟨some 128, .load true 5 (.tmp 21), none⟩, ⟨some 129, .bin .neq (.agg [.i, .i, .i, .s, .s]) (.tmp 127) (.tmp 128), none⟩, ⟨some 130, .mv (.tmp 129), none⟩, ⟨some 131, .mv (.tmp 20), some (130, false)⟩, ⟨some 132, .mv (.tmp 22), some (130, false)⟩, ⟨some 133, .bin .neq .plain (.tmp 131) (.tmp 132), some (130, false)⟩, ⟨some 134, .pick (.tmp 130) (.con (.bool true)) (.tmp 133), none⟩])
 (.cond (.tmp 134)
 (.seq (.reg [⟨some 10, .mv (.con (.bool false)), none⟩])
 .ret)
 .skip))
 (.seq (.reg [⟨some 135, .mv (.tmp 22), none⟩, ⟨some 136, .bin .eql .plain (.tmp 135) (.con (.int .i64 0)), none⟩])
 (.cond (.tmp 136)
 (.seq (.reg [⟨some 138, .load true 5 (.tmp 19), none⟩, ⟨some 139, .call 14 [.tmp 138], none⟩, ⟨some 137, .mv (.tmp 139), none⟩, ⟨some 140, .ext (.tmp 137) 0, none⟩, ⟨some 141, .ext (.tmp 137) 1, none⟩, ⟨some 23, .mv (.tmp 140), none⟩, ⟨some 24, .mv (.tmp 141), none⟩])
 (.seq (.dreg [⟨some 142, .mv (.tmp 23), none⟩, ⟨some 143, .cvBS (.tmp 142), none⟩, ⟨some 144, .mv (.tmp 17), none⟩, ⟨some 145, .mv (.tmp 18), none⟩, ⟨some 146, .iaddr 1 (.tmp 144) (.tmp 145), none⟩, ⟨some 147, .load false 1 (.tmp 146), none⟩, ⟨some 148, .cvBS (.tmp 147), none⟩, ⟨some 149, .bin .neq .plain (.tmp 143) (.tmp 148), none⟩] [] [0, 1, 0, 0, 12, 28, 60, 127] [])
 (.cond (.tmp 149)
 (.seq (.reg [⟨some 10, .mv (.con (.bool false)), none⟩])
 .ret)
 .skip)))
 .skip))))))
 (.reg [⟨some 107, .mv (.tmp 18), none⟩, ⟨some 108, .bin .add .plain (.tmp 107) (.con (.int .i64 1)), none⟩, ⟨some 18, .mv (.tmp 108), none⟩]))))))
 (.seq (.reg [⟨some 10, .mv (.con (.bool true)), none⟩])
 .ret))))))))))
def ac4 : AFun := ⟨5, 150, ab4, [(.tmp 10)]⟩
theorem cf4 : compF Try.prog Try.f4 = some ac4 := by kernel_rfl
theorem cl4 : callable Try.prog 4 = true := by kernel_rfl
theorem fn4 : Try.prog.funcs[4]? = some Try.f4 := by kernel_rfl
/- chancel/chancellaw7.PackBounds -/
def ab5 : ACode := (.seq (.reg [⟨some 4, .mv (.con (.bool false)), none⟩])
 (.seq (.seq (.reg [⟨some 10, .call 6 [], none⟩, ⟨some 11, .un .not (.tmp 10), none⟩])
 (.cond (.tmp 11)
 (.seq (.reg [⟨some 4, .mv (.con (.bool false)), none⟩])
 .ret)
 .skip))
 (.seq (.reg [⟨some 12, .mv (.tmp 1), none⟩, ⟨some 13, .call 13 [.tmp 12, .con (.int .i64 4)], none⟩, ⟨some 1, .mv (.tmp 13), none⟩])
 (.seq (.reg [⟨some 14, .build [.int .i64 0, .int .i64 0, .int .i64 0, .str [], .str []] [(0, 1, .con (.int .i64 1)), (1, 1, .con (.int .i64 1)), (2, 1, .con (.int .i64 2))], none⟩, ⟨some 5, .alloc [.int .i64 0, .int .i64 0, .int .i64 0, .str [], .str []], none⟩, ⟨none, .store 5 (.tmp 5) (.tmp 14), none⟩])
 (.seq (.reg [⟨some 15, .build [.int .i64 0, .int .i64 0, .int .i64 0, .int .i64 0, .int .i64 0, .int .i64 0, .int .i64 0, .int .i64 0, .bool false, .nils, .nils, .nils, .nils, .nils] [(2, 1, .con (.int .i64 1))], none⟩, ⟨some 6, .alloc [.int .i64 0, .int .i64 0, .int .i64 0, .int .i64 0, .int .i64 0, .int .i64 0, .int .i64 0, .int .i64 0, .bool false, .nils, .nils, .nils, .nils, .nils], none⟩, ⟨none, .store 14 (.tmp 6) (.tmp 15), none⟩])
 (.seq (.reg [⟨some 7, .mv (.con (.int .i64 0)), none⟩])
 (.seq (.reg [⟨some 8, .mv (.con (.int .i64 0)), none⟩])
 (.seq (.seq (.reg [⟨some 16, .mv (.tmp 0), none⟩, ⟨some 17, .call 13 [.tmp 16, .con (.int .i64 7)], none⟩])
 (.block 0
 (.seq (.reg [⟨some 19, .bin .eql .plain (.tmp 17) (.con (.int .i64 0)), none⟩, ⟨some 18, .mv (.tmp 19), none⟩])
 (.cond (.tmp 18)
 (.seq (.reg [⟨some 20, .mv (.tmp 1), none⟩, ⟨some 21, .bin .add .plain (.con (.int .i64 11)) (.tmp 20), none⟩, ⟨some 22, .mkslice 1 1 [.int .u8 0] (.tmp 21) (.tmp 21), none⟩, ⟨some 23, .cvBS (.tmp 22), none⟩, ⟨some 24, .faddr 3 (.tmp 5), none⟩, ⟨none, .store 1 (.tmp 24) (.tmp 23), none⟩])
 (.seq (.reg [⟨some 26, .load true 5 (.tmp 5), none⟩, ⟨some 27, .call 14 [.tmp 26], none⟩, ⟨some 25, .mv (.tmp 27), none⟩, ⟨some 28, .ext (.tmp 25) 0, none⟩, ⟨some 29, .ext (.tmp 25) 1, none⟩, ⟨some 7, .mv (.tmp 29), none⟩])
 (.reg [⟨some 8, .mv (.con (.int .i64 5)), none⟩])))
 (.seq (.reg [⟨some 31, .bin .eql .plain (.tmp 17) (.con (.int .i64 1)), none⟩, ⟨some 30, .mv (.tmp 31), none⟩])
 (.cond (.tmp 30)
 (.seq (.reg [⟨some 32, .mv (.tmp 1), none⟩, ⟨some 33, .bin .add .plain (.con (.int .i64 599)) (.tmp 32), none⟩, ⟨some 34, .mkslice 1 1 [.int .u8 0] (.tmp 33) (.tmp 33), none⟩, ⟨some 35, .cvBS (.tmp 34), none⟩, ⟨some 36, .faddr 4 (.tmp 5), none⟩, ⟨none, .store 1 (.tmp 36) (.tmp 35), none⟩])
 (.seq (.reg [⟨some 38, .load true 5 (.tmp 5), none⟩, ⟨some 39, .call 14 [.tmp 38], none⟩, ⟨some 37, .mv (.tmp 39), none⟩, ⟨some 40, .ext (.tmp 37) 0, none⟩, ⟨some 41, .ext (.tmp 37) 1, none⟩, ⟨some 7, .mv (.tmp 41), none⟩])
 (.reg [⟨some 8, .mv (.con (.int .i64 5)), none⟩])))
 (.seq (.reg [⟨some 43, .bin .eql .plain (.tmp 17) (.con (.int .i64 2)), none⟩, ⟨some 42, .mv (.tmp 43), none⟩])
 (.cond (.tmp 42)
 (.seq (.reg [⟨some 44, .mv (.tmp 1), none⟩, ⟨some 45, .bin .add .plain (.con (.int .i64 6)) (.tmp 44), none⟩, ⟨some 46, .mkslice 8 1 [.int .i64 0] (.tmp 45) (.tmp 45), none⟩, ⟨some 47, .faddr 12 (.tmp 6), none⟩, ⟨none, .store 1 (.tmp 47) (.tmp 46), none⟩])
 (.seq (.reg [⟨some 49, .load true 14 (.tmp 6), none⟩, ⟨some 50, .call 18 [.tmp 49], none⟩, ⟨some 48, .mv (.tmp 50), none⟩, ⟨some 51, .ext (.tmp 48) 0, none⟩, ⟨some 52, .ext (.tmp 48) 1, none⟩, ⟨some 7, .mv (.tmp 52), none⟩])
 (.reg [⟨some 8, .mv (.con (.int .i64 4)), none⟩])))
 (.seq (.reg [⟨some 54, .bin .eql .plain (.tmp 17) (.con (.int .i64 3)), none⟩, ⟨some 53, .mv (.tmp 54), none⟩])
 (.cond (.tmp 53)
 (.seq (.reg [⟨some 55, .mv (.tmp 1), none⟩, ⟨some 56, .bin .add .plain (.con (.int .i64 63)) (.tmp 55), none⟩, ⟨some 9, .mv (.tmp 56), none⟩])
 (.seq (.dreg [⟨some 57, .mv (.tmp 9), none⟩, ⟨some 58, .mkslice 8 1 [.int .i64 0] (.tmp 57) (.tmp 57), none⟩, ⟨some 59, .mv (.tmp 9), none⟩, ⟨some 60, .mkslice 8 1 [.int .i64 0] (.tmp 59) (.tmp 59), none⟩, ⟨some 61, .mv (.tmp 9), none⟩, ⟨some 62, .mkslice 24 1 [.nils] (.tmp 61) (.tmp 61), none⟩, ⟨some 63, .faddr 9 (.tmp 6), none⟩, ⟨none, .store 1 (.tmp 63) (.tmp 58), none⟩, ⟨some 64, .faddr 10 (.tmp 6), none⟩, ⟨none, .store 1 (.tmp 64) (.tmp 60), none⟩, ⟨some 65, .faddr 11 (.tmp 6), none⟩, ⟨none, .store 1 (.tmp 65) (.tmp 62), none⟩] [7, 9, 11] [0, 1, 0, 4, 0, 16, 3, 67, 207, 463, 1023, 2047] [1, 3, 5])
 (.seq (.reg [⟨some 67, .load true 14 (.tmp 6), none⟩, ⟨some 68, .call 18 [.tmp 67], none⟩, ⟨some 66, .mv (.tmp 68), none⟩, ⟨some 69, .ext (.tmp 66) 0, none⟩, ⟨some 70, .ext (.tmp 66) 1, none⟩, ⟨some 7, .mv (.tmp 70), none⟩])
 (.reg [⟨some 8, .mv (.con (.int .i64 4)), none⟩]))))
 (.seq (.reg [⟨some 72, .bin .eql .plain (.tmp 17) (.con (.int .i64 4)), none⟩, ⟨some 71, .mv (.tmp 72), none⟩])
 (.cond (.tmp 71)
 (.seq (.dreg [⟨some 73, .bslice 1 1 [.int .i64 0] [(0, 1, .con (.int .i64 1))], none⟩, ⟨some 74, .bslice 1 1 [.int .i64 0] [(0, 1, .con (.int .i64 1))], none⟩, ⟨some 75, .mv (.tmp 1), none⟩, ⟨some 76, .bin .add .plain (.con (.int .i64 699)) (.tmp 75), none⟩, ⟨some 77, .mkslice 1 1 [.int .u8 0] (.tmp 76) (.tmp 76), none⟩, ⟨some 78, .bslice 1 1 [.nils] [(0, 1, .tmp 77)], none⟩, ⟨some 79, .faddr 9 (.tmp 6), none⟩, ⟨none, .store 1 (.tmp 79) (.tmp 73), none⟩, ⟨some 80, .faddr 10 (.tmp 6), none⟩, ⟨none, .store 1 (.tmp 80) (.tmp 74), none⟩, ⟨some 81, .faddr 11 (.tmp 6), none⟩, ⟨none, .store 1 (.tmp 81) (.tmp 78), none⟩] [7, 9, 11] [0, 0, 0, 4, 12, 28, 1, 65, 195, 451, 1023, 2047] [0, 1, 4, 5])
 (.seq (.reg [⟨some 83, .load true 14 (.tmp 6), none⟩, ⟨some 84, .call 18 [.tmp 83], none⟩, ⟨some 82, .mv (.tmp 84), none⟩, ⟨some 85, .ext (.tmp 82) 0, none⟩, ⟨some 86, .ext (.tmp 82) 1, none⟩, ⟨some 7, .mv (.tmp 86), none⟩])
 (.reg [⟨some 8, .mv (.con (.int .i64 5)), none⟩])))
 (.seq (.reg [⟨some 88, .bin .eql .plain (.tmp 17) (.con (.int .i64 5)), none⟩, ⟨some 87, .mv (.tmp 88), none⟩])
 (.cond (.tmp 87)
 (.seq (.reg [⟨some 89, .mv (.tmp 1), none⟩, ⟨some 90, .bin .add .plain (.con (.int .i64 59999)) (.tmp 89), none⟩, ⟨some 91, .mkslice 1 1 [.int .u8 0] (.tmp 90) (.tmp 90), none⟩, ⟨some 92, .faddr 13 (.tmp 6), none⟩, ⟨none, .store 1 (.tmp 92) (.tmp 91), none⟩])
 (.seq (.reg [⟨some 94, .load true 14 (.tmp 6), none⟩, ⟨some 95, .call 18 [.tmp 94], none⟩, ⟨some 93, .mv (.tmp 95), none⟩, ⟨some 96, .ext (.tmp 93) 0, none⟩, ⟨some 97, .ext (.tmp 93) 1, none⟩, ⟨some 7, .mv (.tmp 97), none⟩])
 (.reg [⟨some 8, .mv (.con (.int .i64 5)), none⟩])))
 (.seq (.reg [⟨some 99, .bin .eql .plain (.tmp 17) (.con (.int .i64 6)), none⟩, ⟨some 98, .mv (.tmp 99), none⟩])
 (.cond (.tmp 98)
 (.seq (.reg [⟨some 101, .mv (.tmp 1), none⟩, ⟨some 102, .bin .add .plain (.con (.int .i64 64999)) (.tmp 101), none⟩, ⟨some 103, .mkslice 1 1 [.int .u8 0] (.tmp 102) (.tmp 102), none⟩, ⟨some 104, .call 7 [.tmp 103], none⟩, ⟨some 100, .mv (.tmp 104), none⟩, ⟨some 105, .ext (.tmp 100) 0, none⟩, ⟨some 106, .ext (.tmp 100) 1, none⟩, ⟨some 7, .mv (.tmp 106), none⟩])
 (.reg [⟨some 8, .mv (.con (.int .i64 5)), none⟩]))
 .skip))))))))))))))))
 (.seq (.reg [⟨some 107, .mv (.tmp 1), none⟩, ⟨some 108, .bin .leq .plain (.tmp 107) (.con (.int .i64 1)), none⟩, ⟨some 109, .mv (.tmp 108), none⟩, ⟨some 110, .mv (.tmp 7), some (109, true)⟩, ⟨some 111, .bin .eql .plain (.tmp 110) (.con (.int .i64 0)), some (109, true)⟩, ⟨some 112, .pick (.tmp 109) (.tmp 111) (.con (.bool false)), none⟩, ⟨some 113, .mv (.tmp 112), none⟩, ⟨some 114, .mv (.tmp 1), some (113, false)⟩, ⟨some 115, .bin .gtr .plain (.tmp 114) (.con (.int .i64 1)), some (113, false)⟩, ⟨some 116, .mv (.tmp 115), some (113, false)⟩, ⟨some 117, .mv (.tmp 7), some (116, true)⟩, ⟨some 118, .mv (.tmp 8), some (116, true)⟩, ⟨some 119, .bin .eql .plain (.tmp 117) (.tmp 118), some (116, true)⟩, ⟨some 120, .pick (.tmp 116) (.tmp 119) (.con (.bool false)), some (113, false)⟩, ⟨some 121, .pick (.tmp 113) (.con (.bool true)) (.tmp 120), none⟩, ⟨some 4, .mv (.tmp 121), none⟩])
 .ret)))))))))
def ac5 : AFun := ⟨2, 122, ab5, [(.tmp 4)]⟩
theorem cf5 : compF Try.prog Try.f5 = some ac5 := by kernel_rfl
theorem cl5 : callable Try.prog 5 = true := by kernel_rfl
theorem fn5 : Try.prog.funcs[5]? = some Try.f5 := by kernel_rfl
/- chancel/chancellaw7.known -/
def ab6 : ACode := (.seq (.reg [⟨some 0, .mv (.con (.bool false)), none⟩])
 (.seq (.reg [⟨some 1, .bslice 1 9 [.int .u8 0] [(0, 1, .con (.int .u8 49)), (1, 1, .con (.int .u8 50)), (2, 1, .con (.int .u8 51)), (3, 1, .con (.int .u8 52)), (4, 1, .con (.int .u8 53)), (5, 1, .con (.int .u8 54)), (6, 1, .con (.int .u8 55)), (7, 1, .con (.int .u8 56)), (8, 1, .con (.int .u8 57))], none⟩, ⟨some 2, .cvMark (.tmp 1), none⟩, ⟨some 3, .call 10 [.tmp 2], none⟩, ⟨some 4, .bin .eql .plain (.tmp 3) (.con (.int .u32 3808858755)), none⟩, ⟨some 0, .mv (.tmp 4), none⟩])
 .ret))
def ac6 : AFun := ⟨0, 5, ab6, [(.tmp 0)]⟩
theorem cf6 : compF Try.prog Try.f6 = some ac6 := by kernel_rfl
theorem cl6 : callable Try.prog 6 = true := by kernel_rfl
theorem fn6 : Try.prog.funcs[6]? = some Try.f6 := by kernel_rfl
/- chancel/pack.Frame -/
def ab7 : ACode := (.seq (.reg [⟨some 2, .mv (.con .nils), none⟩, ⟨some 3, .mv (.con (.int .i64 0)), none⟩])
 (.seq (.seq (.reg [⟨some 5, .mv (.tmp 0), none⟩, ⟨some 6, .lenL (.tmp 5), none⟩, ⟨some 7, .bin .gtr .plain (.tmp 6) (.con (.int .i64 65000)), none⟩])
 (.cond (.tmp 7)
 (.seq (.reg [⟨some 2, .mv (.con .nils), none⟩, ⟨some 3, .mv (.con (.int .i64 5)), none⟩])
 .ret)
 .skip))
 (.seq (.reg [⟨some 8, .mv (.tmp 0), none⟩, ⟨some 9, .call 10 [.tmp 8], none⟩, ⟨some 4, .mv (.tmp 9), none⟩])
 (.seq (.reg [⟨some 10, .mv (.tmp 4), none⟩, ⟨some 11, .bin .shr .plain (.tmp 10) (.con (.int .u64 24)), none⟩, ⟨some 12, .cvInt .u8 (.tmp 11), none⟩, ⟨some 13, .mv (.tmp 4), none⟩, ⟨some 14, .bin .shr .plain (.tmp 13) (.con (.int .u64 16)), none⟩, ⟨some 15, .cvInt .u8 (.tmp 14), none⟩, ⟨some 16, .mv (.tmp 4), none⟩, ⟨some 17, .bin .shr .plain (.tmp 16) (.con (.int .u64 8)), none⟩, ⟨some 18, .cvInt .u8 (.tmp 17), none⟩, ⟨some 19, .mv (.tmp 4), none⟩, ⟨some 20, .cvInt .u8 (.tmp 19), none⟩, ⟨some 21, .bslice 1 4 [.int .u8 0] [(0, 1, .tmp 12), (1, 1, .tmp 15), (2, 1, .tmp 18), (3, 1, .tmp 20)], none⟩, ⟨some 22, .mv (.tmp 0), none⟩, ⟨some 23, .append 1 1 (.tmp 21) (.tmp 22), none⟩, ⟨some 2, .mv (.tmp 23), none⟩, ⟨some 3, .mv (.con (.int .i64 0)), none⟩])
 .ret))))
def ac7 : AFun := ⟨1, 24, ab7, [(.tmp 2), (.tmp 3)]⟩
theorem cf7 : compF Try.prog Try.f7 = some ac7 := by kernel_rfl
theorem cl7 : callable Try.prog 7 = true := by kernel_rfl
theorem fn7 : Try.prog.funcs[7]? = some Try.f7 := by kernel_rfl
/- chancel/chancelref7.Frame -/
def ab8 : ACode := (.seq (.reg [⟨some 2, .mv (.con .nils), none⟩, ⟨some 3, .mv (.con (.int .i64 0)), none⟩])
 (.seq (.seq (.reg [⟨some 5, .mv (.tmp 0), none⟩, ⟨some 6, .lenL (.tmp 5), none⟩, ⟨some 7, .bin .gtr .plain (.tmp 6) (.con (.int .i64 65000)), none⟩])
 (.cond (.tmp 7)
 (.seq (.reg [⟨some 2, .mv (.con .nils), none⟩, ⟨some 3, .mv (.con (.int .i64 5)), none⟩])
 .ret)
 .skip))
 (.seq (.reg [⟨some 8, .mv (.tmp 0), none⟩, ⟨some 9, .call 11 [.tmp 8], none⟩, ⟨some 4, .mv (.tmp 9), none⟩])
 (.seq (.reg [⟨some 10, .mv (.tmp 4), none⟩, ⟨some 11, .bin .shr .plain (.tmp 10) (.con (.int .u64 24)), none⟩, ⟨some 12, .cvInt .u8 (.tmp 11), none⟩, ⟨some 13, .mv (.tmp 4), none⟩, ⟨some 14, .bin .shr .plain (.tmp 13) (.con (.int .u64 16)), none⟩, ⟨some 15, .cvInt .u8 (.tmp 14), none⟩, ⟨some 16, .mv (.tmp 4), none⟩, ⟨some 17, .bin .shr .plain (.tmp 16) (.con (.int .u64 8)), none⟩, ⟨some 18, .cvInt .u8 (.tmp 17), none⟩, ⟨some 19, .mv (.tmp 4), none⟩, ⟨some 20, .cvInt .u8 (.tmp 19), none⟩, ⟨some 21, .bslice 1 4 [.int .u8 0] [(0, 1, .tmp 12), (1, 1, .tmp 15), (2, 1, .tmp 18), (3, 1, .tmp 20)], none⟩, ⟨some 22, .mv (.tmp 0), none⟩, ⟨some 23, .append 1 1 (.tmp 21) (.tmp 22), none⟩, ⟨some 2, .mv (.tmp 23), none⟩, ⟨some 3, .mv (.con (.int .i64 0)), none⟩])
 .ret))))
def ac8 : AFun := ⟨1, 24, ab8, [(.tmp 2), (.tmp 3)]⟩
theorem cf8 : compF Try.prog Try.f8 = some ac8 := by kernel_rfl
theorem cl8 : callable Try.prog 8 = true := by kernel_rfl
theorem fn8 : Try.prog.funcs[8]? = some Try.f8 := by kernel_rfl
/- chancel/pack.Unframe -/
def ab9 : ACode := (.seq (.reg [⟨some 2, .mv (.con .nils), none⟩, ⟨some 3, .mv (.con (.int .i64 0)), none⟩])
 (.seq (.seq (.reg [⟨some 5, .mv (.tmp 0), none⟩, ⟨some 6, .lenL (.tmp 5), none⟩, ⟨some 7, .bin .lss .plain (.tmp 6) (.con (.int .i64 4)), none⟩])
 (.cond (.tmp 7)
 (.seq (.reg [⟨some 2, .mv (.con .nils), none⟩, ⟨some 3, .mv (.con (.int .i64 8)), none⟩])
 .ret)
 .skip))
 (.seq (.seq (.dreg [⟨some 8, .mv (.tmp 0), none⟩, ⟨some 9, .iaddr 1 (.tmp 8) (.con (.int .i64 0)), none⟩, ⟨some 10, .load false 1 (.tmp 9), none⟩, ⟨some 11, .cvInt .u32 (.tmp 10), none⟩, ⟨some 12, .bin .shl .plain (.tmp 11) (.con (.int .u64 24)), none⟩, ⟨some 13, .mv (.tmp 0), none⟩, ⟨some 14, .iaddr 1 (.tmp 13) (.con (.int .i64 1)), none⟩, ⟨some 15, .load false 1 (.tmp 14), none⟩, ⟨some 16, .cvInt .u32 (.tmp 15), none⟩, ⟨some 17, .bin .shl .plain (.tmp 16) (.con (.int .u64 16)), none⟩, ⟨some 18, .bin .or .plain (.tmp 12) (.tmp 17), none⟩, ⟨some 19, .mv (.tmp 0), none⟩, ⟨some 20, .iaddr 1 (.tmp 19) (.con (.int .i64 2)), none⟩, ⟨some 21, .load false 1 (.tmp 20), none⟩, ⟨some 22, .cvInt .u32 (.tmp 21), none⟩, ⟨some 23, .bin .shl .plain (.tmp 22) (.con (.int .u64 8)), none⟩, ⟨some 24, .bin .or .plain (.tmp 18) (.tmp 23), none⟩, ⟨some 25, .mv (.tmp 0), none⟩, ⟨some 26, .iaddr 1 (.tmp 25) (.con (.int .i64 3)), none⟩, ⟨some 27, .load false 1 (.tmp 26), none⟩, ⟨some 28, .cvInt .u32 (.tmp 27), none⟩, ⟨some 29, .bin .or .plain (.tmp 24) (.tmp 28), none⟩, ⟨some 4, .mv (.tmp 29), none⟩] [] [0, 1, 3, 7, 15, 0, 32, 96, 224, 480, 1023, 0, 2048, 6144, 14336, 30720, 65535, 0, 131072, 393216, 917504, 2097151, 4194303] [])
 (.seq (.reg [⟨some 30, .mv (.tmp 4), none⟩, ⟨some 31, .mv (.tmp 0), none⟩, ⟨some 32, .slSl 1 (.tmp 31) (some (.con (.int .i64 4))) none none, none⟩, ⟨some 33, .call 10 [.tmp 32], none⟩, ⟨some 34, .bin .neq .plain (.tmp 30) (.tmp 33), none⟩])
 (.cond (.tmp 34)
 (.seq (.reg [⟨some 2, .mv (.con .nils), none⟩, ⟨some 3, .mv (.con (.int .i64 31)), none⟩])
 .ret)
 .skip)))
 (.seq (.reg [⟨some 35, .mv (.tmp 0), none⟩, ⟨some 36, .slSl 1 (.tmp 35) (some (.con (.int .i64 4))) none none, none⟩, ⟨some 37, .call 19 [.tmp 36], none⟩, ⟨some 2, .mv (.tmp 37), none⟩, ⟨some 3, .mv (.con (.int .i64 0)), none⟩])
 .ret))))
def ac9 : AFun := ⟨1, 38, ab9, [(.tmp 2), (.tmp 3)]⟩
theorem cf9 : compF Try.prog Try.f9 = some ac9 := by kernel_rfl
theorem cl9 : callable Try.prog 9 = true := by kernel_rfl
theorem fn9 : Try.prog.funcs[9]? = some Try.f9 := by kernel_rfl
/- chancel/pack.Crc -/
def ab10 : ACode := (.seq (.reg [⟨some 2, .mv (.con (.int .u32 0)), none⟩])
 (.seq (.reg [⟨some 3, .mv (.con (.int .u32 4294967295)), none⟩])
 (.seq (.seq (.reg [⟨some 10, .mv (.tmp 0), none⟩, ⟨some 11, .lenL (.tmp 10), none⟩, ⟨some 12, .bin .lss .plain (.tmp 11) (.con (.int .i64 300)), none⟩])
 (.cond (.tmp 12)
 (.seq (.seq (.reg [⟨some 13, .mv (.tmp 0), none⟩, ⟨some 14, .lenL (.tmp 13), none⟩, ⟨some 15, .mv (.con (.int .i64 0)), none⟩])
 (.block 0
 (.loop (.seq (.reg [⟨some 16, .bin .lss .plain (.tmp 15) (.tmp 14), none⟩])
 (.seq (.cond (.tmp 16)
 .skip
 (.exit 0))
 (.seq (.block 1
 (.seq (.reg [⟨some 17, .iaddr 1 (.tmp 13) (.tmp 15), none⟩, ⟨some 18, .load false 1 (.tmp 17), none⟩, ⟨some 5, .mv (.tmp 18), none⟩])
 (.reg [⟨some 19, .mv (.tmp 3), none⟩, ⟨some 20, .mv (.tmp 5), none⟩, ⟨some 21, .cvInt .u32 (.tmp 20), none⟩, ⟨some 22, .bin .xor .plain (.tmp 19) (.tmp 21), none⟩, ⟨some 23, .call 20 [.tmp 22], none⟩, ⟨some 3, .mv (.tmp 23), none⟩])))
 (.reg [⟨some 24, .bin .add .plain (.tmp 15) (.con (.int .i64 1)), none⟩, ⟨some 15, .mv (.tmp 24), none⟩])))))))
 (.seq (.reg [⟨some 25, .mv (.tmp 3), none⟩, ⟨some 26, .un .xor (.tmp 25), none⟩, ⟨some 2, .mv (.tmp 26), none⟩])
 .ret))
 .skip))
 (.seq (.reg [⟨some 6, .alloc (List.replicate 256 (.int .u32 0)), none⟩])
 (.seq (.seq (.reg [⟨some 27, .mv (.con (.int .i64 0)), none⟩])
 (.block 2
 (.loop (.seq (.reg [⟨some 28, .bin .lss .plain (.tmp 27) (.con (.int .i64 256)), none⟩])
 (.seq (.cond (.tmp 28)
 .skip
 (.exit 2))
 (.seq (.block 3
 (.seq (.reg [⟨some 29, .mv (.tmp 27), none⟩, ⟨some 7, .mv (.tmp 29), none⟩])
 (.reg [⟨some 30, .mv (.tmp 7), none⟩, ⟨some 31, .mv (.tmp 7), none⟩, ⟨some 32, .cvInt .u32 (.tmp 31), none⟩, ⟨some 33, .call 20 [.tmp 32], none⟩, ⟨some 34, .iaddrA 256 1 (.tmp 6) (.tmp 30), none⟩, ⟨none, .store 1 (.tmp 34) (.tmp 33), none⟩])))
 (.reg [⟨some 35, .bin .add .plain (.tmp 27) (.con (.int .i64 1)), none⟩, ⟨some 27, .mv (.tmp 35), none⟩])))))))
 (.seq (.seq (.reg [⟨some 36, .mv (.tmp 0), none⟩, ⟨some 37, .lenL (.tmp 36), none⟩, ⟨some 38, .mv (.con (.int .i64 0)), none⟩])
 (.block 4
 (.loop (.seq (.reg [⟨some 39, .bin .lss .plain (.tmp 38) (.tmp 37), none⟩])
 (.seq (.cond (.tmp 39)
 .skip
 (.exit 4))
 (.seq (.block 5
 (.seq (.reg [⟨some 40, .iaddr 1 (.tmp 36) (.tmp 38), none⟩, ⟨some 41, .load false 1 (.tmp 40), none⟩, ⟨some 9, .mv (.tmp 41), none⟩])
 (.reg [⟨some 42, .mv (.tmp 3), none⟩, ⟨some 43, .bin .shr .plain (.tmp 42) (.con (.int .u64 8)), none⟩, ⟨some 44, .mv (.tmp 3), none⟩, ⟨some 45, .cvInt .u8 (.tmp 44), none⟩, ⟨some 46, .mv (.tmp 9), none⟩, ⟨some 47, .bin .xor .plain (.tmp 45) (.tmp 46), none⟩, ⟨some 48, .iaddrA 256 1 (.tmp 6) (.tmp 47), none⟩, ⟨some 49, .load false 1 (.tmp 48), none⟩, ⟨some 50, .bin .xor .plain (.tmp 43) (.tmp 49), none⟩, ⟨some 3, .mv (.tmp 50), none⟩])))
 (.reg [⟨some 51, .bin .add .plain (.tmp 38) (.con (.int .i64 1)), none⟩, ⟨some 38, .mv (.tmp 51), none⟩])))))))
 (.seq (.reg [⟨some 52, .mv (.tmp 3), none⟩, ⟨some 53, .un .xor (.tmp 52), none⟩, ⟨some 2, .mv (.tmp 53), none⟩])
 .ret)))))))
def ac10 : AFun := ⟨1, 54, ab10, [(.tmp 2)]⟩
theorem cf10 : compF Try.prog Try.f10 = some ac10 := by kernel_rfl
theorem cl10 : callable Try.prog 10 = true := by kernel_rfl
theorem fn10 : Try.prog.funcs[10]? = some Try.f10 := by kernel_rfl
/- chancel/chancelref7.Crc -/
def ab11 : ACode := (.seq (.reg [⟨some 2, .mv (.con (.int .u32 0)), none⟩])
 (.seq (.reg [⟨some 3, .mv (.con (.int .u32 4294967295)), none⟩])
 (.seq (.seq (.reg [⟨some 4, .mv (.con (.int .i64 0)), none⟩])
 (.block 0
 (.loop (.seq (.seq (.reg [⟨some 6, .mv (.tmp 4), none⟩, ⟨some 7, .mv (.tmp 0), none⟩, ⟨some 8, .lenL (.tmp 7), none⟩, ⟨some 9, .bin .lss .plain (.tmp 6) (.tmp 8), none⟩])
 (.cond (.tmp 9)
 .skip
 (.exit 0)))
 (.seq (.block 1
 (.seq (.reg [⟨some 12, .mv (.tmp 3), none⟩, ⟨some 13, .mv (.tmp 0), none⟩, ⟨some 14, .mv (.tmp 4), none⟩, ⟨some 15, .iaddr 1 (.tmp 13) (.tmp 14), none⟩, ⟨some 16, .load false 1 (.tmp 15), none⟩, ⟨some 17, .cvInt .u32 (.tmp 16), none⟩, ⟨some 18, .bin .xor .plain (.tmp 12) (.tmp 17), none⟩, ⟨some 3, .mv (.tmp 18), none⟩])
 (.seq (.reg [⟨some 5, .mv (.con (.int .i64 0)), none⟩])
 (.block 2
 (.loop (.seq (.seq (.reg [⟨some 19, .mv (.tmp 5), none⟩, ⟨some 20, .bin .lss .plain (.tmp 19) (.con (.int .i64 8)), none⟩])
 (.cond (.tmp 20)
 .skip
 (.exit 2)))
 (.seq (.block 3
 (.seq (.reg [⟨some 23, .mv (.tmp 3), none⟩, ⟨some 24, .bin .and .plain (.tmp 23) (.con (.int .u32 1)), none⟩, ⟨some 25, .bin .eql .plain (.tmp 24) (.con (.int .u32 1)), none⟩])
 (.cond (.tmp 25)
 (.reg [⟨some 26, .mv (.tmp 3), none⟩, ⟨some 27, .bin .shr .plain (.tmp 26) (.con (.int .u64 1)), none⟩, ⟨some 28, .bin .xor .plain (.tmp 27) (.con (.int .u32 2197175160)), none⟩, ⟨some 3, .mv (.tmp 28), none⟩])
 (.reg [⟨some 29, .mv (.tmp 3), none⟩, ⟨some 30, .bin .shr .plain (.tmp 29) (.con (.int .u64 1)), none⟩, ⟨some 3, .mv (.tmp 30), none⟩]))))
 (.reg [⟨some 21, .mv (.tmp 5), none⟩, ⟨some 22, .bin .add .plain (.tmp 21) (.con (.int .i64 1)), none⟩, ⟨some 5, .mv (.tmp 22), none⟩]))))))))
 (.reg [⟨some 10, .mv (.tmp 4), none⟩, ⟨some 11, .bin .add .plain (.tmp 10) (.con (.int .i64 1)), none⟩, ⟨some 4, .mv (.tmp 11), none⟩]))))))
 (.seq (.reg [⟨some 31, .mv (.tmp 3), none⟩, ⟨some 32, .un .xor (.tmp 31), none⟩, ⟨some 2, .mv (.tmp 32), none⟩])
 .ret))))
def ac11 : AFun := ⟨1, 33, ab11, [(.tmp 2)]⟩
theorem cf11 : compF Try.prog Try.f11 = some ac11 := by kernel_rfl
theorem cl11 : callable Try.prog 11 = true := by kernel_rfl
theorem fn11 : Try.prog.funcs[11]? = some Try.f11 := by kernel_rfl
/- chancel/chancelref7.Unframe -/
def ab12 : ACode := (.seq (.reg [⟨some 2, .mv (.con .nils), none⟩, ⟨some 3, .mv (.con (.int .i64 0)), none⟩])
 (.seq (.seq (.reg [⟨some 5, .mv (.tmp 0), none⟩, ⟨some 6, .lenL (.tmp 5), none⟩, ⟨some 7, .bin .lss .plain (.tmp 6) (.con (.int .i64 4)), none⟩])
 (.cond (.tmp 7)
 (.seq (.reg [⟨some 2, .mv (.con .nils), none⟩, ⟨some 3, .mv (.con (.int .i64 8)), none⟩])
 .ret)
 .skip))
 (.seq (.dreg [⟨some 8, .mv (.tmp 0), none⟩, ⟨some 9, .iaddr 1 (.tmp 8) (.con (.int .i64 0)), none⟩, ⟨some 10, .load false 1 (.tmp 9), none⟩, ⟨some 11, .cvInt .u32 (.tmp 10), none⟩, ⟨some 12, .bin .shl .plain (.tmp 11) (.con (.int .u64 24)), none⟩, ⟨some 13, .mv (.tmp 0), none⟩, ⟨some 14, .iaddr 1 (.tmp 13) (.con (.int .i64 1)), none⟩, ⟨some 15, .load false 1 (.tmp 14), none⟩, ⟨some 16, .cvInt .u32 (.tmp 15), none⟩, ⟨some 17, .bin .shl .plain (.tmp 16) (.con (.int .u64 16)), none⟩, ⟨some 18, .bin .or .plain (.tmp 12) (.tmp 17), none⟩, ⟨some 19, .mv (.tmp 0), none⟩, ⟨some 20, .iaddr 1 (.tmp 19) (.con (.int .i64 2)), none⟩, ⟨some 21, .load false 1 (.tmp 20), none⟩, ⟨some 22, .cvInt .u32 (.tmp 21), none⟩, ⟨some 23, .bin .shl .plain (.tmp 22) (.con (.int .u64 8)), none⟩, ⟨some 24, .bin .or .plain (.tmp 18) (.tmp 23), none⟩, ⟨some 25, .mv (.tmp 0), none⟩, ⟨some 26, .iaddr 1 (.tmp 25) (.con (.int .i64 3)), none⟩, ⟨some 27, .load false 1 (.tmp 26), none⟩, ⟨some 28, .cvInt .u32 (.tmp 27), none⟩, ⟨some 29, .bin .or .plain (.tmp 24) (.tmp 28), none⟩, ⟨some 4, .mv (.tmp 29), none⟩] [] [0, 1, 3, 7, 15, 0, 32, 96, 224, 480, 1023, 0, 2048, 6144, 14336, 30720, 65535, 0, 131072, 393216, 917504, 2097151, 4194303] [])
 (.seq (.seq (.reg [⟨some 30, .mv (.tmp 0), none⟩, ⟨some 31, .slSl 1 (.tmp 30) (some (.con (.int .i64 4))) none none, none⟩, ⟨some 32, .call 11 [.tmp 31], none⟩, ⟨some 33, .mv (.tmp 4), none⟩, ⟨some 34, .bin .neq .plain (.tmp 32) (.tmp 33), none⟩])
 (.cond (.tmp 34)
 (.seq (.reg [⟨some 2, .mv (.con .nils), none⟩, ⟨some 3, .mv (.con (.int .i64 31)), none⟩])
 .ret)
 .skip))
 (.seq (.reg [⟨some 35, .bslice 1 0 [.int .u8 0] [], none⟩, ⟨some 36, .mv (.tmp 0), none⟩, ⟨some 37, .slSl 1 (.tmp 36) (some (.con (.int .i64 4))) none none, none⟩, ⟨some 38, .append 1 1 (.tmp 35) (.tmp 37), none⟩, ⟨some 2, .mv (.tmp 38), none⟩, ⟨some 3, .mv (.con (.int .i64 0)), none⟩])
 .ret)))))
def ac12 : AFun := ⟨1, 39, ab12, [(.tmp 2), (.tmp 3)]⟩
theorem cf12 : compF Try.prog Try.f12 = some ac12 := by kernel_rfl
theorem cl12 : callable Try.prog 12 = true := by kernel_rfl
theorem fn12 : Try.prog.funcs[12]? = some Try.f12 := by kernel_rfl
/- chancel/chancellaw7.within -/
def ab13 : ACode := (.seq (.reg [⟨some 4, .mv (.con (.int .i64 0)), none⟩])
 (.seq (.reg [⟨some 6, .mv (.tmp 0), none⟩, ⟨some 7, .mv (.tmp 1), none⟩, ⟨some 8, .bin .rem .plain (.tmp 6) (.tmp 7), none⟩, ⟨some 5, .mv (.tmp 8), none⟩])
 (.seq (.seq (.reg [⟨some 9, .mv (.tmp 5), none⟩, ⟨some 10, .bin .lss .plain (.tmp 9) (.con (.int .i64 0)), none⟩])
 (.cond (.tmp 10)
 (.reg [⟨some 11, .mv (.tmp 5), none⟩, ⟨some 12, .mv (.tmp 1), none⟩, ⟨some 13, .bin .add .plain (.tmp 11) (.tmp 12), none⟩, ⟨some 5, .mv (.tmp 13), none⟩])
 .skip))
 (.seq (.reg [⟨some 14, .mv (.tmp 5), none⟩, ⟨some 4, .mv (.tmp 14), none⟩])
 .ret))))
def ac13 : AFun := ⟨2, 15, ab13, [(.tmp 4)]⟩
theorem cf13 : compF Try.prog Try.f13 = some ac13 := by kernel_rfl
theorem cl13 : callable Try.prog 13 = true := by kernel_rfl
theorem fn13 : Try.prog.funcs[13]? = some Try.f13 := by kernel_rfl
/- chancel/pack.Cmd -/
def ab14 : ACode := (.seq (.reg [⟨some 1, .box (.tmp 0), none⟩, ⟨some 2, .mv (.con .nils), none⟩, ⟨some 3, .mv (.con (.int .i64 0)), none⟩])
 (.seq (.seq (.reg [⟨some 6, .load true 5 (.tmp 1), none⟩, ⟨some 7, .call 21 [.tmp 6], none⟩, ⟨some 4, .mv (.tmp 7), none⟩])
 (.seq (.reg [⟨some 8, .mv (.tmp 4), none⟩, ⟨some 9, .bin .neq .plain (.tmp 8) (.con (.int .i64 0)), none⟩])
 (.cond (.tmp 9)
 (.seq (.reg [⟨some 10, .mv (.tmp 4), none⟩, ⟨some 2, .mv (.con .nils), none⟩, ⟨some 3, .mv (.tmp 10), none⟩])
 .ret)
 .skip)))
 (.seq (.reg [⟨some 11, .build [.nils] [], none⟩, ⟨some 12, .box (.tmp 11), none⟩, ⟨some 5, .mv (.tmp 12), none⟩])
 (.seq (.reg [⟨some 13, .mv (.tmp 5), none⟩, ⟨some 14, .faddr 0 (.tmp 1), none⟩, ⟨some 15, .load false 1 (.tmp 14), none⟩, ⟨some 16, .call 22 [.tmp 13, .tmp 15], none⟩])
 (.seq (.reg [⟨some 17, .mv (.tmp 5), none⟩, ⟨some 18, .faddr 1 (.tmp 1), none⟩, ⟨some 19, .load false 1 (.tmp 18), none⟩, ⟨some 20, .bslice 1 1 [.int .i64 0] [(0, 1, .tmp 19)], none⟩, ⟨some 21, .call 23 [.tmp 17, .tmp 20], none⟩])
 (.seq (.reg [⟨some 22, .mv (.tmp 5), none⟩, ⟨some 23, .faddr 2 (.tmp 1), none⟩, ⟨some 24, .load false 1 (.tmp 23), none⟩, ⟨some 25, .call 22 [.tmp 22, .tmp 24], none⟩])
 (.seq (.reg [⟨some 26, .mv (.tmp 5), none⟩, ⟨some 27, .faddr 3 (.tmp 1), none⟩, ⟨some 28, .load false 1 (.tmp 27), none⟩, ⟨some 29, .cvSB (.tmp 28), none⟩, ⟨some 30, .call 24 [.tmp 26, .tmp 29], none⟩])
 (.seq (.reg [⟨some 31, .mv (.tmp 5), none⟩, ⟨some 32, .faddr 4 (.tmp 1), none⟩, ⟨some 33, .load false 1 (.tmp 32), none⟩, ⟨some 34, .cvSB (.tmp 33), none⟩, ⟨some 35, .call 24 [.tmp 31, .tmp 34], none⟩])
 (.seq (.reg [⟨some 36, .mv (.tmp 5), none⟩, ⟨some 37, .nilck (.tmp 36), none⟩, ⟨some 38, .faddr 0 (.tmp 37), none⟩, ⟨some 39, .load false 1 (.tmp 38), none⟩, ⟨some 2, .mv (.tmp 39), none⟩, ⟨some 3, .mv (.con (.int .i64 0)), none⟩])
 .ret)))))))))
def ac14 : AFun := ⟨1, 40, ab14, [(.tmp 2), (.tmp 3)]⟩
theorem cf14 : compF Try.prog Try.f14 = some ac14 := by kernel_rfl
theorem cl14 : callable Try.prog 14 = true := by kernel_rfl
theorem fn14 : Try.prog.funcs[14]? = some Try.f14 := by kernel_rfl
/- chancel/chancelref7.Cmd -/
def ab15 : ACode := (.seq (.reg [⟨some 1, .box (.tmp 0), none⟩, ⟨some 2, .mv (.con .nils), none⟩, ⟨some 3, .mv (.con (.int .i64 0)), none⟩])
 (.seq (.seq (.reg [⟨some 5, .load true 5 (.tmp 1), none⟩, ⟨some 6, .call 25 [.tmp 5], none⟩, ⟨some 7, .bin .neq .plain (.tmp 6) (.con (.int .i64 0)), none⟩])
 (.cond (.tmp 7)
 (.seq (.reg [⟨some 8, .load true 5 (.tmp 1), none⟩, ⟨some 9, .call 25 [.tmp 8], none⟩, ⟨some 2, .mv (.con .nils), none⟩, ⟨some 3, .mv (.tmp 9), none⟩])
 .ret)
 .skip))
 (.seq (.dreg [⟨some 10, .faddr 0 (.tmp 1), none⟩, ⟨some 11, .load false 1 (.tmp 10), none⟩, ⟨some 12, .cvInt .u8 (.tmp 11), none⟩, ⟨some 13, .bslice 1 1 [.int .u8 0] [(0, 1, .tmp 12)], none⟩, ⟨some 14, .faddr 1 (.tmp 1), none⟩, ⟨some 15, .load false 1 (.tmp 14), none⟩, ⟨some 16, .call 26 [.tmp 13, .tmp 15], none⟩, ⟨some 17, .faddr 2 (.tmp 1), none⟩, ⟨some 18, .load false 1 (.tmp 17), none⟩, ⟨some 19, .cvInt .u8 (.tmp 18), none⟩, ⟨some 20, .bslice 1 1 [.int .u8 0] [(0, 1, .tmp 19)], none⟩, ⟨some 21, .append 1 1 (.tmp 16) (.tmp 20), none⟩, ⟨some 4, .mv (.tmp 21), none⟩] [6, 11] [0, 1, 3, 7, 0, 16, 63, 0, 128, 384, 896, 2047, 4095] [3, 10])
 (.seq (.dreg [⟨some 22, .mv (.tmp 4), none⟩, ⟨some 23, .faddr 3 (.tmp 1), none⟩, ⟨some 24, .load false 1 (.tmp 23), none⟩, ⟨some 25, .cvSB (.tmp 24), none⟩, ⟨some 26, .call 27 [.tmp 22, .tmp 25], none⟩, ⟨some 27, .faddr 4 (.tmp 1), none⟩, ⟨some 28, .load false 1 (.tmp 27), none⟩, ⟨some 29, .cvSB (.tmp 28), none⟩, ⟨some 30, .call 27 [.tmp 26, .tmp 29], none⟩, ⟨some 2, .mv (.tmp 30), none⟩, ⟨some 3, .mv (.con (.int .i64 0)), none⟩] [4, 8] [0, 0, 2, 6, 15, 0, 32, 96, 255, 511, 1023] [3, 7])
 .ret))))
def ac15 : AFun := ⟨1, 31, ab15, [(.tmp 2), (.tmp 3)]⟩
theorem cf15 : compF Try.prog Try.f15 = some ac15 := by kernel_rfl
theorem cl15 : callable Try.prog 15 = true := by kernel_rfl
theorem fn15 : Try.prog.funcs[15]? = some Try.f15 := by kernel_rfl
/- chancel/pack.ParseCmd -/
def ab16 : ACode := (.seq (.reg [⟨some 2, .alloc [.int .i64 0, .int .i64 0, .int .i64 0, .str [], .str []], none⟩, ⟨some 3, .mv (.con (.int .i64 0)), none⟩])
 (.seq (.reg [⟨some 8, .mv (.tmp 0), none⟩, ⟨some 9, .build [.nils, .int .i64 0] [(0, 1, .tmp 8)], none⟩, ⟨some 10, .box (.tmp 9), none⟩, ⟨some 4, .mv (.tmp 10), none⟩])
 (.seq (.reg [⟨some 11, .mv (.tmp 4), none⟩, ⟨some 12, .call 28 [.tmp 11], none⟩, ⟨some 13, .build [.int .i64 0, .int .i64 0, .int .i64 0, .str [], .str []] [(0, 1, .tmp 12)], none⟩, ⟨some 5, .alloc [.int .i64 0, .int .i64 0, .int .i64 0, .str [], .str []], none⟩, ⟨none, .store 5 (.tmp 5) (.tmp 13), none⟩])
 (.seq (.reg [⟨some 14, .mv (.tmp 4), none⟩, ⟨some 15, .call 29 [.tmp 14], none⟩, ⟨some 16, .faddr 1 (.tmp 5), none⟩, ⟨none, .store 1 (.tmp 16) (.tmp 15), none⟩])
 (.seq (.reg [⟨some 17, .mv (.tmp 4), none⟩, ⟨some 18, .call 28 [.tmp 17], none⟩, ⟨some 19, .faddr 2 (.tmp 5), none⟩, ⟨none, .store 1 (.tmp 19) (.tmp 18), none⟩])
 (.seq (.reg [⟨some 20, .mv (.tmp 4), none⟩, ⟨some 21, .call 30 [.tmp 20], none⟩, ⟨some 22, .cvBS (.tmp 21), none⟩, ⟨some 23, .faddr 3 (.tmp 5), none⟩, ⟨none, .store 1 (.tmp 23) (.tmp 22), none⟩])
 (.seq (.reg [⟨some 24, .mv (.tmp 4), none⟩, ⟨some 25, .call 30 [.tmp 24], none⟩, ⟨some 26, .cvBS (.tmp 25), none⟩, ⟨some 27, .faddr 4 (.tmp 5), none⟩, ⟨none, .store 1 (.tmp 27) (.tmp 26), none⟩])
 (.seq (.seq (.reg [⟨some 28, .mv (.tmp 4), none⟩, ⟨some 29, .call 31 [.tmp 28], none⟩, ⟨some 6, .mv (.tmp 29), none⟩])
 (.seq (.reg [⟨some 30, .mv (.tmp 6), none⟩, ⟨some 31, .bin .neq .plain (.tmp 30) (.con (.int .i64 0)), none⟩])
 (.cond (.tmp 31)
 (.seq (.reg [⟨some 32, .build [.int .i64 0, .int .i64 0, .int .i64 0, .str [], .str []] [], none⟩, ⟨some 33, .mv (.tmp 6), none⟩, ⟨none, .store 5 (.tmp 2) (.tmp 32), none⟩, ⟨some 3, .mv (.tmp 33), none⟩])
 .ret)
 .skip)))
 (.seq (.seq (.reg [⟨some 34, .load true 5 (.tmp 5), none⟩, ⟨some 35, .call 21 [.tmp 34], none⟩, ⟨some 7, .mv (.tmp 35), none⟩])
 (.seq (.reg [⟨some 36, .mv (.tmp 7), none⟩, ⟨some 37, .bin .neq .plain (.tmp 36) (.con (.int .i64 0)), none⟩])
 (.cond (.tmp 37)
 (.seq (.reg [⟨some 38, .build [.int .i64 0, .int .i64 0, .int .i64 0, .str [], .str []] [], none⟩, ⟨some 39, .mv (.tmp 7), none⟩, ⟨none, .store 5 (.tmp 2) (.tmp 38), none⟩, ⟨some 3, .mv (.tmp 39), none⟩])
 .ret)
 .skip)))
 (.seq (.reg [⟨some 40, .load true 5 (.tmp 5), none⟩, ⟨none, .store 5 (.tmp 2) (.tmp 40), none⟩, ⟨some 3, .mv (.con (.int .i64 0)), none⟩])
 .ret))))))))))
def ac16 : AFun := ⟨1, 41, ab16, [(.cell 2 true 5), (.tmp 3)]⟩
theorem cf16 : compF Try.prog Try.f16 = some ac16 := by kernel_rfl
theorem cl16 : callable Try.prog 16 = true := by kernel_rfl
theorem fn16 : Try.prog.funcs[16]? = some Try.f16 := by kernel_rfl
/- chancel/chancelref7.ParseCmd -/
def ab17 : ACode := (.seq (.reg [⟨some 2, .alloc [.int .i64 0, .int .i64 0, .int .i64 0, .str [], .str []], none⟩, ⟨some 3, .mv (.con (.int .i64 0)), none⟩])
 (.seq (.reg [⟨some 6, .mv (.tmp 0), none⟩, ⟨some 7, .build [.nils, .int .i64 0, .int .i64 0] [(0, 1, .tmp 6)], none⟩, ⟨some 8, .box (.tmp 7), none⟩, ⟨some 4, .mv (.tmp 8), none⟩])
 (.seq (.reg [⟨some 9, .mv (.tmp 4), none⟩, ⟨some 10, .call 32 [.tmp 9], none⟩, ⟨some 11, .build [.int .i64 0, .int .i64 0, .int .i64 0, .str [], .str []] [(0, 1, .tmp 10)], none⟩, ⟨some 5, .alloc [.int .i64 0, .int .i64 0, .int .i64 0, .str [], .str []], none⟩, ⟨none, .store 5 (.tmp 5) (.tmp 11), none⟩])
 (.seq (.reg [⟨some 12, .mv (.tmp 4), none⟩, ⟨some 13, .call 33 [.tmp 12], none⟩, ⟨some 14, .faddr 1 (.tmp 5), none⟩, ⟨none, .store 1 (.tmp 14) (.tmp 13), none⟩])
 (.seq (.reg [⟨some 15, .mv (.tmp 4), none⟩, ⟨some 16, .call 32 [.tmp 15], none⟩, ⟨some 17, .faddr 2 (.tmp 5), none⟩, ⟨none, .store 1 (.tmp 17) (.tmp 16), none⟩])
 (.seq (.reg [⟨some 18, .mv (.tmp 4), none⟩, ⟨some 19, .call 34 [.tmp 18], none⟩, ⟨some 20, .cvBS (.tmp 19), none⟩, ⟨some 21, .faddr 3 (.tmp 5), none⟩, ⟨none, .store 1 (.tmp 21) (.tmp 20), none⟩])
 (.seq (.reg [⟨some 22, .mv (.tmp 4), none⟩, ⟨some 23, .call 34 [.tmp 22], none⟩, ⟨some 24, .cvBS (.tmp 23), none⟩, ⟨some 25, .faddr 4 (.tmp 5), none⟩, ⟨none, .store 1 (.tmp 25) (.tmp 24), none⟩])
 (.seq (.seq (.reg [⟨some 26, .mv (.tmp 4), none⟩, ⟨some 27, .call 35 [.tmp 26], none⟩, ⟨some 28, .bin .neq .plain (.tmp 27) (.con (.int .i64 0)), none⟩])
 (.cond (.tmp 28)
 (.seq (.reg [⟨some 29, .build [.int .i64 0, .int .i64 0, .int .i64 0, .str [], .str []] [], none⟩, ⟨some 30, .mv (.tmp 4), none⟩, ⟨some 31, .call 35 [.tmp 30], none⟩, ⟨none, .store 5 (.tmp 2) (.tmp 29), none⟩, ⟨some 3, .mv (.tmp 31), none⟩])
 .ret)
 .skip))
 (.seq (.seq (.reg [⟨some 32, .load true 5 (.tmp 5), none⟩, ⟨some 33, .call 25 [.tmp 32], none⟩, ⟨some 34, .bin .neq .plain (.tmp 33) (.con (.int .i64 0)), none⟩])
 (.cond (.tmp 34)
 (.seq (.reg [⟨some 35, .build [.int .i64 0, .int .i64 0, .int .i64 0, .str [], .str []] [], none⟩, ⟨some 36, .load true 5 (.tmp 5), none⟩, ⟨some 37, .call 25 [.tmp 36], none⟩, ⟨none, .store 5 (.tmp 2) (.tmp 35), none⟩, ⟨some 3, .mv (.tmp 37), none⟩])
 .ret)
 .skip))
 (.seq (.reg [⟨some 38, .load true 5 (.tmp 5), none⟩, ⟨none, .store 5 (.tmp 2) (.tmp 38), none⟩, ⟨some 3, .mv (.con (.int .i64 0)), none⟩])
 .ret))))))))))
def ac17 : AFun := ⟨1, 39, ab17, [(.cell 2 true 5), (.tmp 3)]⟩
theorem cf17 : compF Try.prog Try.f17 = some ac17 := by kernel_rfl
theorem cl17 : callable Try.prog 17 = true := by kernel_rfl
theorem fn17 : Try.prog.funcs[17]? = some Try.f17 := by kernel_rfl
/- chancel/pack.Msg -/
def ab18 : ACode := (.seq (.reg [⟨some 1, .box (.tmp 0), none⟩, ⟨some 2, .mv (.con .nils), none⟩, ⟨some 3, .mv (.con (.int .i64 0)), none⟩])
 (.seq (.seq (.reg [⟨some 9, .load true 14 (.tmp 1), none⟩, ⟨some 10, .call 36 [.tmp 9], none⟩, ⟨some 4, .mv (.tmp 10), none⟩])
 (.seq (.reg [⟨some 11, .mv (.tmp 4), none⟩, ⟨some 12, .bin .neq .plain (.tmp 11) (.con (.int .i64 0)), none⟩])
 (.cond (.tmp 12)
 (.seq (.reg [⟨some 13, .mv (.tmp 4), none⟩, ⟨some 2, .mv (.con .nils), none⟩, ⟨some 3, .mv (.tmp 13), none⟩])
 .ret)
 .skip)))
 (.seq (.reg [⟨some 14, .build [.nils] [], none⟩, ⟨some 15, .box (.tmp 14), none⟩, ⟨some 5, .mv (.tmp 15), none⟩])
 (.seq (.reg [⟨some 16, .mv (.tmp 5), none⟩, ⟨some 17, .faddr 0 (.tmp 1), none⟩, ⟨some 18, .load false 1 (.tmp 17), none⟩, ⟨some 19, .faddr 1 (.tmp 1), none⟩, ⟨some 20, .load false 1 (.tmp 19), none⟩, ⟨some 21, .bslice 1 2 [.int .i64 0] [(0, 1, .tmp 18), (1, 1, .tmp 20)], none⟩, ⟨some 22, .call 23 [.tmp 16, .tmp 21], none⟩])
 (.seq (.reg [⟨some 23, .mv (.tmp 5), none⟩, ⟨some 24, .faddr 2 (.tmp 1), none⟩, ⟨some 25, .load false 1 (.tmp 24), none⟩, ⟨some 26, .call 22 [.tmp 23, .tmp 25], none⟩])
 (.seq (.reg [⟨some 27, .mv (.tmp 5), none⟩, ⟨some 28, .faddr 3 (.tmp 1), none⟩, ⟨some 29, .load false 1 (.tmp 28), none⟩, ⟨some 30, .faddr 4 (.tmp 1), none⟩, ⟨some 31, .load false 1 (.tmp 30), none⟩, ⟨some 32, .faddr 5 (.tmp 1), none⟩, ⟨some 33, .load false 1 (.tmp 32), none⟩, ⟨some 34, .faddr 6 (.tmp 1), none⟩, ⟨some 35, .load false 1 (.tmp 34), none⟩, ⟨some 36, .faddr 7 (.tmp 1), none⟩, ⟨some 37, .load false 1 (.tmp 36), none⟩, ⟨some 38, .bslice 1 5 [.int .i64 0] [(0, 1, .tmp 29), (1, 1, .tmp 31), (2, 1, .tmp 33), (3, 1, .tmp 35), (4, 1, .tmp 37)], none⟩, ⟨some 39, .call 23 [.tmp 27, .tmp 38], none⟩])
 (.seq (.reg [⟨some 6, .mv (.con (.int .i64 0)), none⟩])
 (.seq (.seq (.reg [⟨some 40, .faddr 8 (.tmp 1), none⟩, ⟨some 41, .load false 1 (.tmp 40), none⟩])
 (.cond (.tmp 41)
 (.reg [⟨some 6, .mv (.con (.int .i64 1)), none⟩])
 .skip))
 (.seq (.reg [⟨some 42, .mv (.tmp 5), none⟩, ⟨some 43, .mv (.tmp 6), none⟩, ⟨some 44, .call 22 [.tmp 42, .tmp 43], none⟩])
 (.seq (.reg [⟨some 45, .mv (.tmp 5), none⟩, ⟨some 46, .faddr 11 (.tmp 1), none⟩, ⟨some 47, .load false 1 (.tmp 46), none⟩, ⟨some 48, .lenL (.tmp 47), none⟩, ⟨some 49, .call 22 [.tmp 45, .tmp 48], none⟩])
 (.seq (.seq (.reg [⟨some 50, .faddr 11 (.tmp 1), none⟩, ⟨some 51, .load false 1 (.tmp 50), none⟩, ⟨some 52, .lenL (.tmp 51), none⟩, ⟨some 53, .mv (.con (.int .i64 0)), none⟩])
 (.block 0
 (.loop (.seq (.reg [⟨some 54, .bin .lss .plain (.tmp 53) (.tmp 52), none⟩])
 (.seq (.cond (.tmp 54)
 .skip
 (.exit 0))
 (.seq (.block 1
 (.seq (.reg [⟨some 55, .mv (.tmp 53), none⟩, ⟨some 56, .iaddr 1 (.tmp 51) (.tmp 53), none⟩, ⟨some 57, .load false 1 (.tmp 56), none⟩, ⟨some 7, .mv (.tmp 55), none⟩, ⟨some 8, .mv (.tmp 57), none⟩])
 (.seq (.dreg [⟨some 58, .mv (.tmp 5), none⟩, ⟨some 59, .faddr 9 (.tmp 1), none⟩, ⟨some 60, .load false 1 (.tmp 59), none⟩, ⟨some 61, .mv (.tmp 7), none⟩, ⟨some 62, .iaddr 1 (.tmp 60) (.tmp 61), none⟩, ⟨some 63, .load false 1 (.tmp 62), none⟩, ⟨some 64, .faddr 10 (.tmp 1), none⟩, ⟨some 65, .load false 1 (.tmp 64), none⟩, ⟨some 66, .mv (.tmp 7), none⟩, ⟨some 67, .iaddr 1 (.tmp 65) (.tmp 66), none⟩, ⟨some 68, .load false 1 (.tmp 67), none⟩, ⟨some 69, .bslice 1 2 [.int .i64 0] [(0, 1, .tmp 63), (1, 1, .tmp 68)], none⟩, ⟨some 70, .call 23 [.tmp 58, .tmp 69], none⟩] [11, 12] [0, 0, 2, 0, 14, 30, 0, 64, 0, 448, 960, 2046, 4095] [])
 (.reg [⟨some 71, .mv (.tmp 5), none⟩, ⟨some 72, .mv (.tmp 8), none⟩, ⟨some 73, .call 24 [.tmp 71, .tmp 72], none⟩]))))
 (.reg [⟨some 74, .bin .add .plain (.tmp 53) (.con (.int .i64 1)), none⟩, ⟨some 53, .mv (.tmp 74), none⟩])))))))
 (.seq (.reg [⟨some 75, .mv (.tmp 5), none⟩, ⟨some 76, .faddr 12 (.tmp 1), none⟩, ⟨some 77, .load false 1 (.tmp 76), none⟩, ⟨some 78, .lenL (.tmp 77), none⟩, ⟨some 79, .call 22 [.tmp 75, .tmp 78], none⟩])
 (.seq (.reg [⟨some 80, .mv (.tmp 5), none⟩, ⟨some 81, .faddr 12 (.tmp 1), none⟩, ⟨some 82, .load false 1 (.tmp 81), none⟩, ⟨some 83, .call 23 [.tmp 80, .tmp 82], none⟩])
 (.seq (.reg [⟨some 84, .mv (.tmp 5), none⟩, ⟨some 85, .faddr 13 (.tmp 1), none⟩, ⟨some 86, .load false 1 (.tmp 85), none⟩, ⟨some 87, .call 24 [.tmp 84, .tmp 86], none⟩])
 (.seq (.reg [⟨some 88, .mv (.tmp 5), none⟩, ⟨some 89, .nilck (.tmp 88), none⟩, ⟨some 90, .faddr 0 (.tmp 89), none⟩, ⟨some 91, .load false 1 (.tmp 90), none⟩, ⟨some 2, .mv (.tmp 91), none⟩, ⟨some 3, .mv (.con (.int .i64 0)), none⟩])
 .ret)))))))))))))))
def ac18 : AFun := ⟨1, 92, ab18, [(.tmp 2), (.tmp 3)]⟩
theorem cf18 : compF Try.prog Try.f18 = some ac18 := by kernel_rfl
theorem cl18 : callable Try.prog 18 = true := by kernel_rfl
theorem fn18 : Try.prog.funcs[18]? = some Try.f18 := by kernel_rfl
/- slices.Clone[[]byte,byte] -/
def ab19 : ACode := (.seq (.reg [⟨some 2, .mv (.con .nils), none⟩])
 (.seq (.seq (.reg [⟨some 3, .mv (.tmp 0), none⟩, ⟨some 4, .bin .eql .slice (.tmp 3) (.con .nils), none⟩])
 (.cond (.tmp 4)
 (.seq (.reg [⟨some 2, .mv (.con .nils), none⟩])
 .ret)
 .skip))
 (.seq (.reg [⟨some 5, .bslice 1 0 [.int .u8 0] [], none⟩, ⟨some 6, .mv (.tmp 0), none⟩, ⟨some 7, .append 1 1 (.tmp 5) (.tmp 6), none⟩, ⟨some 2, .mv (.tmp 7), none⟩])
 .ret)))
def ac19 : AFun := ⟨1, 8, ab19, [(.tmp 2)]⟩
theorem cf19 : compF Try.prog Try.f19 = some ac19 := by kernel_rfl
theorem cl19 : callable Try.prog 19 = true := by kernel_rfl
theorem fn19 : Try.prog.funcs[19]? = some Try.f19 := by kernel_rfl
/- chancel/pack.turn -/
def ab20 : ACode := (.seq (.reg [⟨some 2, .mv (.con (.int .u32 0)), none⟩])
 (.seq (.seq (.reg [⟨some 3, .mv (.con (.int .i64 0)), none⟩])
 (.block 0
 (.loop (.seq (.reg [⟨some 4, .bin .lss .plain (.tmp 3) (.con (.int .i64 8)), none⟩])
 (.seq (.cond (.tmp 4)
 .skip
 (.exit 0))
 (.seq (.block 1
 (.seq (.reg [⟨some 5, .mv (.tmp 0), none⟩, ⟨some 6, .bin .and .plain (.tmp 5) (.con (.int .u32 1)), none⟩, ⟨some 7, .bin .eql .plain (.tmp 6) (.con (.int .u32 1)), none⟩])
 (.cond (.tmp 7)
 (.reg [⟨some 8, .mv (.tmp 0), none⟩, ⟨some 9, .bin .shr .plain (.tmp 8) (.con (.int .u64 1)), none⟩, ⟨some 10, .bin .xor .plain (.tmp 9) (.con (.int .u32 2197175160)), none⟩, ⟨some 0, .mv (.tmp 10), none⟩])
 (.reg [⟨some 11, .mv (.tmp 0), none⟩, ⟨some 12, .bin .shr .plain (.tmp 11) (.con (.int .u64 1)), none⟩, ⟨some 0, .mv (.tmp 12), none⟩]))))
 (.reg [⟨some 13, .bin .add .plain (.tmp 3) (.con (.int .i64 1)), none⟩, ⟨some 3, .mv (.tmp 13), none⟩])))))))
 (.seq (.reg [⟨some 14, .mv (.tmp 0), none⟩, ⟨some 2, .mv (.tmp 14), none⟩])
 .ret)))
def ac20 : AFun := ⟨1, 15, ab20, [(.tmp 2)]⟩
theorem cf20 : compF Try.prog Try.f20 = some ac20 := by kernel_rfl
theorem cl20 : callable Try.prog 20 = true := by kernel_rfl
theorem fn20 : Try.prog.funcs[20]? = some Try.f20 := by kernel_rfl
/- chancel/pack.wrong -/
def ab21 : ACode := (.seq (.reg [⟨some 1, .box (.tmp 0), none⟩, ⟨some 2, .mv (.con (.int .i64 0)), none⟩])
 (.seq (.block 0
 (.seq (.reg [⟨some 4, .faddr 2 (.tmp 1), none⟩, ⟨some 5, .load false 1 (.tmp 4), none⟩, ⟨some 6, .bin .lss .plain (.tmp 5) (.con (.int .i64 1)), none⟩, ⟨some 7, .mv (.tmp 6), none⟩, ⟨some 8, .faddr 2 (.tmp 1), some (7, false)⟩, ⟨some 9, .load false 1 (.tmp 8), some (7, false)⟩, ⟨some 10, .bin .gtr .plain (.tmp 9) (.con (.int .i64 5)), some (7, false)⟩, ⟨some 11, .pick (.tmp 7) (.con (.bool true)) (.tmp 10), none⟩, ⟨some 3, .mv (.tmp 11), none⟩])
 (.cond (.tmp 3)
 (.seq (.reg [⟨some 2, .mv (.con (.int .i64 3)), none⟩])
 .ret)
 (.seq (.reg [⟨some 13, .faddr 0 (.tmp 1), none⟩, ⟨some 14, .load false 1 (.tmp 13), none⟩, ⟨some 15, .bin .lss .plain (.tmp 14) (.con (.int .i64 1)), none⟩, ⟨some 16, .mv (.tmp 15), none⟩, ⟨some 17, .faddr 0 (.tmp 1), some (16, false)⟩, ⟨some 18, .load false 1 (.tmp 17), some (16, false)⟩, ⟨some 19, .bin .gtr .plain (.tmp 18) (.con (.int .i64 8)), some (16, false)⟩, ⟨some 20, .pick (.tmp 16) (.con (.bool true)) (.tmp 19), none⟩, ⟨some 21, .mv (.tmp 20), none⟩, ⟨some 22, .faddr 1 (.tmp 1), some (21, false)⟩, ⟨some 23, .load false 1 (.tmp 22), some (21, false)⟩, ⟨some 24, .bin .lss .plain (.tmp 23) (.con (.int .i64 1)), some (21, false)⟩, ⟨some 25, .pick (.tmp 21) (.con (.bool true)) (.tmp 24), none⟩, ⟨some 12, .mv (.tmp 25), none⟩])
 (.cond (.tmp 12)
 (.seq (.reg [⟨some 2, .mv (.con (.int .i64 1)), none⟩])
 .ret)
 (.seq (.reg [⟨some 27, .faddr 3 (.tmp 1), none⟩, ⟨some 28, .load false 1 (.tmp 27), none⟩, ⟨some 29, .lenS (.tmp 28), none⟩, ⟨some 30, .bin .gtr .plain (.tmp 29) (.con (.int .i64 12)), none⟩, ⟨some 31, .mv (.tmp 30), none⟩, ⟨some 32, .faddr 4 (.tmp 1), some (31, false)⟩, ⟨some 33, .load false 1 (.tmp 32), some (31, false)⟩, ⟨some 34, .lenS (.tmp 33), some (31, false)⟩, ⟨some 35, .bin .gtr .plain (.tmp 34) (.con (.int .i64 600)), some (31, false)⟩, ⟨some 36, .pick (.tmp 31) (.con (.bool true)) (.tmp 35), none⟩, ⟨some 26, .mv (.tmp 36), none⟩])
 (.cond (.tmp 26)
 (.seq (.reg [⟨some 2, .mv (.con (.int .i64 5)), none⟩])
 .ret)
 .skip)))))))
 (.seq (.reg [⟨some 2, .mv (.con (.int .i64 0)), none⟩])
 .ret)))
def ac21 : AFun := ⟨1, 37, ab21, [(.tmp 2)]⟩
theorem cf21 : compF Try.prog Try.f21 = some ac21 := by kernel_rfl
theorem cl21 : callable Try.prog 21 = true := by kernel_rfl
theorem fn21 : Try.prog.funcs[21]? = some Try.f21 := by kernel_rfl
/- (*chancel/pack.row).byte -/
def ab22 : ACode := (.reg [⟨some 4, .mv (.tmp 0), none⟩, ⟨some 5, .mv (.tmp 0), none⟩, ⟨some 6, .nilck (.tmp 5), none⟩, ⟨some 7, .faddr 0 (.tmp 6), none⟩, ⟨some 8, .load false 1 (.tmp 7), none⟩, ⟨some 9, .mv (.tmp 1), none⟩, ⟨some 10, .cvInt .u8 (.tmp 9), none⟩, ⟨some 11, .bslice 1 1 [.int .u8 0] [(0, 1, .tmp 10)], none⟩, ⟨some 12, .append 1 1 (.tmp 8) (.tmp 11), none⟩, ⟨some 13, .nilck (.tmp 4), none⟩, ⟨some 14, .faddr 0 (.tmp 13), none⟩, ⟨none, .store 1 (.tmp 14) (.tmp 12), none⟩])
def ac22 : AFun := ⟨2, 15, ab22, []⟩
theorem cf22 : compF Try.prog Try.f22 = some ac22 := by kernel_rfl
theorem cl22 : callable Try.prog 22 = true := by kernel_rfl
theorem fn22 : Try.prog.funcs[22]? = some Try.f22 := by kernel_rfl
/- (*chancel/pack.row).int -/
def ab23 : ACode := (.seq (.reg [⟨some 7, .mv (.tmp 1), none⟩, ⟨some 8, .lenL (.tmp 7), none⟩, ⟨some 9, .mv (.con (.int .i64 0)), none⟩])
 (.block 0
 (.loop (.seq (.reg [⟨some 10, .bin .lss .plain (.tmp 9) (.tmp 8), none⟩])
 (.seq (.cond (.tmp 10)
 .skip
 (.exit 0))
 (.seq (.block 1
 (.seq (.reg [⟨some 11, .iaddr 1 (.tmp 7) (.tmp 9), none⟩, ⟨some 12, .load false 1 (.tmp 11), none⟩, ⟨some 5, .mv (.tmp 12), none⟩])
 (.seq (.reg [⟨some 6, .mv (.con (.int .i64 7)), none⟩])
 (.block 2
 (.loop (.seq (.seq (.reg [⟨some 13, .mv (.tmp 6), none⟩, ⟨some 14, .bin .geq .plain (.tmp 13) (.con (.int .i64 0)), none⟩])
 (.cond (.tmp 14)
 .skip
 (.exit 2)))
 (.seq (.block 3
 (.dreg [⟨some 17, .mv (.tmp 0), none⟩, ⟨some 18, .mv (.tmp 0), none⟩, ⟨some 19, .nilck (.tmp 18), none⟩, ⟨some 20, .faddr 0 (.tmp 19), none⟩, ⟨some 21, .load false 1 (.tmp 20), none⟩, ⟨some 22, .mv (.tmp 5), none⟩, ⟨some 23, .mv (.tmp 6), none⟩, ⟨some 24, .bin .mul .plain (.con (.int .i64 8)) (.tmp 23), none⟩, ⟨some 25, .bin .shr .plain (.tmp 22) (.tmp 24), none⟩, ⟨some 26, .cvInt .u8 (.tmp 25), none⟩, ⟨some 27, .bslice 1 1 [.int .u8 0] [(0, 1, .tmp 26)], none⟩, ⟨some 28, .append 1 1 (.tmp 21) (.tmp 27), none⟩, ⟨some 29, .nilck (.tmp 17), none⟩, ⟨some 30, .faddr 0 (.tmp 29), none⟩, ⟨none, .store 1 (.tmp 30) (.tmp 28), none⟩] [10, 11, 14] [0, 0, 2, 6, 14, 0, 0, 64, 224, 480, 992, 2046, 4095, 8191, 16383] []))
 (.reg [⟨some 15, .mv (.tmp 6), none⟩, ⟨some 16, .bin .sub .plain (.tmp 15) (.con (.int .i64 1)), none⟩, ⟨some 6, .mv (.tmp 16), none⟩]))))))))
 (.reg [⟨some 31, .bin .add .plain (.tmp 9) (.con (.int .i64 1)), none⟩, ⟨some 9, .mv (.tmp 31), none⟩])))))))
def ac23 : AFun := ⟨2, 32, ab23, []⟩
theorem cf23 : compF Try.prog Try.f23 = some ac23 := by kernel_rfl
theorem cl23 : callable Try.prog 23 = true := by kernel_rfl
theorem fn23 : Try.prog.funcs[23]? = some Try.f23 := by kernel_rfl
/- (*chancel/pack.row).bytes -/
def ab24 : ACode := (.seq (.reg [⟨some 4, .mv (.tmp 0), none⟩, ⟨some 5, .mv (.tmp 0), none⟩, ⟨some 6, .nilck (.tmp 5), none⟩, ⟨some 7, .faddr 0 (.tmp 6), none⟩, ⟨some 8, .load false 1 (.tmp 7), none⟩, ⟨some 9, .mv (.tmp 1), none⟩, ⟨some 10, .lenL (.tmp 9), none⟩, ⟨some 11, .bin .shr .plain (.tmp 10) (.con (.int .u64 8)), none⟩, ⟨some 12, .cvInt .u8 (.tmp 11), none⟩, ⟨some 13, .mv (.tmp 1), none⟩, ⟨some 14, .lenL (.tmp 13), none⟩, ⟨some 15, .cvInt .u8 (.tmp 14), none⟩, ⟨some 16, .bslice 1 2 [.int .u8 0] [(0, 1, .tmp 12), (1, 1, .tmp 15)], none⟩, ⟨some 17, .append 1 1 (.tmp 8) (.tmp 16), none⟩, ⟨some 18, .nilck (.tmp 4), none⟩, ⟨some 19, .faddr 0 (.tmp 18), none⟩, ⟨none, .store 1 (.tmp 19) (.tmp 17), none⟩])
 (.reg [⟨some 20, .mv (.tmp 0), none⟩, ⟨some 21, .mv (.tmp 0), none⟩, ⟨some 22, .nilck (.tmp 21), none⟩, ⟨some 23, .faddr 0 (.tmp 22), none⟩, ⟨some 24, .load false 1 (.tmp 23), none⟩, ⟨some 25, .mv (.tmp 1), none⟩, ⟨some 26, .append 1 1 (.tmp 24) (.tmp 25), none⟩, ⟨some 27, .nilck (.tmp 20), none⟩, ⟨some 28, .faddr 0 (.tmp 27), none⟩, ⟨none, .store 1 (.tmp 28) (.tmp 26), none⟩]))
def ac24 : AFun := ⟨2, 29, ab24, []⟩
theorem cf24 : compF Try.prog Try.f24 = some ac24 := by kernel_rfl
theorem cl24 : callable Try.prog 24 = true := by kernel_rfl
theorem fn24 : Try.prog.funcs[24]? = some Try.f24 := by kernel_rfl
/- chancel/chancelref7.wrong -/
def ab25 : ACode := (.seq (.reg [⟨some 1, .box (.tmp 0), none⟩, ⟨some 2, .mv (.con (.int .i64 0)), none⟩])
 (.seq (.block 0
 (.seq (.reg [⟨some 4, .faddr 2 (.tmp 1), none⟩, ⟨some 5, .load false 1 (.tmp 4), none⟩, ⟨some 6, .bin .lss .plain (.tmp 5) (.con (.int .i64 1)), none⟩, ⟨some 7, .mv (.tmp 6), none⟩, ⟨some 8, .faddr 2 (.tmp 1), some (7, false)⟩, ⟨some 9, .load false 1 (.tmp 8), some (7, false)⟩, ⟨some 10, .bin .gtr .plain (.tmp 9) (.con (.int .i64 5)), some (7, false)⟩, ⟨some 11, .pick (.tmp 7) (.con (.bool true)) (.tmp 10), none⟩, ⟨some 3, .mv (.tmp 11), none⟩])
 (.cond (.tmp 3)
 (.seq (.reg [⟨some 2, .mv (.con (.int .i64 3)), none⟩])
 .ret)
 (.seq (.reg [⟨some 13, .faddr 0 (.tmp 1), none⟩, ⟨some 14, .load false 1 (.tmp 13), none⟩, ⟨some 15, .bin .lss .plain (.tmp 14) (.con (.int .i64 1)), none⟩, ⟨some 16, .mv (.tmp 15), none⟩, ⟨some 17, .faddr 0 (.tmp 1), some (16, false)⟩, ⟨some 18, .load false 1 (.tmp 17), some (16, false)⟩, ⟨some 19, .bin .gtr .plain (.tmp 18) (.con (.int .i64 8)), some (16, false)⟩, ⟨some 20, .pick (.tmp 16) (.con (.bool true)) (.tmp 19), none⟩, ⟨some 21, .mv (.tmp 20), none⟩, ⟨some 22, .faddr 1 (.tmp 1), some (21, false)⟩, ⟨some 23, .load false 1 (.tmp 22), some (21, false)⟩, ⟨some 24, .bin .lss .plain (.tmp 23) (.con (.int .i64 1)), some (21, false)⟩, ⟨some 25, .pick (.tmp 21) (.con (.bool true)) (.tmp 24), none⟩, ⟨some 12, .mv (.tmp 25), none⟩])
 (.cond (.tmp 12)
 (.seq (.reg [⟨some 2, .mv (.con (.int .i64 1)), none⟩])
 .ret)
 (.seq (.reg [⟨some 27, .faddr 3 (.tmp 1), none⟩, ⟨some 28, .load false 1 (.tmp 27), none⟩, ⟨some 29, .lenS (.tmp 28), none⟩, ⟨some 30, .bin .gtr .plain (.tmp 29) (.con (.int .i64 12)), none⟩, ⟨some 31, .mv (.tmp 30), none⟩, ⟨some 32, .faddr 4 (.tmp 1), some (31, false)⟩, ⟨some 33, .load false 1 (.tmp 32), some (31, false)⟩, ⟨some 34, .lenS (.tmp 33), some (31, false)⟩, ⟨some 35, .bin .gtr .plain (.tmp 34) (.con (.int .i64 600)), some (31, false)⟩, ⟨some 36, .pick (.tmp 31) (.con (.bool true)) (.tmp 35), none⟩, ⟨some 26, .mv (.tmp 36), none⟩])
 (.cond (.tmp 26)
 (.seq (.reg [⟨some 2, .mv (.con (.int .i64 5)), none⟩])
 .ret)
 .skip)))))))
 (.seq (.reg [⟨some 2, .mv (.con (.int .i64 0)), none⟩])
 .ret)))
def ac25 : AFun := ⟨1, 37, ab25, [(.tmp 2)]⟩
theorem cf25 : compF Try.prog Try.f25 = some ac25 := by kernel_rfl
theorem cl25 : callable Try.prog 25 = true := by kernel_rfl
theorem fn25 : Try.prog.funcs[25]? = some Try.f25 := by kernel_rfl
/- chancel/chancelref7.num -/
def ab26 : ACode := (.seq (.reg [⟨some 4, .mv (.con .nils), none⟩])
 (.seq (.seq (.reg [⟨some 5, .mv (.con (.int .i64 7)), none⟩])
 (.block 0
 (.loop (.seq (.seq (.reg [⟨some 6, .mv (.tmp 5), none⟩, ⟨some 7, .bin .geq .plain (.tmp 6) (.con (.int .i64 0)), none⟩])
 (.cond (.tmp 7)
 .skip
 (.exit 0)))
 (.seq (.block 1
 (.reg [⟨some 10, .mv (.tmp 0), none⟩, ⟨some 11, .mv (.tmp 1), none⟩, ⟨some 12, .cvInt .u64 (.tmp 11), none⟩, ⟨some 13, .mv (.tmp 5), none⟩, ⟨some 14, .bin .mul .plain (.con (.int .i64 8)) (.tmp 13), none⟩, ⟨some 15, .bin .shr .plain (.tmp 12) (.tmp 14), none⟩, ⟨some 16, .cvInt .u8 (.tmp 15), none⟩, ⟨some 17, .bslice 1 1 [.int .u8 0] [(0, 1, .tmp 16)], none⟩, ⟨some 18, .append 1 1 (.tmp 10) (.tmp 17), none⟩, ⟨some 0, .mv (.tmp 18), none⟩]))
 (.reg [⟨some 8, .mv (.tmp 5), none⟩, ⟨some 9, .bin .sub .plain (.tmp 8) (.con (.int .i64 1)), none⟩, ⟨some 5, .mv (.tmp 9), none⟩]))))))
 (.seq (.reg [⟨some 19, .mv (.tmp 0), none⟩, ⟨some 4, .mv (.tmp 19), none⟩])
 .ret)))
def ac26 : AFun := ⟨2, 20, ab26, [(.tmp 4)]⟩
theorem cf26 : compF Try.prog Try.f26 = some ac26 := by kernel_rfl
theorem cl26 : callable Try.prog 26 = true := by kernel_rfl
theorem fn26 : Try.prog.funcs[26]? = some Try.f26 := by kernel_rfl
/- chancel/chancelref7.bytes -/
def ab27 : ACode := (.seq (.reg [⟨some 4, .mv (.con .nils), none⟩])
 (.seq (.reg [⟨some 5, .mv (.tmp 0), none⟩, ⟨some 6, .mv (.tmp 1), none⟩, ⟨some 7, .lenL (.tmp 6), none⟩, ⟨some 8, .bin .shr .plain (.tmp 7) (.con (.int .u64 8)), none⟩, ⟨some 9, .cvInt .u8 (.tmp 8), none⟩, ⟨some 10, .mv (.tmp 1), none⟩, ⟨some 11, .lenL (.tmp 10), none⟩, ⟨some 12, .cvInt .u8 (.tmp 11), none⟩, ⟨some 13, .bslice 1 2 [.int .u8 0] [(0, 1, .tmp 9), (1, 1, .tmp 12)], none⟩, ⟨some 14, .append 1 1 (.tmp 5) (.tmp 13), none⟩, ⟨some 15, .mv (.tmp 1), none⟩, ⟨some 16, .append 1 1 (.tmp 14) (.tmp 15), none⟩, ⟨some 4, .mv (.tmp 16), none⟩])
 .ret))
def ac27 : AFun := ⟨2, 17, ab27, [(.tmp 4)]⟩
theorem cf27 : compF Try.prog Try.f27 = some ac27 := by kernel_rfl
theorem cl27 : callable Try.prog 27 = true := by kernel_rfl
theorem fn27 : Try.prog.funcs[27]? = some Try.f27 := by kernel_rfl
/- (*chancel/pack.reader).byte -/
def ab28 : ACode := (.seq (.reg [⟨some 2, .mv (.con (.int .i64 0)), none⟩])
 (.seq (.seq (.reg [⟨some 5, .mv (.tmp 0), none⟩, ⟨some 6, .call 37 [.tmp 5, .con (.int .i64 1)], none⟩, ⟨some 7, .lenL (.tmp 6), none⟩, ⟨some 8, .mv (.con (.int .i64 0)), none⟩])
 (.block 0
 (.loop (.seq (.reg [⟨some 9, .bin .lss .plain (.tmp 8) (.tmp 7), none⟩])
 (.seq (.cond (.tmp 9)
 .skip
 (.exit 0))
 (.seq (.block 1
 (.seq (.reg [⟨some 10, .iaddr 1 (.tmp 6) (.tmp 8), none⟩, ⟨some 11, .load false 1 (.tmp 10), none⟩, ⟨some 4, .mv (.tmp 11), none⟩])
 (.seq (.reg [⟨some 12, .mv (.tmp 4), none⟩, ⟨some 13, .cvInt .i64 (.tmp 12), none⟩, ⟨some 2, .mv (.tmp 13), none⟩])
 .ret)))
 (.reg [⟨some 14, .bin .add .plain (.tmp 8) (.con (.int .i64 1)), none⟩, ⟨some 8, .mv (.tmp 14), none⟩])))))))
 (.seq (.reg [⟨some 2, .mv (.con (.int .i64 0)), none⟩])
 .ret)))
def ac28 : AFun := ⟨1, 15, ab28, [(.tmp 2)]⟩
theorem cf28 : compF Try.prog Try.f28 = some ac28 := by kernel_rfl
theorem cl28 : callable Try.prog 28 = true := by kernel_rfl
theorem fn28 : Try.prog.funcs[28]? = some Try.f28 := by kernel_rfl
/- (*chancel/pack.reader).int -/
def ab29 : ACode := (.seq (.reg [⟨some 2, .mv (.con (.int .i64 0)), none⟩])
 (.seq (.reg [⟨some 3, .mv (.con (.int .i64 0)), none⟩])
 (.seq (.seq (.reg [⟨some 6, .mv (.tmp 0), none⟩, ⟨some 7, .call 37 [.tmp 6, .con (.int .i64 8)], none⟩, ⟨some 8, .lenL (.tmp 7), none⟩, ⟨some 9, .mv (.con (.int .i64 0)), none⟩])
 (.block 0
 (.loop (.seq (.reg [⟨some 10, .bin .lss .plain (.tmp 9) (.tmp 8), none⟩])
 (.seq (.cond (.tmp 10)
 .skip
 (.exit 0))
 (.seq (.block 1
 (.seq (.reg [⟨some 11, .iaddr 1 (.tmp 7) (.tmp 9), none⟩, ⟨some 12, .load false 1 (.tmp 11), none⟩, ⟨some 5, .mv (.tmp 12), none⟩])
 (.reg [⟨some 13, .mv (.tmp 3), none⟩, ⟨some 14, .bin .shl .plain (.tmp 13) (.con (.int .u64 8)), none⟩, ⟨some 15, .mv (.tmp 5), none⟩, ⟨some 16, .cvInt .i64 (.tmp 15), none⟩, ⟨some 17, .bin .or .plain (.tmp 14) (.tmp 16), none⟩, ⟨some 3, .mv (.tmp 17), none⟩])))
 (.reg [⟨some 18, .bin .add .plain (.tmp 9) (.con (.int .i64 1)), none⟩, ⟨some 9, .mv (.tmp 18), none⟩])))))))
 (.seq (.reg [⟨some 19, .mv (.tmp 3), none⟩, ⟨some 2, .mv (.tmp 19), none⟩])
 .ret))))
def ac29 : AFun := ⟨1, 20, ab29, [(.tmp 2)]⟩
theorem cf29 : compF Try.prog Try.f29 = some ac29 := by kernel_rfl
theorem cl29 : callable Try.prog 29 = true := by kernel_rfl
theorem fn29 : Try.prog.funcs[29]? = some Try.f29 := by kernel_rfl
/- (*chancel/pack.reader).bytes -/
def ab30 : ACode := (.seq (.reg [⟨some 2, .mv (.con .nils), none⟩])
 (.seq (.reg [⟨some 4, .mv (.tmp 0), none⟩, ⟨some 5, .call 28 [.tmp 4], none⟩, ⟨some 6, .bin .shl .plain (.tmp 5) (.con (.int .u64 8)), none⟩, ⟨some 7, .mv (.tmp 0), none⟩, ⟨some 8, .call 28 [.tmp 7], none⟩, ⟨some 9, .bin .or .plain (.tmp 6) (.tmp 8), none⟩, ⟨some 3, .mv (.tmp 9), none⟩])
 (.seq (.reg [⟨some 10, .mv (.tmp 0), none⟩, ⟨some 11, .mv (.tmp 3), none⟩, ⟨some 12, .call 37 [.tmp 10, .tmp 11], none⟩, ⟨some 2, .mv (.tmp 12), none⟩])
 .ret)))
def ac30 : AFun := ⟨1, 13, ab30, [(.tmp 2)]⟩
theorem cf30 : compF Try.prog Try.f30 = some ac30 := by kernel_rfl
theorem cl30 : callable Try.prog 30 = true := by kernel_rfl
theorem fn30 : Try.prog.funcs[30]? = some Try.f30 := by kernel_rfl
/- (*chancel/pack.reader).end -/
def ab31 : ACode := (.seq (.reg [⟨some 2, .mv (.con (.int .i64 0)), none⟩])
 (.seq (.seq (.reg [⟨some 3, .mv (.tmp 0), none⟩, ⟨some 4, .nilck (.tmp 3), none⟩, ⟨some 5, .faddr 1 (.tmp 4), none⟩, ⟨some 6, .load false 1 (.tmp 5), none⟩, ⟨some 7, .bin .eql .plain (.tmp 6) (.con (.int .i64 0)), none⟩, ⟨some 8, .mv (.tmp 7), none⟩, ⟨some 9, .mv (.tmp 0), some (8, true)⟩, ⟨some 10, .nilck (.tmp 9), some (8, true)⟩, ⟨some 11, .faddr 0 (.tmp 10), some (8, true)⟩, ⟨some 12, .load false 1 (.tmp 11), some (8, true)⟩, ⟨some 13, .lenL (.tmp 12), some (8, true)⟩, ⟨some 14, .bin .gtr .plain (.tmp 13) (.con (.int .i64 0)), some (8, true)⟩, ⟨some 15, .pick (.tmp 8) (.tmp 14) (.con (.bool false)), none⟩])
 (.cond (.tmp 15)
 (.reg [⟨some 16, .mv (.tmp 0), none⟩, ⟨some 17, .nilck (.tmp 16), none⟩, ⟨some 18, .faddr 1 (.tmp 17), none⟩, ⟨none, .store 1 (.tmp 18) (.con (.int .i64 9)), none⟩])
 .skip))
 (.seq (.reg [⟨some 19, .mv (.tmp 0), none⟩, ⟨some 20, .nilck (.tmp 19), none⟩, ⟨some 21, .faddr 1 (.tmp 20), none⟩, ⟨some 22, .load false 1 (.tmp 21), none⟩, ⟨some 2, .mv (.tmp 22), none⟩])
 .ret)))
def ac31 : AFun := ⟨1, 23, ab31, [(.tmp 2)]⟩
theorem cf31 : compF Try.prog Try.f31 = some ac31 := by kernel_rfl
theorem cl31 : callable Try.prog 31 = true := by kernel_rfl
theorem fn31 : Try.prog.funcs[31]? = some Try.f31 := by kernel_rfl
/- (*chancel/chancelref7.reader).u8 -/
def ab32 : ACode := (.seq (.reg [⟨some 2, .mv (.con (.int .i64 0)), none⟩])
 (.seq (.seq (.dreg [⟨some 3, .mv (.tmp 0), none⟩, ⟨some 4, .nilck (.tmp 3), none⟩, ⟨some 5, .faddr 2 (.tmp 4), none⟩, ⟨some 6, .load false 1 (.tmp 5), none⟩, ⟨some 7, .bin .eql .plain (.tmp 6) (.con (.int .i64 0)), none⟩, ⟨some 8, .mv (.tmp 7), none⟩, ⟨some 9, .mv (.tmp 0), some (8, true)⟩, ⟨some 10, .nilck (.tmp 9), some (8, true)⟩, ⟨some 11, .faddr 1 (.tmp 10), some (8, true)⟩, ⟨some 12, .load false 1 (.tmp 11), some (8, true)⟩, ⟨some 13, .mv (.tmp 0), some (8, true)⟩, ⟨some 14, .nilck (.tmp 13), some (8, true)⟩, ⟨some 15, .faddr 0 (.tmp 14), some (8, true)⟩, ⟨some 16, .load false 1 (.tmp 15), some (8, true)⟩, ⟨some 17, .lenL (.tmp 16), some (8, true)⟩, ⟨some 18, .bin .geq .plain (.tmp 12) (.tmp 17), some (8, true)⟩, ⟨some 19, .pick (.tmp 8) (.tmp 18) (.con (.bool false)), none⟩] [] [0, 1, 3, 7, 15, 31, 63, 127, 255, 511, 63, 1087, 3135, 7231, 15423, 32767, 65535] [])
 (.cond (.tmp 19)
 (.reg [⟨some 20, .mv (.tmp 0), none⟩, ⟨some 21, .nilck (.tmp 20), none⟩, ⟨some 22, .faddr 2 (.tmp 21), none⟩, ⟨none, .store 1 (.tmp 22) (.con (.int .i64 8)), none⟩])
 .skip))
 (.seq (.seq (.reg [⟨some 23, .mv (.tmp 0), none⟩, ⟨some 24, .nilck (.tmp 23), none⟩, ⟨some 25, .faddr 2 (.tmp 24), none⟩, ⟨some 26, .load false 1 (.tmp 25), none⟩, ⟨some 27, .bin .neq .plain (.tmp 26) (.con (.int .i64 0)), none⟩])
 (.cond (.tmp 27)
 (.seq (.reg [⟨some 2, .mv (.con (.int .i64 0)), none⟩])
 .ret)
 .skip))
 (.seq (.reg [⟨some 28, .mv (.tmp 0), none⟩, ⟨some 29, .nilck (.tmp 28), none⟩, ⟨some 30, .faddr 1 (.tmp 29), none⟩, ⟨some 31, .load false 1 (.tmp 30), none⟩, ⟨some 32, .bin .add .plain (.tmp 31) (.con (.int .i64 1)), none⟩, ⟨some 33, .nilck (.tmp 28), none⟩, ⟨some 34, .faddr 1 (.tmp 33), none⟩, ⟨none, .store 1 (.tmp 34) (.tmp 32), none⟩])
 (.seq (.dreg [⟨some 35, .mv (.tmp 0), none⟩, ⟨some 36, .nilck (.tmp 35), none⟩, ⟨some 37, .faddr 0 (.tmp 36), none⟩, ⟨some 38, .load false 1 (.tmp 37), none⟩, ⟨some 39, .mv (.tmp 0), none⟩, ⟨some 40, .nilck (.tmp 39), none⟩, ⟨some 41, .faddr 1 (.tmp 40), none⟩, ⟨some 42, .load false 1 (.tmp 41), none⟩, ⟨some 43, .bin .sub .plain (.tmp 42) (.con (.int .i64 1)), none⟩, ⟨some 44, .iaddr 1 (.tmp 38) (.tmp 43), none⟩, ⟨some 45, .load false 1 (.tmp 44), none⟩, ⟨some 46, .cvInt .i64 (.tmp 45), none⟩, ⟨some 2, .mv (.tmp 46), none⟩] [] [0, 1, 3, 7, 0, 16, 48, 112, 240, 511, 1023, 2047, 4095] [])
 .ret)))))
def ac32 : AFun := ⟨1, 47, ab32, [(.tmp 2)]⟩
theorem cf32 : compF Try.prog Try.f32 = some ac32 := by kernel_rfl
theorem cl32 : callable Try.prog 32 = true := by kernel_rfl
theorem fn32 : Try.prog.funcs[32]? = some Try.f32 := by kernel_rfl
/- (*chancel/chancelref7.reader).num -/
def ab33 : ACode := (.seq (.reg [⟨some 2, .mv (.con (.int .i64 0)), none⟩])
 (.seq (.reg [⟨some 3, .mv (.con (.int .u64 0)), none⟩])
 (.seq (.seq (.reg [⟨some 4, .mv (.con (.int .i64 0)), none⟩])
 (.block 0
 (.loop (.seq (.seq (.reg [⟨some 5, .mv (.tmp 4), none⟩, ⟨some 6, .bin .lss .plain (.tmp 5) (.con (.int .i64 8)), none⟩])
 (.cond (.tmp 6)
 .skip
 (.exit 0)))
 (.seq (.block 1
 (.reg [⟨some 9, .mv (.tmp 3), none⟩, ⟨some 10, .bin .shl .plain (.tmp 9) (.con (.int .u64 8)), none⟩, ⟨some 11, .mv (.tmp 0), none⟩, ⟨some 12, .call 32 [.tmp 11], none⟩, ⟨some 13, .cvInt .u64 (.tmp 12), none⟩, ⟨some 14, .bin .or .plain (.tmp 10) (.tmp 13), none⟩, ⟨some 3, .mv (.tmp 14), none⟩]))
 (.reg [⟨some 7, .mv (.tmp 4), none⟩, ⟨some 8, .bin .add .plain (.tmp 7) (.con (.int .i64 1)), none⟩, ⟨some 4, .mv (.tmp 8), none⟩]))))))
 (.seq (.reg [⟨some 15, .mv (.tmp 3), none⟩, ⟨some 16, .cvInt .i64 (.tmp 15), none⟩, ⟨some 2, .mv (.tmp 16), none⟩])
 .ret))))
def ac33 : AFun := ⟨1, 17, ab33, [(.tmp 2)]⟩
theorem cf33 : compF Try.prog Try.f33 = some ac33 := by kernel_rfl
theorem cl33 : callable Try.prog 33 = true := by kernel_rfl
theorem fn33 : Try.prog.funcs[33]? = some Try.f33 := by kernel_rfl
/- (*chancel/chancelref7.reader).bytes -/
def ab34 : ACode := (.seq (.reg [⟨some 2, .mv (.con .nils), none⟩])
 (.seq (.reg [⟨some 5, .mv (.tmp 0), none⟩, ⟨some 6, .call 32 [.tmp 5], none⟩, ⟨some 7, .bin .shl .plain (.tmp 6) (.con (.int .u64 8)), none⟩, ⟨some 3, .mv (.tmp 7), none⟩])
 (.seq (.reg [⟨some 8, .mv (.tmp 3), none⟩, ⟨some 9, .mv (.tmp 0), none⟩, ⟨some 10, .call 32 [.tmp 9], none⟩, ⟨some 11, .bin .or .plain (.tmp 8) (.tmp 10), none⟩, ⟨some 3, .mv (.tmp 11), none⟩])
 (.seq (.seq (.dreg [⟨some 12, .mv (.tmp 0), none⟩, ⟨some 13, .nilck (.tmp 12), none⟩, ⟨some 14, .faddr 2 (.tmp 13), none⟩, ⟨some 15, .load false 1 (.tmp 14), none⟩, ⟨some 16, .bin .eql .plain (.tmp 15) (.con (.int .i64 0)), none⟩, ⟨some 17, .mv (.tmp 16), none⟩, ⟨some 18, .mv (.tmp 0), some (17, true)⟩, ⟨some 19, .nilck (.tmp 18), some (17, true)⟩, ⟨some 20, .faddr 0 (.tmp 19), some (17, true)⟩, ⟨some 21, .load false 1 (.tmp 20), some (17, true)⟩, ⟨some 22, .lenL (.tmp 21), some (17, true)⟩, ⟨some 23, .mv (.tmp 0), some (17, true)⟩, ⟨some 24, .nilck (.tmp 23), some (17, true)⟩, ⟨some 25, .faddr 1 (.tmp 24), some (17, true)⟩, ⟨some 26, .load false 1 (.tmp 25), some (17, true)⟩, ⟨some 27, .bin .sub .plain (.tmp 22) (.tmp 26), some (17, true)⟩, ⟨some 28, .mv (.tmp 3), some (17, true)⟩, ⟨some 29, .bin .lss .plain (.tmp 27) (.tmp 28), some (17, true)⟩, ⟨some 30, .pick (.tmp 17) (.tmp 29) (.con (.bool false)), none⟩] [] [0, 1, 3, 7, 15, 31, 63, 127, 255, 511, 1023, 63, 2111, 6207, 14399, 32767, 63, 131071, 262143] [])
 (.cond (.tmp 30)
 (.reg [⟨some 31, .mv (.tmp 0), none⟩, ⟨some 32, .nilck (.tmp 31), none⟩, ⟨some 33, .faddr 2 (.tmp 32), none⟩, ⟨none, .store 1 (.tmp 33) (.con (.int .i64 8)), none⟩])
 .skip))
 (.seq (.seq (.reg [⟨some 34, .mv (.tmp 0), none⟩, ⟨some 35, .nilck (.tmp 34), none⟩, ⟨some 36, .faddr 2 (.tmp 35), none⟩, ⟨some 37, .load false 1 (.tmp 36), none⟩, ⟨some 38, .bin .neq .plain (.tmp 37) (.con (.int .i64 0)), none⟩])
 (.cond (.tmp 38)
 (.seq (.reg [⟨some 2, .mv (.con .nils), none⟩])
 .ret)
 .skip))
 (.seq (.dreg [⟨some 39, .bslice 1 0 [.int .u8 0] [], none⟩, ⟨some 40, .mv (.tmp 0), none⟩, ⟨some 41, .nilck (.tmp 40), none⟩, ⟨some 42, .faddr 0 (.tmp 41), none⟩, ⟨some 43, .load false 1 (.tmp 42), none⟩, ⟨some 44, .mv (.tmp 0), none⟩, ⟨some 45, .nilck (.tmp 44), none⟩, ⟨some 46, .faddr 1 (.tmp 45), none⟩, ⟨some 47, .load false 1 (.tmp 46), none⟩, ⟨some 48, .mv (.tmp 0), none⟩, ⟨some 49, .nilck (.tmp 48), none⟩, ⟨some 50, .faddr 1 (.tmp 49), none⟩, ⟨some 51, .load false 1 (.tmp 50), none⟩, ⟨some 52, .mv (.tmp 3), none⟩, ⟨some 53, .bin .add .plain (.tmp 51) (.tmp 52), none⟩, ⟨some 54, .slSl 1 (.tmp 43) (some (.tmp 47)) (some (.tmp 53)) none, none⟩, ⟨some 55, .append 1 1 (.tmp 39) (.tmp 54), none⟩, ⟨some 4, .mv (.tmp 55), none⟩] [0, 16] [0, 0, 2, 6, 14, 0, 32, 96, 224, 0, 512, 1536, 3584, 0, 15872, 32766, 65535, 131071] [])
 (.seq (.reg [⟨some 56, .mv (.tmp 0), none⟩, ⟨some 57, .mv (.tmp 0), none⟩, ⟨some 58, .nilck (.tmp 57), none⟩, ⟨some 59, .faddr 1 (.tmp 58), none⟩, ⟨some 60, .load false 1 (.tmp 59), none⟩, ⟨some 61, .mv (.tmp 3), none⟩, ⟨some 62, .bin .add .plain (.tmp 60) (.tmp 61), none⟩, ⟨some 63, .nilck (.tmp 56), none⟩, ⟨some 64, .faddr 1 (.tmp 63), none⟩, ⟨none, .store 1 (.tmp 64) (.tmp 62), none⟩])
 (.seq (.reg [⟨some 65, .mv (.tmp 4), none⟩, ⟨some 2, .mv (.tmp 65), none⟩])
 .ret))))))))
def ac34 : AFun := ⟨1, 66, ab34, [(.tmp 2)]⟩
theorem cf34 : compF Try.prog Try.f34 = some ac34 := by kernel_rfl
theorem cl34 : callable Try.prog 34 = true := by kernel_rfl
theorem fn34 : Try.prog.funcs[34]? = some Try.f34 := by kernel_rfl
/- (*chancel/chancelref7.reader).end -/
def ab35 : ACode := (.seq (.reg [⟨some 2, .mv (.con (.int .i64 0)), none⟩])
 (.seq (.seq (.dreg [⟨some 3, .mv (.tmp 0), none⟩, ⟨some 4, .nilck (.tmp 3), none⟩, ⟨some 5, .faddr 2 (.tmp 4), none⟩, ⟨some 6, .load false 1 (.tmp 5), none⟩, ⟨some 7, .bin .eql .plain (.tmp 6) (.con (.int .i64 0)), none⟩, ⟨some 8, .mv (.tmp 7), none⟩, ⟨some 9, .mv (.tmp 0), some (8, true)⟩, ⟨some 10, .nilck (.tmp 9), some (8, true)⟩, ⟨some 11, .faddr 1 (.tmp 10), some (8, true)⟩, ⟨some 12, .load false 1 (.tmp 11), some (8, true)⟩, ⟨some 13, .mv (.tmp 0), some (8, true)⟩, ⟨some 14, .nilck (.tmp 13), some (8, true)⟩, ⟨some 15, .faddr 0 (.tmp 14), some (8, true)⟩, ⟨some 16, .load false 1 (.tmp 15), some (8, true)⟩, ⟨some 17, .lenL (.tmp 16), some (8, true)⟩, ⟨some 18, .bin .lss .plain (.tmp 12) (.tmp 17), some (8, true)⟩, ⟨some 19, .pick (.tmp 8) (.tmp 18) (.con (.bool false)), none⟩] [] [0, 1, 3, 7, 15, 31, 63, 127, 255, 511, 63, 1087, 3135, 7231, 15423, 32767, 65535] [])
 (.cond (.tmp 19)
 (.seq (.reg [⟨some 2, .mv (.con (.int .i64 9)), none⟩])
 .ret)
 .skip))
 (.seq (.reg [⟨some 20, .mv (.tmp 0), none⟩, ⟨some 21, .nilck (.tmp 20), none⟩, ⟨some 22, .faddr 2 (.tmp 21), none⟩, ⟨some 23, .load false 1 (.tmp 22), none⟩, ⟨some 2, .mv (.tmp 23), none⟩])
 .ret)))
def ac35 : AFun := ⟨1, 24, ab35, [(.tmp 2)]⟩
theorem cf35 : compF Try.prog Try.f35 = some ac35 := by kernel_rfl
theorem cl35 : callable Try.prog 35 = true := by kernel_rfl
theorem fn35 : Try.prog.funcs[35]? = some Try.f35 := by kernel_rfl
/- chancel/pack.bad -/
def ab36 : ACode := (.seq (.reg [⟨some 1, .box (.tmp 0), none⟩, ⟨some 2, .mv (.con (.int .i64 0)), none⟩])
 (.seq (.block 0
 (.seq (.reg [⟨some 4, .faddr 2 (.tmp 1), none⟩, ⟨some 5, .load false 1 (.tmp 4), none⟩, ⟨some 6, .bin .lss .plain (.tmp 5) (.con (.int .i64 1)), none⟩, ⟨some 7, .mv (.tmp 6), none⟩, ⟨some 8, .faddr 2 (.tmp 1), some (7, false)⟩, ⟨some 9, .load false 1 (.tmp 8), some (7, false)⟩, ⟨some 10, .bin .gtr .plain (.tmp 9) (.con (.int .i64 15)), some (7, false)⟩, ⟨some 11, .pick (.tmp 7) (.con (.bool true)) (.tmp 10), none⟩, ⟨some 3, .mv (.tmp 11), none⟩])
 (.cond (.tmp 3)
 (.seq (.reg [⟨some 2, .mv (.con (.int .i64 3)), none⟩])
 .ret)
 (.seq (.reg [⟨some 13, .faddr 9 (.tmp 1), none⟩, ⟨some 14, .load false 1 (.tmp 13), none⟩, ⟨some 15, .lenL (.tmp 14), none⟩, ⟨some 16, .faddr 11 (.tmp 1), none⟩, ⟨some 17, .load false 1 (.tmp 16), none⟩, ⟨some 18, .lenL (.tmp 17), none⟩, ⟨some 19, .bin .neq .plain (.tmp 15) (.tmp 18), none⟩, ⟨some 20, .mv (.tmp 19), none⟩, ⟨some 21, .faddr 10 (.tmp 1), some (20, false)⟩, ⟨some 22, .load false 1 (.tmp 21), some (20, false)⟩, ⟨some 23, .lenL (.tmp 22), some (20, false)⟩, ⟨some 24, .faddr 11 (.tmp 1), some (20, false)⟩, ⟨some 25, .load false 1 (.tmp 24), some (20, false)⟩, ⟨some 26, .lenL (.tmp 25), some (20, false)⟩, ⟨some 27, .bin .neq .plain (.tmp 23) (.tmp 26), some (20, false)⟩, ⟨some 28, .pick (.tmp 20) (.con (.bool true)) (.tmp 27), none⟩, ⟨some 12, .mv (.tmp 28), none⟩])
 (.cond (.tmp 12)
 (.seq (.reg [⟨some 2, .mv (.con (.int .i64 1)), none⟩])
 .ret)
 (.seq (.reg [⟨some 30, .faddr 11 (.tmp 1), none⟩, ⟨some 31, .load false 1 (.tmp 30), none⟩, ⟨some 32, .lenL (.tmp 31), none⟩, ⟨some 33, .bin .gtr .plain (.tmp 32) (.con (.int .i64 64)), none⟩, ⟨some 34, .mv (.tmp 33), none⟩, ⟨some 35, .faddr 12 (.tmp 1), some (34, false)⟩, ⟨some 36, .load false 1 (.tmp 35), some (34, false)⟩, ⟨some 37, .lenL (.tmp 36), some (34, false)⟩, ⟨some 38, .bin .gtr .plain (.tmp 37) (.con (.int .i64 7)), some (34, false)⟩, ⟨some 39, .pick (.tmp 34) (.con (.bool true)) (.tmp 38), none⟩, ⟨some 29, .mv (.tmp 39), none⟩])
 (.cond (.tmp 29)
 (.seq (.reg [⟨some 2, .mv (.con (.int .i64 4)), none⟩])
 .ret)
 (.seq (.reg [⟨some 41, .faddr 11 (.tmp 1), none⟩, ⟨some 42, .load false 1 (.tmp 41), none⟩, ⟨some 43, .call 38 [.tmp 42, .con (.fn 39 [])], none⟩, ⟨some 44, .mv (.tmp 43), none⟩, ⟨some 45, .faddr 13 (.tmp 1), some (44, false)⟩, ⟨some 46, .load false 1 (.tmp 45), some (44, false)⟩, ⟨some 47, .lenL (.tmp 46), some (44, false)⟩, ⟨some 48, .bin .gtr .plain (.tmp 47) (.con (.int .i64 60000)), some (44, false)⟩, ⟨some 49, .pick (.tmp 44) (.con (.bool true)) (.tmp 48), none⟩, ⟨some 40, .mv (.tmp 49), none⟩])
 (.cond (.tmp 40)
 (.seq (.reg [⟨some 2, .mv (.con (.int .i64 5)), none⟩])
 .ret)
 .skip)))))))))
 (.seq (.reg [⟨some 2, .mv (.con (.int .i64 0)), none⟩])
 .ret)))
def ac36 : AFun := ⟨1, 50, ab36, [(.tmp 2)]⟩
theorem cf36 : compF Try.prog Try.f36 = some ac36 := by kernel_rfl
theorem cl36 : callable Try.prog 36 = true := by kernel_rfl
theorem fn36 : Try.prog.funcs[36]? = some Try.f36 := by kernel_rfl
/- (*chancel/pack.reader).take -/
def ab37 : ACode := (.seq (.reg [⟨some 4, .mv (.con .nils), none⟩])
 (.seq (.seq (.reg [⟨some 6, .mv (.tmp 0), none⟩, ⟨some 7, .nilck (.tmp 6), none⟩, ⟨some 8, .faddr 1 (.tmp 7), none⟩, ⟨some 9, .load false 1 (.tmp 8), none⟩, ⟨some 10, .bin .neq .plain (.tmp 9) (.con (.int .i64 0)), none⟩, ⟨some 11, .mv (.tmp 10), none⟩, ⟨some 12, .mv (.tmp 0), some (11, false)⟩, ⟨some 13, .nilck (.tmp 12), some (11, false)⟩, ⟨some 14, .faddr 0 (.tmp 13), some (11, false)⟩, ⟨some 15, .load false 1 (.tmp 14), some (11, false)⟩, ⟨some 16, .lenL (.tmp 15), some (11, false)⟩, ⟨some 17, .mv (.tmp 1), some (11, false)⟩, ⟨some 18, .bin .lss .plain (.tmp 16) (.tmp 17), some (11, false)⟩, ⟨some 19, .pick (.tmp 11) (.con (.bool true)) (.tmp 18), none⟩])
 (.cond (.tmp 19)
 (.seq (.seq (.reg [⟨some 20, .mv (.tmp 0), none⟩, ⟨some 21, .nilck (.tmp 20), none⟩, ⟨some 22, .faddr 1 (.tmp 21), none⟩, ⟨some 23, .load false 1 (.tmp 22), none⟩, ⟨some 24, .bin .eql .plain (.tmp 23) (.con (.int .i64 0)), none⟩])
 (.cond (.tmp 24)
 (.reg [⟨some 25, .mv (.tmp 0), none⟩, ⟨some 26, .nilck (.tmp 25), none⟩, ⟨some 27, .faddr 1 (.tmp 26), none⟩, ⟨none, .store 1 (.tmp 27) (.con (.int .i64 8)), none⟩])
 .skip))
 (.seq (.reg [⟨some 4, .mv (.con .nils), none⟩])
 .ret))
 .skip))
 (.seq (.reg [⟨some 28, .mv (.tmp 1), none⟩, ⟨some 29, .mkslice 1 1 [.int .u8 0] (.tmp 28) (.tmp 28), none⟩, ⟨some 5, .mv (.tmp 29), none⟩])
 (.seq (.reg [⟨some 30, .mv (.tmp 5), none⟩, ⟨some 31, .mv (.tmp 0), none⟩, ⟨some 32, .nilck (.tmp 31), none⟩, ⟨some 33, .faddr 0 (.tmp 32), none⟩, ⟨some 34, .load false 1 (.tmp 33), none⟩, ⟨some 35, .copy 1 (.tmp 30) (.tmp 34), none⟩])
 (.seq (.reg [⟨some 36, .mv (.tmp 0), none⟩, ⟨some 37, .mv (.tmp 0), none⟩, ⟨some 38, .nilck (.tmp 37), none⟩, ⟨some 39, .faddr 0 (.tmp 38), none⟩, ⟨some 40, .load false 1 (.tmp 39), none⟩, ⟨some 41, .mv (.tmp 1), none⟩, ⟨some 42, .slSl 1 (.tmp 40) (some (.tmp 41)) none none, none⟩, ⟨some 43, .nilck (.tmp 36), none⟩, ⟨some 44, .faddr 0 (.tmp 43), none⟩, ⟨none, .store 1 (.tmp 44) (.tmp 42), none⟩])
 (.seq (.reg [⟨some 45, .mv (.tmp 5), none⟩, ⟨some 4, .mv (.tmp 45), none⟩])
 .ret))))))
def ac37 : AFun := ⟨2, 46, ab37, [(.tmp 4)]⟩
theorem cf37 : compF Try.prog Try.f37 = some ac37 := by kernel_rfl
theorem cl37 : callable Try.prog 37 = true := by kernel_rfl
theorem fn37 : Try.prog.funcs[37]? = some Try.f37 := by kernel_rfl
/- slices.ContainsFunc[[][]byte,[]byte] -/
def ab38 : ACode := (.seq (.reg [⟨some 4, .mv (.con (.bool false)), none⟩])
 (.seq (.reg [⟨some 5, .mv (.tmp 0), none⟩, ⟨some 6, .mv (.tmp 1), none⟩, ⟨some 7, .call 40 [.tmp 5, .tmp 6], none⟩, ⟨some 8, .bin .geq .plain (.tmp 7) (.con (.int .i64 0)), none⟩, ⟨some 4, .mv (.tmp 8), none⟩])
 .ret))
def ac38 : AFun := ⟨2, 9, ab38, [(.tmp 4)]⟩
theorem cf38 : compF Try.prog Try.f38 = some ac38 := by kernel_rfl
theorem cl38 : callable Try.prog 38 = true := by kernel_rfl
theorem fn38 : Try.prog.funcs[38]? = some Try.f38 := by kernel_rfl
/- chancel/pack.bad$1 -/
def ab39 : ACode := (.seq (.reg [⟨some 2, .mv (.con (.bool false)), none⟩])
 (.seq (.reg [⟨some 3, .mv (.tmp 0), none⟩, ⟨some 4, .lenL (.tmp 3), none⟩, ⟨some 5, .bin .gtr .plain (.tmp 4) (.con (.int .i64 700)), none⟩, ⟨some 2, .mv (.tmp 5), none⟩])
 .ret))
def ac39 : AFun := ⟨1, 6, ab39, [(.tmp 2)]⟩
theorem cf39 : compF Try.prog Try.f39 = some ac39 := by kernel_rfl
theorem cl39 : callable Try.prog 39 = true := by kernel_rfl
theorem fn39 : Try.prog.funcs[39]? = some Try.f39 := by kernel_rfl
/- slices.IndexFunc[[][]byte,[]byte] -/
def ab40 : ACode := (.seq (.reg [⟨some 4, .mv (.con (.int .i64 0)), none⟩])
 (.seq (.seq (.reg [⟨some 6, .mv (.tmp 0), none⟩, ⟨some 7, .lenL (.tmp 6), none⟩, ⟨some 8, .mv (.con (.int .i64 0)), none⟩])
 (.block 0
 (.loop (.seq (.reg [⟨some 9, .bin .lss .plain (.tmp 8) (.tmp 7), none⟩])
 (.seq (.cond (.tmp 9)
 .skip
 (.exit 0))
 (.seq (.block 1
 (.seq (.reg [⟨some 10, .mv (.tmp 8), none⟩, ⟨some 5, .mv (.tmp 10), none⟩])
 (.seq (.reg [⟨some 11, .mv (.tmp 1), none⟩, ⟨some 12, .mv (.tmp 0), none⟩, ⟨some 13, .mv (.tmp 5), none⟩, ⟨some 14, .iaddr 1 (.tmp 12) (.tmp 13), none⟩, ⟨some 15, .load false 1 (.tmp 14), none⟩, ⟨some 16, .callv (.tmp 11) [.tmp 15], none⟩])
 (.cond (.tmp 16)
 (.seq (.reg [⟨some 17, .mv (.tmp 5), none⟩, ⟨some 4, .mv (.tmp 17), none⟩])
 .ret)
 .skip))))
 (.reg [⟨some 18, .bin .add .plain (.tmp 8) (.con (.int .i64 1)), none⟩, ⟨some 8, .mv (.tmp 18), none⟩])))))))
 (.seq (.reg [⟨some 4, .mv (.con (.int .i64 (-1))), none⟩])
 .ret)))
def ac40 : AFun := ⟨2, 19, ab40, [(.tmp 4)]⟩
theorem cf40 : compF Try.prog Try.f40 = some ac40 := by kernel_rfl
theorem cl40 : callable Try.prog 40 = true := by kernel_rfl
theorem fn40 : Try.prog.funcs[40]? = some Try.f40 := by kernel_rfl
end Go.Proofs.Ythobpdfchhihnaa.Va
