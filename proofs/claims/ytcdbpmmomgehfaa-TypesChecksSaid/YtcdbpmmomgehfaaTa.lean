/- Functions of the program as resolved code (printed by gen.py from the kernel's own value). Conditions: none. -/
import Derived.Test.YtcdbpmmomgehfaaProg
import Derived.Test.YtcdbpmmomgehfaaVaF
import Derived.KernelRfl
set_option maxRecDepth 100000
set_option maxHeartbeats 4000000
set_option linter.all false
namespace Go.Proofs.Ytcdbpmmomgehfaa.Va
open Go.Proofs
/- gosem.cut.init -/
def ab2 : ACode := (.reg [⟨some 0, .call 1 [], none⟩])
def ac2 : AFun := ⟨0, 1, ab2, []⟩
theorem cf2 : compF Try.prog Try.f2 = some ac2 := by kernel_rfl
theorem cl2 : callable Try.prog 2 = true := by kernel_rfl
theorem fn2 : Try.prog.funcs[2]? = some Try.f2 := by kernel_rfl
/- chancel/chancellaw11.known -/
def ab11 : ACode := (.seq (.reg [⟨some 0, .mv (.con (.bool false)), none⟩])
 (.seq (.reg [⟨some 6, .build [.int .i64 0, .bool false, .int .i64 0, .str [], .str [], .str [], .nils] [(0, 1, .con (.int .i64 2)), (2, 1, .con (.int .i64 1))], none⟩, ⟨some 1, .alloc [.int .i64 0, .bool false, .int .i64 0, .str [], .str [], .str [], .nils], none⟩, ⟨none, .store 7 (.tmp 1) (.tmp 6), none⟩])
 (.seq (.reg [⟨some 8, .build [.nils, .nils] [], none⟩, ⟨some 9, .build [.str [], .str [], .str []] [], none⟩, ⟨some 10, .load true 7 (.tmp 1), none⟩, ⟨some 11, .build [.int .i64 0, .bool false, .int .i64 0, .str [], .str [], .str [], .nils] [(0, 1, .con (.int .i64 3)), (3, 1, .con (.str [49]))], none⟩, ⟨some 12, .bslice 7 2 [.int .i64 0, .bool false, .int .i64 0, .str [], .str [], .str [], .nils] [(0, 7, .tmp 10), (7, 7, .tmp 11)], none⟩, ⟨some 13, .build [.int .i64 0, .bool false, .int .i64 0, .str [], .str [], .str [], .nils] [(0, 1, .con (.int .i64 20)), (6, 1, .tmp 12)], none⟩, ⟨some 14, .call 20 [.tmp 8, .tmp 9, .tmp 13], none⟩, ⟨some 7, .mv (.tmp 14), none⟩, ⟨some 15, .ext (.tmp 7) 0, none⟩, ⟨some 16, .ext (.tmp 7) 1, none⟩, ⟨some 2, .alloc [.int .i64 0, .int .i64 0, .str []], none⟩, ⟨none, .store 3 (.tmp 2) (.tmp 15), none⟩, ⟨some 3, .mv (.tmp 16), none⟩])
 (.seq (.reg [⟨some 18, .build [.nils, .nils] [], none⟩, ⟨some 19, .build [.str [], .str [], .str []] [], none⟩, ⟨some 20, .load true 7 (.tmp 1), none⟩, ⟨some 21, .load true 7 (.tmp 1), none⟩, ⟨some 22, .bslice 7 2 [.int .i64 0, .bool false, .int .i64 0, .str [], .str [], .str [], .nils] [(0, 7, .tmp 20), (7, 7, .tmp 21)], none⟩, ⟨some 23, .build [.int .i64 0, .bool false, .int .i64 0, .str [], .str [], .str [], .nils] [(0, 1, .con (.int .i64 20)), (6, 1, .tmp 22)], none⟩, ⟨some 24, .call 20 [.tmp 18, .tmp 19, .tmp 23], none⟩, ⟨some 17, .mv (.tmp 24), none⟩, ⟨some 25, .ext (.tmp 17) 0, none⟩, ⟨some 26, .ext (.tmp 17) 1, none⟩, ⟨some 4, .alloc [.int .i64 0, .int .i64 0, .str []], none⟩, ⟨none, .store 3 (.tmp 4) (.tmp 25), none⟩, ⟨some 5, .mv (.tmp 26), none⟩])
 (.seq (.reg [⟨some 27, .mv (.tmp 3), none⟩, ⟨some 28, .bin .eql .plain (.tmp 27) (.con (.int .i64 16)), none⟩, ⟨some 29, .mv (.tmp 28), none⟩, ⟨some 30, .mv (.tmp 5), some (29, true)⟩, ⟨some 31, .bin .eql .plain (.tmp 30) (.con (.int .i64 0)), some (29, true)⟩, ⟨some 32, .pick (.tmp 29) (.tmp 31) (.con (.bool false)), none⟩, ⟨some 33, .mv (.tmp 32), none⟩, ⟨some 34, .faddr 0 (.tmp 4), some (33, true)⟩, ⟨some 35, .load false 1 (.tmp 34), some (33, true)⟩, ⟨some 36, .bin .eql .plain (.tmp 35) (.con (.int .i64 1)), some (33, true)⟩, ⟨some 37, .pick (.tmp 33) (.tmp 36) (.con (.bool false)), none⟩, ⟨some 0, .mv (.tmp 37), none⟩])
 .ret)))))
def ac11 : AFun := ⟨0, 38, ab11, [(.tmp 0)]⟩
theorem cf11 : compF Try.prog Try.f11 = some ac11 := by kernel_rfl
theorem cl11 : callable Try.prog 11 = true := by kernel_rfl
theorem fn11 : Try.prog.funcs[11]? = some Try.f11 := by kernel_rfl
/- chancel/chancellaw10.Good -/
def ab13 : ACode := (.seq (.reg [⟨some 4, .alloc [.nils, .nils], none⟩])
 (.seq (.reg [⟨some 15, .mv (.tmp 0), none⟩, ⟨some 16, .mv (.tmp 1), none⟩, ⟨some 17, .call 29 [.tmp 15, .tmp 16], none⟩, ⟨some 5, .alloc [.nils, .nils], none⟩, ⟨none, .store 2 (.tmp 5) (.tmp 17), none⟩])
 (.seq (.reg [⟨some 6, .alloc [.nils, .nils], none⟩])
 (.seq (.reg [⟨some 18, .bslice 1 4 [.str []] [(0, 1, .con (.str [68, 111, 99])), (1, 1, .con (.str [71, 114, 111, 117, 112])), (2, 1, .con (.str [84, 101, 97, 109])), (3, 1, .con (.str [85, 115, 101, 114]))], none⟩, ⟨some 7, .mv (.tmp 18), none⟩])
 (.seq (.seq (.reg [⟨some 8, .mv (.con (.int .i64 0)), none⟩])
 (.block 0
 (.loop (.seq (.seq (.reg [⟨some 19, .mv (.tmp 8), none⟩, ⟨some 20, .bin .lss .plain (.tmp 19) (.con (.int .i64 4)), none⟩])
 (.cond (.tmp 20)
 .skip
 (.exit 0)))
 (.seq (.block 1
 (.seq (.reg [⟨some 9, .mv (.con (.int .i64 0)), none⟩])
 (.block 2
 (.loop (.seq (.seq (.reg [⟨some 23, .mv (.tmp 9), none⟩, ⟨some 24, .faddr 0 (.tmp 5), none⟩, ⟨some 25, .load false 1 (.tmp 24), none⟩, ⟨some 26, .lenL (.tmp 25), none⟩, ⟨some 27, .bin .lss .plain (.tmp 23) (.tmp 26), none⟩])
 (.cond (.tmp 27)
 .skip
 (.exit 2)))
 (.seq (.block 3
 (.seq (.dreg [⟨some 30, .faddr 0 (.tmp 5), none⟩, ⟨some 31, .load false 1 (.tmp 30), none⟩, ⟨some 32, .mv (.tmp 9), none⟩, ⟨some 33, .iaddr 3 (.tmp 31) (.tmp 32), none⟩, ⟨some 34, .faddr 0 (.tmp 33), none⟩, ⟨some 35, .load false 1 (.tmp 34), none⟩, ⟨some 36, .mv (.tmp 7), none⟩, ⟨some 37, .mv (.tmp 8), none⟩, ⟨some 38, .iaddr 1 (.tmp 36) (.tmp 37), none⟩, ⟨some 39, .load false 1 (.tmp 38), none⟩, ⟨some 40, .bin .eql .plain (.tmp 35) (.tmp 39), none⟩, ⟨some 41, .mv (.tmp 40), none⟩, ⟨some 42, .faddr 0 (.tmp 6), some (41, true)⟩, ⟨some 43, .load false 1 (.tmp 42), some (41, true)⟩, ⟨some 44, .lenL (.tmp 43), some (41, true)⟩, ⟨some 45, .bin .eql .plain (.tmp 44) (.con (.int .i64 0)), some (41, true)⟩, ⟨some 46, .mv (.tmp 45), some (41, true)⟩, ⟨some 47, .faddr 0 (.tmp 6), some (46, false)⟩, ⟨some 48, .load false 1 (.tmp 47), some (46, false)⟩, ⟨some 49, .faddr 0 (.tmp 6), some (46, false)⟩, ⟨some 50, .load false 1 (.tmp 49), some (46, false)⟩, ⟨some 51, .lenL (.tmp 50), some (46, false)⟩, ⟨some 52, .bin .sub .plain (.tmp 51) (.con (.int .i64 1)), some (46, false)⟩, ⟨some 53, .iaddr 3 (.tmp 48) (.tmp 52), some (46, false)⟩, ⟨some 54, .faddr 0 (.tmp 53), some (46, false)⟩, ⟨some 55, .load false 1 (.tmp 54), some (46, false)⟩, ⟨some 56, .mv (.tmp 7), some (46, false)⟩, ⟨some 57, .mv (.tmp 8), some (46, false)⟩, ⟨some 58, .iaddr 1 (.tmp 56) (.tmp 57), some (46, false)⟩, ⟨some 59, .load false 1 (.tmp 58), some (46, false)⟩, ⟨some 60, .bin .neq .plain (.tmp 55) (.tmp 59), some (46, false)⟩, ⟨some 61, .pick (.tmp 46) (.con (.bool true)) (.tmp 60), some (41, true)⟩, ⟨some 62, .pick (.tmp 41) (.tmp 61) (.con (.bool false)), none⟩] [] [0, 1, 0, 7, 15, 31, 0, 0, 192, 448, 1023, 2047, 4095, 8191, 16383, 32767, 65535, 131071, 262143, 131071, 655359, 1703935, 3801087, 8388607, 16777215, 33554431, 131071, 131071, 201457663, 469893119, 1073741823, 2147483647, 4294967295] [])
 (.cond (.tmp 62)
 (.dreg [⟨some 63, .faddr 0 (.tmp 6), none⟩, ⟨some 64, .load false 1 (.tmp 63), none⟩, ⟨some 65, .faddr 0 (.tmp 5), none⟩, ⟨some 66, .load false 1 (.tmp 65), none⟩, ⟨some 67, .mv (.tmp 9), none⟩, ⟨some 68, .iaddr 3 (.tmp 66) (.tmp 67), none⟩, ⟨some 69, .load true 3 (.tmp 68), none⟩, ⟨some 70, .bslice 3 1 [.str [], .nils, .nils] [(0, 3, .tmp 69)], none⟩, ⟨some 71, .append 3 64 (.tmp 64) (.tmp 70), none⟩, ⟨some 72, .faddr 0 (.tmp 6), none⟩, ⟨none, .store 1 (.tmp 72) (.tmp 71), none⟩] [7, 8, 10] [0, 1, 0, 4, 0, 28, 60, 124, 255, 511, 1023] [])
 .skip)))
 (.reg [⟨some 28, .mv (.tmp 9), none⟩, ⟨some 29, .bin .add .plain (.tmp 28) (.con (.int .i64 1)), none⟩, ⟨some 9, .mv (.tmp 29), none⟩])))))))
 (.reg [⟨some 21, .mv (.tmp 8), none⟩, ⟨some 22, .bin .add .plain (.tmp 21) (.con (.int .i64 1)), none⟩, ⟨some 8, .mv (.tmp 22), none⟩]))))))
 (.seq (.seq (.reg [⟨some 10, .mv (.con (.int .i64 0)), none⟩])
 (.block 4
 (.loop (.seq (.seq (.reg [⟨some 73, .mv (.tmp 10), none⟩, ⟨some 74, .faddr 0 (.tmp 6), none⟩, ⟨some 75, .load false 1 (.tmp 74), none⟩, ⟨some 76, .lenL (.tmp 75), none⟩, ⟨some 77, .bin .lss .plain (.tmp 73) (.tmp 76), none⟩])
 (.cond (.tmp 77)
 .skip
 (.exit 4)))
 (.seq (.block 5
 (.dreg [⟨some 80, .faddr 0 (.tmp 6), none⟩, ⟨some 81, .load false 1 (.tmp 80), none⟩, ⟨some 82, .mv (.tmp 10), none⟩, ⟨some 83, .load true 2 (.tmp 6), none⟩, ⟨some 84, .faddr 0 (.tmp 6), none⟩, ⟨some 85, .load false 1 (.tmp 84), none⟩, ⟨some 86, .mv (.tmp 10), none⟩, ⟨some 87, .iaddr 3 (.tmp 85) (.tmp 86), none⟩, ⟨some 88, .load true 3 (.tmp 87), none⟩, ⟨some 89, .call 30 [.tmp 83, .tmp 88], none⟩, ⟨some 90, .iaddr 3 (.tmp 81) (.tmp 82), none⟩, ⟨none, .store 3 (.tmp 90) (.tmp 89), none⟩] [9, 11] [0, 1, 0, 0, 0, 16, 0, 112, 240, 504, 1023, 2047] []))
 (.reg [⟨some 78, .mv (.tmp 10), none⟩, ⟨some 79, .bin .add .plain (.tmp 78) (.con (.int .i64 1)), none⟩, ⟨some 10, .mv (.tmp 79), none⟩]))))))
 (.seq (.reg [⟨some 91, .bslice 1 3 [.str []] [(0, 1, .con (.str [111, 119, 110])), (1, 1, .con (.str [114, 101, 97, 100])), (2, 1, .con (.str [119, 114, 105, 116, 101]))], none⟩, ⟨some 11, .mv (.tmp 91), none⟩])
 (.seq (.seq (.reg [⟨some 12, .mv (.con (.int .i64 0)), none⟩])
 (.block 6
 (.loop (.seq (.seq (.reg [⟨some 92, .mv (.tmp 12), none⟩, ⟨some 93, .bin .lss .plain (.tmp 92) (.con (.int .i64 3)), none⟩])
 (.cond (.tmp 93)
 .skip
 (.exit 6)))
 (.seq (.block 7
 (.seq (.reg [⟨some 13, .mv (.con (.int .i64 0)), none⟩])
 (.block 8
 (.loop (.seq (.seq (.reg [⟨some 96, .mv (.tmp 13), none⟩, ⟨some 97, .faddr 1 (.tmp 5), none⟩, ⟨some 98, .load false 1 (.tmp 97), none⟩, ⟨some 99, .lenL (.tmp 98), none⟩, ⟨some 100, .bin .lss .plain (.tmp 96) (.tmp 99), none⟩])
 (.cond (.tmp 100)
 .skip
 (.exit 8)))
 (.seq (.block 9
 (.seq (.reg [⟨some 103, .faddr 1 (.tmp 5), none⟩, ⟨some 104, .load false 1 (.tmp 103), none⟩, ⟨some 105, .mv (.tmp 13), none⟩, ⟨some 106, .iaddr 3 (.tmp 104) (.tmp 105), none⟩, ⟨some 107, .load true 3 (.tmp 106), none⟩, ⟨some 14, .alloc [.str [], .nils, .nils], none⟩, ⟨none, .store 3 (.tmp 14) (.tmp 107), none⟩])
 (.seq (.seq (.dreg [⟨some 108, .faddr 0 (.tmp 14), none⟩, ⟨some 109, .load false 1 (.tmp 108), none⟩, ⟨some 110, .mv (.tmp 11), none⟩, ⟨some 111, .mv (.tmp 12), none⟩, ⟨some 112, .iaddr 1 (.tmp 110) (.tmp 111), none⟩, ⟨some 113, .load false 1 (.tmp 112), none⟩, ⟨some 114, .bin .neq .plain (.tmp 109) (.tmp 113), none⟩, ⟨some 115, .mv (.tmp 114), none⟩, ⟨some 116, .faddr 1 (.tmp 6), some (115, false)⟩, ⟨some 117, .load false 1 (.tmp 116), some (115, false)⟩, ⟨some 118, .lenL (.tmp 117), some (115, false)⟩, ⟨some 119, .bin .gtr .plain (.tmp 118) (.con (.int .i64 0)), some (115, false)⟩, ⟨some 120, .mv (.tmp 119), some (115, false)⟩, ⟨some 121, .faddr 1 (.tmp 6), some (120, true)⟩, ⟨some 122, .load false 1 (.tmp 121), some (120, true)⟩, ⟨some 123, .faddr 1 (.tmp 6), some (120, true)⟩, ⟨some 124, .load false 1 (.tmp 123), some (120, true)⟩, ⟨some 125, .lenL (.tmp 124), some (120, true)⟩, ⟨some 126, .bin .sub .plain (.tmp 125) (.con (.int .i64 1)), some (120, true)⟩, ⟨some 127, .iaddr 3 (.tmp 122) (.tmp 126), some (120, true)⟩, ⟨some 128, .faddr 0 (.tmp 127), some (120, true)⟩, ⟨some 129, .load false 1 (.tmp 128), some (120, true)⟩, ⟨some 130, .mv (.tmp 11), some (120, true)⟩, ⟨some 131, .mv (.tmp 12), some (120, true)⟩, ⟨some 132, .iaddr 1 (.tmp 130) (.tmp 131), some (120, true)⟩, ⟨some 133, .load false 1 (.tmp 132), some (120, true)⟩, ⟨some 134, .bin .eql .plain (.tmp 129) (.tmp 133), some (120, true)⟩, ⟨some 135, .pick (.tmp 120) (.tmp 134) (.con (.bool false)), some (115, false)⟩, ⟨some 136, .pick (.tmp 115) (.con (.bool true)) (.tmp 135), none⟩] [] [0, 1, 0, 0, 12, 28, 63, 127, 255, 511, 1023, 2047, 4095, 8191, 16383, 8191, 40959, 106495, 237567, 524287, 1048575, 2097151, 8191, 8191, 12591103, 29368319, 67108863, 134217727, 268435455] [])
 (.cond (.tmp 136)
 (.exit 9)
 .skip))
 (.seq (.dreg [⟨some 137, .load true 2 (.tmp 6), none⟩, ⟨some 138, .faddr 1 (.tmp 14), none⟩, ⟨some 139, .load false 1 (.tmp 138), none⟩, ⟨some 140, .call 31 [.tmp 137, .tmp 139], none⟩, ⟨some 141, .load true 2 (.tmp 6), none⟩, ⟨some 142, .faddr 2 (.tmp 14), none⟩, ⟨some 143, .load false 1 (.tmp 142), none⟩, ⟨some 144, .call 31 [.tmp 141, .tmp 143], none⟩, ⟨some 145, .faddr 1 (.tmp 14), none⟩, ⟨none, .store 1 (.tmp 145) (.tmp 140), none⟩, ⟨some 146, .faddr 2 (.tmp 14), none⟩, ⟨none, .store 1 (.tmp 146) (.tmp 144), none⟩] [3, 7, 9, 11] [0, 0, 2, 7, 0, 0, 32, 127, 111, 511, 1023, 2047] [])
 (.seq (.reg [⟨some 147, .faddr 1 (.tmp 14), none⟩, ⟨some 148, .load false 1 (.tmp 147), none⟩, ⟨some 149, .lenL (.tmp 148), none⟩, ⟨some 150, .bin .gtr .plain (.tmp 149) (.con (.int .i64 0)), none⟩, ⟨some 151, .mv (.tmp 150), none⟩, ⟨some 152, .faddr 2 (.tmp 14), some (151, true)⟩, ⟨some 153, .load false 1 (.tmp 152), some (151, true)⟩, ⟨some 154, .lenL (.tmp 153), some (151, true)⟩, ⟨some 155, .bin .gtr .plain (.tmp 154) (.con (.int .i64 0)), some (151, true)⟩, ⟨some 156, .pick (.tmp 151) (.tmp 155) (.con (.bool false)), none⟩])
 (.cond (.tmp 156)
 (.reg [⟨some 157, .faddr 1 (.tmp 6), none⟩, ⟨some 158, .load false 1 (.tmp 157), none⟩, ⟨some 159, .load true 3 (.tmp 14), none⟩, ⟨some 160, .bslice 3 1 [.str [], .nils, .nils] [(0, 3, .tmp 159)], none⟩, ⟨some 161, .append 3 64 (.tmp 158) (.tmp 160), none⟩, ⟨some 162, .faddr 1 (.tmp 6), none⟩, ⟨none, .store 1 (.tmp 162) (.tmp 161), none⟩])
 .skip))))))
 (.reg [⟨some 101, .mv (.tmp 13), none⟩, ⟨some 102, .bin .add .plain (.tmp 101) (.con (.int .i64 1)), none⟩, ⟨some 13, .mv (.tmp 102), none⟩])))))))
 (.reg [⟨some 94, .mv (.tmp 12), none⟩, ⟨some 95, .bin .add .plain (.tmp 94) (.con (.int .i64 1)), none⟩, ⟨some 12, .mv (.tmp 95), none⟩]))))))
 (.seq (.reg [⟨some 163, .load true 2 (.tmp 6), none⟩, ⟨none, .store 2 (.tmp 4) (.tmp 163), none⟩])
 .ret)))))))))
def ac13 : AFun := ⟨2, 164, ab13, [(.cell 4 true 2)]⟩
theorem cf13 : compF Try.prog Try.f13 = some ac13 := by kernel_rfl
theorem cl13 : callable Try.prog 13 = true := by kernel_rfl
theorem fn13 : Try.prog.funcs[13]? = some Try.f13 := by kernel_rfl
/- chancel/chancellaw11.env -/
def ab15 : ACode := (.seq (.reg [⟨some 2, .box (.tmp 0), none⟩, ⟨some 4, .alloc [.str [], .str [], .str []], none⟩, ⟨some 5, .mv (.con (.bool false)), none⟩])
 (.seq (.reg [⟨some 7, .load true 2 (.tmp 2), none⟩, ⟨some 8, .build [.bool false, .int .i64 0, .str [], .str [], .int .i64 0, .str [], .str [], .int .i64 0, .str [], .str [], .nils] [], none⟩, ⟨some 9, .call 25 [.tmp 7, .tmp 8], none⟩, ⟨some 6, .mv (.tmp 9), none⟩])
 (.seq (.seq (.reg [⟨some 10, .mv (.tmp 6), none⟩, ⟨some 11, .lenL (.tmp 10), none⟩, ⟨some 12, .bin .eql .plain (.tmp 11) (.con (.int .i64 0)), none⟩])
 (.cond (.tmp 12)
 (.seq (.reg [⟨some 13, .build [.str [], .str [], .str []] [], none⟩, ⟨none, .store 3 (.tmp 4) (.tmp 13), none⟩, ⟨some 5, .mv (.con (.bool false)), none⟩])
 .ret)
 .skip))
 (.seq (.reg [⟨some 14, .mv (.tmp 6), none⟩, ⟨some 15, .mv (.tmp 1), none⟩, ⟨some 16, .mv (.tmp 6), none⟩, ⟨some 17, .lenL (.tmp 16), none⟩, ⟨some 18, .call 21 [.tmp 15, .tmp 17], none⟩, ⟨some 19, .iaddr 3 (.tmp 14) (.tmp 18), none⟩, ⟨some 20, .load true 3 (.tmp 19), none⟩, ⟨none, .store 3 (.tmp 4) (.tmp 20), none⟩, ⟨some 5, .mv (.con (.bool true)), none⟩])
 .ret))))
def ac15 : AFun := ⟨2, 21, ab15, [(.cell 4 true 3), (.tmp 5)]⟩
theorem cf15 : compF Try.prog Try.f15 = some ac15 := by kernel_rfl
theorem cl15 : callable Try.prog 15 = true := by kernel_rfl
theorem fn15 : Try.prog.funcs[15]? = some Try.f15 := by kernel_rfl
/- chancel/chancellaw11.of -/
def ab16 : ACode := (.seq (.reg [⟨some 3, .box (.tmp 0), none⟩, ⟨some 4, .box (.tmp 1), none⟩, ⟨some 5, .box (.tmp 2), none⟩, ⟨some 6, .mv (.con (.bool false)), none⟩])
 (.seq (.reg [⟨some 12, .load true 2 (.tmp 3), none⟩, ⟨some 13, .faddr 0 (.tmp 4), none⟩, ⟨some 14, .load false 1 (.tmp 13), none⟩, ⟨some 15, .faddr 1 (.tmp 4), none⟩, ⟨some 16, .load false 1 (.tmp 15), none⟩, ⟨some 17, .faddr 2 (.tmp 4), none⟩, ⟨some 18, .load false 1 (.tmp 17), none⟩, ⟨some 19, .build [.str [], .str [], .str []] [(0, 1, .tmp 14), (1, 1, .tmp 16), (2, 1, .tmp 18)], none⟩, ⟨some 20, .load true 7 (.tmp 5), none⟩, ⟨some 21, .call 20 [.tmp 12, .tmp 19, .tmp 20], none⟩, ⟨some 11, .mv (.tmp 21), none⟩, ⟨some 22, .ext (.tmp 11) 0, none⟩, ⟨some 23, .ext (.tmp 11) 1, none⟩, ⟨some 7, .alloc [.int .i64 0, .int .i64 0, .str []], none⟩, ⟨none, .store 3 (.tmp 7) (.tmp 22), none⟩, ⟨some 8, .mv (.tmp 23), none⟩])
 (.seq (.reg [⟨some 25, .load true 2 (.tmp 3), none⟩, ⟨some 26, .load true 3 (.tmp 4), none⟩, ⟨some 27, .load true 7 (.tmp 5), none⟩, ⟨some 28, .call 36 [.tmp 25, .tmp 26, .tmp 27], none⟩, ⟨some 24, .mv (.tmp 28), none⟩, ⟨some 29, .ext (.tmp 24) 0, none⟩, ⟨some 30, .ext (.tmp 24) 1, none⟩, ⟨some 9, .alloc [.int .i64 0, .int .i64 0, .str []], none⟩, ⟨none, .store 3 (.tmp 9) (.tmp 29), none⟩, ⟨some 10, .mv (.tmp 30), none⟩])
 (.seq (.reg [⟨some 31, .load true 3 (.tmp 7), none⟩, ⟨some 32, .load true 3 (.tmp 9), none⟩, ⟨some 33, .bin .eql (.agg [.i, .i, .s]) (.tmp 31) (.tmp 32), none⟩, ⟨some 34, .mv (.tmp 33), none⟩, ⟨some 35, .mv (.tmp 8), some (34, true)⟩, ⟨some 36, .mv (.tmp 10), some (34, true)⟩, ⟨some 37, .bin .eql .plain (.tmp 35) (.tmp 36), some (34, true)⟩, ⟨some 38, .pick (.tmp 34) (.tmp 37) (.con (.bool false)), none⟩, ⟨some 6, .mv (.tmp 38), none⟩])
 .ret))))
def ac16 : AFun := ⟨3, 39, ab16, [(.tmp 6)]⟩
theorem cf16 : compF Try.prog Try.f16 = some ac16 := by kernel_rfl
theorem cl16 : callable Try.prog 16 = true := by kernel_rfl
theorem fn16 : Try.prog.funcs[16]? = some Try.f16 := by kernel_rfl
/- chancel/types.Of -/
def ab20 : ACode := (.seq (.reg [⟨some 3, .box (.tmp 0), none⟩, ⟨some 4, .box (.tmp 1), none⟩, ⟨some 5, .box (.tmp 2), none⟩, ⟨some 6, .alloc [.int .i64 0, .int .i64 0, .str []], none⟩, ⟨some 7, .mv (.con (.int .i64 0)), none⟩])
 (.seq (.reg [⟨some 8, .mv (.con .nils), none⟩])
 (.seq (.seq (.reg [⟨some 13, .faddr 6 (.tmp 5), none⟩, ⟨some 14, .load false 1 (.tmp 13), none⟩, ⟨some 15, .lenL (.tmp 14), none⟩, ⟨some 16, .mv (.con (.int .i64 0)), none⟩])
 (.block 0
 (.loop (.seq (.reg [⟨some 17, .bin .lss .plain (.tmp 16) (.tmp 15), none⟩])
 (.seq (.cond (.tmp 17)
 .skip
 (.exit 0))
 (.seq (.block 1
 (.seq (.reg [⟨some 18, .iaddr 7 (.tmp 14) (.tmp 16), none⟩, ⟨some 19, .load true 7 (.tmp 18), none⟩, ⟨some 10, .alloc [.int .i64 0, .bool false, .int .i64 0, .str [], .str [], .str [], .nils], none⟩, ⟨none, .store 7 (.tmp 10) (.tmp 19), none⟩])
 (.seq (.reg [⟨some 21, .load true 2 (.tmp 3), none⟩, ⟨some 22, .load true 3 (.tmp 4), none⟩, ⟨some 23, .load true 7 (.tmp 10), none⟩, ⟨some 24, .call 20 [.tmp 21, .tmp 22, .tmp 23], none⟩, ⟨some 20, .mv (.tmp 24), none⟩, ⟨some 25, .ext (.tmp 20) 0, none⟩, ⟨some 26, .ext (.tmp 20) 1, none⟩, ⟨some 11, .alloc [.int .i64 0, .int .i64 0, .str []], none⟩, ⟨none, .store 3 (.tmp 11) (.tmp 25), none⟩, ⟨some 12, .mv (.tmp 26), none⟩])
 (.seq (.seq (.reg [⟨some 27, .mv (.tmp 12), none⟩, ⟨some 28, .bin .neq .plain (.tmp 27) (.con (.int .i64 0)), none⟩])
 (.cond (.tmp 28)
 (.seq (.reg [⟨some 29, .build [.int .i64 0, .int .i64 0, .str []] [], none⟩, ⟨some 30, .mv (.tmp 12), none⟩, ⟨none, .store 3 (.tmp 6) (.tmp 29), none⟩, ⟨some 7, .mv (.tmp 30), none⟩])
 .ret)
 .skip))
 (.reg [⟨some 31, .mv (.tmp 8), none⟩, ⟨some 32, .load true 3 (.tmp 11), none⟩, ⟨some 33, .bslice 3 1 [.int .i64 0, .int .i64 0, .str []] [(0, 3, .tmp 32)], none⟩, ⟨some 34, .append 3 32 (.tmp 31) (.tmp 33), none⟩, ⟨some 8, .mv (.tmp 34), none⟩])))))
 (.reg [⟨some 35, .bin .add .plain (.tmp 16) (.con (.int .i64 1)), none⟩, ⟨some 16, .mv (.tmp 35), none⟩])))))))
 (.seq (.seq (.reg [⟨some 36, .faddr 0 (.tmp 5), none⟩, ⟨some 37, .load false 1 (.tmp 36), none⟩, ⟨some 38, .bin .lss .plain (.tmp 37) (.con (.int .i64 6)), none⟩])
 (.cond (.tmp 38)
 (.seq (.reg [⟨some 39, .load true 2 (.tmp 3), none⟩, ⟨some 40, .load true 3 (.tmp 4), none⟩, ⟨some 41, .load true 7 (.tmp 5), none⟩, ⟨some 42, .call 38 [.tmp 39, .tmp 40, .tmp 41], none⟩, ⟨some 43, .ext (.tmp 42) 0, none⟩, ⟨some 44, .ext (.tmp 42) 1, none⟩, ⟨none, .store 3 (.tmp 6) (.tmp 43), none⟩, ⟨some 7, .mv (.tmp 44), none⟩])
 .ret)
 .skip))
 (.seq (.seq (.reg [⟨some 45, .load true 7 (.tmp 5), none⟩, ⟨some 46, .call 39 [.tmp 45], none⟩, ⟨some 47, .mv (.tmp 46), none⟩, ⟨some 48, .faddr 0 (.tmp 5), some (47, false)⟩, ⟨some 49, .load false 1 (.tmp 48), some (47, false)⟩, ⟨some 50, .bin .gtr .plain (.tmp 49) (.con (.int .i64 25)), some (47, false)⟩, ⟨some 51, .pick (.tmp 47) (.con (.bool true)) (.tmp 50), none⟩])
 (.cond (.tmp 51)
 (.seq (.reg [⟨some 52, .build [.int .i64 0, .int .i64 0, .str []] [], none⟩, ⟨none, .store 3 (.tmp 6) (.tmp 52), none⟩, ⟨some 7, .mv (.con (.int .i64 16)), none⟩])
 .ret)
 .skip))
 (.seq (.reg [⟨some 53, .load true 2 (.tmp 3), none⟩, ⟨some 54, .load true 7 (.tmp 5), none⟩, ⟨some 55, .mv (.tmp 8), none⟩, ⟨some 56, .call 40 [.tmp 53, .tmp 54, .tmp 55], none⟩, ⟨some 57, .ext (.tmp 56) 0, none⟩, ⟨some 58, .ext (.tmp 56) 1, none⟩, ⟨none, .store 3 (.tmp 6) (.tmp 57), none⟩, ⟨some 7, .mv (.tmp 58), none⟩])
 .ret))))))
def ac20 : AFun := ⟨3, 59, ab20, [(.cell 6 true 3), (.tmp 7)]⟩
theorem cf20 : compF Try.prog Try.f20 = some ac20 := by kernel_rfl
theorem cl20 : callable Try.prog 20 = true := by kernel_rfl
theorem fn20 : Try.prog.funcs[20]? = some Try.f20 := by kernel_rfl
/- chancel/chancellaw11.within -/
def ab21 : ACode := (.seq (.reg [⟨some 4, .mv (.con (.int .i64 0)), none⟩])
 (.seq (.reg [⟨some 6, .mv (.tmp 0), none⟩, ⟨some 7, .mv (.tmp 1), none⟩, ⟨some 8, .bin .rem .plain (.tmp 6) (.tmp 7), none⟩, ⟨some 5, .mv (.tmp 8), none⟩])
 (.seq (.seq (.reg [⟨some 9, .mv (.tmp 5), none⟩, ⟨some 10, .bin .lss .plain (.tmp 9) (.con (.int .i64 0)), none⟩])
 (.cond (.tmp 10)
 (.reg [⟨some 11, .mv (.tmp 5), none⟩, ⟨some 12, .mv (.tmp 1), none⟩, ⟨some 13, .bin .add .plain (.tmp 11) (.tmp 12), none⟩, ⟨some 5, .mv (.tmp 13), none⟩])
 .skip))
 (.seq (.reg [⟨some 14, .mv (.tmp 5), none⟩, ⟨some 4, .mv (.tmp 14), none⟩])
 .ret))))
def ac21 : AFun := ⟨2, 15, ab21, [(.tmp 4)]⟩
theorem cf21 : compF Try.prog Try.f21 = some ac21 := by kernel_rfl
theorem cl21 : callable Try.prog 21 = true := by kernel_rfl
theorem fn21 : Try.prog.funcs[21]? = some Try.f21 := by kernel_rfl
/- chancel/chancellaw5.Uid -/
def ab23 : ACode := (.seq (.reg [⟨some 4, .alloc [.str [], .str []], none⟩])
 (.seq (.dreg [⟨some 5, .bslice 1 5 [.str []] [(0, 1, .con (.str [85, 115, 101, 114])), (1, 1, .con (.str [71, 114, 111, 117, 112])), (2, 1, .con (.str [68, 111, 99])), (3, 1, .con (.str [65, 99, 116, 105, 111, 110])), (4, 1, .con (.str [105, 102]))], none⟩, ⟨some 6, .mv (.tmp 0), none⟩, ⟨some 7, .call 33 [.tmp 6, .con (.int .i64 5)], none⟩, ⟨some 8, .iaddr 1 (.tmp 5) (.tmp 7), none⟩, ⟨some 9, .load false 1 (.tmp 8), none⟩, ⟨some 10, .mv (.tmp 1), none⟩, ⟨some 11, .call 35 [.tmp 10], none⟩, ⟨some 12, .build [.str [], .str []] [(0, 1, .tmp 9), (1, 1, .tmp 11)], none⟩, ⟨none, .store 2 (.tmp 4) (.tmp 12), none⟩] [2, 6, 8] [0, 0, 2, 7, 15, 0, 38, 127, 255] [0])
 .ret))
def ac23 : AFun := ⟨2, 13, ab23, [(.cell 4 true 2)]⟩
theorem cf23 : compF Try.prog Try.f23 = some ac23 := by kernel_rfl
theorem cl23 : callable Try.prog 23 = true := by kernel_rfl
theorem fn23 : Try.prog.funcs[23]? = some Try.f23 := by kernel_rfl
/- chancel/chancelref11.Envs -/
def ab25 : ACode := (.seq (.reg [⟨some 2, .box (.tmp 0), none⟩, ⟨some 3, .box (.tmp 1), none⟩, ⟨some 4, .mv (.con .nils), none⟩])
 (.seq (.reg [⟨some 5, .mv (.con .nils), none⟩])
 (.seq (.seq (.reg [⟨some 6, .mv (.con (.int .i64 0)), none⟩])
 (.block 0
 (.loop (.seq (.seq (.reg [⟨some 10, .mv (.tmp 6), none⟩, ⟨some 11, .faddr 1 (.tmp 2), none⟩, ⟨some 12, .load false 1 (.tmp 11), none⟩, ⟨some 13, .lenL (.tmp 12), none⟩, ⟨some 14, .bin .lss .plain (.tmp 10) (.tmp 13), none⟩])
 (.cond (.tmp 14)
 .skip
 (.exit 0)))
 (.seq (.block 1
 (.seq (.reg [⟨some 17, .faddr 1 (.tmp 2), none⟩, ⟨some 18, .load false 1 (.tmp 17), none⟩, ⟨some 19, .mv (.tmp 6), none⟩, ⟨some 20, .iaddr 3 (.tmp 18) (.tmp 19), none⟩, ⟨some 21, .load true 3 (.tmp 20), none⟩, ⟨some 7, .alloc [.str [], .nils, .nils], none⟩, ⟨none, .store 3 (.tmp 7) (.tmp 21), none⟩])
 (.seq (.seq (.reg [⟨some 22, .faddr 4 (.tmp 3), none⟩, ⟨some 23, .faddr 0 (.tmp 22), none⟩, ⟨some 24, .load false 1 (.tmp 23), none⟩, ⟨some 25, .bin .neq .plain (.tmp 24) (.con (.int .i64 0)), none⟩, ⟨some 26, .mv (.tmp 25), none⟩, ⟨some 27, .faddr 4 (.tmp 3), some (26, true)⟩, ⟨some 28, .faddr 1 (.tmp 27), some (26, true)⟩, ⟨some 29, .load true 2 (.tmp 28), some (26, true)⟩, ⟨some 30, .faddr 0 (.tmp 7), some (26, true)⟩, ⟨some 31, .load false 1 (.tmp 30), some (26, true)⟩, ⟨some 32, .build [.str [], .str []] [(0, 1, .con (.str [65, 99, 116, 105, 111, 110])), (1, 1, .tmp 31)], some (26, true)⟩, ⟨some 33, .bin .neq (.agg [.s, .s]) (.tmp 29) (.tmp 32), some (26, true)⟩, ⟨some 34, .pick (.tmp 26) (.tmp 33) (.con (.bool false)), none⟩])
 (.cond (.tmp 34)
 (.exit 1)
 .skip))
 (.seq (.reg [⟨some 8, .mv (.con (.int .i64 0)), none⟩])
 (.block 2
 (.loop (.seq (.seq (.reg [⟨some 35, .mv (.tmp 8), none⟩, ⟨some 36, .faddr 1 (.tmp 7), none⟩, ⟨some 37, .load false 1 (.tmp 36), none⟩, ⟨some 38, .lenL (.tmp 37), none⟩, ⟨some 39, .bin .lss .plain (.tmp 35) (.tmp 38), none⟩])
 (.cond (.tmp 39)
 .skip
 (.exit 2)))
 (.seq (.block 3
 (.seq (.reg [⟨some 9, .mv (.con (.int .i64 0)), none⟩])
 (.block 4
 (.loop (.seq (.seq (.reg [⟨some 42, .mv (.tmp 9), none⟩, ⟨some 43, .faddr 2 (.tmp 7), none⟩, ⟨some 44, .load false 1 (.tmp 43), none⟩, ⟨some 45, .lenL (.tmp 44), none⟩, ⟨some 46, .bin .lss .plain (.tmp 42) (.tmp 45), none⟩])
 (.cond (.tmp 46)
 .skip
 (.exit 4)))
 (.seq (.block 5
 (.seq (.dreg [⟨some 49, .faddr 1 (.tmp 3), none⟩, ⟨some 50, .faddr 0 (.tmp 49), none⟩, ⟨some 51, .load false 1 (.tmp 50), none⟩, ⟨some 52, .bin .neq .plain (.tmp 51) (.con (.int .i64 1)), none⟩, ⟨some 53, .mv (.tmp 52), none⟩, ⟨some 54, .faddr 1 (.tmp 3), some (53, false)⟩, ⟨some 55, .faddr 1 (.tmp 54), some (53, false)⟩, ⟨some 56, .faddr 0 (.tmp 55), some (53, false)⟩, ⟨some 57, .load false 1 (.tmp 56), some (53, false)⟩, ⟨some 58, .faddr 1 (.tmp 7), some (53, false)⟩, ⟨some 59, .load false 1 (.tmp 58), some (53, false)⟩, ⟨some 60, .mv (.tmp 8), some (53, false)⟩, ⟨some 61, .iaddr 1 (.tmp 59) (.tmp 60), some (53, false)⟩, ⟨some 62, .load false 1 (.tmp 61), some (53, false)⟩, ⟨some 63, .bin .eql .plain (.tmp 57) (.tmp 62), some (53, false)⟩, ⟨some 64, .pick (.tmp 53) (.con (.bool true)) (.tmp 63), none⟩, ⟨some 65, .mv (.tmp 64), none⟩, ⟨some 66, .faddr 7 (.tmp 3), some (65, true)⟩, ⟨some 67, .faddr 0 (.tmp 66), some (65, true)⟩, ⟨some 68, .load false 1 (.tmp 67), some (65, true)⟩, ⟨some 69, .bin .neq .plain (.tmp 68) (.con (.int .i64 1)), some (65, true)⟩, ⟨some 70, .mv (.tmp 69), some (65, true)⟩, ⟨some 71, .faddr 7 (.tmp 3), some (70, false)⟩, ⟨some 72, .faddr 1 (.tmp 71), some (70, false)⟩, ⟨some 73, .faddr 0 (.tmp 72), some (70, false)⟩, ⟨some 74, .load false 1 (.tmp 73), some (70, false)⟩, ⟨some 75, .faddr 2 (.tmp 7), some (70, false)⟩, ⟨some 76, .load false 1 (.tmp 75), some (70, false)⟩, ⟨some 77, .mv (.tmp 9), some (70, false)⟩, ⟨some 78, .iaddr 1 (.tmp 76) (.tmp 77), some (70, false)⟩, ⟨some 79, .load false 1 (.tmp 78), some (70, false)⟩, ⟨some 80, .bin .eql .plain (.tmp 74) (.tmp 79), some (70, false)⟩, ⟨some 81, .pick (.tmp 70) (.con (.bool true)) (.tmp 80), some (65, true)⟩, ⟨some 82, .pick (.tmp 65) (.tmp 81) (.con (.bool false)), none⟩] [] [0, 1, 3, 7, 15, 31, 63, 127, 255, 31, 543, 31, 3615, 7711, 16383, 32767, 65535, 131071, 262143, 524287, 1048575, 2097151, 4194303, 8388607, 16777215, 33554431, 4194303, 71303167, 4194303, 473956351, 1010827263, 2147483647, 4294967295, 8589934591] [])
 (.cond (.tmp 82)
 (.dreg [⟨some 83, .mv (.tmp 5), none⟩, ⟨some 84, .faddr 1 (.tmp 7), none⟩, ⟨some 85, .load false 1 (.tmp 84), none⟩, ⟨some 86, .mv (.tmp 8), none⟩, ⟨some 87, .iaddr 1 (.tmp 85) (.tmp 86), none⟩, ⟨some 88, .load false 1 (.tmp 87), none⟩, ⟨some 89, .faddr 0 (.tmp 7), none⟩, ⟨some 90, .load false 1 (.tmp 89), none⟩, ⟨some 91, .faddr 2 (.tmp 7), none⟩, ⟨some 92, .load false 1 (.tmp 91), none⟩, ⟨some 93, .mv (.tmp 9), none⟩, ⟨some 94, .iaddr 1 (.tmp 92) (.tmp 93), none⟩, ⟨some 95, .load false 1 (.tmp 94), none⟩, ⟨some 96, .build [.str [], .str [], .str []] [(0, 1, .tmp 88), (1, 1, .tmp 90), (2, 1, .tmp 95)], none⟩, ⟨some 97, .bslice 3 1 [.str [], .str [], .str []] [(0, 3, .tmp 96)], none⟩, ⟨some 98, .append 3 48 (.tmp 83) (.tmp 97), none⟩, ⟨some 5, .mv (.tmp 98), none⟩] [14, 15] [0, 0, 2, 0, 14, 30, 0, 64, 0, 256, 0, 1792, 3840, 8190, 16382, 32767, 65535] [])
 .skip)))
 (.reg [⟨some 47, .mv (.tmp 9), none⟩, ⟨some 48, .bin .add .plain (.tmp 47) (.con (.int .i64 1)), none⟩, ⟨some 9, .mv (.tmp 48), none⟩])))))))
 (.reg [⟨some 40, .mv (.tmp 8), none⟩, ⟨some 41, .bin .add .plain (.tmp 40) (.con (.int .i64 1)), none⟩, ⟨some 8, .mv (.tmp 41), none⟩])))))))))
 (.reg [⟨some 15, .mv (.tmp 6), none⟩, ⟨some 16, .bin .add .plain (.tmp 15) (.con (.int .i64 1)), none⟩, ⟨some 6, .mv (.tmp 16), none⟩]))))))
 (.seq (.reg [⟨some 99, .mv (.tmp 5), none⟩, ⟨some 4, .mv (.tmp 99), none⟩])
 .ret))))
def ac25 : AFun := ⟨2, 100, ab25, [(.tmp 4)]⟩
theorem cf25 : compF Try.prog Try.f25 = some ac25 := by kernel_rfl
theorem cl25 : callable Try.prog 25 = true := by kernel_rfl
theorem fn25 : Try.prog.funcs[25]? = some Try.f25 := by kernel_rfl
/- chancel/chancellaw5.Schema -/
def ab29 : ACode := (.seq (.reg [⟨some 4, .alloc [.nils, .nils], none⟩])
 (.seq (.reg [⟨some 5, .alloc [.nils, .nils], none⟩])
 (.seq (.seq (.reg [⟨some 6, .mv (.con (.int .i64 0)), none⟩])
 (.block 0
 (.loop (.seq (.seq (.reg [⟨some 16, .mv (.tmp 6), none⟩, ⟨some 17, .mv (.tmp 0), none⟩, ⟨some 18, .lenL (.tmp 17), none⟩, ⟨some 19, .bin .lss .plain (.tmp 16) (.tmp 18), none⟩, ⟨some 20, .mv (.tmp 19), none⟩, ⟨some 21, .mv (.tmp 6), some (20, true)⟩, ⟨some 22, .bin .lss .plain (.tmp 21) (.con (.int .i64 5)), some (20, true)⟩, ⟨some 23, .pick (.tmp 20) (.tmp 22) (.con (.bool false)), none⟩])
 (.cond (.tmp 23)
 .skip
 (.exit 0)))
 (.seq (.block 1
 (.seq (.reg [⟨some 26, .mv (.tmp 0), none⟩, ⟨some 27, .mv (.tmp 6), none⟩, ⟨some 28, .iaddr 3 (.tmp 26) (.tmp 27), none⟩, ⟨some 29, .faddr 0 (.tmp 28), none⟩, ⟨some 30, .load false 1 (.tmp 29), none⟩, ⟨some 31, .call 44 [.tmp 30], none⟩, ⟨some 32, .build [.str [], .nils, .nils] [(0, 1, .tmp 31)], none⟩, ⟨some 7, .alloc [.str [], .nils, .nils], none⟩, ⟨none, .store 3 (.tmp 7) (.tmp 32), none⟩])
 (.seq (.seq (.reg [⟨some 8, .mv (.con (.int .i64 0)), none⟩])
 (.block 2
 (.loop (.seq (.seq (.reg [⟨some 33, .mv (.tmp 8), none⟩, ⟨some 34, .mv (.tmp 0), none⟩, ⟨some 35, .mv (.tmp 6), none⟩, ⟨some 36, .iaddr 3 (.tmp 34) (.tmp 35), none⟩, ⟨some 37, .faddr 1 (.tmp 36), none⟩, ⟨some 38, .load false 1 (.tmp 37), none⟩, ⟨some 39, .lenL (.tmp 38), none⟩, ⟨some 40, .bin .lss .plain (.tmp 33) (.tmp 39), none⟩, ⟨some 41, .mv (.tmp 40), none⟩, ⟨some 42, .mv (.tmp 8), some (41, true)⟩, ⟨some 43, .bin .lss .plain (.tmp 42) (.con (.int .i64 3)), some (41, true)⟩, ⟨some 44, .pick (.tmp 41) (.tmp 43) (.con (.bool false)), none⟩])
 (.cond (.tmp 44)
 .skip
 (.exit 2)))
 (.seq (.block 3
 (.dreg [⟨some 47, .faddr 1 (.tmp 7), none⟩, ⟨some 48, .load false 1 (.tmp 47), none⟩, ⟨some 49, .mv (.tmp 0), none⟩, ⟨some 50, .mv (.tmp 6), none⟩, ⟨some 51, .iaddr 3 (.tmp 49) (.tmp 50), none⟩, ⟨some 52, .faddr 1 (.tmp 51), none⟩, ⟨some 53, .load false 1 (.tmp 52), none⟩, ⟨some 54, .mv (.tmp 8), none⟩, ⟨some 55, .iaddr 1 (.tmp 53) (.tmp 54), none⟩, ⟨some 56, .load false 1 (.tmp 55), none⟩, ⟨some 57, .call 44 [.tmp 56], none⟩, ⟨some 58, .bslice 1 1 [.str []] [(0, 1, .tmp 57)], none⟩, ⟨some 59, .append 1 16 (.tmp 48) (.tmp 58), none⟩, ⟨some 60, .faddr 1 (.tmp 7), none⟩, ⟨none, .store 1 (.tmp 60) (.tmp 59), none⟩] [10, 11, 12, 14] [0, 1, 0, 0, 12, 28, 60, 0, 252, 508, 1020, 2044, 4095, 8191, 16383] []))
 (.reg [⟨some 45, .mv (.tmp 8), none⟩, ⟨some 46, .bin .add .plain (.tmp 45) (.con (.int .i64 1)), none⟩, ⟨some 8, .mv (.tmp 46), none⟩]))))))
 (.seq (.seq (.reg [⟨some 9, .mv (.con (.int .i64 0)), none⟩])
 (.block 4
 (.loop (.seq (.seq (.reg [⟨some 61, .mv (.tmp 9), none⟩, ⟨some 62, .mv (.tmp 0), none⟩, ⟨some 63, .mv (.tmp 6), none⟩, ⟨some 64, .iaddr 3 (.tmp 62) (.tmp 63), none⟩, ⟨some 65, .faddr 2 (.tmp 64), none⟩, ⟨some 66, .load false 1 (.tmp 65), none⟩, ⟨some 67, .lenL (.tmp 66), none⟩, ⟨some 68, .bin .lss .plain (.tmp 61) (.tmp 67), none⟩, ⟨some 69, .mv (.tmp 68), none⟩, ⟨some 70, .mv (.tmp 9), some (69, true)⟩, ⟨some 71, .bin .lss .plain (.tmp 70) (.con (.int .i64 4)), some (69, true)⟩, ⟨some 72, .pick (.tmp 69) (.tmp 71) (.con (.bool false)), none⟩])
 (.cond (.tmp 72)
 .skip
 (.exit 4)))
 (.seq (.block 5
 (.seq (.reg [⟨some 75, .mv (.tmp 0), none⟩, ⟨some 76, .mv (.tmp 6), none⟩, ⟨some 77, .iaddr 3 (.tmp 75) (.tmp 76), none⟩, ⟨some 78, .faddr 2 (.tmp 77), none⟩, ⟨some 79, .load false 1 (.tmp 78), none⟩, ⟨some 80, .mv (.tmp 9), none⟩, ⟨some 81, .iaddr 4 (.tmp 79) (.tmp 80), none⟩, ⟨some 82, .load true 4 (.tmp 81), none⟩, ⟨some 10, .alloc [.int .i64 0, .int .i64 0, .int .i64 0, .int .i64 0], none⟩, ⟨none, .store 4 (.tmp 10) (.tmp 82), none⟩])
 (.seq (.reg [⟨some 83, .faddr 1 (.tmp 10), none⟩, ⟨some 84, .load false 1 (.tmp 83), none⟩, ⟨some 85, .call 33 [.tmp 84, .con (.int .i64 5)], none⟩, ⟨some 86, .bin .add .plain (.con (.int .i64 1)) (.tmp 85), none⟩, ⟨some 87, .build [.int .i64 0, .int .i64 0, .str []] [(0, 1, .tmp 86)], none⟩, ⟨some 11, .alloc [.int .i64 0, .int .i64 0, .str []], none⟩, ⟨none, .store 3 (.tmp 11) (.tmp 87), none⟩])
 (.seq (.seq (.reg [⟨some 88, .faddr 0 (.tmp 11), none⟩, ⟨some 89, .load false 1 (.tmp 88), none⟩, ⟨some 90, .bin .eql .plain (.tmp 89) (.con (.int .i64 5)), none⟩])
 (.cond (.tmp 90)
 (.reg [⟨some 91, .faddr 2 (.tmp 10), none⟩, ⟨some 92, .load false 1 (.tmp 91), none⟩, ⟨some 93, .call 33 [.tmp 92, .con (.int .i64 4)], none⟩, ⟨some 94, .bin .add .plain (.con (.int .i64 1)) (.tmp 93), none⟩, ⟨some 95, .faddr 1 (.tmp 11), none⟩, ⟨none, .store 1 (.tmp 95) (.tmp 94), none⟩])
 .skip))
 (.seq (.seq (.reg [⟨some 96, .faddr 0 (.tmp 11), none⟩, ⟨some 97, .load false 1 (.tmp 96), none⟩, ⟨some 98, .bin .eql .plain (.tmp 97) (.con (.int .i64 4)), none⟩, ⟨some 99, .mv (.tmp 98), none⟩, ⟨some 100, .faddr 1 (.tmp 11), some (99, false)⟩, ⟨some 101, .load false 1 (.tmp 100), some (99, false)⟩, ⟨some 102, .bin .eql .plain (.tmp 101) (.con (.int .i64 4)), some (99, false)⟩, ⟨some 103, .pick (.tmp 99) (.con (.bool true)) (.tmp 102), none⟩])
 (.cond (.tmp 103)
 (.reg [⟨some 104, .faddr 3 (.tmp 10), none⟩, ⟨some 105, .load false 1 (.tmp 104), none⟩, ⟨some 106, .call 44 [.tmp 105], none⟩, ⟨some 107, .faddr 2 (.tmp 11), none⟩, ⟨none, .store 1 (.tmp 107) (.tmp 106), none⟩])
 .skip))
 (.dreg [⟨some 108, .faddr 2 (.tmp 7), none⟩, ⟨some 109, .load false 1 (.tmp 108), none⟩, ⟨some 110, .faddr 0 (.tmp 10), none⟩, ⟨some 111, .load false 1 (.tmp 110), none⟩, ⟨some 112, .call 34 [.tmp 111], none⟩, ⟨some 113, .load true 3 (.tmp 11), none⟩, ⟨some 114, .build [.str [], .int .i64 0, .int .i64 0, .str []] [(0, 1, .tmp 112), (1, 3, .tmp 113)], none⟩, ⟨some 115, .bslice 4 1 [.str [], .int .i64 0, .int .i64 0, .str []] [(0, 4, .tmp 114)], none⟩, ⟨some 116, .append 4 48 (.tmp 109) (.tmp 115), none⟩, ⟨some 117, .faddr 2 (.tmp 7), none⟩, ⟨none, .store 1 (.tmp 117) (.tmp 116), none⟩] [4, 7, 8, 10] [0, 1, 0, 4, 12, 0, 60, 124, 255, 511, 1023] []))))))
 (.reg [⟨some 73, .mv (.tmp 9), none⟩, ⟨some 74, .bin .add .plain (.tmp 73) (.con (.int .i64 1)), none⟩, ⟨some 9, .mv (.tmp 74), none⟩]))))))
 (.reg [⟨some 118, .faddr 0 (.tmp 5), none⟩, ⟨some 119, .load false 1 (.tmp 118), none⟩, ⟨some 120, .load true 3 (.tmp 7), none⟩, ⟨some 121, .bslice 3 1 [.str [], .nils, .nils] [(0, 3, .tmp 120)], none⟩, ⟨some 122, .append 3 64 (.tmp 119) (.tmp 121), none⟩, ⟨some 123, .faddr 0 (.tmp 5), none⟩, ⟨none, .store 1 (.tmp 123) (.tmp 122), none⟩])))))
 (.reg [⟨some 24, .mv (.tmp 6), none⟩, ⟨some 25, .bin .add .plain (.tmp 24) (.con (.int .i64 1)), none⟩, ⟨some 6, .mv (.tmp 25), none⟩]))))))
 (.seq (.seq (.reg [⟨some 12, .mv (.con (.int .i64 0)), none⟩])
 (.block 6
 (.loop (.seq (.seq (.reg [⟨some 124, .mv (.tmp 12), none⟩, ⟨some 125, .mv (.tmp 1), none⟩, ⟨some 126, .lenL (.tmp 125), none⟩, ⟨some 127, .bin .lss .plain (.tmp 124) (.tmp 126), none⟩, ⟨some 128, .mv (.tmp 127), none⟩, ⟨some 129, .mv (.tmp 12), some (128, true)⟩, ⟨some 130, .bin .lss .plain (.tmp 129) (.con (.int .i64 5)), some (128, true)⟩, ⟨some 131, .pick (.tmp 128) (.tmp 130) (.con (.bool false)), none⟩])
 (.cond (.tmp 131)
 .skip
 (.exit 6)))
 (.seq (.block 7
 (.seq (.reg [⟨some 134, .bslice 1 3 [.str []] [(0, 1, .con (.str [114, 101, 97, 100])), (1, 1, .con (.str [119, 114, 105, 116, 101])), (2, 1, .con (.str [111, 119, 110]))], none⟩, ⟨some 135, .mv (.tmp 1), none⟩, ⟨some 136, .mv (.tmp 12), none⟩, ⟨some 137, .iaddr 3 (.tmp 135) (.tmp 136), none⟩, ⟨some 138, .faddr 0 (.tmp 137), none⟩, ⟨some 139, .load false 1 (.tmp 138), none⟩, ⟨some 140, .call 33 [.tmp 139, .con (.int .i64 3)], none⟩, ⟨some 141, .iaddr 1 (.tmp 134) (.tmp 140), none⟩, ⟨some 142, .load false 1 (.tmp 141), none⟩, ⟨some 143, .bslice 1 1 [.str []] [(0, 1, .con (.str [85, 115, 101, 114]))], none⟩, ⟨some 144, .bslice 1 1 [.str []] [(0, 1, .con (.str [68, 111, 99]))], none⟩, ⟨some 145, .build [.str [], .nils, .nils] [(0, 1, .tmp 142), (1, 1, .tmp 143), (2, 1, .tmp 144)], none⟩, ⟨some 13, .alloc [.str [], .nils, .nils], none⟩, ⟨none, .store 3 (.tmp 13) (.tmp 145), none⟩])
 (.seq (.seq (.reg [⟨some 14, .mv (.con (.int .i64 0)), none⟩])
 (.block 8
 (.loop (.seq (.seq (.reg [⟨some 146, .mv (.tmp 14), none⟩, ⟨some 147, .mv (.tmp 1), none⟩, ⟨some 148, .mv (.tmp 12), none⟩, ⟨some 149, .iaddr 3 (.tmp 147) (.tmp 148), none⟩, ⟨some 150, .faddr 1 (.tmp 149), none⟩, ⟨some 151, .load false 1 (.tmp 150), none⟩, ⟨some 152, .lenL (.tmp 151), none⟩, ⟨some 153, .bin .lss .plain (.tmp 146) (.tmp 152), none⟩, ⟨some 154, .mv (.tmp 153), none⟩, ⟨some 155, .mv (.tmp 14), some (154, true)⟩, ⟨some 156, .bin .lss .plain (.tmp 155) (.con (.int .i64 3)), some (154, true)⟩, ⟨some 157, .pick (.tmp 154) (.tmp 156) (.con (.bool false)), none⟩])
 (.cond (.tmp 157)
 .skip
 (.exit 8)))
 (.seq (.block 9
 (.dreg [⟨some 160, .faddr 1 (.tmp 13), none⟩, ⟨some 161, .load false 1 (.tmp 160), none⟩, ⟨some 162, .mv (.tmp 1), none⟩, ⟨some 163, .mv (.tmp 12), none⟩, ⟨some 164, .iaddr 3 (.tmp 162) (.tmp 163), none⟩, ⟨some 165, .faddr 1 (.tmp 164), none⟩, ⟨some 166, .load false 1 (.tmp 165), none⟩, ⟨some 167, .mv (.tmp 14), none⟩, ⟨some 168, .iaddr 1 (.tmp 166) (.tmp 167), none⟩, ⟨some 169, .load false 1 (.tmp 168), none⟩, ⟨some 170, .call 44 [.tmp 169], none⟩, ⟨some 171, .bslice 1 1 [.str []] [(0, 1, .tmp 170)], none⟩, ⟨some 172, .append 1 16 (.tmp 161) (.tmp 171), none⟩, ⟨some 173, .faddr 1 (.tmp 13), none⟩, ⟨none, .store 1 (.tmp 173) (.tmp 172), none⟩] [10, 11, 12, 14] [0, 1, 0, 0, 12, 28, 60, 0, 252, 508, 1020, 2044, 4095, 8191, 16383] []))
 (.reg [⟨some 158, .mv (.tmp 14), none⟩, ⟨some 159, .bin .add .plain (.tmp 158) (.con (.int .i64 1)), none⟩, ⟨some 14, .mv (.tmp 159), none⟩]))))))
 (.seq (.seq (.reg [⟨some 15, .mv (.con (.int .i64 0)), none⟩])
 (.block 10
 (.loop (.seq (.seq (.reg [⟨some 174, .mv (.tmp 15), none⟩, ⟨some 175, .mv (.tmp 1), none⟩, ⟨some 176, .mv (.tmp 12), none⟩, ⟨some 177, .iaddr 3 (.tmp 175) (.tmp 176), none⟩, ⟨some 178, .faddr 2 (.tmp 177), none⟩, ⟨some 179, .load false 1 (.tmp 178), none⟩, ⟨some 180, .lenL (.tmp 179), none⟩, ⟨some 181, .bin .lss .plain (.tmp 174) (.tmp 180), none⟩, ⟨some 182, .mv (.tmp 181), none⟩, ⟨some 183, .mv (.tmp 15), some (182, true)⟩, ⟨some 184, .bin .lss .plain (.tmp 183) (.con (.int .i64 3)), some (182, true)⟩, ⟨some 185, .pick (.tmp 182) (.tmp 184) (.con (.bool false)), none⟩])
 (.cond (.tmp 185)
 .skip
 (.exit 10)))
 (.seq (.block 11
 (.dreg [⟨some 188, .faddr 2 (.tmp 13), none⟩, ⟨some 189, .load false 1 (.tmp 188), none⟩, ⟨some 190, .mv (.tmp 1), none⟩, ⟨some 191, .mv (.tmp 12), none⟩, ⟨some 192, .iaddr 3 (.tmp 190) (.tmp 191), none⟩, ⟨some 193, .faddr 2 (.tmp 192), none⟩, ⟨some 194, .load false 1 (.tmp 193), none⟩, ⟨some 195, .mv (.tmp 15), none⟩, ⟨some 196, .iaddr 1 (.tmp 194) (.tmp 195), none⟩, ⟨some 197, .load false 1 (.tmp 196), none⟩, ⟨some 198, .call 44 [.tmp 197], none⟩, ⟨some 199, .bslice 1 1 [.str []] [(0, 1, .tmp 198)], none⟩, ⟨some 200, .append 1 16 (.tmp 189) (.tmp 199), none⟩, ⟨some 201, .faddr 2 (.tmp 13), none⟩, ⟨none, .store 1 (.tmp 201) (.tmp 200), none⟩] [10, 11, 12, 14] [0, 1, 0, 0, 12, 28, 60, 0, 252, 508, 1020, 2044, 4095, 8191, 16383] []))
 (.reg [⟨some 186, .mv (.tmp 15), none⟩, ⟨some 187, .bin .add .plain (.tmp 186) (.con (.int .i64 1)), none⟩, ⟨some 15, .mv (.tmp 187), none⟩]))))))
 (.reg [⟨some 202, .faddr 1 (.tmp 5), none⟩, ⟨some 203, .load false 1 (.tmp 202), none⟩, ⟨some 204, .load true 3 (.tmp 13), none⟩, ⟨some 205, .bslice 3 1 [.str [], .nils, .nils] [(0, 3, .tmp 204)], none⟩, ⟨some 206, .append 3 64 (.tmp 203) (.tmp 205), none⟩, ⟨some 207, .faddr 1 (.tmp 5), none⟩, ⟨none, .store 1 (.tmp 207) (.tmp 206), none⟩])))))
 (.reg [⟨some 132, .mv (.tmp 12), none⟩, ⟨some 133, .bin .add .plain (.tmp 132) (.con (.int .i64 1)), none⟩, ⟨some 12, .mv (.tmp 133), none⟩]))))))
 (.seq (.reg [⟨some 208, .load true 2 (.tmp 5), none⟩, ⟨none, .store 2 (.tmp 4) (.tmp 208), none⟩])
 .ret)))))
def ac29 : AFun := ⟨2, 209, ab29, [(.cell 4 true 2)]⟩
theorem cf29 : compF Try.prog Try.f29 = some ac29 := by kernel_rfl
theorem cl29 : callable Try.prog 29 = true := by kernel_rfl
theorem fn29 : Try.prog.funcs[29]? = some Try.f29 := by kernel_rfl
/- chancel/chancellaw10.kind -/
def ab30 : ACode := (.seq (.reg [⟨some 2, .box (.tmp 0), none⟩, ⟨some 3, .box (.tmp 1), none⟩, ⟨some 4, .alloc [.str [], .nils, .nils], none⟩])
 (.seq (.reg [⟨some 10, .load true 2 (.tmp 2), none⟩, ⟨some 11, .faddr 1 (.tmp 3), none⟩, ⟨some 12, .load false 1 (.tmp 11), none⟩, ⟨some 13, .call 31 [.tmp 10, .tmp 12], none⟩, ⟨some 14, .faddr 1 (.tmp 3), none⟩, ⟨none, .store 1 (.tmp 14) (.tmp 13), none⟩])
 (.seq (.reg [⟨some 5, .mv (.con .nils), none⟩])
 (.seq (.seq (.reg [⟨some 6, .mv (.con (.int .i64 0)), none⟩])
 (.block 0
 (.loop (.seq (.seq (.reg [⟨some 15, .mv (.tmp 6), none⟩, ⟨some 16, .faddr 2 (.tmp 3), none⟩, ⟨some 17, .load false 1 (.tmp 16), none⟩, ⟨some 18, .lenL (.tmp 17), none⟩, ⟨some 19, .bin .lss .plain (.tmp 15) (.tmp 18), none⟩])
 (.cond (.tmp 19)
 .skip
 (.exit 0)))
 (.seq (.block 1
 (.seq (.reg [⟨some 22, .faddr 2 (.tmp 3), none⟩, ⟨some 23, .load false 1 (.tmp 22), none⟩, ⟨some 24, .mv (.tmp 6), none⟩, ⟨some 25, .iaddr 4 (.tmp 23) (.tmp 24), none⟩, ⟨some 26, .load true 4 (.tmp 25), none⟩, ⟨some 7, .alloc [.str [], .int .i64 0, .int .i64 0, .str []], none⟩, ⟨none, .store 4 (.tmp 7) (.tmp 26), none⟩])
 (.seq (.seq (.reg [⟨some 27, .faddr 1 (.tmp 7), none⟩, ⟨some 28, .faddr 2 (.tmp 27), none⟩, ⟨some 29, .load false 1 (.tmp 28), none⟩, ⟨some 30, .bin .neq .plain (.tmp 29) (.con (.str [])), none⟩])
 (.cond (.tmp 30)
 (.seq (.reg [⟨some 32, .load true 2 (.tmp 2), none⟩, ⟨some 33, .faddr 1 (.tmp 7), none⟩, ⟨some 34, .faddr 2 (.tmp 33), none⟩, ⟨some 35, .load false 1 (.tmp 34), none⟩, ⟨some 36, .call 45 [.tmp 32, .tmp 35], none⟩, ⟨some 31, .mv (.tmp 36), none⟩, ⟨some 37, .ext (.tmp 31) 0, none⟩, ⟨some 38, .ext (.tmp 31) 1, none⟩, ⟨some 8, .alloc [.str [], .nils, .nils], none⟩, ⟨none, .store 3 (.tmp 8) (.tmp 37), none⟩, ⟨some 9, .mv (.tmp 38), none⟩])
 (.seq (.reg [⟨some 39, .mv (.tmp 9), none⟩, ⟨some 40, .un .not (.tmp 39), none⟩])
 (.cond (.tmp 40)
 (.reg [⟨some 41, .faddr 0 (.tmp 3), none⟩, ⟨some 42, .load false 1 (.tmp 41), none⟩, ⟨some 43, .faddr 1 (.tmp 7), none⟩, ⟨some 44, .faddr 2 (.tmp 43), none⟩, ⟨none, .store 1 (.tmp 44) (.tmp 42), none⟩])
 .skip)))
 .skip))
 (.seq (.dreg [⟨some 45, .mv (.tmp 5), none⟩, ⟨some 46, .lenL (.tmp 45), none⟩, ⟨some 47, .bin .eql .plain (.tmp 46) (.con (.int .i64 0)), none⟩, ⟨some 48, .mv (.tmp 47), none⟩, ⟨some 49, .mv (.tmp 5), some (48, false)⟩, ⟨some 50, .mv (.tmp 5), some (48, false)⟩, ⟨some 51, .lenL (.tmp 50), some (48, false)⟩, ⟨some 52, .bin .sub .plain (.tmp 51) (.con (.int .i64 1)), some (48, false)⟩, ⟨some 53, .iaddr 4 (.tmp 49) (.tmp 52), some (48, false)⟩, ⟨some 54, .faddr 0 (.tmp 53), some (48, false)⟩, ⟨some 55, .load false 1 (.tmp 54), some (48, false)⟩, ⟨some 56, .faddr 0 (.tmp 7), some (48, false)⟩, ⟨some 57, .load false 1 (.tmp 56), some (48, false)⟩, ⟨some 58, .bin .lss .plain (.tmp 55) (.tmp 57), some (48, false)⟩, ⟨some 59, .pick (.tmp 48) (.con (.bool true)) (.tmp 58), none⟩] [] [0, 1, 3, 7, 15, 15, 47, 111, 255, 511, 1023, 15, 2063, 8191, 16383] [])
 (.cond (.tmp 59)
 (.reg [⟨some 60, .mv (.tmp 5), none⟩, ⟨some 61, .load true 4 (.tmp 7), none⟩, ⟨some 62, .bslice 4 1 [.str [], .int .i64 0, .int .i64 0, .str []] [(0, 4, .tmp 61)], none⟩, ⟨some 63, .append 4 48 (.tmp 60) (.tmp 62), none⟩, ⟨some 5, .mv (.tmp 63), none⟩])
 .skip)))))
 (.reg [⟨some 20, .mv (.tmp 6), none⟩, ⟨some 21, .bin .add .plain (.tmp 20) (.con (.int .i64 1)), none⟩, ⟨some 6, .mv (.tmp 21), none⟩]))))))
 (.seq (.reg [⟨some 64, .mv (.tmp 5), none⟩, ⟨some 65, .faddr 2 (.tmp 3), none⟩, ⟨none, .store 1 (.tmp 65) (.tmp 64), none⟩])
 (.seq (.reg [⟨some 66, .load true 3 (.tmp 3), none⟩, ⟨none, .store 3 (.tmp 4) (.tmp 66), none⟩])
 .ret))))))
def ac30 : AFun := ⟨2, 67, ab30, [(.cell 4 true 3)]⟩
theorem cf30 : compF Try.prog Try.f30 = some ac30 := by kernel_rfl
theorem cl30 : callable Try.prog 30 = true := by kernel_rfl
theorem fn30 : Try.prog.funcs[30]? = some Try.f30 := by kernel_rfl
/- chancel/chancellaw10.those -/
def ab31 : ACode := (.seq (.reg [⟨some 2, .box (.tmp 0), none⟩, ⟨some 4, .mv (.con .nils), none⟩])
 (.seq (.reg [⟨some 5, .mv (.con .nils), none⟩])
 (.seq (.seq (.reg [⟨some 6, .mv (.con (.int .i64 0)), none⟩])
 (.block 0
 (.loop (.seq (.seq (.reg [⟨some 9, .mv (.tmp 6), none⟩, ⟨some 10, .mv (.tmp 1), none⟩, ⟨some 11, .lenL (.tmp 10), none⟩, ⟨some 12, .bin .lss .plain (.tmp 9) (.tmp 11), none⟩])
 (.cond (.tmp 12)
 .skip
 (.exit 0)))
 (.seq (.block 1
 (.seq (.dreg [⟨some 16, .load true 2 (.tmp 2), none⟩, ⟨some 17, .mv (.tmp 1), none⟩, ⟨some 18, .mv (.tmp 6), none⟩, ⟨some 19, .iaddr 1 (.tmp 17) (.tmp 18), none⟩, ⟨some 20, .load false 1 (.tmp 19), none⟩, ⟨some 21, .call 45 [.tmp 16, .tmp 20], none⟩, ⟨some 15, .mv (.tmp 21), none⟩, ⟨some 22, .ext (.tmp 15) 0, none⟩, ⟨some 23, .ext (.tmp 15) 1, none⟩, ⟨some 7, .alloc [.str [], .nils, .nils], none⟩, ⟨none, .store 3 (.tmp 7) (.tmp 22), none⟩, ⟨some 8, .mv (.tmp 23), none⟩] [5, 10] [0, 0, 0, 6, 14, 31, 63, 127, 127, 0, 767, 2047] [9])
 (.seq (.reg [⟨some 24, .mv (.tmp 8), none⟩])
 (.cond (.tmp 24)
 (.reg [⟨some 25, .mv (.tmp 5), none⟩, ⟨some 26, .mv (.tmp 1), none⟩, ⟨some 27, .mv (.tmp 6), none⟩, ⟨some 28, .iaddr 1 (.tmp 26) (.tmp 27), none⟩, ⟨some 29, .load false 1 (.tmp 28), none⟩, ⟨some 30, .bslice 1 1 [.str []] [(0, 1, .tmp 29)], none⟩, ⟨some 31, .append 1 16 (.tmp 25) (.tmp 30), none⟩, ⟨some 5, .mv (.tmp 31), none⟩])
 .skip))))
 (.reg [⟨some 13, .mv (.tmp 6), none⟩, ⟨some 14, .bin .add .plain (.tmp 13) (.con (.int .i64 1)), none⟩, ⟨some 6, .mv (.tmp 14), none⟩]))))))
 (.seq (.reg [⟨some 32, .mv (.tmp 5), none⟩, ⟨some 4, .mv (.tmp 32), none⟩])
 .ret))))
def ac31 : AFun := ⟨2, 33, ab31, [(.tmp 4)]⟩
theorem cf31 : compF Try.prog Try.f31 = some ac31 := by kernel_rfl
theorem cl31 : callable Try.prog 31 = true := by kernel_rfl
theorem fn31 : Try.prog.funcs[31]? = some Try.f31 := by kernel_rfl
/- chancel/chancellaw5.within -/
def ab33 : ACode := (.seq (.reg [⟨some 4, .mv (.con (.int .i64 0)), none⟩])
 (.seq (.reg [⟨some 6, .mv (.tmp 0), none⟩, ⟨some 7, .mv (.tmp 1), none⟩, ⟨some 8, .bin .rem .plain (.tmp 6) (.tmp 7), none⟩, ⟨some 5, .mv (.tmp 8), none⟩])
 (.seq (.seq (.reg [⟨some 9, .mv (.tmp 5), none⟩, ⟨some 10, .bin .lss .plain (.tmp 9) (.con (.int .i64 0)), none⟩])
 (.cond (.tmp 10)
 (.reg [⟨some 11, .mv (.tmp 5), none⟩, ⟨some 12, .mv (.tmp 1), none⟩, ⟨some 13, .bin .add .plain (.tmp 11) (.tmp 12), none⟩, ⟨some 5, .mv (.tmp 13), none⟩])
 .skip))
 (.seq (.reg [⟨some 14, .mv (.tmp 5), none⟩, ⟨some 4, .mv (.tmp 14), none⟩])
 .ret))))
def ac33 : AFun := ⟨2, 15, ab33, [(.tmp 4)]⟩
theorem cf33 : compF Try.prog Try.f33 = some ac33 := by kernel_rfl
theorem cl33 : callable Try.prog 33 = true := by kernel_rfl
theorem fn33 : Try.prog.funcs[33]? = some Try.f33 := by kernel_rfl
/- chancel/chancellaw5.name -/
def ab34 : ACode := (.seq (.reg [⟨some 2, .mv (.con (.str [])), none⟩])
 (.seq (.reg [⟨some 3, .bslice 1 7 [.str []] [(0, 1, .con (.str [97])), (1, 1, .con (.str [97, 103, 101])), (2, 1, .con (.str [105, 102])), (3, 1, .con (.str [99, 111, 110, 116, 97, 105, 110, 115])), (4, 1, .con (.str [112, 114, 105, 110, 99, 105, 112, 97, 108])), (5, 1, .con (.str [95, 120])), (6, 1, .con (.str [110, 97, 109, 101]))], none⟩, ⟨some 4, .mv (.tmp 0), none⟩, ⟨some 5, .call 33 [.tmp 4, .con (.int .i64 7)], none⟩, ⟨some 6, .iaddr 1 (.tmp 3) (.tmp 5), none⟩, ⟨some 7, .load false 1 (.tmp 6), none⟩, ⟨some 2, .mv (.tmp 7), none⟩])
 .ret))
def ac34 : AFun := ⟨1, 8, ab34, [(.tmp 2)]⟩
theorem cf34 : compF Try.prog Try.f34 = some ac34 := by kernel_rfl
theorem cl34 : callable Try.prog 34 = true := by kernel_rfl
theorem fn34 : Try.prog.funcs[34]? = some Try.f34 := by kernel_rfl
/- chancel/chancellaw5.id -/
def ab35 : ACode := (.seq (.reg [⟨some 2, .mv (.con (.str [])), none⟩])
 (.seq (.seq (.reg [⟨some 3, .mv (.tmp 0), none⟩, ⟨some 4, .lenL (.tmp 3), none⟩, ⟨some 5, .bin .gtr .plain (.tmp 4) (.con (.int .i64 8)), none⟩])
 (.cond (.tmp 5)
 (.reg [⟨some 6, .mv (.tmp 0), none⟩, ⟨some 7, .slSl 1 (.tmp 6) none (some (.con (.int .i64 8))) none, none⟩, ⟨some 0, .mv (.tmp 7), none⟩])
 .skip))
 (.seq (.reg [⟨some 8, .mv (.tmp 0), none⟩, ⟨some 9, .call 46 [.tmp 8], none⟩, ⟨some 2, .mv (.tmp 9), none⟩])
 .ret)))
def ac35 : AFun := ⟨1, 10, ab35, [(.tmp 2)]⟩
theorem cf35 : compF Try.prog Try.f35 = some ac35 := by kernel_rfl
theorem cl35 : callable Try.prog 35 = true := by kernel_rfl
theorem fn35 : Try.prog.funcs[35]? = some Try.f35 := by kernel_rfl
/- chancel/chancelref11.Of -/
def ab36 : ACode := (.seq (.reg [⟨some 3, .box (.tmp 0), none⟩, ⟨some 4, .box (.tmp 1), none⟩, ⟨some 5, .box (.tmp 2), none⟩, ⟨some 6, .alloc [.int .i64 0, .int .i64 0, .str []], none⟩, ⟨some 7, .mv (.con (.int .i64 0)), none⟩])
 (.seq (.seq (.reg [⟨some 12, .faddr 0 (.tmp 5), none⟩, ⟨some 13, .load false 1 (.tmp 12), none⟩, ⟨some 14, .bin .geq .plain (.tmp 13) (.con (.int .i64 1)), none⟩, ⟨some 15, .mv (.tmp 14), none⟩, ⟨some 16, .faddr 0 (.tmp 5), some (15, true)⟩, ⟨some 17, .load false 1 (.tmp 16), some (15, true)⟩, ⟨some 18, .bin .leq .plain (.tmp 17) (.con (.int .i64 5)), some (15, true)⟩, ⟨some 19, .pick (.tmp 15) (.tmp 18) (.con (.bool false)), none⟩])
 (.cond (.tmp 19)
 (.seq (.reg [⟨some 20, .load true 2 (.tmp 3), none⟩, ⟨some 21, .load true 3 (.tmp 4), none⟩, ⟨some 22, .load true 7 (.tmp 5), none⟩, ⟨some 23, .call 47 [.tmp 20, .tmp 21, .tmp 22], none⟩, ⟨some 24, .ext (.tmp 23) 0, none⟩, ⟨some 25, .ext (.tmp 23) 1, none⟩, ⟨none, .store 3 (.tmp 6) (.tmp 24), none⟩, ⟨some 7, .mv (.tmp 25), none⟩])
 .ret)
 .skip))
 (.seq (.reg [⟨some 8, .mv (.con .nils), none⟩])
 (.seq (.seq (.reg [⟨some 9, .mv (.con (.int .i64 0)), none⟩])
 (.block 0
 (.loop (.seq (.seq (.reg [⟨some 26, .mv (.tmp 9), none⟩, ⟨some 27, .faddr 6 (.tmp 5), none⟩, ⟨some 28, .load false 1 (.tmp 27), none⟩, ⟨some 29, .lenL (.tmp 28), none⟩, ⟨some 30, .bin .lss .plain (.tmp 26) (.tmp 29), none⟩])
 (.cond (.tmp 30)
 .skip
 (.exit 0)))
 (.seq (.block 1
 (.seq (.dreg [⟨some 34, .load true 2 (.tmp 3), none⟩, ⟨some 35, .load true 3 (.tmp 4), none⟩, ⟨some 36, .faddr 6 (.tmp 5), none⟩, ⟨some 37, .load false 1 (.tmp 36), none⟩, ⟨some 38, .mv (.tmp 9), none⟩, ⟨some 39, .iaddr 7 (.tmp 37) (.tmp 38), none⟩, ⟨some 40, .load true 7 (.tmp 39), none⟩, ⟨some 41, .call 36 [.tmp 34, .tmp 35, .tmp 40], none⟩, ⟨some 33, .mv (.tmp 41), none⟩, ⟨some 42, .ext (.tmp 33) 0, none⟩, ⟨some 43, .ext (.tmp 33) 1, none⟩, ⟨some 10, .alloc [.int .i64 0, .int .i64 0, .str []], none⟩, ⟨none, .store 3 (.tmp 10) (.tmp 42), none⟩, ⟨some 11, .mv (.tmp 43), none⟩] [7, 12] [0, 0, 0, 4, 0, 28, 60, 127, 255, 511, 511, 0, 3071, 8191] [11])
 (.seq (.seq (.reg [⟨some 44, .mv (.tmp 11), none⟩, ⟨some 45, .bin .neq .plain (.tmp 44) (.con (.int .i64 0)), none⟩])
 (.cond (.tmp 45)
 (.seq (.reg [⟨some 46, .build [.int .i64 0, .int .i64 0, .str []] [], none⟩, ⟨some 47, .mv (.tmp 11), none⟩, ⟨none, .store 3 (.tmp 6) (.tmp 46), none⟩, ⟨some 7, .mv (.tmp 47), none⟩])
 .ret)
 .skip))
 (.reg [⟨some 48, .mv (.tmp 8), none⟩, ⟨some 49, .load true 3 (.tmp 10), none⟩, ⟨some 50, .bslice 3 1 [.int .i64 0, .int .i64 0, .str []] [(0, 3, .tmp 49)], none⟩, ⟨some 51, .append 3 32 (.tmp 48) (.tmp 50), none⟩, ⟨some 8, .mv (.tmp 51), none⟩]))))
 (.reg [⟨some 31, .mv (.tmp 9), none⟩, ⟨some 32, .bin .add .plain (.tmp 31) (.con (.int .i64 1)), none⟩, ⟨some 9, .mv (.tmp 32), none⟩]))))))
 (.seq (.reg [⟨some 52, .load true 2 (.tmp 3), none⟩, ⟨some 53, .load true 7 (.tmp 5), none⟩, ⟨some 54, .mv (.tmp 8), none⟩, ⟨some 55, .call 48 [.tmp 52, .tmp 53, .tmp 54], none⟩, ⟨some 56, .ext (.tmp 55) 0, none⟩, ⟨some 57, .ext (.tmp 55) 1, none⟩, ⟨none, .store 3 (.tmp 6) (.tmp 56), none⟩, ⟨some 7, .mv (.tmp 57), none⟩])
 .ret)))))
def ac36 : AFun := ⟨3, 58, ab36, [(.cell 6 true 3), (.tmp 7)]⟩
theorem cf36 : compF Try.prog Try.f36 = some ac36 := by kernel_rfl
theorem cl36 : callable Try.prog 36 = true := by kernel_rfl
theorem fn36 : Try.prog.funcs[36]? = some Try.f36 := by kernel_rfl
/- chancel/types.leaf -/
def ab38 : ACode := (.seq (.reg [⟨some 3, .box (.tmp 0), none⟩, ⟨some 4, .box (.tmp 1), none⟩, ⟨some 5, .box (.tmp 2), none⟩, ⟨some 6, .alloc [.int .i64 0, .int .i64 0, .str []], none⟩, ⟨some 7, .mv (.con (.int .i64 0)), none⟩])
 (.seq (.seq (.reg [⟨some 8, .faddr 0 (.tmp 5), none⟩, ⟨some 9, .load false 1 (.tmp 8), none⟩])
 (.block 0
 (.seq (.reg [⟨some 11, .bin .eql .plain (.tmp 9) (.con (.int .i64 1)), none⟩, ⟨some 10, .mv (.tmp 11), none⟩])
 (.cond (.tmp 10)
 (.seq (.reg [⟨some 12, .call 51 [], none⟩, ⟨none, .store 3 (.tmp 6) (.tmp 12), none⟩, ⟨some 7, .mv (.con (.int .i64 0)), none⟩])
 .ret)
 (.seq (.reg [⟨some 14, .bin .eql .plain (.tmp 9) (.con (.int .i64 2)), none⟩, ⟨some 13, .mv (.tmp 14), none⟩])
 (.cond (.tmp 13)
 (.seq (.reg [⟨some 15, .call 52 [], none⟩, ⟨none, .store 3 (.tmp 6) (.tmp 15), none⟩, ⟨some 7, .mv (.con (.int .i64 0)), none⟩])
 .ret)
 (.seq (.reg [⟨some 17, .bin .eql .plain (.tmp 9) (.con (.int .i64 3)), none⟩, ⟨some 16, .mv (.tmp 17), none⟩])
 (.cond (.tmp 16)
 (.seq (.reg [⟨some 18, .build [.int .i64 0, .int .i64 0, .str []] [(0, 1, .con (.int .i64 3))], none⟩, ⟨none, .store 3 (.tmp 6) (.tmp 18), none⟩, ⟨some 7, .mv (.con (.int .i64 0)), none⟩])
 .ret)
 (.seq (.reg [⟨some 20, .bin .eql .plain (.tmp 9) (.con (.int .i64 4)), none⟩, ⟨some 19, .mv (.tmp 20), none⟩])
 (.cond (.tmp 19)
 (.seq (.seq (.reg [⟨some 21, .load true 2 (.tmp 3), none⟩, ⟨some 22, .faddr 4 (.tmp 5), none⟩, ⟨some 23, .load true 2 (.tmp 22), none⟩, ⟨some 24, .call 42 [.tmp 21, .tmp 23], none⟩, ⟨some 25, .un .not (.tmp 24), none⟩])
 (.cond (.tmp 25)
 (.seq (.reg [⟨some 26, .build [.int .i64 0, .int .i64 0, .str []] [], none⟩, ⟨none, .store 3 (.tmp 6) (.tmp 26), none⟩, ⟨some 7, .mv (.con (.int .i64 15)), none⟩])
 .ret)
 .skip))
 (.seq (.reg [⟨some 27, .faddr 4 (.tmp 5), none⟩, ⟨some 28, .faddr 0 (.tmp 27), none⟩, ⟨some 29, .load false 1 (.tmp 28), none⟩, ⟨some 30, .call 53 [.tmp 29], none⟩, ⟨none, .store 3 (.tmp 6) (.tmp 30), none⟩, ⟨some 7, .mv (.con (.int .i64 0)), none⟩])
 .ret))
 .skip))))))))))
 (.seq (.seq (.reg [⟨some 31, .faddr 3 (.tmp 5), none⟩, ⟨some 32, .load false 1 (.tmp 31), none⟩])
 (.block 1
 (.seq (.reg [⟨some 34, .bin .eql .plain (.tmp 32) (.con (.str [112, 114, 105, 110, 99, 105, 112, 97, 108])), none⟩, ⟨some 33, .mv (.tmp 34), none⟩])
 (.cond (.tmp 33)
 (.seq (.reg [⟨some 35, .faddr 0 (.tmp 4), none⟩, ⟨some 36, .load false 1 (.tmp 35), none⟩, ⟨some 37, .call 53 [.tmp 36], none⟩, ⟨none, .store 3 (.tmp 6) (.tmp 37), none⟩, ⟨some 7, .mv (.con (.int .i64 0)), none⟩])
 .ret)
 (.seq (.reg [⟨some 39, .bin .eql .plain (.tmp 32) (.con (.str [114, 101, 115, 111, 117, 114, 99, 101])), none⟩, ⟨some 38, .mv (.tmp 39), none⟩])
 (.cond (.tmp 38)
 (.seq (.reg [⟨some 40, .faddr 2 (.tmp 4), none⟩, ⟨some 41, .load false 1 (.tmp 40), none⟩, ⟨some 42, .call 53 [.tmp 41], none⟩, ⟨none, .store 3 (.tmp 6) (.tmp 42), none⟩, ⟨some 7, .mv (.con (.int .i64 0)), none⟩])
 .ret)
 .skip))))))
 (.seq (.reg [⟨some 43, .call 53 [.con (.str [65, 99, 116, 105, 111, 110])], none⟩, ⟨none, .store 3 (.tmp 6) (.tmp 43), none⟩, ⟨some 7, .mv (.con (.int .i64 0)), none⟩])
 .ret))))
def ac38 : AFun := ⟨3, 44, ab38, [(.cell 6 true 3), (.tmp 7)]⟩
theorem cf38 : compF Try.prog Try.f38 = some ac38 := by kernel_rfl
theorem cl38 : callable Try.prog 38 = true := by kernel_rfl
theorem fn38 : Try.prog.funcs[38]? = some Try.f38 := by kernel_rfl
/- chancel/types.few -/
def ab39 : ACode := (.seq (.reg [⟨some 1, .box (.tmp 0), none⟩, ⟨some 2, .mv (.con (.bool false)), none⟩])
 (.seq (.seq (.reg [⟨some 3, .faddr 0 (.tmp 1), none⟩, ⟨some 4, .load false 1 (.tmp 3), none⟩])
 (.block 0
 (.seq (.reg [⟨some 6, .bin .eql .plain (.tmp 4) (.con (.int .i64 6)), none⟩, ⟨some 5, .mv (.tmp 6), none⟩])
 (.cond (.tmp 5)
 (.seq (.reg [⟨some 2, .mv (.con (.bool false)), none⟩])
 .ret)
 (.seq (.reg [⟨some 8, .bin .eql .plain (.tmp 4) (.con (.int .i64 25)), none⟩, ⟨some 7, .mv (.tmp 8), none⟩])
 (.cond (.tmp 7)
 (.seq (.reg [⟨some 9, .faddr 6 (.tmp 1), none⟩, ⟨some 10, .load false 1 (.tmp 9), none⟩, ⟨some 11, .lenL (.tmp 10), none⟩, ⟨some 12, .bin .lss .plain (.tmp 11) (.con (.int .i64 3)), none⟩, ⟨some 2, .mv (.tmp 12), none⟩])
 .ret)
 (.seq (.seq (.reg [⟨some 14, .bin .eql .plain (.tmp 4) (.con (.int .i64 7)), none⟩, ⟨some 13, .mv (.tmp 14), none⟩])
 (.cond (.tmp 13)
 .skip
 (.seq (.reg [⟨some 15, .bin .eql .plain (.tmp 4) (.con (.int .i64 8)), none⟩, ⟨some 13, .mv (.tmp 15), none⟩])
 (.cond (.tmp 13)
 .skip
 (.seq (.reg [⟨some 16, .bin .eql .plain (.tmp 4) (.con (.int .i64 10)), none⟩, ⟨some 13, .mv (.tmp 16), none⟩])
 (.cond (.tmp 13)
 .skip
 (.seq (.reg [⟨some 17, .bin .eql .plain (.tmp 4) (.con (.int .i64 11)), none⟩, ⟨some 13, .mv (.tmp 17), none⟩])
 (.cond (.tmp 13)
 .skip
 (.reg [⟨some 18, .bin .eql .plain (.tmp 4) (.con (.int .i64 12)), none⟩, ⟨some 13, .mv (.tmp 18), none⟩])))))))))
 (.cond (.tmp 13)
 (.seq (.reg [⟨some 19, .faddr 6 (.tmp 1), none⟩, ⟨some 20, .load false 1 (.tmp 19), none⟩, ⟨some 21, .lenL (.tmp 20), none⟩, ⟨some 22, .bin .lss .plain (.tmp 21) (.con (.int .i64 1)), none⟩, ⟨some 2, .mv (.tmp 22), none⟩])
 .ret)
 .skip))))))))
 (.seq (.reg [⟨some 23, .faddr 6 (.tmp 1), none⟩, ⟨some 24, .load false 1 (.tmp 23), none⟩, ⟨some 25, .lenL (.tmp 24), none⟩, ⟨some 26, .bin .lss .plain (.tmp 25) (.con (.int .i64 2)), none⟩, ⟨some 2, .mv (.tmp 26), none⟩])
 .ret)))
def ac39 : AFun := ⟨1, 27, ab39, [(.tmp 2)]⟩
theorem cf39 : compF Try.prog Try.f39 = some ac39 := by kernel_rfl
theorem cl39 : callable Try.prog 39 = true := by kernel_rfl
theorem fn39 : Try.prog.funcs[39]? = some Try.f39 := by kernel_rfl
/- chancel/types.node -/
def ab40 : ACode := (.seq (.reg [⟨some 3, .box (.tmp 0), none⟩, ⟨some 4, .box (.tmp 1), none⟩, ⟨some 6, .alloc [.int .i64 0, .int .i64 0, .str []], none⟩, ⟨some 7, .mv (.con (.int .i64 0)), none⟩])
 (.seq (.seq (.reg [⟨some 8, .faddr 0 (.tmp 4), none⟩, ⟨some 9, .load false 1 (.tmp 8), none⟩])
 (.block 0
 (.seq (.block 11
 (.seq (.block 10
 (.seq (.block 9
 (.seq (.block 8
 (.seq (.block 7
 (.block 6
 (.seq (.block 5
 (.seq (.block 4
 (.seq (.block 3
 (.seq (.block 2
 (.seq (.block 1
 (.seq (.seq (.seq (.reg [⟨some 11, .bin .eql .plain (.tmp 9) (.con (.int .i64 6)), none⟩, ⟨some 10, .mv (.tmp 11), none⟩])
 (.cond (.tmp 10)
 (.exit 1)
 .skip))
 (.seq (.seq (.reg [⟨some 13, .bin .eql .plain (.tmp 9) (.con (.int .i64 7)), none⟩, ⟨some 12, .mv (.tmp 13), none⟩])
 (.cond (.tmp 12)
 (.exit 2)
 .skip))
 (.seq (.seq (.reg [⟨some 15, .bin .eql .plain (.tmp 9) (.con (.int .i64 8)), none⟩, ⟨some 14, .mv (.tmp 15), none⟩])
 (.cond (.tmp 14)
 (.exit 3)
 .skip))
 (.seq (.seq (.reg [⟨some 17, .bin .eql .plain (.tmp 9) (.con (.int .i64 9)), none⟩, ⟨some 16, .mv (.tmp 17), none⟩])
 (.cond (.tmp 16)
 (.exit 4)
 .skip))
 (.seq (.seq (.reg [⟨some 19, .bin .eql .plain (.tmp 9) (.con (.int .i64 10)), none⟩, ⟨some 18, .mv (.tmp 19), none⟩])
 (.cond (.tmp 18)
 (.exit 5)
 .skip))
 (.seq (.seq (.seq (.reg [⟨some 21, .bin .eql .plain (.tmp 9) (.con (.int .i64 12)), none⟩, ⟨some 20, .mv (.tmp 21), none⟩])
 (.cond (.tmp 20)
 .skip
 (.reg [⟨some 22, .bin .eql .plain (.tmp 9) (.con (.int .i64 13)), none⟩, ⟨some 20, .mv (.tmp 22), none⟩])))
 (.cond (.tmp 20)
 (.exit 6)
 .skip))
 (.seq (.seq (.seq (.reg [⟨some 24, .bin .eql .plain (.tmp 9) (.con (.int .i64 14)), none⟩, ⟨some 23, .mv (.tmp 24), none⟩])
 (.cond (.tmp 23)
 .skip
 (.reg [⟨some 25, .bin .eql .plain (.tmp 9) (.con (.int .i64 15)), none⟩, ⟨some 23, .mv (.tmp 25), none⟩])))
 (.cond (.tmp 23)
 (.exit 7)
 .skip))
 (.seq (.seq (.seq (.reg [⟨some 27, .bin .eql .plain (.tmp 9) (.con (.int .i64 16)), none⟩, ⟨some 26, .mv (.tmp 27), none⟩])
 (.cond (.tmp 26)
 .skip
 (.seq (.reg [⟨some 28, .bin .eql .plain (.tmp 9) (.con (.int .i64 17)), none⟩, ⟨some 26, .mv (.tmp 28), none⟩])
 (.cond (.tmp 26)
 .skip
 (.seq (.reg [⟨some 29, .bin .eql .plain (.tmp 9) (.con (.int .i64 18)), none⟩, ⟨some 26, .mv (.tmp 29), none⟩])
 (.cond (.tmp 26)
 .skip
 (.reg [⟨some 30, .bin .eql .plain (.tmp 9) (.con (.int .i64 19)), none⟩, ⟨some 26, .mv (.tmp 30), none⟩])))))))
 (.cond (.tmp 26)
 (.exit 8)
 .skip))
 (.seq (.seq (.seq (.reg [⟨some 32, .bin .eql .plain (.tmp 9) (.con (.int .i64 20)), none⟩, ⟨some 31, .mv (.tmp 32), none⟩])
 (.cond (.tmp 31)
 .skip
 (.reg [⟨some 33, .bin .eql .plain (.tmp 9) (.con (.int .i64 21)), none⟩, ⟨some 31, .mv (.tmp 33), none⟩])))
 (.cond (.tmp 31)
 (.exit 9)
 .skip))
 (.seq (.seq (.reg [⟨some 35, .bin .eql .plain (.tmp 9) (.con (.int .i64 22)), none⟩, ⟨some 34, .mv (.tmp 35), none⟩])
 (.cond (.tmp 34)
 (.exit 10)
 .skip))
 (.seq (.seq (.reg [⟨some 37, .bin .eql .plain (.tmp 9) (.con (.int .i64 11)), none⟩, ⟨some 36, .mv (.tmp 37), none⟩])
 (.cond (.tmp 36)
 .skip
 (.seq (.reg [⟨some 38, .bin .eql .plain (.tmp 9) (.con (.int .i64 23)), none⟩, ⟨some 36, .mv (.tmp 38), none⟩])
 (.cond (.tmp 36)
 .skip
 (.reg [⟨some 39, .bin .eql .plain (.tmp 9) (.con (.int .i64 24)), none⟩, ⟨some 36, .mv (.tmp 39), none⟩])))))
 (.cond (.tmp 36)
 (.exit 11)
 .skip))))))))))))
 (.exit 0)))
 (.seq (.seq (.seq (.reg [⟨some 40, .mv (.tmp 2), none⟩, ⟨some 41, .lenL (.tmp 40), none⟩, ⟨some 42, .bin .eql .plain (.tmp 41) (.con (.int .i64 0)), none⟩, ⟨some 43, .mv (.tmp 42), none⟩, ⟨some 44, .mv (.tmp 2), some (43, false)⟩, ⟨some 45, .call 54 [.tmp 44], some (43, false)⟩, ⟨some 46, .un .not (.tmp 45), some (43, false)⟩, ⟨some 47, .pick (.tmp 43) (.con (.bool true)) (.tmp 46), none⟩, ⟨some 48, .mv (.tmp 47), none⟩, ⟨some 49, .mv (.tmp 2), some (48, false)⟩, ⟨some 50, .iaddr 3 (.tmp 49) (.con (.int .i64 0)), some (48, false)⟩, ⟨some 51, .faddr 0 (.tmp 50), some (48, false)⟩, ⟨some 52, .load false 1 (.tmp 51), some (48, false)⟩, ⟨some 53, .bin .eql .plain (.tmp 52) (.con (.int .i64 5)), some (48, false)⟩, ⟨some 54, .pick (.tmp 48) (.con (.bool true)) (.tmp 53), none⟩])
 (.cond (.tmp 54)
 (.seq (.reg [⟨some 55, .build [.int .i64 0, .int .i64 0, .str []] [], none⟩, ⟨none, .store 3 (.tmp 6) (.tmp 55), none⟩, ⟨some 7, .mv (.con (.int .i64 16)), none⟩])
 .ret)
 .skip))
 (.seq (.dreg [⟨some 56, .mv (.tmp 2), none⟩, ⟨some 57, .iaddr 3 (.tmp 56) (.con (.int .i64 0)), none⟩, ⟨some 58, .faddr 0 (.tmp 57), none⟩, ⟨some 59, .load false 1 (.tmp 58), none⟩, ⟨some 60, .mv (.tmp 2), none⟩, ⟨some 61, .iaddr 3 (.tmp 60) (.con (.int .i64 0)), none⟩, ⟨some 62, .faddr 2 (.tmp 61), none⟩, ⟨some 63, .load false 1 (.tmp 62), none⟩, ⟨some 64, .build [.int .i64 0, .int .i64 0, .str []] [(0, 1, .con (.int .i64 5)), (1, 1, .tmp 59), (2, 1, .tmp 63)], none⟩, ⟨none, .store 3 (.tmp 6) (.tmp 64), none⟩, ⟨some 7, .mv (.con (.int .i64 0)), none⟩] [9] [0, 1, 3, 7, 0, 16, 48, 112, 255, 511, 1023] [])
 .ret))
 (.exit 0))))
 (.seq (.seq (.dreg [⟨some 65, .load true 2 (.tmp 3), none⟩, ⟨some 66, .mv (.tmp 2), none⟩, ⟨some 67, .iaddr 3 (.tmp 66) (.con (.int .i64 0)), none⟩, ⟨some 68, .load true 3 (.tmp 67), none⟩, ⟨some 69, .faddr 3 (.tmp 4), none⟩, ⟨some 70, .load false 1 (.tmp 69), none⟩, ⟨some 71, .call 55 [.tmp 65, .tmp 68, .tmp 70], none⟩, ⟨some 72, .ext (.tmp 71) 0, none⟩, ⟨some 73, .ext (.tmp 71) 1, none⟩, ⟨none, .store 3 (.tmp 6) (.tmp 72), none⟩, ⟨some 7, .mv (.tmp 73), none⟩] [6, 9] [0, 0, 2, 6, 0, 16, 63, 127, 127, 511, 1023] [])
 .ret)
 (.exit 0))))
 (.seq (.seq (.dreg [⟨some 74, .call 51 [], none⟩, ⟨some 75, .mv (.tmp 2), none⟩, ⟨some 76, .iaddr 3 (.tmp 75) (.con (.int .i64 0)), none⟩, ⟨some 77, .faddr 0 (.tmp 76), none⟩, ⟨some 78, .load false 1 (.tmp 77), none⟩, ⟨some 79, .bin .eql .plain (.tmp 78) (.con (.int .i64 4)), none⟩, ⟨some 80, .call 56 [.tmp 74, .tmp 79], none⟩, ⟨some 81, .ext (.tmp 80) 0, none⟩, ⟨some 82, .ext (.tmp 80) 1, none⟩, ⟨none, .store 3 (.tmp 6) (.tmp 81), none⟩, ⟨some 7, .mv (.tmp 82), none⟩] [0, 6, 9] [0, 0, 2, 6, 14, 30, 63, 127, 127, 511, 1023] [])
 .ret)
 (.exit 0))))
 (.seq (.seq (.dreg [⟨some 83, .call 51 [], none⟩, ⟨some 84, .mv (.tmp 2), none⟩, ⟨some 85, .iaddr 3 (.tmp 84) (.con (.int .i64 0)), none⟩, ⟨some 86, .load true 3 (.tmp 85), none⟩, ⟨some 87, .mv (.tmp 2), none⟩, ⟨some 88, .iaddr 3 (.tmp 87) (.con (.int .i64 1)), none⟩, ⟨some 89, .load true 3 (.tmp 88), none⟩, ⟨some 90, .call 57 [.tmp 86, .tmp 89], none⟩, ⟨some 91, .call 56 [.tmp 83, .tmp 90], none⟩, ⟨some 92, .ext (.tmp 91) 0, none⟩, ⟨some 93, .ext (.tmp 91) 1, none⟩, ⟨none, .store 3 (.tmp 6) (.tmp 92), none⟩, ⟨some 7, .mv (.tmp 93), none⟩] [0, 7, 8, 11] [0, 0, 2, 6, 0, 16, 48, 127, 255, 511, 511, 2047, 4095] [])
 .ret)
 (.exit 0))))
 (.seq (.seq (.dreg [⟨some 94, .call 51 [], none⟩, ⟨some 95, .mv (.tmp 2), none⟩, ⟨some 96, .iaddr 3 (.tmp 95) (.con (.int .i64 0)), none⟩, ⟨some 97, .faddr 0 (.tmp 96), none⟩, ⟨some 98, .load false 1 (.tmp 97), none⟩, ⟨some 99, .bin .eql .plain (.tmp 98) (.con (.int .i64 3)), none⟩, ⟨some 100, .call 56 [.tmp 94, .tmp 99], none⟩, ⟨some 101, .ext (.tmp 100) 0, none⟩, ⟨some 102, .ext (.tmp 100) 1, none⟩, ⟨none, .store 3 (.tmp 6) (.tmp 101), none⟩, ⟨some 7, .mv (.tmp 102), none⟩] [0, 6, 9] [0, 0, 2, 6, 14, 30, 63, 127, 127, 511, 1023] [])
 .ret)
 (.exit 0)))))
 (.seq (.seq (.reg [⟨some 103, .call 52 [], none⟩, ⟨some 104, .mv (.tmp 2), none⟩, ⟨some 105, .call 58 [.tmp 104, .con (.int .i64 2)], none⟩, ⟨some 106, .call 56 [.tmp 103, .tmp 105], none⟩, ⟨some 107, .ext (.tmp 106) 0, none⟩, ⟨some 108, .ext (.tmp 106) 1, none⟩, ⟨none, .store 3 (.tmp 6) (.tmp 107), none⟩, ⟨some 7, .mv (.tmp 108), none⟩])
 .ret)
 (.exit 0))))
 (.seq (.seq (.reg [⟨some 109, .call 51 [], none⟩, ⟨some 110, .mv (.tmp 2), none⟩, ⟨some 111, .call 58 [.tmp 110, .con (.int .i64 2)], none⟩, ⟨some 112, .call 56 [.tmp 109, .tmp 111], none⟩, ⟨some 113, .ext (.tmp 112) 0, none⟩, ⟨some 114, .ext (.tmp 112) 1, none⟩, ⟨none, .store 3 (.tmp 6) (.tmp 113), none⟩, ⟨some 7, .mv (.tmp 114), none⟩])
 .ret)
 (.exit 0))))
 (.seq (.seq (.reg [⟨some 115, .call 51 [], none⟩, ⟨some 116, .mv (.tmp 2), none⟩, ⟨some 117, .call 54 [.tmp 116], none⟩, ⟨some 118, .mv (.tmp 117), none⟩, ⟨some 119, .mv (.tmp 2), some (118, false)⟩, ⟨some 120, .call 58 [.tmp 119, .con (.int .i64 4)], some (118, false)⟩, ⟨some 121, .pick (.tmp 118) (.con (.bool true)) (.tmp 120), none⟩, ⟨some 122, .call 56 [.tmp 115, .tmp 121], none⟩, ⟨some 123, .ext (.tmp 122) 0, none⟩, ⟨some 124, .ext (.tmp 122) 1, none⟩, ⟨none, .store 3 (.tmp 6) (.tmp 123), none⟩, ⟨some 7, .mv (.tmp 124), none⟩])
 .ret)
 (.exit 0))))
 (.seq (.seq (.dreg [⟨some 125, .call 51 [], none⟩, ⟨some 126, .mv (.tmp 2), none⟩, ⟨some 127, .iaddr 3 (.tmp 126) (.con (.int .i64 0)), none⟩, ⟨some 128, .faddr 0 (.tmp 127), none⟩, ⟨some 129, .load false 1 (.tmp 128), none⟩, ⟨some 130, .bin .eql .plain (.tmp 129) (.con (.int .i64 4)), none⟩, ⟨some 131, .mv (.tmp 130), none⟩, ⟨some 132, .mv (.tmp 2), some (131, true)⟩, ⟨some 133, .iaddr 3 (.tmp 132) (.con (.int .i64 1)), some (131, true)⟩, ⟨some 134, .load true 3 (.tmp 133), some (131, true)⟩, ⟨some 135, .call 59 [.tmp 134], some (131, true)⟩, ⟨some 136, .pick (.tmp 131) (.tmp 135) (.con (.bool false)), none⟩, ⟨some 137, .call 56 [.tmp 125, .tmp 136], none⟩, ⟨some 138, .ext (.tmp 137) 0, none⟩, ⟨some 139, .ext (.tmp 137) 1, none⟩, ⟨none, .store 3 (.tmp 6) (.tmp 138), none⟩, ⟨some 7, .mv (.tmp 139), none⟩] [0, 10, 12, 15] [0, 0, 2, 6, 14, 30, 63, 127, 255, 511, 1023, 2047, 4095, 8191, 8191, 32767, 65535] [])
 .ret)
 (.exit 0))))
 (.seq (.seq (.reg [⟨some 140, .call 51 [], none⟩, ⟨some 141, .mv (.tmp 2), none⟩, ⟨some 142, .call 58 [.tmp 141, .con (.int .i64 1)], none⟩, ⟨some 143, .call 56 [.tmp 140, .tmp 142], none⟩, ⟨some 144, .ext (.tmp 143) 0, none⟩, ⟨some 145, .ext (.tmp 143) 1, none⟩, ⟨none, .store 3 (.tmp 6) (.tmp 144), none⟩, ⟨some 7, .mv (.tmp 145), none⟩])
 .ret)
 (.exit 0)))))
 (.seq (.dreg [⟨some 146, .mv (.tmp 2), none⟩, ⟨some 147, .iaddr 3 (.tmp 146) (.con (.int .i64 1)), none⟩, ⟨some 148, .load true 3 (.tmp 147), none⟩, ⟨some 149, .mv (.tmp 2), none⟩, ⟨some 150, .iaddr 3 (.tmp 149) (.con (.int .i64 0)), none⟩, ⟨some 151, .faddr 0 (.tmp 150), none⟩, ⟨some 152, .load false 1 (.tmp 151), none⟩, ⟨some 153, .bin .eql .plain (.tmp 152) (.con (.int .i64 1)), none⟩, ⟨some 154, .mv (.tmp 153), none⟩, ⟨some 155, .mv (.tmp 2), some (154, true)⟩, ⟨some 156, .iaddr 3 (.tmp 155) (.con (.int .i64 1)), some (154, true)⟩, ⟨some 157, .load true 3 (.tmp 156), some (154, true)⟩, ⟨some 158, .mv (.tmp 2), some (154, true)⟩, ⟨some 159, .iaddr 3 (.tmp 158) (.con (.int .i64 2)), some (154, true)⟩, ⟨some 160, .load true 3 (.tmp 159), some (154, true)⟩, ⟨some 161, .bin .eql (.agg [.i, .i, .s]) (.tmp 157) (.tmp 160), some (154, true)⟩, ⟨some 162, .pick (.tmp 154) (.tmp 161) (.con (.bool false)), none⟩, ⟨some 163, .call 56 [.tmp 148, .tmp 162], none⟩, ⟨some 164, .ext (.tmp 163) 0, none⟩, ⟨some 165, .ext (.tmp 163) 1, none⟩, ⟨none, .store 3 (.tmp 6) (.tmp 164), none⟩, ⟨some 7, .mv (.tmp 165), none⟩] [17, 20] [0, 1, 3, 0, 8, 24, 56, 120, 248, 504, 1016, 2040, 504, 4600, 12792, 32760, 65528, 131071, 262143, 262143, 1048575, 2097151] [])
 .ret)))
def ac40 : AFun := ⟨3, 166, ab40, [(.cell 6 true 3), (.tmp 7)]⟩
theorem cf40 : compF Try.prog Try.f40 = some ac40 := by kernel_rfl
theorem cl40 : callable Try.prog 40 = true := by kernel_rfl
theorem fn40 : Try.prog.funcs[40]? = some Try.f40 := by kernel_rfl
/- chancel/types.known -/
def ab42 : ACode := (.seq (.reg [⟨some 2, .box (.tmp 0), none⟩, ⟨some 3, .box (.tmp 1), none⟩, ⟨some 4, .mv (.con (.bool false)), none⟩])
 (.seq (.seq (.reg [⟨some 9, .faddr 0 (.tmp 3), none⟩, ⟨some 10, .load false 1 (.tmp 9), none⟩, ⟨some 11, .bin .eql .plain (.tmp 10) (.con (.str [65, 99, 116, 105, 111, 110])), none⟩])
 (.cond (.tmp 11)
 (.seq (.reg [⟨some 13, .load true 2 (.tmp 2), none⟩, ⟨some 14, .faddr 1 (.tmp 3), none⟩, ⟨some 15, .load false 1 (.tmp 14), none⟩, ⟨some 16, .call 60 [.tmp 13, .tmp 15], none⟩, ⟨some 12, .mv (.tmp 16), none⟩, ⟨some 17, .ext (.tmp 12) 0, none⟩, ⟨some 18, .ext (.tmp 12) 1, none⟩, ⟨some 5, .alloc [.str [], .nils, .nils], none⟩, ⟨none, .store 3 (.tmp 5) (.tmp 17), none⟩, ⟨some 6, .mv (.tmp 18), none⟩])
 (.seq (.reg [⟨some 19, .mv (.tmp 6), none⟩, ⟨some 4, .mv (.tmp 19), none⟩])
 .ret))
 .skip))
 (.seq (.reg [⟨some 21, .load true 2 (.tmp 2), none⟩, ⟨some 22, .faddr 0 (.tmp 3), none⟩, ⟨some 23, .load false 1 (.tmp 22), none⟩, ⟨some 24, .call 61 [.tmp 21, .tmp 23], none⟩, ⟨some 20, .mv (.tmp 24), none⟩, ⟨some 25, .ext (.tmp 20) 0, none⟩, ⟨some 26, .ext (.tmp 20) 1, none⟩, ⟨some 7, .alloc [.str [], .nils, .nils], none⟩, ⟨none, .store 3 (.tmp 7) (.tmp 25), none⟩, ⟨some 8, .mv (.tmp 26), none⟩])
 (.seq (.reg [⟨some 27, .mv (.tmp 8), none⟩, ⟨some 4, .mv (.tmp 27), none⟩])
 .ret))))
def ac42 : AFun := ⟨2, 28, ab42, [(.tmp 4)]⟩
theorem cf42 : compF Try.prog Try.f42 = some ac42 := by kernel_rfl
theorem cl42 : callable Try.prog 42 = true := by kernel_rfl
theorem fn42 : Try.prog.funcs[42]? = some Try.f42 := by kernel_rfl
/- chancel/chancelref11.uid -/
def ab43 : ACode := (.seq (.reg [⟨some 2, .box (.tmp 0), none⟩, ⟨some 3, .box (.tmp 1), none⟩, ⟨some 4, .mv (.con (.bool false)), none⟩])
 (.seq (.seq (.reg [⟨some 9, .faddr 0 (.tmp 3), none⟩, ⟨some 10, .load false 1 (.tmp 9), none⟩, ⟨some 11, .bin .eql .plain (.tmp 10) (.con (.str [65, 99, 116, 105, 111, 110])), none⟩])
 (.cond (.tmp 11)
 (.seq (.reg [⟨some 13, .load true 2 (.tmp 2), none⟩, ⟨some 14, .faddr 1 (.tmp 3), none⟩, ⟨some 15, .load false 1 (.tmp 14), none⟩, ⟨some 16, .call 62 [.tmp 13, .tmp 15], none⟩, ⟨some 12, .mv (.tmp 16), none⟩, ⟨some 17, .ext (.tmp 12) 0, none⟩, ⟨some 18, .ext (.tmp 12) 1, none⟩, ⟨some 5, .alloc [.str [], .nils, .nils], none⟩, ⟨none, .store 3 (.tmp 5) (.tmp 17), none⟩, ⟨some 6, .mv (.tmp 18), none⟩])
 (.seq (.reg [⟨some 19, .mv (.tmp 6), none⟩, ⟨some 4, .mv (.tmp 19), none⟩])
 .ret))
 .skip))
 (.seq (.reg [⟨some 21, .load true 2 (.tmp 2), none⟩, ⟨some 22, .faddr 0 (.tmp 3), none⟩, ⟨some 23, .load false 1 (.tmp 22), none⟩, ⟨some 24, .call 45 [.tmp 21, .tmp 23], none⟩, ⟨some 20, .mv (.tmp 24), none⟩, ⟨some 25, .ext (.tmp 20) 0, none⟩, ⟨some 26, .ext (.tmp 20) 1, none⟩, ⟨some 7, .alloc [.str [], .nils, .nils], none⟩, ⟨none, .store 3 (.tmp 7) (.tmp 25), none⟩, ⟨some 8, .mv (.tmp 26), none⟩])
 (.seq (.reg [⟨some 27, .mv (.tmp 8), none⟩, ⟨some 4, .mv (.tmp 27), none⟩])
 .ret))))
def ac43 : AFun := ⟨2, 28, ab43, [(.tmp 4)]⟩
theorem cf43 : compF Try.prog Try.f43 = some ac43 := by kernel_rfl
theorem cl43 : callable Try.prog 43 = true := by kernel_rfl
theorem fn43 : Try.prog.funcs[43]? = some Try.f43 := by kernel_rfl
/- chancel/chancellaw5.kind -/
def ab44 : ACode := (.seq (.reg [⟨some 2, .mv (.con (.str [])), none⟩])
 (.seq (.reg [⟨some 3, .bslice 1 4 [.str []] [(0, 1, .con (.str [85, 115, 101, 114])), (1, 1, .con (.str [71, 114, 111, 117, 112])), (2, 1, .con (.str [68, 111, 99])), (3, 1, .con (.str [84, 101, 97, 109]))], none⟩, ⟨some 4, .mv (.tmp 0), none⟩, ⟨some 5, .call 33 [.tmp 4, .con (.int .i64 4)], none⟩, ⟨some 6, .iaddr 1 (.tmp 3) (.tmp 5), none⟩, ⟨some 7, .load false 1 (.tmp 6), none⟩, ⟨some 2, .mv (.tmp 7), none⟩])
 .ret))
def ac44 : AFun := ⟨1, 8, ab44, [(.tmp 2)]⟩
theorem cf44 : compF Try.prog Try.f44 = some ac44 := by kernel_rfl
theorem cl44 : callable Try.prog 44 = true := by kernel_rfl
theorem fn44 : Try.prog.funcs[44]? = some Try.f44 := by kernel_rfl
/- chancel/chancelref10.Kind -/
def ab45 : ACode := (.seq (.reg [⟨some 2, .box (.tmp 0), none⟩, ⟨some 4, .alloc [.str [], .nils, .nils], none⟩, ⟨some 5, .mv (.con (.bool false)), none⟩])
 (.seq (.seq (.reg [⟨some 6, .mv (.con (.int .i64 0)), none⟩])
 (.block 0
 (.loop (.seq (.seq (.reg [⟨some 7, .mv (.tmp 6), none⟩, ⟨some 8, .faddr 0 (.tmp 2), none⟩, ⟨some 9, .load false 1 (.tmp 8), none⟩, ⟨some 10, .lenL (.tmp 9), none⟩, ⟨some 11, .bin .lss .plain (.tmp 7) (.tmp 10), none⟩])
 (.cond (.tmp 11)
 .skip
 (.exit 0)))
 (.seq (.block 1
 (.seq (.reg [⟨some 14, .faddr 0 (.tmp 2), none⟩, ⟨some 15, .load false 1 (.tmp 14), none⟩, ⟨some 16, .mv (.tmp 6), none⟩, ⟨some 17, .iaddr 3 (.tmp 15) (.tmp 16), none⟩, ⟨some 18, .faddr 0 (.tmp 17), none⟩, ⟨some 19, .load false 1 (.tmp 18), none⟩, ⟨some 20, .mv (.tmp 1), none⟩, ⟨some 21, .bin .eql .plain (.tmp 19) (.tmp 20), none⟩])
 (.cond (.tmp 21)
 (.seq (.reg [⟨some 22, .faddr 0 (.tmp 2), none⟩, ⟨some 23, .load false 1 (.tmp 22), none⟩, ⟨some 24, .mv (.tmp 6), none⟩, ⟨some 25, .iaddr 3 (.tmp 23) (.tmp 24), none⟩, ⟨some 26, .load true 3 (.tmp 25), none⟩, ⟨none, .store 3 (.tmp 4) (.tmp 26), none⟩, ⟨some 5, .mv (.con (.bool true)), none⟩])
 .ret)
 .skip)))
 (.reg [⟨some 12, .mv (.tmp 6), none⟩, ⟨some 13, .bin .add .plain (.tmp 12) (.con (.int .i64 1)), none⟩, ⟨some 6, .mv (.tmp 13), none⟩]))))))
 (.seq (.reg [⟨some 27, .build [.str [], .nils, .nils] [], none⟩, ⟨none, .store 3 (.tmp 4) (.tmp 27), none⟩, ⟨some 5, .mv (.con (.bool false)), none⟩])
 .ret)))
def ac45 : AFun := ⟨2, 28, ab45, [(.cell 4 true 3), (.tmp 5)]⟩
theorem cf45 : compF Try.prog Try.f45 = some ac45 := by kernel_rfl
theorem cl45 : callable Try.prog 45 = true := by kernel_rfl
theorem fn45 : Try.prog.funcs[45]? = some Try.f45 := by kernel_rfl
/- chancel/chancellaw1.Of -/
def ab46 : ACode := (.seq (.reg [⟨some 2, .mv (.con (.str [])), none⟩])
 (.seq (.reg [⟨some 8, .bslice 1 22 [.int .i32 0] [(0, 1, .con (.int .i32 97)), (1, 1, .con (.int .i32 98)), (2, 1, .con (.int .i32 42)), (3, 1, .con (.int .i32 34)), (4, 1, .con (.int .i32 92)), (5, 1, .con (.int .i32 10)), (6, 1, .con (.int .i32 9)), (7, 1, .con (.int .i32 1)), (8, 1, .con (.int .i32 31)), (9, 1, .con (.int .i32 127)), (10, 1, .con (.int .i32 128)), (11, 1, .con (.int .i32 233)), (12, 1, .con (.int .i32 2047)), (13, 1, .con (.int .i32 2048)), (14, 1, .con (.int .i32 8364)), (15, 1, .con (.int .i32 55295)), (16, 1, .con (.int .i32 57344)), (17, 1, .con (.int .i32 65533)), (18, 1, .con (.int .i32 65535)), (19, 1, .con (.int .i32 65536)), (20, 1, .con (.int .i32 128512)), (21, 1, .con (.int .i32 1114111))], none⟩, ⟨some 3, .mv (.tmp 8), none⟩])
 (.seq (.reg [⟨some 4, .mv (.con .nils), none⟩])
 (.seq (.seq (.reg [⟨some 5, .mv (.con (.int .i64 0)), none⟩])
 (.block 0
 (.loop (.seq (.seq (.reg [⟨some 9, .mv (.tmp 5), none⟩, ⟨some 10, .mv (.tmp 0), none⟩, ⟨some 11, .lenL (.tmp 10), none⟩, ⟨some 12, .bin .lss .plain (.tmp 9) (.tmp 11), none⟩, ⟨some 13, .mv (.tmp 12), none⟩, ⟨some 14, .mv (.tmp 5), some (13, true)⟩, ⟨some 15, .bin .lss .plain (.tmp 14) (.con (.int .i64 40)), some (13, true)⟩, ⟨some 16, .pick (.tmp 13) (.tmp 15) (.con (.bool false)), none⟩])
 (.cond (.tmp 16)
 .skip
 (.exit 0)))
 (.seq (.block 1
 (.reg [⟨some 19, .mv (.tmp 4), none⟩, ⟨some 20, .mv (.tmp 3), none⟩, ⟨some 21, .mv (.tmp 0), none⟩, ⟨some 22, .mv (.tmp 5), none⟩, ⟨some 23, .iaddr 1 (.tmp 21) (.tmp 22), none⟩, ⟨some 24, .load false 1 (.tmp 23), none⟩, ⟨some 25, .mv (.tmp 3), none⟩, ⟨some 26, .lenL (.tmp 25), none⟩, ⟨some 27, .call 63 [.tmp 24, .tmp 26], none⟩, ⟨some 28, .iaddr 1 (.tmp 20) (.tmp 27), none⟩, ⟨some 29, .load false 1 (.tmp 28), none⟩, ⟨some 30, .bslice 1 1 [.int .i32 0] [(0, 1, .tmp 29)], none⟩, ⟨some 31, .append 1 4 (.tmp 19) (.tmp 30), none⟩, ⟨some 4, .mv (.tmp 31), none⟩]))
 (.reg [⟨some 17, .mv (.tmp 5), none⟩, ⟨some 18, .bin .add .plain (.tmp 17) (.con (.int .i64 1)), none⟩, ⟨some 5, .mv (.tmp 18), none⟩]))))))
 (.seq (.reg [⟨some 33, .mv (.tmp 4), none⟩, ⟨some 34, .call 64 [.tmp 33], none⟩, ⟨some 32, .mv (.tmp 34), none⟩, ⟨some 35, .ext (.tmp 32) 0, none⟩, ⟨some 36, .ext (.tmp 32) 1, none⟩, ⟨some 6, .mv (.tmp 35), none⟩, ⟨some 7, .mv (.tmp 36), none⟩])
 (.seq (.reg [⟨some 37, .mv (.tmp 6), none⟩, ⟨some 2, .mv (.tmp 37), none⟩])
 .ret))))))
def ac46 : AFun := ⟨1, 38, ab46, [(.tmp 2)]⟩
theorem cf46 : compF Try.prog Try.f46 = some ac46 := by kernel_rfl
theorem cl46 : callable Try.prog 46 = true := by kernel_rfl
theorem fn46 : Try.prog.funcs[46]? = some Try.f46 := by kernel_rfl
/- chancel/chancelref11.leaf -/
def ab47 : ACode := (.seq (.reg [⟨some 3, .box (.tmp 0), none⟩, ⟨some 4, .box (.tmp 1), none⟩, ⟨some 5, .box (.tmp 2), none⟩, ⟨some 6, .alloc [.int .i64 0, .int .i64 0, .str []], none⟩, ⟨some 7, .mv (.con (.int .i64 0)), none⟩])
 (.seq (.seq (.reg [⟨some 8, .faddr 0 (.tmp 5), none⟩, ⟨some 9, .load false 1 (.tmp 8), none⟩])
 (.block 0
 (.seq (.reg [⟨some 11, .bin .eql .plain (.tmp 9) (.con (.int .i64 1)), none⟩, ⟨some 10, .mv (.tmp 11), none⟩])
 (.cond (.tmp 10)
 (.seq (.reg [⟨some 12, .call 65 [.con (.int .i64 1)], none⟩, ⟨none, .store 3 (.tmp 6) (.tmp 12), none⟩, ⟨some 7, .mv (.con (.int .i64 0)), none⟩])
 .ret)
 (.seq (.reg [⟨some 14, .bin .eql .plain (.tmp 9) (.con (.int .i64 2)), none⟩, ⟨some 13, .mv (.tmp 14), none⟩])
 (.cond (.tmp 13)
 (.seq (.reg [⟨some 15, .call 65 [.con (.int .i64 2)], none⟩, ⟨none, .store 3 (.tmp 6) (.tmp 15), none⟩, ⟨some 7, .mv (.con (.int .i64 0)), none⟩])
 .ret)
 (.seq (.reg [⟨some 17, .bin .eql .plain (.tmp 9) (.con (.int .i64 3)), none⟩, ⟨some 16, .mv (.tmp 17), none⟩])
 (.cond (.tmp 16)
 (.seq (.reg [⟨some 18, .call 65 [.con (.int .i64 3)], none⟩, ⟨none, .store 3 (.tmp 6) (.tmp 18), none⟩, ⟨some 7, .mv (.con (.int .i64 0)), none⟩])
 .ret)
 (.seq (.reg [⟨some 20, .bin .eql .plain (.tmp 9) (.con (.int .i64 4)), none⟩, ⟨some 19, .mv (.tmp 20), none⟩])
 (.cond (.tmp 19)
 (.seq (.seq (.reg [⟨some 21, .load true 2 (.tmp 3), none⟩, ⟨some 22, .faddr 4 (.tmp 5), none⟩, ⟨some 23, .load true 2 (.tmp 22), none⟩, ⟨some 24, .call 43 [.tmp 21, .tmp 23], none⟩, ⟨some 25, .un .not (.tmp 24), none⟩])
 (.cond (.tmp 25)
 (.seq (.reg [⟨some 26, .build [.int .i64 0, .int .i64 0, .str []] [], none⟩, ⟨none, .store 3 (.tmp 6) (.tmp 26), none⟩, ⟨some 7, .mv (.con (.int .i64 15)), none⟩])
 .ret)
 .skip))
 (.seq (.reg [⟨some 27, .faddr 4 (.tmp 5), none⟩, ⟨some 28, .faddr 0 (.tmp 27), none⟩, ⟨some 29, .load false 1 (.tmp 28), none⟩, ⟨some 30, .build [.int .i64 0, .int .i64 0, .str []] [(0, 1, .con (.int .i64 4)), (2, 1, .tmp 29)], none⟩, ⟨none, .store 3 (.tmp 6) (.tmp 30), none⟩, ⟨some 7, .mv (.con (.int .i64 0)), none⟩])
 .ret))
 .skip))))))))))
 (.seq (.seq (.reg [⟨some 31, .faddr 3 (.tmp 5), none⟩, ⟨some 32, .load false 1 (.tmp 31), none⟩])
 (.block 1
 (.seq (.reg [⟨some 34, .bin .eql .plain (.tmp 32) (.con (.str [112, 114, 105, 110, 99, 105, 112, 97, 108])), none⟩, ⟨some 33, .mv (.tmp 34), none⟩])
 (.cond (.tmp 33)
 (.seq (.reg [⟨some 35, .faddr 0 (.tmp 4), none⟩, ⟨some 36, .load false 1 (.tmp 35), none⟩, ⟨some 37, .build [.int .i64 0, .int .i64 0, .str []] [(0, 1, .con (.int .i64 4)), (2, 1, .tmp 36)], none⟩, ⟨none, .store 3 (.tmp 6) (.tmp 37), none⟩, ⟨some 7, .mv (.con (.int .i64 0)), none⟩])
 .ret)
 (.seq (.reg [⟨some 39, .bin .eql .plain (.tmp 32) (.con (.str [114, 101, 115, 111, 117, 114, 99, 101])), none⟩, ⟨some 38, .mv (.tmp 39), none⟩])
 (.cond (.tmp 38)
 (.seq (.reg [⟨some 40, .faddr 2 (.tmp 4), none⟩, ⟨some 41, .load false 1 (.tmp 40), none⟩, ⟨some 42, .build [.int .i64 0, .int .i64 0, .str []] [(0, 1, .con (.int .i64 4)), (2, 1, .tmp 41)], none⟩, ⟨none, .store 3 (.tmp 6) (.tmp 42), none⟩, ⟨some 7, .mv (.con (.int .i64 0)), none⟩])
 .ret)
 .skip))))))
 (.seq (.reg [⟨some 43, .build [.int .i64 0, .int .i64 0, .str []] [(0, 1, .con (.int .i64 4)), (2, 1, .con (.str [65, 99, 116, 105, 111, 110]))], none⟩, ⟨none, .store 3 (.tmp 6) (.tmp 43), none⟩, ⟨some 7, .mv (.con (.int .i64 0)), none⟩])
 .ret))))
def ac47 : AFun := ⟨3, 44, ab47, [(.cell 6 true 3), (.tmp 7)]⟩
theorem cf47 : compF Try.prog Try.f47 = some ac47 := by kernel_rfl
theorem cl47 : callable Try.prog 47 = true := by kernel_rfl
theorem fn47 : Try.prog.funcs[47]? = some Try.f47 := by kernel_rfl
/- chancel/chancelref11.own -/
def ab48 : ACode := (.seq (.reg [⟨some 3, .box (.tmp 0), none⟩, ⟨some 4, .box (.tmp 1), none⟩, ⟨some 6, .alloc [.int .i64 0, .int .i64 0, .str []], none⟩, ⟨some 7, .mv (.con (.int .i64 0)), none⟩])
 (.seq (.reg [⟨some 14, .build [.int .i64 0, .int .i64 0, .str []] [], none⟩, ⟨some 8, .alloc [.int .i64 0, .int .i64 0, .str []], none⟩, ⟨none, .store 3 (.tmp 8) (.tmp 14), none⟩])
 (.seq (.seq (.reg [⟨some 15, .faddr 0 (.tmp 4), none⟩, ⟨some 16, .load false 1 (.tmp 15), none⟩])
 (.block 0
 (.seq (.reg [⟨some 18, .bin .eql .plain (.tmp 16) (.con (.int .i64 6)), none⟩, ⟨some 17, .mv (.tmp 18), none⟩])
 (.cond (.tmp 17)
 (.seq (.seq (.reg [⟨some 9, .mv (.con (.int .i64 0)), none⟩])
 (.block 1
 (.loop (.seq (.seq (.reg [⟨some 19, .mv (.tmp 9), none⟩, ⟨some 20, .mv (.tmp 2), none⟩, ⟨some 21, .lenL (.tmp 20), none⟩, ⟨some 22, .bin .lss .plain (.tmp 19) (.tmp 21), none⟩])
 (.cond (.tmp 22)
 .skip
 (.exit 1)))
 (.seq (.block 2
 (.seq (.dreg [⟨some 25, .mv (.tmp 2), none⟩, ⟨some 26, .mv (.tmp 9), none⟩, ⟨some 27, .iaddr 3 (.tmp 25) (.tmp 26), none⟩, ⟨some 28, .load true 3 (.tmp 27), none⟩, ⟨some 29, .mv (.tmp 2), none⟩, ⟨some 30, .iaddr 3 (.tmp 29) (.con (.int .i64 0)), none⟩, ⟨some 31, .load true 3 (.tmp 30), none⟩, ⟨some 32, .bin .neq (.agg [.i, .i, .s]) (.tmp 28) (.tmp 31), none⟩, ⟨some 33, .mv (.tmp 32), none⟩, ⟨some 34, .mv (.tmp 2), some (33, false)⟩, ⟨some 35, .mv (.tmp 9), some (33, false)⟩, ⟨some 36, .iaddr 3 (.tmp 34) (.tmp 35), some (33, false)⟩, ⟨some 37, .faddr 0 (.tmp 36), some (33, false)⟩, ⟨some 38, .load false 1 (.tmp 37), some (33, false)⟩, ⟨some 39, .bin .eql .plain (.tmp 38) (.con (.int .i64 5)), some (33, false)⟩, ⟨some 40, .pick (.tmp 33) (.con (.bool true)) (.tmp 39), none⟩] [] [0, 0, 3, 7, 0, 16, 48, 127, 255, 511, 511, 2047, 4095, 8191, 16383, 32767] [])
 (.cond (.tmp 40)
 (.seq (.reg [⟨some 41, .load true 3 (.tmp 8), none⟩, ⟨none, .store 3 (.tmp 6) (.tmp 41), none⟩, ⟨some 7, .mv (.con (.int .i64 16)), none⟩])
 .ret)
 .skip)))
 (.reg [⟨some 23, .mv (.tmp 9), none⟩, ⟨some 24, .bin .add .plain (.tmp 23) (.con (.int .i64 1)), none⟩, ⟨some 9, .mv (.tmp 24), none⟩]))))))
 (.seq (.seq (.reg [⟨some 42, .mv (.tmp 2), none⟩, ⟨some 43, .lenL (.tmp 42), none⟩, ⟨some 44, .bin .eql .plain (.tmp 43) (.con (.int .i64 0)), none⟩])
 (.cond (.tmp 44)
 (.seq (.reg [⟨some 45, .load true 3 (.tmp 8), none⟩, ⟨none, .store 3 (.tmp 6) (.tmp 45), none⟩, ⟨some 7, .mv (.con (.int .i64 16)), none⟩])
 .ret)
 .skip))
 (.seq (.dreg [⟨some 46, .mv (.tmp 2), none⟩, ⟨some 47, .iaddr 3 (.tmp 46) (.con (.int .i64 0)), none⟩, ⟨some 48, .faddr 0 (.tmp 47), none⟩, ⟨some 49, .load false 1 (.tmp 48), none⟩, ⟨some 50, .mv (.tmp 2), none⟩, ⟨some 51, .iaddr 3 (.tmp 50) (.con (.int .i64 0)), none⟩, ⟨some 52, .faddr 2 (.tmp 51), none⟩, ⟨some 53, .load false 1 (.tmp 52), none⟩, ⟨some 54, .build [.int .i64 0, .int .i64 0, .str []] [(0, 1, .con (.int .i64 5)), (1, 1, .tmp 49), (2, 1, .tmp 53)], none⟩, ⟨none, .store 3 (.tmp 6) (.tmp 54), none⟩, ⟨some 7, .mv (.con (.int .i64 0)), none⟩] [9] [0, 1, 3, 7, 0, 16, 48, 112, 255, 511, 1023] [])
 .ret)))
 (.seq (.seq (.reg [⟨some 56, .bin .eql .plain (.tmp 16) (.con (.int .i64 7)), none⟩, ⟨some 55, .mv (.tmp 56), none⟩])
 (.cond (.tmp 55)
 .skip
 (.reg [⟨some 57, .bin .eql .plain (.tmp 16) (.con (.int .i64 8)), none⟩, ⟨some 55, .mv (.tmp 57), none⟩])))
 (.cond (.tmp 55)
 (.seq (.seq (.reg [⟨some 58, .mv (.tmp 2), none⟩, ⟨some 59, .iaddr 3 (.tmp 58) (.con (.int .i64 0)), none⟩, ⟨some 60, .faddr 0 (.tmp 59), none⟩, ⟨some 61, .load false 1 (.tmp 60), none⟩, ⟨some 62, .bin .neq .plain (.tmp 61) (.con (.int .i64 4)), none⟩])
 (.cond (.tmp 62)
 (.seq (.reg [⟨some 63, .load true 3 (.tmp 8), none⟩, ⟨none, .store 3 (.tmp 6) (.tmp 63), none⟩, ⟨some 7, .mv (.con (.int .i64 16)), none⟩])
 .ret)
 .skip))
 (.seq (.seq (.reg [⟨some 64, .faddr 0 (.tmp 4), none⟩, ⟨some 65, .load false 1 (.tmp 64), none⟩, ⟨some 66, .bin .eql .plain (.tmp 65) (.con (.int .i64 8)), none⟩])
 (.cond (.tmp 66)
 (.seq (.reg [⟨some 67, .call 65 [.con (.int .i64 1)], none⟩, ⟨none, .store 3 (.tmp 6) (.tmp 67), none⟩, ⟨some 7, .mv (.con (.int .i64 0)), none⟩])
 .ret)
 .skip))
 (.seq (.dreg [⟨some 69, .load true 2 (.tmp 3), none⟩, ⟨some 70, .mv (.tmp 2), none⟩, ⟨some 71, .iaddr 3 (.tmp 70) (.con (.int .i64 0)), none⟩, ⟨some 72, .faddr 2 (.tmp 71), none⟩, ⟨some 73, .load false 1 (.tmp 72), none⟩, ⟨some 74, .call 45 [.tmp 69, .tmp 73], none⟩, ⟨some 68, .mv (.tmp 74), none⟩, ⟨some 75, .ext (.tmp 68) 0, none⟩, ⟨some 76, .ext (.tmp 68) 1, none⟩, ⟨some 10, .alloc [.str [], .nils, .nils], none⟩, ⟨none, .store 3 (.tmp 10) (.tmp 75), none⟩, ⟨some 11, .mv (.tmp 76), none⟩] [5, 10] [0, 0, 2, 6, 14, 31, 63, 127, 127, 0, 767, 2047] [9])
 (.seq (.reg [⟨some 78, .load true 3 (.tmp 10), none⟩, ⟨some 79, .faddr 3 (.tmp 4), none⟩, ⟨some 80, .load false 1 (.tmp 79), none⟩, ⟨some 81, .call 66 [.tmp 78, .tmp 80], none⟩, ⟨some 77, .mv (.tmp 81), none⟩, ⟨some 82, .ext (.tmp 77) 0, none⟩, ⟨some 83, .ext (.tmp 77) 1, none⟩, ⟨some 12, .alloc [.int .i64 0, .int .i64 0, .str []], none⟩, ⟨none, .store 3 (.tmp 12) (.tmp 82), none⟩, ⟨some 13, .mv (.tmp 83), none⟩])
 (.seq (.seq (.reg [⟨some 84, .mv (.tmp 13), none⟩, ⟨some 85, .un .not (.tmp 84), none⟩, ⟨some 86, .mv (.tmp 85), none⟩, ⟨some 87, .mv (.tmp 2), some (86, false)⟩, ⟨some 88, .iaddr 3 (.tmp 87) (.con (.int .i64 0)), some (86, false)⟩, ⟨some 89, .faddr 2 (.tmp 88), some (86, false)⟩, ⟨some 90, .load false 1 (.tmp 89), some (86, false)⟩, ⟨some 91, .bin .eql .plain (.tmp 90) (.con (.str [65, 99, 116, 105, 111, 110])), some (86, false)⟩, ⟨some 92, .pick (.tmp 86) (.con (.bool true)) (.tmp 91), none⟩])
 (.cond (.tmp 92)
 (.seq (.reg [⟨some 93, .load true 3 (.tmp 8), none⟩, ⟨none, .store 3 (.tmp 6) (.tmp 93), none⟩, ⟨some 7, .mv (.con (.int .i64 15)), none⟩])
 .ret)
 .skip))
 (.seq (.reg [⟨some 94, .load true 3 (.tmp 12), none⟩, ⟨none, .store 3 (.tmp 6) (.tmp 94), none⟩, ⟨some 7, .mv (.con (.int .i64 0)), none⟩])
 .ret))))))
 (.seq (.reg [⟨some 96, .bin .eql .plain (.tmp 16) (.con (.int .i64 9)), none⟩, ⟨some 95, .mv (.tmp 96), none⟩])
 (.cond (.tmp 95)
 (.seq (.seq (.dreg [⟨some 97, .mv (.tmp 2), none⟩, ⟨some 98, .iaddr 3 (.tmp 97) (.con (.int .i64 0)), none⟩, ⟨some 99, .faddr 0 (.tmp 98), none⟩, ⟨some 100, .load false 1 (.tmp 99), none⟩, ⟨some 101, .bin .neq .plain (.tmp 100) (.con (.int .i64 5)), none⟩, ⟨some 102, .mv (.tmp 101), none⟩, ⟨some 103, .mv (.tmp 2), some (102, false)⟩, ⟨some 104, .iaddr 3 (.tmp 103) (.con (.int .i64 1)), some (102, false)⟩, ⟨some 105, .load true 3 (.tmp 104), some (102, false)⟩, ⟨some 106, .mv (.tmp 2), some (102, false)⟩, ⟨some 107, .iaddr 3 (.tmp 106) (.con (.int .i64 0)), some (102, false)⟩, ⟨some 108, .faddr 1 (.tmp 107), some (102, false)⟩, ⟨some 109, .load false 1 (.tmp 108), some (102, false)⟩, ⟨some 110, .mv (.tmp 2), some (102, false)⟩, ⟨some 111, .iaddr 3 (.tmp 110) (.con (.int .i64 0)), some (102, false)⟩, ⟨some 112, .faddr 2 (.tmp 111), some (102, false)⟩, ⟨some 113, .load false 1 (.tmp 112), some (102, false)⟩, ⟨some 114, .build [.int .i64 0, .int .i64 0, .str []] [(0, 1, .tmp 109), (2, 1, .tmp 113)], some (102, false)⟩, ⟨some 115, .bin .neq (.agg [.i, .i, .s]) (.tmp 105) (.tmp 114), some (102, false)⟩, ⟨some 116, .pick (.tmp 102) (.con (.bool true)) (.tmp 115), none⟩] [] [0, 1, 3, 7, 15, 31, 63, 127, 255, 63, 575, 1599, 3647, 63, 8255, 24639, 57407, 130623, 262143, 524287] [])
 (.cond (.tmp 116)
 (.seq (.reg [⟨some 117, .load true 3 (.tmp 8), none⟩, ⟨none, .store 3 (.tmp 6) (.tmp 117), none⟩, ⟨some 7, .mv (.con (.int .i64 16)), none⟩])
 .ret)
 .skip))
 (.seq (.reg [⟨some 118, .call 65 [.con (.int .i64 1)], none⟩, ⟨none, .store 3 (.tmp 6) (.tmp 118), none⟩, ⟨some 7, .mv (.con (.int .i64 0)), none⟩])
 .ret))
 (.seq (.reg [⟨some 120, .bin .eql .plain (.tmp 16) (.con (.int .i64 10)), none⟩, ⟨some 119, .mv (.tmp 120), none⟩])
 (.cond (.tmp 119)
 (.seq (.reg [⟨some 121, .mv (.tmp 2), none⟩, ⟨some 122, .call 67 [.tmp 121, .con (.int .i64 3), .con (.int .i64 1)], none⟩, ⟨some 123, .ext (.tmp 122) 0, none⟩, ⟨some 124, .ext (.tmp 122) 1, none⟩, ⟨none, .store 3 (.tmp 6) (.tmp 123), none⟩, ⟨some 7, .mv (.tmp 124), none⟩])
 .ret)
 (.seq (.seq (.reg [⟨some 126, .bin .eql .plain (.tmp 16) (.con (.int .i64 11)), none⟩, ⟨some 125, .mv (.tmp 126), none⟩])
 (.cond (.tmp 125)
 .skip
 (.seq (.reg [⟨some 127, .bin .eql .plain (.tmp 16) (.con (.int .i64 23)), none⟩, ⟨some 125, .mv (.tmp 127), none⟩])
 (.cond (.tmp 125)
 .skip
 (.reg [⟨some 128, .bin .eql .plain (.tmp 16) (.con (.int .i64 24)), none⟩, ⟨some 125, .mv (.tmp 128), none⟩])))))
 (.cond (.tmp 125)
 (.seq (.reg [⟨some 129, .mv (.tmp 2), none⟩, ⟨some 130, .call 67 [.tmp 129, .con (.int .i64 1), .con (.int .i64 1)], none⟩, ⟨some 131, .ext (.tmp 130) 0, none⟩, ⟨some 132, .ext (.tmp 130) 1, none⟩, ⟨none, .store 3 (.tmp 6) (.tmp 131), none⟩, ⟨some 7, .mv (.tmp 132), none⟩])
 .ret)
 (.seq (.seq (.reg [⟨some 134, .bin .eql .plain (.tmp 16) (.con (.int .i64 12)), none⟩, ⟨some 133, .mv (.tmp 134), none⟩])
 (.cond (.tmp 133)
 .skip
 (.seq (.reg [⟨some 135, .bin .eql .plain (.tmp 16) (.con (.int .i64 13)), none⟩, ⟨some 133, .mv (.tmp 135), none⟩])
 (.cond (.tmp 133)
 .skip
 (.seq (.reg [⟨some 136, .bin .eql .plain (.tmp 16) (.con (.int .i64 14)), none⟩, ⟨some 133, .mv (.tmp 136), none⟩])
 (.cond (.tmp 133)
 .skip
 (.reg [⟨some 137, .bin .eql .plain (.tmp 16) (.con (.int .i64 15)), none⟩, ⟨some 133, .mv (.tmp 137), none⟩])))))))
 (.cond (.tmp 133)
 (.seq (.reg [⟨some 138, .mv (.tmp 2), none⟩, ⟨some 139, .call 67 [.tmp 138, .con (.int .i64 2), .con (.int .i64 2)], none⟩, ⟨some 140, .ext (.tmp 139) 0, none⟩, ⟨some 141, .ext (.tmp 139) 1, none⟩, ⟨none, .store 3 (.tmp 6) (.tmp 140), none⟩, ⟨some 7, .mv (.tmp 141), none⟩])
 .ret)
 (.seq (.seq (.reg [⟨some 143, .bin .eql .plain (.tmp 16) (.con (.int .i64 16)), none⟩, ⟨some 142, .mv (.tmp 143), none⟩])
 (.cond (.tmp 142)
 .skip
 (.seq (.reg [⟨some 144, .bin .eql .plain (.tmp 16) (.con (.int .i64 17)), none⟩, ⟨some 142, .mv (.tmp 144), none⟩])
 (.cond (.tmp 142)
 .skip
 (.seq (.reg [⟨some 145, .bin .eql .plain (.tmp 16) (.con (.int .i64 18)), none⟩, ⟨some 142, .mv (.tmp 145), none⟩])
 (.cond (.tmp 142)
 .skip
 (.reg [⟨some 146, .bin .eql .plain (.tmp 16) (.con (.int .i64 19)), none⟩, ⟨some 142, .mv (.tmp 146), none⟩])))))))
 (.cond (.tmp 142)
 (.seq (.reg [⟨some 147, .mv (.tmp 2), none⟩, ⟨some 148, .call 67 [.tmp 147, .con (.int .i64 2), .con (.int .i64 1)], none⟩, ⟨some 149, .ext (.tmp 148) 0, none⟩, ⟨some 150, .ext (.tmp 148) 1, none⟩, ⟨none, .store 3 (.tmp 6) (.tmp 149), none⟩, ⟨some 7, .mv (.tmp 150), none⟩])
 .ret)
 (.seq (.seq (.reg [⟨some 152, .bin .eql .plain (.tmp 16) (.con (.int .i64 20)), none⟩, ⟨some 151, .mv (.tmp 152), none⟩])
 (.cond (.tmp 151)
 .skip
 (.reg [⟨some 153, .bin .eql .plain (.tmp 16) (.con (.int .i64 21)), none⟩, ⟨some 151, .mv (.tmp 153), none⟩])))
 (.cond (.tmp 151)
 (.seq (.seq (.dreg [⟨some 154, .mv (.tmp 2), none⟩, ⟨some 155, .iaddr 3 (.tmp 154) (.con (.int .i64 0)), none⟩, ⟨some 156, .load true 3 (.tmp 155), none⟩, ⟨some 157, .mv (.tmp 2), none⟩, ⟨some 158, .iaddr 3 (.tmp 157) (.con (.int .i64 1)), none⟩, ⟨some 159, .load true 3 (.tmp 158), none⟩, ⟨some 160, .bin .neq (.agg [.i, .i, .s]) (.tmp 156) (.tmp 159), none⟩, ⟨some 161, .mv (.tmp 160), none⟩, ⟨some 162, .mv (.tmp 2), some (161, true)⟩, ⟨some 163, .iaddr 3 (.tmp 162) (.con (.int .i64 0)), some (161, true)⟩, ⟨some 164, .faddr 0 (.tmp 163), some (161, true)⟩, ⟨some 165, .load false 1 (.tmp 164), some (161, true)⟩, ⟨some 166, .bin .neq .plain (.tmp 165) (.con (.int .i64 4)), some (161, true)⟩, ⟨some 167, .mv (.tmp 166), some (161, true)⟩, ⟨some 168, .mv (.tmp 2), some (167, false)⟩, ⟨some 169, .iaddr 3 (.tmp 168) (.con (.int .i64 1)), some (167, false)⟩, ⟨some 170, .faddr 0 (.tmp 169), some (167, false)⟩, ⟨some 171, .load false 1 (.tmp 170), some (167, false)⟩, ⟨some 172, .bin .neq .plain (.tmp 171) (.con (.int .i64 4)), some (167, false)⟩, ⟨some 173, .pick (.tmp 167) (.con (.bool true)) (.tmp 172), some (161, true)⟩, ⟨some 174, .pick (.tmp 161) (.tmp 173) (.con (.bool false)), none⟩] [] [0, 1, 3, 0, 8, 24, 63, 127, 255, 511, 1023, 2047, 4095, 8191, 16383, 32767, 65535, 131071, 262143, 524287, 1048575] [])
 (.cond (.tmp 174)
 (.seq (.reg [⟨some 175, .load true 3 (.tmp 8), none⟩, ⟨none, .store 3 (.tmp 6) (.tmp 175), none⟩, ⟨some 7, .mv (.con (.int .i64 16)), none⟩])
 .ret)
 .skip))
 (.seq (.reg [⟨some 176, .call 65 [.con (.int .i64 1)], none⟩, ⟨none, .store 3 (.tmp 6) (.tmp 176), none⟩, ⟨some 7, .mv (.con (.int .i64 0)), none⟩])
 .ret))
 (.seq (.reg [⟨some 178, .bin .eql .plain (.tmp 16) (.con (.int .i64 22)), none⟩, ⟨some 177, .mv (.tmp 178), none⟩])
 (.cond (.tmp 177)
 (.seq (.seq (.reg [⟨some 179, .mv (.tmp 2), none⟩, ⟨some 180, .iaddr 3 (.tmp 179) (.con (.int .i64 0)), none⟩, ⟨some 181, .faddr 0 (.tmp 180), none⟩, ⟨some 182, .load false 1 (.tmp 181), none⟩, ⟨some 183, .bin .neq .plain (.tmp 182) (.con (.int .i64 4)), none⟩, ⟨some 184, .mv (.tmp 183), none⟩, ⟨some 185, .mv (.tmp 2), some (184, false)⟩, ⟨some 186, .iaddr 3 (.tmp 185) (.con (.int .i64 1)), some (184, false)⟩, ⟨some 187, .faddr 0 (.tmp 186), some (184, false)⟩, ⟨some 188, .load false 1 (.tmp 187), some (184, false)⟩, ⟨some 189, .bin .neq .plain (.tmp 188) (.con (.int .i64 4)), some (184, false)⟩, ⟨some 190, .mv (.tmp 189), some (184, false)⟩, ⟨some 191, .mv (.tmp 2), some (190, true)⟩, ⟨some 192, .iaddr 3 (.tmp 191) (.con (.int .i64 1)), some (190, true)⟩, ⟨some 193, .faddr 0 (.tmp 192), some (190, true)⟩, ⟨some 194, .load false 1 (.tmp 193), some (190, true)⟩, ⟨some 195, .bin .neq .plain (.tmp 194) (.con (.int .i64 5)), some (190, true)⟩, ⟨some 196, .mv (.tmp 195), some (190, true)⟩, ⟨some 197, .mv (.tmp 2), some (196, false)⟩, ⟨some 198, .iaddr 3 (.tmp 197) (.con (.int .i64 1)), some (196, false)⟩, ⟨some 199, .faddr 1 (.tmp 198), some (196, false)⟩, ⟨some 200, .load false 1 (.tmp 199), some (196, false)⟩, ⟨some 201, .bin .neq .plain (.tmp 200) (.con (.int .i64 4)), some (196, false)⟩, ⟨some 202, .pick (.tmp 196) (.con (.bool true)) (.tmp 201), some (190, true)⟩, ⟨some 203, .pick (.tmp 190) (.tmp 202) (.con (.bool false)), some (184, false)⟩, ⟨some 204, .pick (.tmp 184) (.con (.bool true)) (.tmp 203), none⟩])
 (.cond (.tmp 204)
 (.seq (.reg [⟨some 205, .load true 3 (.tmp 8), none⟩, ⟨none, .store 3 (.tmp 6) (.tmp 205), none⟩, ⟨some 7, .mv (.con (.int .i64 16)), none⟩])
 .ret)
 .skip))
 (.seq (.reg [⟨some 206, .call 65 [.con (.int .i64 1)], none⟩, ⟨none, .store 3 (.tmp 6) (.tmp 206), none⟩, ⟨some 7, .mv (.con (.int .i64 0)), none⟩])
 .ret))
 .skip))))))))))))))))))))
 (.seq (.seq (.dreg [⟨some 207, .mv (.tmp 2), none⟩, ⟨some 208, .iaddr 3 (.tmp 207) (.con (.int .i64 0)), none⟩, ⟨some 209, .faddr 0 (.tmp 208), none⟩, ⟨some 210, .load false 1 (.tmp 209), none⟩, ⟨some 211, .bin .neq .plain (.tmp 210) (.con (.int .i64 1)), none⟩, ⟨some 212, .mv (.tmp 211), none⟩, ⟨some 213, .mv (.tmp 2), some (212, false)⟩, ⟨some 214, .iaddr 3 (.tmp 213) (.con (.int .i64 1)), some (212, false)⟩, ⟨some 215, .load true 3 (.tmp 214), some (212, false)⟩, ⟨some 216, .mv (.tmp 2), some (212, false)⟩, ⟨some 217, .iaddr 3 (.tmp 216) (.con (.int .i64 2)), some (212, false)⟩, ⟨some 218, .load true 3 (.tmp 217), some (212, false)⟩, ⟨some 219, .bin .neq (.agg [.i, .i, .s]) (.tmp 215) (.tmp 218), some (212, false)⟩, ⟨some 220, .pick (.tmp 212) (.con (.bool true)) (.tmp 219), none⟩] [] [0, 1, 3, 7, 15, 31, 63, 127, 255, 63, 575, 1599, 4095, 8191] [])
 (.cond (.tmp 220)
 (.seq (.reg [⟨some 221, .load true 3 (.tmp 8), none⟩, ⟨none, .store 3 (.tmp 6) (.tmp 221), none⟩, ⟨some 7, .mv (.con (.int .i64 16)), none⟩])
 .ret)
 .skip))
 (.seq (.reg [⟨some 222, .mv (.tmp 2), none⟩, ⟨some 223, .iaddr 3 (.tmp 222) (.con (.int .i64 1)), none⟩, ⟨some 224, .load true 3 (.tmp 223), none⟩, ⟨none, .store 3 (.tmp 6) (.tmp 224), none⟩, ⟨some 7, .mv (.con (.int .i64 0)), none⟩])
 .ret)))))
def ac48 : AFun := ⟨3, 225, ab48, [(.cell 6 true 3), (.tmp 7)]⟩
theorem cf48 : compF Try.prog Try.f48 = some ac48 := by kernel_rfl
theorem cl48 : callable Try.prog 48 = true := by kernel_rfl
theorem fn48 : Try.prog.funcs[48]? = some Try.f48 := by kernel_rfl
/- chancel/types.truth -/
def ab51 : ACode := (.seq (.reg [⟨some 0, .alloc [.int .i64 0, .int .i64 0, .str []], none⟩])
 (.seq (.reg [⟨some 1, .build [.int .i64 0, .int .i64 0, .str []] [(0, 1, .con (.int .i64 1))], none⟩, ⟨none, .store 3 (.tmp 0) (.tmp 1), none⟩])
 .ret))
def ac51 : AFun := ⟨0, 2, ab51, [(.cell 0 true 3)]⟩
theorem cf51 : compF Try.prog Try.f51 = some ac51 := by kernel_rfl
theorem cl51 : callable Try.prog 51 = true := by kernel_rfl
theorem fn51 : Try.prog.funcs[51]? = some Try.f51 := by kernel_rfl
/- chancel/types.number -/
def ab52 : ACode := (.seq (.reg [⟨some 0, .alloc [.int .i64 0, .int .i64 0, .str []], none⟩])
 (.seq (.reg [⟨some 1, .build [.int .i64 0, .int .i64 0, .str []] [(0, 1, .con (.int .i64 2))], none⟩, ⟨none, .store 3 (.tmp 0) (.tmp 1), none⟩])
 .ret))
def ac52 : AFun := ⟨0, 2, ab52, [(.cell 0 true 3)]⟩
theorem cf52 : compF Try.prog Try.f52 = some ac52 := by kernel_rfl
theorem cl52 : callable Try.prog 52 = true := by kernel_rfl
theorem fn52 : Try.prog.funcs[52]? = some Try.f52 := by kernel_rfl
/- chancel/types.uid -/
def ab53 : ACode := (.seq (.reg [⟨some 2, .alloc [.int .i64 0, .int .i64 0, .str []], none⟩])
 (.seq (.reg [⟨some 3, .mv (.tmp 0), none⟩, ⟨some 4, .build [.int .i64 0, .int .i64 0, .str []] [(0, 1, .con (.int .i64 4)), (2, 1, .tmp 3)], none⟩, ⟨none, .store 3 (.tmp 2) (.tmp 4), none⟩])
 .ret))
def ac53 : AFun := ⟨1, 5, ab53, [(.cell 2 true 3)]⟩
theorem cf53 : compF Try.prog Try.f53 = some ac53 := by kernel_rfl
theorem cl53 : callable Try.prog 53 = true := by kernel_rfl
theorem fn53 : Try.prog.funcs[53]? = some Try.f53 := by kernel_rfl
/- chancel/types.alike -/
def ab54 : ACode := (.seq (.reg [⟨some 1, .box (.tmp 0), none⟩, ⟨some 2, .mv (.con (.bool false)), none⟩])
 (.seq (.reg [⟨some 3, .load false 1 (.tmp 1), none⟩, ⟨some 4, .mkfn 71 [.tmp 1], none⟩, ⟨some 5, .call 70 [.tmp 3, .tmp 4], none⟩, ⟨some 6, .un .not (.tmp 5), none⟩, ⟨some 2, .mv (.tmp 6), none⟩])
 .ret))
def ac54 : AFun := ⟨1, 7, ab54, [(.tmp 2)]⟩
theorem cf54 : compF Try.prog Try.f54 = some ac54 := by kernel_rfl
theorem cl54 : callable Try.prog 54 = true := by kernel_rfl
theorem fn54 : Try.prog.funcs[54]? = some Try.f54 := by kernel_rfl
/- chancel/types.field -/
def ab55 : ACode := (.seq (.reg [⟨some 3, .box (.tmp 0), none⟩, ⟨some 4, .box (.tmp 1), none⟩, ⟨some 6, .alloc [.int .i64 0, .int .i64 0, .str []], none⟩, ⟨some 7, .mv (.con (.int .i64 0)), none⟩])
 (.seq (.seq (.reg [⟨some 12, .faddr 0 (.tmp 4), none⟩, ⟨some 13, .load false 1 (.tmp 12), none⟩, ⟨some 14, .bin .neq .plain (.tmp 13) (.con (.int .i64 4)), none⟩])
 (.cond (.tmp 14)
 (.seq (.reg [⟨some 15, .build [.int .i64 0, .int .i64 0, .str []] [], none⟩, ⟨none, .store 3 (.tmp 6) (.tmp 15), none⟩, ⟨some 7, .mv (.con (.int .i64 16)), none⟩])
 .ret)
 .skip))
 (.seq (.reg [⟨some 17, .load true 2 (.tmp 3), none⟩, ⟨some 18, .faddr 2 (.tmp 4), none⟩, ⟨some 19, .load false 1 (.tmp 18), none⟩, ⟨some 20, .call 61 [.tmp 17, .tmp 19], none⟩, ⟨some 16, .mv (.tmp 20), none⟩, ⟨some 21, .ext (.tmp 16) 0, none⟩, ⟨some 22, .ext (.tmp 16) 1, none⟩, ⟨some 8, .alloc [.str [], .nils, .nils], none⟩, ⟨none, .store 3 (.tmp 8) (.tmp 21), none⟩, ⟨some 9, .mv (.tmp 22), none⟩])
 (.seq (.reg [⟨some 24, .load true 3 (.tmp 8), none⟩, ⟨some 25, .mv (.tmp 2), none⟩, ⟨some 26, .call 72 [.tmp 24, .tmp 25], none⟩, ⟨some 23, .mv (.tmp 26), none⟩, ⟨some 27, .ext (.tmp 23) 0, none⟩, ⟨some 28, .ext (.tmp 23) 1, none⟩, ⟨some 10, .alloc [.int .i64 0, .int .i64 0, .str []], none⟩, ⟨none, .store 3 (.tmp 10) (.tmp 27), none⟩, ⟨some 11, .mv (.tmp 28), none⟩])
 (.seq (.seq (.reg [⟨some 29, .mv (.tmp 11), none⟩, ⟨some 30, .un .not (.tmp 29), none⟩])
 (.cond (.tmp 30)
 (.seq (.reg [⟨some 31, .build [.int .i64 0, .int .i64 0, .str []] [], none⟩, ⟨none, .store 3 (.tmp 6) (.tmp 31), none⟩, ⟨some 7, .mv (.con (.int .i64 15)), none⟩])
 .ret)
 .skip))
 (.seq (.reg [⟨some 32, .load true 3 (.tmp 10), none⟩, ⟨none, .store 3 (.tmp 6) (.tmp 32), none⟩, ⟨some 7, .mv (.con (.int .i64 0)), none⟩])
 .ret))))))
def ac55 : AFun := ⟨3, 33, ab55, [(.cell 6 true 3), (.tmp 7)]⟩
theorem cf55 : compF Try.prog Try.f55 = some ac55 := by kernel_rfl
theorem cl55 : callable Try.prog 55 = true := by kernel_rfl
theorem fn55 : Try.prog.funcs[55]? = some Try.f55 := by kernel_rfl
/- chancel/types.got -/
def ab56 : ACode := (.seq (.reg [⟨some 2, .box (.tmp 0), none⟩, ⟨some 4, .alloc [.int .i64 0, .int .i64 0, .str []], none⟩, ⟨some 5, .mv (.con (.int .i64 0)), none⟩])
 (.seq (.seq (.reg [⟨some 6, .mv (.tmp 1), none⟩, ⟨some 7, .un .not (.tmp 6), none⟩])
 (.cond (.tmp 7)
 (.seq (.reg [⟨some 8, .build [.int .i64 0, .int .i64 0, .str []] [], none⟩, ⟨none, .store 3 (.tmp 4) (.tmp 8), none⟩, ⟨some 5, .mv (.con (.int .i64 16)), none⟩])
 .ret)
 .skip))
 (.seq (.reg [⟨some 9, .load true 3 (.tmp 2), none⟩, ⟨none, .store 3 (.tmp 4) (.tmp 9), none⟩, ⟨some 5, .mv (.con (.int .i64 0)), none⟩])
 .ret)))
def ac56 : AFun := ⟨2, 10, ab56, [(.cell 4 true 3), (.tmp 5)]⟩
theorem cf56 : compF Try.prog Try.f56 = some ac56 := by kernel_rfl
theorem cl56 : callable Try.prog 56 = true := by kernel_rfl
theorem fn56 : Try.prog.funcs[56]? = some Try.f56 := by kernel_rfl
/- chancel/types.holds -/
def ab57 : ACode := (.seq (.reg [⟨some 2, .box (.tmp 0), none⟩, ⟨some 3, .box (.tmp 1), none⟩, ⟨some 4, .mv (.con (.bool false)), none⟩])
 (.seq (.reg [⟨some 5, .faddr 0 (.tmp 2), none⟩, ⟨some 6, .load false 1 (.tmp 5), none⟩, ⟨some 7, .bin .eql .plain (.tmp 6) (.con (.int .i64 5)), none⟩, ⟨some 8, .mv (.tmp 7), none⟩, ⟨some 9, .load true 3 (.tmp 3), some (8, true)⟩, ⟨some 10, .faddr 1 (.tmp 2), some (8, true)⟩, ⟨some 11, .load false 1 (.tmp 10), some (8, true)⟩, ⟨some 12, .faddr 2 (.tmp 2), some (8, true)⟩, ⟨some 13, .load false 1 (.tmp 12), some (8, true)⟩, ⟨some 14, .build [.int .i64 0, .int .i64 0, .str []] [(0, 1, .tmp 11), (2, 1, .tmp 13)], some (8, true)⟩, ⟨some 15, .bin .eql (.agg [.i, .i, .s]) (.tmp 9) (.tmp 14), some (8, true)⟩, ⟨some 16, .pick (.tmp 8) (.tmp 15) (.con (.bool false)), none⟩, ⟨some 4, .mv (.tmp 16), none⟩])
 .ret))
def ac57 : AFun := ⟨2, 17, ab57, [(.tmp 4)]⟩
theorem cf57 : compF Try.prog Try.f57 = some ac57 := by kernel_rfl
theorem cl57 : callable Try.prog 57 = true := by kernel_rfl
theorem fn57 : Try.prog.funcs[57]? = some Try.f57 := by kernel_rfl
/- chancel/types.all -/
def ab58 : ACode := (.seq (.reg [⟨some 3, .box (.tmp 1), none⟩, ⟨some 4, .mv (.con (.bool false)), none⟩])
 (.seq (.reg [⟨some 5, .mv (.tmp 0), none⟩, ⟨some 6, .mkfn 73 [.tmp 3], none⟩, ⟨some 7, .call 70 [.tmp 5, .tmp 6], none⟩, ⟨some 8, .un .not (.tmp 7), none⟩, ⟨some 4, .mv (.tmp 8), none⟩])
 .ret))
def ac58 : AFun := ⟨2, 9, ab58, [(.tmp 4)]⟩
theorem cf58 : compF Try.prog Try.f58 = some ac58 := by kernel_rfl
theorem cl58 : callable Try.prog 58 = true := by kernel_rfl
theorem fn58 : Try.prog.funcs[58]? = some Try.f58 := by kernel_rfl
/- chancel/types.uids -/
def ab59 : ACode := (.seq (.reg [⟨some 1, .box (.tmp 0), none⟩, ⟨some 2, .mv (.con (.bool false)), none⟩])
 (.seq (.reg [⟨some 3, .faddr 0 (.tmp 1), none⟩, ⟨some 4, .load false 1 (.tmp 3), none⟩, ⟨some 5, .bin .eql .plain (.tmp 4) (.con (.int .i64 4)), none⟩, ⟨some 6, .mv (.tmp 5), none⟩, ⟨some 7, .faddr 0 (.tmp 1), some (6, false)⟩, ⟨some 8, .load false 1 (.tmp 7), some (6, false)⟩, ⟨some 9, .bin .eql .plain (.tmp 8) (.con (.int .i64 5)), some (6, false)⟩, ⟨some 10, .mv (.tmp 9), some (6, false)⟩, ⟨some 11, .faddr 1 (.tmp 1), some (10, true)⟩, ⟨some 12, .load false 1 (.tmp 11), some (10, true)⟩, ⟨some 13, .bin .eql .plain (.tmp 12) (.con (.int .i64 4)), some (10, true)⟩, ⟨some 14, .pick (.tmp 10) (.tmp 13) (.con (.bool false)), some (6, false)⟩, ⟨some 15, .pick (.tmp 6) (.con (.bool true)) (.tmp 14), none⟩, ⟨some 2, .mv (.tmp 15), none⟩])
 .ret))
def ac59 : AFun := ⟨1, 16, ab59, [(.tmp 2)]⟩
theorem cf59 : compF Try.prog Try.f59 = some ac59 := by kernel_rfl
theorem cl59 : callable Try.prog 59 = true := by kernel_rfl
theorem fn59 : Try.prog.funcs[59]? = some Try.f59 := by kernel_rfl
/- chancel/schema.Action -/
def ab60 : ACode := (.seq (.reg [⟨some 2, .box (.tmp 0), none⟩, ⟨some 4, .alloc [.str [], .nils, .nils], none⟩, ⟨some 5, .mv (.con (.bool false)), none⟩])
 (.seq (.seq (.reg [⟨some 8, .faddr 1 (.tmp 2), none⟩, ⟨some 9, .load false 1 (.tmp 8), none⟩, ⟨some 10, .lenL (.tmp 9), none⟩, ⟨some 11, .mv (.con (.int .i64 0)), none⟩])
 (.block 0
 (.loop (.seq (.reg [⟨some 12, .bin .lss .plain (.tmp 11) (.tmp 10), none⟩])
 (.seq (.cond (.tmp 12)
 .skip
 (.exit 0))
 (.seq (.block 1
 (.seq (.reg [⟨some 13, .iaddr 3 (.tmp 9) (.tmp 11), none⟩, ⟨some 14, .load true 3 (.tmp 13), none⟩, ⟨some 7, .alloc [.str [], .nils, .nils], none⟩, ⟨none, .store 3 (.tmp 7) (.tmp 14), none⟩])
 (.seq (.reg [⟨some 15, .faddr 0 (.tmp 7), none⟩, ⟨some 16, .load false 1 (.tmp 15), none⟩, ⟨some 17, .mv (.tmp 1), none⟩, ⟨some 18, .bin .eql .plain (.tmp 16) (.tmp 17), none⟩])
 (.cond (.tmp 18)
 (.seq (.dreg [⟨some 19, .faddr 1 (.tmp 7), none⟩, ⟨some 20, .load false 1 (.tmp 19), none⟩, ⟨some 21, .call 74 [.tmp 20], none⟩, ⟨some 22, .faddr 2 (.tmp 7), none⟩, ⟨some 23, .load false 1 (.tmp 22), none⟩, ⟨some 24, .call 74 [.tmp 23], none⟩, ⟨some 25, .faddr 1 (.tmp 7), none⟩, ⟨none, .store 1 (.tmp 25) (.tmp 21), none⟩, ⟨some 26, .faddr 2 (.tmp 7), none⟩, ⟨none, .store 1 (.tmp 26) (.tmp 24), none⟩] [2, 5, 7, 9] [0, 1, 3, 0, 8, 31, 31, 127, 255, 511] [])
 (.seq (.reg [⟨some 27, .load true 3 (.tmp 7), none⟩, ⟨none, .store 3 (.tmp 4) (.tmp 27), none⟩, ⟨some 5, .mv (.con (.bool true)), none⟩])
 .ret))
 .skip))))
 (.reg [⟨some 28, .bin .add .plain (.tmp 11) (.con (.int .i64 1)), none⟩, ⟨some 11, .mv (.tmp 28), none⟩])))))))
 (.seq (.reg [⟨some 29, .build [.str [], .nils, .nils] [], none⟩, ⟨none, .store 3 (.tmp 4) (.tmp 29), none⟩, ⟨some 5, .mv (.con (.bool false)), none⟩])
 .ret)))
def ac60 : AFun := ⟨2, 30, ab60, [(.cell 4 true 3), (.tmp 5)]⟩
theorem cf60 : compF Try.prog Try.f60 = some ac60 := by kernel_rfl
theorem cl60 : callable Try.prog 60 = true := by kernel_rfl
theorem fn60 : Try.prog.funcs[60]? = some Try.f60 := by kernel_rfl
/- chancel/schema.Kind -/
def ab61 : ACode := (.seq (.reg [⟨some 2, .box (.tmp 0), none⟩, ⟨some 4, .alloc [.str [], .nils, .nils], none⟩, ⟨some 5, .mv (.con (.bool false)), none⟩])
 (.seq (.seq (.reg [⟨some 8, .faddr 0 (.tmp 2), none⟩, ⟨some 9, .load false 1 (.tmp 8), none⟩, ⟨some 10, .lenL (.tmp 9), none⟩, ⟨some 11, .mv (.con (.int .i64 0)), none⟩])
 (.block 0
 (.loop (.seq (.reg [⟨some 12, .bin .lss .plain (.tmp 11) (.tmp 10), none⟩])
 (.seq (.cond (.tmp 12)
 .skip
 (.exit 0))
 (.seq (.block 1
 (.seq (.reg [⟨some 13, .iaddr 3 (.tmp 9) (.tmp 11), none⟩, ⟨some 14, .load true 3 (.tmp 13), none⟩, ⟨some 7, .alloc [.str [], .nils, .nils], none⟩, ⟨none, .store 3 (.tmp 7) (.tmp 14), none⟩])
 (.seq (.reg [⟨some 15, .faddr 0 (.tmp 7), none⟩, ⟨some 16, .load false 1 (.tmp 15), none⟩, ⟨some 17, .mv (.tmp 1), none⟩, ⟨some 18, .bin .eql .plain (.tmp 16) (.tmp 17), none⟩])
 (.cond (.tmp 18)
 (.seq (.dreg [⟨some 19, .faddr 1 (.tmp 7), none⟩, ⟨some 20, .load false 1 (.tmp 19), none⟩, ⟨some 21, .call 74 [.tmp 20], none⟩, ⟨some 22, .faddr 2 (.tmp 7), none⟩, ⟨some 23, .load false 1 (.tmp 22), none⟩, ⟨some 24, .call 75 [.tmp 23], none⟩, ⟨some 25, .faddr 1 (.tmp 7), none⟩, ⟨none, .store 1 (.tmp 25) (.tmp 21), none⟩, ⟨some 26, .faddr 2 (.tmp 7), none⟩, ⟨none, .store 1 (.tmp 26) (.tmp 24), none⟩] [2, 5, 7, 9] [0, 1, 3, 0, 8, 31, 31, 127, 255, 511] [])
 (.seq (.reg [⟨some 27, .load true 3 (.tmp 7), none⟩, ⟨none, .store 3 (.tmp 4) (.tmp 27), none⟩, ⟨some 5, .mv (.con (.bool true)), none⟩])
 .ret))
 .skip))))
 (.reg [⟨some 28, .bin .add .plain (.tmp 11) (.con (.int .i64 1)), none⟩, ⟨some 11, .mv (.tmp 28), none⟩])))))))
 (.seq (.reg [⟨some 29, .build [.str [], .nils, .nils] [], none⟩, ⟨none, .store 3 (.tmp 4) (.tmp 29), none⟩, ⟨some 5, .mv (.con (.bool false)), none⟩])
 .ret)))
def ac61 : AFun := ⟨2, 30, ab61, [(.cell 4 true 3), (.tmp 5)]⟩
theorem cf61 : compF Try.prog Try.f61 = some ac61 := by kernel_rfl
theorem cl61 : callable Try.prog 61 = true := by kernel_rfl
theorem fn61 : Try.prog.funcs[61]? = some Try.f61 := by kernel_rfl
end Go.Proofs.Ytcdbpmmomgehfaa.Va
