/- Functions of the program as resolved code (printed by gen.py from the kernel's own value). Conditions: none. -/
import Derived.Test.YthojhpjjkfjeiaaProg
import Derived.Test.YthojhpjjkfjeiaaVaF
import Derived.KernelRfl
set_option maxRecDepth 100000
set_option maxHeartbeats 4000000
set_option linter.all false
namespace Go.Proofs.Ythojhpjjkfjeiaa.Va
open Go.Proofs
/- gosem.cut.init -/
def ab2 : ACode := (.reg [⟨some 0, .call 1 [], none⟩])
def ac2 : AFun := ⟨0, 1, ab2, []⟩
theorem cf2 : compF Try.prog Try.f2 = some ac2 := by kernel_rfl
theorem cl2 : callable Try.prog 2 = true := by kernel_rfl
theorem fn2 : Try.prog.funcs[2]? = some Try.f2 := by kernel_rfl
/- chancel/chancellaw19.RaftOrder -/
def ab3 : ACode := (.seq (.reg [⟨some 4, .mv (.con (.bool false)), none⟩])
 (.seq (.seq (.reg [⟨some 21, .call 7 [], none⟩, ⟨some 22, .un .not (.tmp 21), none⟩])
 (.cond (.tmp 22)
 (.seq (.reg [⟨some 4, .mv (.con (.bool false)), none⟩])
 .ret)
 .skip))
 (.seq (.reg [⟨some 23, .mv (.tmp 0), none⟩, ⟨some 24, .call 8 [.tmp 23, .con (.int .i64 5)], none⟩, ⟨some 25, .bin .add .plain (.con (.int .i64 1)) (.tmp 24), none⟩, ⟨some 0, .mv (.tmp 25), none⟩])
 (.seq (.reg [⟨some 26, .mv (.tmp 0), none⟩, ⟨some 27, .mv (.tmp 0), none⟩, ⟨some 28, .call 10 [.tmp 27], none⟩, ⟨some 29, .call 9 [.tmp 26, .tmp 28], none⟩, ⟨some 5, .mv (.tmp 29), none⟩])
 (.seq (.seq (.reg [⟨some 30, .mv (.tmp 5), none⟩, ⟨some 31, .bin .eql .ptr (.tmp 30) (.con .nilp), none⟩, ⟨some 32, .mv (.tmp 31), none⟩, ⟨some 33, .mv (.tmp 5), some (32, false)⟩, ⟨some 34, .call 11 [.tmp 33, .con (.int .i64 100)], some (32, false)⟩, ⟨some 35, .un .not (.tmp 34), some (32, false)⟩, ⟨some 36, .pick (.tmp 32) (.con (.bool true)) (.tmp 35), none⟩])
 (.cond (.tmp 36)
 (.seq (.reg [⟨some 4, .mv (.con (.bool false)), none⟩])
 .ret)
 .skip))
 (.seq (.reg [⟨some 37, .mv (.tmp 5), none⟩, ⟨some 38, .call 12 [.tmp 37], none⟩, ⟨some 6, .mv (.tmp 38), none⟩])
 (.seq (.seq (.reg [⟨some 39, .mv (.tmp 6), none⟩, ⟨some 40, .bin .lss .plain (.tmp 39) (.con (.int .i64 0)), none⟩])
 (.cond (.tmp 40)
 (.seq (.reg [⟨some 4, .mv (.con (.bool false)), none⟩])
 .ret)
 .skip))
 (.seq (.reg [⟨some 41, .mv (.tmp 5), none⟩, ⟨some 42, .nilck (.tmp 41), none⟩, ⟨some 43, .faddr 1 (.tmp 42), none⟩, ⟨some 44, .load false 1 (.tmp 43), none⟩, ⟨some 45, .mv (.tmp 6), none⟩, ⟨some 46, .iaddr 1 (.tmp 44) (.tmp 45), none⟩, ⟨some 47, .load false 1 (.tmp 46), none⟩, ⟨some 48, .nilck (.tmp 47), none⟩, ⟨some 49, .faddr 0 (.tmp 48), none⟩, ⟨some 50, .call 13 [.tmp 49], none⟩, ⟨some 7, .mv (.tmp 50), none⟩])
 (.seq (.reg [⟨some 8, .mv (.con .nils), none⟩])
 (.seq (.seq (.reg [⟨some 9, .mv (.con (.int .i64 0)), none⟩])
 (.block 0
 (.loop (.seq (.seq (.reg [⟨some 51, .mv (.tmp 9), none⟩, ⟨some 52, .mv (.tmp 1), none⟩, ⟨some 53, .lenL (.tmp 52), none⟩, ⟨some 54, .bin .lss .plain (.tmp 51) (.tmp 53), none⟩, ⟨some 55, .mv (.tmp 54), none⟩, ⟨some 56, .mv (.tmp 9), some (55, true)⟩, ⟨some 57, .bin .lss .plain (.tmp 56) (.con (.int .i64 15)), some (55, true)⟩, ⟨some 58, .pick (.tmp 55) (.tmp 57) (.con (.bool false)), none⟩])
 (.cond (.tmp 58)
 .skip
 (.exit 0)))
 (.seq (.block 1
 (.seq (.reg [⟨some 61, .mv (.tmp 1), none⟩, ⟨some 62, .mv (.tmp 9), none⟩, ⟨some 63, .iaddr 1 (.tmp 61) (.tmp 62), none⟩, ⟨some 64, .load false 1 (.tmp 63), none⟩, ⟨some 65, .call 8 [.tmp 64, .con (.int .i64 50)], none⟩, ⟨some 66, .mkslice 1 1 [.int .u8 0] (.tmp 65) (.tmp 65), none⟩, ⟨some 10, .mv (.tmp 66), none⟩])
 (.seq (.seq (.reg [⟨some 11, .mv (.con (.int .i64 0)), none⟩])
 (.block 2
 (.loop (.seq (.seq (.reg [⟨some 67, .mv (.tmp 11), none⟩, ⟨some 68, .mv (.tmp 10), none⟩, ⟨some 69, .lenL (.tmp 68), none⟩, ⟨some 70, .bin .lss .plain (.tmp 67) (.tmp 69), none⟩])
 (.cond (.tmp 70)
 .skip
 (.exit 2)))
 (.seq (.block 3
 (.reg [⟨some 73, .mv (.tmp 10), none⟩, ⟨some 74, .mv (.tmp 11), none⟩, ⟨some 75, .mv (.tmp 9), none⟩, ⟨some 76, .mv (.tmp 11), none⟩, ⟨some 77, .bin .add .plain (.tmp 75) (.tmp 76), none⟩, ⟨some 78, .cvInt .u8 (.tmp 77), none⟩, ⟨some 79, .iaddr 1 (.tmp 73) (.tmp 74), none⟩, ⟨none, .store 1 (.tmp 79) (.tmp 78), none⟩]))
 (.reg [⟨some 71, .mv (.tmp 11), none⟩, ⟨some 72, .bin .add .plain (.tmp 71) (.con (.int .i64 1)), none⟩, ⟨some 11, .mv (.tmp 72), none⟩]))))))
 (.seq (.reg [⟨some 81, .mv (.tmp 5), none⟩, ⟨some 82, .mv (.tmp 6), none⟩, ⟨some 83, .mv (.tmp 10), none⟩, ⟨some 84, .call 14 [.tmp 81, .tmp 82, .tmp 83], none⟩, ⟨some 80, .mv (.tmp 84), none⟩, ⟨some 85, .ext (.tmp 80) 0, none⟩, ⟨some 86, .ext (.tmp 80) 1, none⟩, ⟨some 87, .ext (.tmp 80) 2, none⟩, ⟨some 12, .mv (.tmp 85), none⟩, ⟨some 13, .mv (.tmp 86), none⟩, ⟨some 14, .mv (.tmp 87), none⟩])
 (.seq (.seq (.reg [⟨some 88, .mv (.tmp 13), none⟩, ⟨some 89, .bin .neq .plain (.tmp 88) (.con (.int .i64 0)), none⟩, ⟨some 90, .mv (.tmp 89), none⟩, ⟨some 91, .mv (.tmp 14), some (90, false)⟩, ⟨some 92, .un .not (.tmp 91), some (90, false)⟩, ⟨some 93, .pick (.tmp 90) (.con (.bool true)) (.tmp 92), none⟩, ⟨some 94, .mv (.tmp 93), none⟩, ⟨some 95, .mv (.tmp 12), some (94, false)⟩, ⟨some 96, .mv (.tmp 7), some (94, false)⟩, ⟨some 97, .mv (.tmp 9), some (94, false)⟩, ⟨some 98, .bin .add .plain (.tmp 96) (.tmp 97), some (94, false)⟩, ⟨some 99, .bin .add .plain (.tmp 98) (.con (.int .i64 1)), some (94, false)⟩, ⟨some 100, .bin .neq .plain (.tmp 95) (.tmp 99), some (94, false)⟩, ⟨some 101, .pick (.tmp 94) (.con (.bool true)) (.tmp 100), none⟩])
 (.cond (.tmp 101)
 (.seq (.reg [⟨some 4, .mv (.con (.bool false)), none⟩])
 .ret)
 .skip))
 (.reg [⟨some 102, .mv (.tmp 8), none⟩, ⟨some 103, .mv (.tmp 10), none⟩, ⟨some 104, .cvBS (.tmp 103), none⟩, ⟨some 105, .bslice 1 1 [.str []] [(0, 1, .tmp 104)], none⟩, ⟨some 106, .append 1 16 (.tmp 102) (.tmp 105), none⟩, ⟨some 8, .mv (.tmp 106), none⟩]))))))
 (.reg [⟨some 59, .mv (.tmp 9), none⟩, ⟨some 60, .bin .add .plain (.tmp 59) (.con (.int .i64 1)), none⟩, ⟨some 9, .mv (.tmp 60), none⟩]))))))
 (.seq (.seq (.reg [⟨some 107, .mv (.tmp 5), none⟩, ⟨some 108, .call 11 [.tmp 107, .con (.int .i64 2)], none⟩, ⟨some 109, .un .not (.tmp 108), none⟩])
 (.cond (.tmp 109)
 (.seq (.reg [⟨some 4, .mv (.con (.bool false)), none⟩])
 .ret)
 .skip))
 (.seq (.seq (.reg [⟨some 15, .mv (.con (.int .i64 0)), none⟩])
 (.block 4
 (.loop (.seq (.seq (.reg [⟨some 110, .mv (.tmp 15), none⟩, ⟨some 111, .mv (.tmp 8), none⟩, ⟨some 112, .lenL (.tmp 111), none⟩, ⟨some 113, .bin .lss .plain (.tmp 110) (.tmp 112), none⟩])
 (.cond (.tmp 113)
 .skip
 (.exit 4)))
 (.seq (.block 5
 (.seq (.reg [⟨some 117, .mv (.tmp 5), none⟩, ⟨some 118, .nilck (.tmp 117), none⟩, ⟨some 119, .faddr 1 (.tmp 118), none⟩, ⟨some 120, .load false 1 (.tmp 119), none⟩, ⟨some 121, .mv (.tmp 6), none⟩, ⟨some 122, .iaddr 1 (.tmp 120) (.tmp 121), none⟩, ⟨some 123, .load false 1 (.tmp 122), none⟩, ⟨some 124, .nilck (.tmp 123), none⟩, ⟨some 125, .faddr 0 (.tmp 124), none⟩, ⟨some 126, .mv (.tmp 7), none⟩, ⟨some 127, .mv (.tmp 15), none⟩, ⟨some 128, .bin .add .plain (.tmp 126) (.tmp 127), none⟩, ⟨some 129, .bin .add .plain (.tmp 128) (.con (.int .i64 1)), none⟩, ⟨some 130, .call 15 [.tmp 125, .tmp 129], none⟩, ⟨some 116, .mv (.tmp 130), none⟩, ⟨some 131, .ext (.tmp 116) 0, none⟩, ⟨some 132, .ext (.tmp 116) 1, none⟩, ⟨some 16, .alloc [.int .i64 0, .int .i64 0, .int .i64 0, .nils, .nils], none⟩, ⟨none, .store 5 (.tmp 16) (.tmp 131), none⟩, ⟨some 17, .mv (.tmp 132), none⟩])
 (.seq (.reg [⟨some 134, .mv (.tmp 5), none⟩, ⟨some 135, .nilck (.tmp 134), none⟩, ⟨some 136, .faddr 1 (.tmp 135), none⟩, ⟨some 137, .load false 1 (.tmp 136), none⟩, ⟨some 138, .mv (.tmp 6), none⟩, ⟨some 139, .iaddr 1 (.tmp 137) (.tmp 138), none⟩, ⟨some 140, .load false 1 (.tmp 139), none⟩, ⟨some 141, .nilck (.tmp 140), none⟩, ⟨some 142, .faddr 0 (.tmp 141), none⟩, ⟨some 143, .call 16 [.tmp 142], none⟩, ⟨some 133, .mv (.tmp 143), none⟩, ⟨some 144, .ext (.tmp 133) 0, none⟩, ⟨some 145, .ext (.tmp 133) 1, none⟩, ⟨some 18, .mv (.tmp 144), none⟩, ⟨some 19, .mv (.tmp 145), none⟩])
 (.seq (.dreg [⟨some 146, .mv (.tmp 18), none⟩, ⟨some 147, .mv (.tmp 7), none⟩, ⟨some 148, .mv (.tmp 15), none⟩, ⟨some 149, .bin .add .plain (.tmp 147) (.tmp 148), none⟩, ⟨some 150, .bin .add .plain (.tmp 149) (.con (.int .i64 1)), none⟩, ⟨some 151, .bin .lss .plain (.tmp 146) (.tmp 150), none⟩, ⟨some 152, .mv (.tmp 151), none⟩, ⟨some 153, .mv (.tmp 17), some (152, true)⟩, ⟨some 154, .un .not (.tmp 153), some (152, true)⟩, ⟨some 155, .mv (.tmp 154), some (152, true)⟩, ⟨some 156, .faddr 2 (.tmp 16), some (155, false)⟩, ⟨some 157, .load false 1 (.tmp 156), some (155, false)⟩, ⟨some 158, .bin .neq .plain (.tmp 157) (.con (.int .i64 1)), some (155, false)⟩, ⟨some 159, .pick (.tmp 155) (.con (.bool true)) (.tmp 158), some (152, true)⟩, ⟨some 160, .mv (.tmp 159), some (152, true)⟩, ⟨some 161, .faddr 3 (.tmp 16), some (160, false)⟩, ⟨some 162, .load false 1 (.tmp 161), some (160, false)⟩, ⟨some 163, .cvBS (.tmp 162), some (160, false)⟩, ⟨some 164, .mv (.tmp 8), some (160, false)⟩, ⟨some 165, .mv (.tmp 15), some (160, false)⟩, ⟨some 166, .iaddr 1 (.tmp 164) (.tmp 165), some (160, false)⟩, ⟨some 167, .load false 1 (.tmp 166), some (160, false)⟩, ⟨some 168, .bin .neq .plain (.tmp 163) (.tmp 167), some (160, false)⟩, ⟨some 169, .pick (.tmp 160) (.con (.bool true)) (.tmp 168), some (152, true)⟩, ⟨some 170, .pick (.tmp 152) (.tmp 169) (.con (.bool false)), none⟩] [] [0, 0, 0, 6, 14, 31, 63, 127, 255, 511, 1023, 2047, 4095, 8191, 16383, 32767, 65535, 131071, 32767, 32767, 819199, 1867775, 4194303, 8388607, 16777215] [])
 (.cond (.tmp 170)
 (.seq (.reg [⟨some 4, .mv (.con (.bool false)), none⟩])
 .ret)
 .skip)))))
 (.reg [⟨some 114, .mv (.tmp 15), none⟩, ⟨some 115, .bin .add .plain (.tmp 114) (.con (.int .i64 1)), none⟩, ⟨some 15, .mv (.tmp 115), none⟩]))))))
 (.seq (.seq (.reg [⟨some 171, .mv (.tmp 5), none⟩, ⟨some 172, .call 11 [.tmp 171, .con (.int .i64 60)], none⟩, ⟨some 173, .un .not (.tmp 172), none⟩, ⟨some 174, .mv (.tmp 173), none⟩, ⟨some 175, .mv (.tmp 5), some (174, false)⟩, ⟨some 176, .nilck (.tmp 175), some (174, false)⟩, ⟨some 177, .faddr 4 (.tmp 176), some (174, false)⟩, ⟨some 178, .load false 1 (.tmp 177), some (174, false)⟩, ⟨some 179, .lenL (.tmp 178), some (174, false)⟩, ⟨some 180, .mv (.tmp 7), some (174, false)⟩, ⟨some 181, .mv (.tmp 8), some (174, false)⟩, ⟨some 182, .lenL (.tmp 181), some (174, false)⟩, ⟨some 183, .bin .add .plain (.tmp 180) (.tmp 182), some (174, false)⟩, ⟨some 184, .bin .lss .plain (.tmp 179) (.tmp 183), some (174, false)⟩, ⟨some 185, .pick (.tmp 174) (.con (.bool true)) (.tmp 184), none⟩])
 (.cond (.tmp 185)
 (.seq (.reg [⟨some 4, .mv (.con (.bool false)), none⟩])
 .ret)
 .skip))
 (.seq (.seq (.reg [⟨some 20, .mv (.con (.int .i64 0)), none⟩])
 (.block 6
 (.loop (.seq (.seq (.reg [⟨some 186, .mv (.tmp 20), none⟩, ⟨some 187, .mv (.tmp 8), none⟩, ⟨some 188, .lenL (.tmp 187), none⟩, ⟨some 189, .bin .lss .plain (.tmp 186) (.tmp 188), none⟩])
 (.cond (.tmp 189)
 .skip
 (.exit 6)))
 (.seq (.block 7
 (.seq (.dreg [⟨some 192, .mv (.tmp 5), none⟩, ⟨some 193, .nilck (.tmp 192), none⟩, ⟨some 194, .faddr 4 (.tmp 193), none⟩, ⟨some 195, .load false 1 (.tmp 194), none⟩, ⟨some 196, .mv (.tmp 7), none⟩, ⟨some 197, .mv (.tmp 20), none⟩, ⟨some 198, .bin .add .plain (.tmp 196) (.tmp 197), none⟩, ⟨some 199, .iaddr 5 (.tmp 195) (.tmp 198), none⟩, ⟨some 200, .faddr 3 (.tmp 199), none⟩, ⟨some 201, .load false 1 (.tmp 200), none⟩, ⟨some 202, .cvBS (.tmp 201), none⟩, ⟨some 203, .mv (.tmp 8), none⟩, ⟨some 204, .mv (.tmp 20), none⟩, ⟨some 205, .iaddr 1 (.tmp 203) (.tmp 204), none⟩, ⟨some 206, .load false 1 (.tmp 205), none⟩, ⟨some 207, .bin .neq .plain (.tmp 202) (.tmp 206), none⟩] [] [0, 1, 3, 7, 0, 0, 48, 127, 255, 511, 1023, 0, 0, 6144, 14336, 32767] [])
 (.cond (.tmp 207)
 (.seq (.reg [⟨some 4, .mv (.con (.bool false)), none⟩])
 .ret)
 .skip)))
 (.reg [⟨some 190, .mv (.tmp 20), none⟩, ⟨some 191, .bin .add .plain (.tmp 190) (.con (.int .i64 1)), none⟩, ⟨some 20, .mv (.tmp 191), none⟩]))))))
 (.seq (.reg [⟨some 4, .mv (.con (.bool true)), none⟩])
 .ret)))))))))))))))
def ac3 : AFun := ⟨2, 208, ab3, [(.tmp 4)]⟩
theorem cf3 : compF Try.prog Try.f3 = some ac3 := by kernel_rfl
theorem cl3 : callable Try.prog 3 = true := by kernel_rfl
theorem fn3 : Try.prog.funcs[3]? = some Try.f3 := by kernel_rfl
/- chancel/chancellaw19.RaftMembers -/
def ab4 : ACode := (.seq (.reg [⟨some 4, .mv (.con (.bool false)), none⟩])
 (.seq (.seq (.reg [⟨some 29, .call 7 [], none⟩, ⟨some 30, .un .not (.tmp 29), none⟩])
 (.cond (.tmp 30)
 (.seq (.reg [⟨some 4, .mv (.con (.bool false)), none⟩])
 .ret)
 .skip))
 (.seq (.reg [⟨some 31, .bslice 1 3 [.int .i64 0] [(0, 1, .con (.int .i64 0)), (1, 1, .con (.int .i64 1)), (2, 1, .con (.int .i64 2))], none⟩, ⟨some 32, .call 9 [.con (.int .i64 5), .tmp 31], none⟩, ⟨some 5, .mv (.tmp 32), none⟩])
 (.seq (.seq (.reg [⟨some 33, .mv (.tmp 5), none⟩, ⟨some 34, .bin .eql .ptr (.tmp 33) (.con .nilp), none⟩, ⟨some 35, .mv (.tmp 34), none⟩, ⟨some 36, .mv (.tmp 5), some (35, false)⟩, ⟨some 37, .call 11 [.tmp 36, .con (.int .i64 100)], some (35, false)⟩, ⟨some 38, .un .not (.tmp 37), some (35, false)⟩, ⟨some 39, .pick (.tmp 35) (.con (.bool true)) (.tmp 38), none⟩])
 (.cond (.tmp 39)
 (.seq (.reg [⟨some 4, .mv (.con (.bool false)), none⟩])
 .ret)
 .skip))
 (.seq (.reg [⟨some 40, .bslice 1 3 [.int .i64 0] [(0, 1, .con (.int .i64 0)), (1, 1, .con (.int .i64 1)), (2, 1, .con (.int .i64 2))], none⟩, ⟨some 6, .mv (.tmp 40), none⟩])
 (.seq (.seq (.reg [⟨some 7, .mv (.con (.int .i64 0)), none⟩])
 (.block 0
 (.loop (.seq (.seq (.reg [⟨some 41, .mv (.tmp 7), none⟩, ⟨some 42, .mv (.tmp 0), none⟩, ⟨some 43, .lenL (.tmp 42), none⟩, ⟨some 44, .bin .lss .plain (.tmp 41) (.tmp 43), none⟩, ⟨some 45, .mv (.tmp 44), none⟩, ⟨some 46, .mv (.tmp 7), some (45, true)⟩, ⟨some 47, .bin .lss .plain (.tmp 46) (.con (.int .i64 4)), some (45, true)⟩, ⟨some 48, .pick (.tmp 45) (.tmp 47) (.con (.bool false)), none⟩])
 (.cond (.tmp 48)
 .skip
 (.exit 0)))
 (.seq (.block 1
 (.seq (.reg [⟨some 51, .mv (.tmp 5), none⟩, ⟨some 52, .call 12 [.tmp 51], none⟩, ⟨some 8, .mv (.tmp 52), none⟩])
 (.seq (.seq (.reg [⟨some 53, .mv (.tmp 8), none⟩, ⟨some 54, .bin .lss .plain (.tmp 53) (.con (.int .i64 0)), none⟩])
 (.cond (.tmp 54)
 (.seq (.reg [⟨some 4, .mv (.con (.bool false)), none⟩])
 .ret)
 .skip))
 (.seq (.seq (.reg [⟨some 9, .mv (.con (.int .i64 0)), none⟩])
 (.block 2
 (.loop (.seq (.seq (.reg [⟨some 55, .mv (.tmp 9), none⟩, ⟨some 56, .mv (.tmp 1), none⟩, ⟨some 57, .call 8 [.tmp 56, .con (.int .i64 4)], none⟩, ⟨some 58, .bin .lss .plain (.tmp 55) (.tmp 57), none⟩])
 (.cond (.tmp 58)
 .skip
 (.exit 2)))
 (.seq (.block 3
 (.seq (.reg [⟨some 62, .mv (.tmp 5), none⟩, ⟨some 63, .mv (.tmp 8), none⟩, ⟨some 64, .mv (.tmp 5), none⟩, ⟨some 65, .call 17 [.tmp 64], none⟩, ⟨some 66, .call 14 [.tmp 62, .tmp 63, .tmp 65], none⟩, ⟨some 61, .mv (.tmp 66), none⟩, ⟨some 67, .ext (.tmp 61) 0, none⟩, ⟨some 68, .ext (.tmp 61) 1, none⟩, ⟨some 69, .ext (.tmp 61) 2, none⟩, ⟨some 10, .mv (.tmp 67), none⟩, ⟨some 11, .mv (.tmp 68), none⟩, ⟨some 12, .mv (.tmp 69), none⟩])
 (.seq (.reg [⟨some 70, .mv (.tmp 11), none⟩, ⟨some 71, .bin .neq .plain (.tmp 70) (.con (.int .i64 0)), none⟩, ⟨some 72, .mv (.tmp 71), none⟩, ⟨some 73, .mv (.tmp 12), some (72, false)⟩, ⟨some 74, .un .not (.tmp 73), some (72, false)⟩, ⟨some 75, .pick (.tmp 72) (.con (.bool true)) (.tmp 74), none⟩])
 (.cond (.tmp 75)
 (.seq (.reg [⟨some 4, .mv (.con (.bool false)), none⟩])
 .ret)
 .skip))))
 (.reg [⟨some 59, .mv (.tmp 9), none⟩, ⟨some 60, .bin .add .plain (.tmp 59) (.con (.int .i64 1)), none⟩, ⟨some 9, .mv (.tmp 60), none⟩]))))))
 (.seq (.seq (.reg [⟨some 76, .mv (.tmp 5), none⟩, ⟨some 77, .call 11 [.tmp 76, .con (.int .i64 10)], none⟩, ⟨some 78, .un .not (.tmp 77), none⟩])
 (.cond (.tmp 78)
 (.seq (.reg [⟨some 4, .mv (.con (.bool false)), none⟩])
 .ret)
 .skip))
 (.seq (.reg [⟨some 79, .mv (.tmp 0), none⟩, ⟨some 80, .mv (.tmp 7), none⟩, ⟨some 81, .iaddr 1 (.tmp 79) (.tmp 80), none⟩, ⟨some 82, .load false 1 (.tmp 81), none⟩, ⟨some 83, .call 8 [.tmp 82, .con (.int .i64 5)], none⟩, ⟨some 13, .mv (.tmp 83), none⟩])
 (.seq (.reg [⟨some 14, .mv (.con .nils), none⟩])
 (.seq (.reg [⟨some 15, .mv (.con (.bool false)), none⟩])
 (.seq (.seq (.reg [⟨some 16, .mv (.con (.int .i64 0)), none⟩])
 (.block 4
 (.loop (.seq (.seq (.reg [⟨some 84, .mv (.tmp 16), none⟩, ⟨some 85, .bin .lss .plain (.tmp 84) (.con (.int .i64 5)), none⟩])
 (.cond (.tmp 85)
 .skip
 (.exit 4)))
 (.seq (.block 5
 (.seq (.reg [⟨some 17, .mv (.con (.bool false)), none⟩])
 (.seq (.seq (.reg [⟨some 18, .mv (.con (.int .i64 0)), none⟩])
 (.block 6
 (.loop (.seq (.seq (.reg [⟨some 88, .mv (.tmp 18), none⟩, ⟨some 89, .mv (.tmp 6), none⟩, ⟨some 90, .lenL (.tmp 89), none⟩, ⟨some 91, .bin .lss .plain (.tmp 88) (.tmp 90), none⟩])
 (.cond (.tmp 91)
 .skip
 (.exit 6)))
 (.seq (.block 7
 (.reg [⟨some 94, .mv (.tmp 17), none⟩, ⟨some 95, .mv (.tmp 94), none⟩, ⟨some 96, .mv (.tmp 6), some (95, false)⟩, ⟨some 97, .mv (.tmp 18), some (95, false)⟩, ⟨some 98, .iaddr 1 (.tmp 96) (.tmp 97), some (95, false)⟩, ⟨some 99, .load false 1 (.tmp 98), some (95, false)⟩, ⟨some 100, .mv (.tmp 16), some (95, false)⟩, ⟨some 101, .bin .eql .plain (.tmp 99) (.tmp 100), some (95, false)⟩, ⟨some 102, .pick (.tmp 95) (.con (.bool true)) (.tmp 101), none⟩, ⟨some 17, .mv (.tmp 102), none⟩]))
 (.reg [⟨some 92, .mv (.tmp 18), none⟩, ⟨some 93, .bin .add .plain (.tmp 92) (.con (.int .i64 1)), none⟩, ⟨some 18, .mv (.tmp 93), none⟩]))))))
 (.seq (.seq (.reg [⟨some 103, .mv (.tmp 16), none⟩, ⟨some 104, .mv (.tmp 13), none⟩, ⟨some 105, .bin .eql .plain (.tmp 103) (.tmp 104), none⟩])
 (.cond (.tmp 105)
 (.reg [⟨some 106, .mv (.tmp 17), none⟩, ⟨some 15, .mv (.tmp 106), none⟩])
 .skip))
 (.seq (.reg [⟨some 107, .mv (.tmp 17), none⟩, ⟨some 108, .mv (.tmp 16), none⟩, ⟨some 109, .mv (.tmp 13), none⟩, ⟨some 110, .bin .eql .plain (.tmp 108) (.tmp 109), none⟩, ⟨some 111, .bin .neq .bool (.tmp 107) (.tmp 110), none⟩])
 (.cond (.tmp 111)
 (.reg [⟨some 112, .mv (.tmp 14), none⟩, ⟨some 113, .mv (.tmp 16), none⟩, ⟨some 114, .bslice 1 1 [.int .i64 0] [(0, 1, .tmp 113)], none⟩, ⟨some 115, .append 1 8 (.tmp 112) (.tmp 114), none⟩, ⟨some 14, .mv (.tmp 115), none⟩])
 .skip))))))
 (.reg [⟨some 86, .mv (.tmp 16), none⟩, ⟨some 87, .bin .add .plain (.tmp 86) (.con (.int .i64 1)), none⟩, ⟨some 16, .mv (.tmp 87), none⟩]))))))
 (.seq (.seq (.reg [⟨some 116, .mv (.tmp 14), none⟩, ⟨some 117, .lenL (.tmp 116), none⟩, ⟨some 118, .bin .eql .plain (.tmp 117) (.con (.int .i64 0)), none⟩, ⟨some 119, .mv (.tmp 118), none⟩, ⟨some 120, .mv (.tmp 15), some (119, false)⟩, ⟨some 121, .mv (.tmp 120), some (119, false)⟩, ⟨some 122, .mv (.tmp 13), some (121, true)⟩, ⟨some 123, .mv (.tmp 8), some (121, true)⟩, ⟨some 124, .bin .eql .plain (.tmp 122) (.tmp 123), some (121, true)⟩, ⟨some 125, .pick (.tmp 121) (.tmp 124) (.con (.bool false)), some (119, false)⟩, ⟨some 126, .pick (.tmp 119) (.con (.bool true)) (.tmp 125), none⟩])
 (.cond (.tmp 126)
 (.exit 1)
 .skip))
 (.seq (.reg [⟨some 128, .mv (.tmp 5), none⟩, ⟨some 129, .nilck (.tmp 128), none⟩, ⟨some 130, .faddr 1 (.tmp 129), none⟩, ⟨some 131, .load false 1 (.tmp 130), none⟩, ⟨some 132, .mv (.tmp 8), none⟩, ⟨some 133, .iaddr 1 (.tmp 131) (.tmp 132), none⟩, ⟨some 134, .load false 1 (.tmp 133), none⟩, ⟨some 135, .mv (.tmp 14), none⟩, ⟨some 136, .call 18 [.tmp 134, .tmp 135], none⟩, ⟨some 127, .mv (.tmp 136), none⟩, ⟨some 137, .ext (.tmp 127) 0, none⟩, ⟨some 138, .ext (.tmp 127) 1, none⟩, ⟨some 19, .mv (.tmp 137), none⟩, ⟨some 20, .mv (.tmp 138), none⟩])
 (.seq (.seq (.reg [⟨some 139, .mv (.tmp 14), none⟩, ⟨some 140, .lenL (.tmp 139), none⟩, ⟨some 141, .bin .gtr .plain (.tmp 140) (.con (.int .i64 1)), none⟩])
 (.cond (.tmp 141)
 (.seq (.reg [⟨some 143, .mv (.tmp 5), none⟩, ⟨some 144, .nilck (.tmp 143), none⟩, ⟨some 145, .faddr 1 (.tmp 144), none⟩, ⟨some 146, .load false 1 (.tmp 145), none⟩, ⟨some 147, .mv (.tmp 8), none⟩, ⟨some 148, .iaddr 1 (.tmp 146) (.tmp 147), none⟩, ⟨some 149, .load false 1 (.tmp 148), none⟩, ⟨some 150, .mv (.tmp 6), none⟩, ⟨some 151, .call 18 [.tmp 149, .tmp 150], none⟩, ⟨some 142, .mv (.tmp 151), none⟩, ⟨some 152, .ext (.tmp 142) 0, none⟩, ⟨some 153, .ext (.tmp 142) 1, none⟩, ⟨some 21, .mv (.tmp 152), none⟩, ⟨some 22, .mv (.tmp 153), none⟩])
 (.seq (.dreg [⟨some 155, .mv (.tmp 5), none⟩, ⟨some 156, .nilck (.tmp 155), none⟩, ⟨some 157, .faddr 1 (.tmp 156), none⟩, ⟨some 158, .load false 1 (.tmp 157), none⟩, ⟨some 159, .mv (.tmp 8), none⟩, ⟨some 160, .iaddr 1 (.tmp 158) (.tmp 159), none⟩, ⟨some 161, .load false 1 (.tmp 160), none⟩, ⟨some 162, .call 10 [.con (.int .i64 5)], none⟩, ⟨some 163, .call 18 [.tmp 161, .tmp 162], none⟩, ⟨some 154, .mv (.tmp 163), none⟩, ⟨some 164, .ext (.tmp 154) 0, none⟩, ⟨some 165, .ext (.tmp 154) 1, none⟩, ⟨some 23, .mv (.tmp 164), none⟩, ⟨some 24, .mv (.tmp 165), none⟩] [7, 8] [0, 1, 3, 7, 0, 31, 63, 0, 255, 511, 1023, 1023, 2047, 8191] [])
 (.seq (.reg [⟨some 166, .mv (.tmp 22), none⟩, ⟨some 167, .bin .eql .plain (.tmp 166) (.con (.int .i64 0)), none⟩, ⟨some 168, .mv (.tmp 167), none⟩, ⟨some 169, .mv (.tmp 24), some (168, false)⟩, ⟨some 170, .bin .eql .plain (.tmp 169) (.con (.int .i64 0)), some (168, false)⟩, ⟨some 171, .pick (.tmp 168) (.con (.bool true)) (.tmp 170), none⟩])
 (.cond (.tmp 171)
 (.seq (.reg [⟨some 4, .mv (.con (.bool false)), none⟩])
 .ret)
 .skip))))
 .skip))
 (.seq (.seq (.reg [⟨some 172, .mv (.tmp 20), none⟩, ⟨some 173, .bin .neq .plain (.tmp 172) (.con (.int .i64 0)), none⟩, ⟨some 174, .mv (.tmp 173), none⟩, ⟨some 175, .mv (.tmp 5), some (174, false)⟩, ⟨some 176, .mv (.tmp 8), some (174, false)⟩, ⟨some 177, .call 19 [.tmp 175, .tmp 176], some (174, false)⟩, ⟨some 178, .un .not (.tmp 177), some (174, false)⟩, ⟨some 179, .pick (.tmp 174) (.con (.bool true)) (.tmp 178), none⟩, ⟨some 180, .mv (.tmp 179), none⟩, ⟨some 181, .mv (.tmp 5), some (180, false)⟩, ⟨some 182, .call 11 [.tmp 181, .con (.int .i64 100)], some (180, false)⟩, ⟨some 183, .un .not (.tmp 182), some (180, false)⟩, ⟨some 184, .pick (.tmp 180) (.con (.bool true)) (.tmp 183), none⟩])
 (.cond (.tmp 184)
 (.seq (.reg [⟨some 4, .mv (.con (.bool false)), none⟩])
 .ret)
 .skip))
 (.seq (.reg [⟨some 185, .mv (.tmp 14), none⟩, ⟨some 6, .mv (.tmp 185), none⟩])
 (.seq (.reg [⟨some 186, .mv (.tmp 5), none⟩, ⟨some 187, .call 12 [.tmp 186], none⟩, ⟨some 8, .mv (.tmp 187), none⟩])
 (.seq (.seq (.reg [⟨some 188, .mv (.tmp 8), none⟩, ⟨some 189, .bin .lss .plain (.tmp 188) (.con (.int .i64 0)), none⟩])
 (.cond (.tmp 189)
 (.seq (.reg [⟨some 4, .mv (.con (.bool false)), none⟩])
 .ret)
 .skip))
 (.seq (.reg [⟨some 25, .mv (.con (.int .i64 0)), none⟩])
 (.block 8
 (.loop (.seq (.seq (.reg [⟨some 190, .mv (.tmp 25), none⟩, ⟨some 191, .mv (.tmp 6), none⟩, ⟨some 192, .lenL (.tmp 191), none⟩, ⟨some 193, .bin .lss .plain (.tmp 190) (.tmp 192), none⟩])
 (.cond (.tmp 193)
 .skip
 (.exit 8)))
 (.seq (.block 9
 (.seq (.dreg [⟨some 196, .mv (.tmp 5), none⟩, ⟨some 197, .nilck (.tmp 196), none⟩, ⟨some 198, .faddr 1 (.tmp 197), none⟩, ⟨some 199, .load false 1 (.tmp 198), none⟩, ⟨some 200, .mv (.tmp 6), none⟩, ⟨some 201, .mv (.tmp 25), none⟩, ⟨some 202, .iaddr 1 (.tmp 200) (.tmp 201), none⟩, ⟨some 203, .load false 1 (.tmp 202), none⟩, ⟨some 204, .iaddr 1 (.tmp 199) (.tmp 203), none⟩, ⟨some 205, .load false 1 (.tmp 204), none⟩, ⟨some 26, .mv (.tmp 205), none⟩] [] [0, 1, 3, 7, 0, 0, 48, 112, 255, 511, 1023] [])
 (.seq (.reg [⟨some 206, .mv (.tmp 26), none⟩, ⟨some 207, .call 20 [.tmp 206], none⟩, ⟨some 27, .mv (.tmp 207), none⟩])
 (.seq (.seq (.dreg [⟨some 208, .mv (.tmp 26), none⟩, ⟨some 209, .call 21 [.tmp 208], none⟩, ⟨some 210, .mv (.tmp 5), none⟩, ⟨some 211, .nilck (.tmp 210), none⟩, ⟨some 212, .faddr 1 (.tmp 211), none⟩, ⟨some 213, .load false 1 (.tmp 212), none⟩, ⟨some 214, .mv (.tmp 8), none⟩, ⟨some 215, .iaddr 1 (.tmp 213) (.tmp 214), none⟩, ⟨some 216, .load false 1 (.tmp 215), none⟩, ⟨some 217, .call 21 [.tmp 216], none⟩, ⟨some 218, .bin .neq .plain (.tmp 209) (.tmp 217), none⟩, ⟨some 219, .mv (.tmp 218), none⟩, ⟨some 220, .mv (.tmp 27), some (219, false)⟩, ⟨some 221, .lenL (.tmp 220), some (219, false)⟩, ⟨some 222, .mv (.tmp 6), some (219, false)⟩, ⟨some 223, .lenL (.tmp 222), some (219, false)⟩, ⟨some 224, .bin .neq .plain (.tmp 221) (.tmp 223), some (219, false)⟩, ⟨some 225, .pick (.tmp 219) (.con (.bool true)) (.tmp 224), none⟩] [1, 9] [0, 1, 0, 4, 12, 28, 0, 124, 252, 511, 1023, 2047, 4095, 8191, 4095, 20479, 65535, 131071] [])
 (.cond (.tmp 225)
 (.seq (.reg [⟨some 4, .mv (.con (.bool false)), none⟩])
 .ret)
 .skip))
 (.seq (.reg [⟨some 28, .mv (.con (.int .i64 0)), none⟩])
 (.block 10
 (.loop (.seq (.seq (.reg [⟨some 226, .mv (.tmp 28), none⟩, ⟨some 227, .mv (.tmp 27), none⟩, ⟨some 228, .lenL (.tmp 227), none⟩, ⟨some 229, .bin .lss .plain (.tmp 226) (.tmp 228), none⟩])
 (.cond (.tmp 229)
 .skip
 (.exit 10)))
 (.seq (.block 11
 (.seq (.dreg [⟨some 232, .mv (.tmp 27), none⟩, ⟨some 233, .mv (.tmp 28), none⟩, ⟨some 234, .iaddr 1 (.tmp 232) (.tmp 233), none⟩, ⟨some 235, .load false 1 (.tmp 234), none⟩, ⟨some 236, .mv (.tmp 6), none⟩, ⟨some 237, .mv (.tmp 28), none⟩, ⟨some 238, .iaddr 1 (.tmp 236) (.tmp 237), none⟩, ⟨some 239, .load false 1 (.tmp 238), none⟩, ⟨some 240, .bin .neq .plain (.tmp 235) (.tmp 239), none⟩] [] [0, 0, 3, 7, 0, 0, 48, 112, 255] [])
 (.cond (.tmp 240)
 (.seq (.reg [⟨some 4, .mv (.con (.bool false)), none⟩])
 .ret)
 .skip)))
 (.reg [⟨some 230, .mv (.tmp 28), none⟩, ⟨some 231, .bin .add .plain (.tmp 230) (.con (.int .i64 1)), none⟩, ⟨some 28, .mv (.tmp 231), none⟩]))))))))))
 (.reg [⟨some 194, .mv (.tmp 25), none⟩, ⟨some 195, .bin .add .plain (.tmp 194) (.con (.int .i64 1)), none⟩, ⟨some 25, .mv (.tmp 195), none⟩]))))))))))))))))))))))
 (.reg [⟨some 49, .mv (.tmp 7), none⟩, ⟨some 50, .bin .add .plain (.tmp 49) (.con (.int .i64 1)), none⟩, ⟨some 7, .mv (.tmp 50), none⟩]))))))
 (.seq (.reg [⟨some 4, .mv (.con (.bool true)), none⟩])
 .ret)))))))
def ac4 : AFun := ⟨2, 241, ab4, [(.tmp 4)]⟩
theorem cf4 : compF Try.prog Try.f4 = some ac4 := by kernel_rfl
theorem cl4 : callable Try.prog 4 = true := by kernel_rfl
theorem fn4 : Try.prog.funcs[4]? = some Try.f4 := by kernel_rfl
/- chancel/chancellaw19.known -/
def ab7 : ACode := (.seq (.reg [⟨some 0, .mv (.con (.bool false)), none⟩])
 (.seq (.reg [⟨some 5, .bslice 1 1 [.int .i64 0] [(0, 1, .con (.int .i64 0))], none⟩, ⟨some 6, .call 9 [.con (.int .i64 1), .tmp 5], none⟩, ⟨some 1, .mv (.tmp 6), none⟩])
 (.seq (.seq (.reg [⟨some 7, .mv (.tmp 1), none⟩, ⟨some 8, .bin .eql .ptr (.tmp 7) (.con .nilp), none⟩, ⟨some 9, .mv (.tmp 8), none⟩, ⟨some 10, .mv (.tmp 1), some (9, false)⟩, ⟨some 11, .call 11 [.tmp 10, .con (.int .i64 20)], some (9, false)⟩, ⟨some 12, .un .not (.tmp 11), some (9, false)⟩, ⟨some 13, .pick (.tmp 9) (.con (.bool true)) (.tmp 12), none⟩, ⟨some 14, .mv (.tmp 13), none⟩, ⟨some 15, .mv (.tmp 1), some (14, false)⟩, ⟨some 16, .nilck (.tmp 15), some (14, false)⟩, ⟨some 17, .faddr 1 (.tmp 16), some (14, false)⟩, ⟨some 18, .load false 1 (.tmp 17), some (14, false)⟩, ⟨some 19, .iaddr 1 (.tmp 18) (.con (.int .i64 0)), some (14, false)⟩, ⟨some 20, .load false 1 (.tmp 19), some (14, false)⟩, ⟨some 21, .call 29 [.tmp 20], some (14, false)⟩, ⟨some 22, .bin .neq .plain (.tmp 21) (.con (.int .i64 2)), some (14, false)⟩, ⟨some 23, .pick (.tmp 14) (.con (.bool true)) (.tmp 22), none⟩])
 (.cond (.tmp 23)
 (.seq (.reg [⟨some 0, .mv (.con (.bool false)), none⟩])
 .ret)
 .skip))
 (.seq (.reg [⟨some 25, .mv (.tmp 1), none⟩, ⟨some 26, .mv (.tmp 1), none⟩, ⟨some 27, .call 17 [.tmp 26], none⟩, ⟨some 28, .call 14 [.tmp 25, .con (.int .i64 0), .tmp 27], none⟩, ⟨some 24, .mv (.tmp 28), none⟩, ⟨some 29, .ext (.tmp 24) 0, none⟩, ⟨some 30, .ext (.tmp 24) 1, none⟩, ⟨some 31, .ext (.tmp 24) 2, none⟩, ⟨some 2, .mv (.tmp 29), none⟩, ⟨some 3, .mv (.tmp 30), none⟩, ⟨some 4, .mv (.tmp 31), none⟩])
 (.seq (.reg [⟨some 32, .mv (.tmp 3), none⟩, ⟨some 33, .bin .eql .plain (.tmp 32) (.con (.int .i64 0)), none⟩, ⟨some 34, .mv (.tmp 33), none⟩, ⟨some 35, .mv (.tmp 4), some (34, true)⟩, ⟨some 36, .pick (.tmp 34) (.tmp 35) (.con (.bool false)), none⟩, ⟨some 37, .mv (.tmp 36), none⟩, ⟨some 38, .mv (.tmp 1), some (37, true)⟩, ⟨some 39, .nilck (.tmp 38), some (37, true)⟩, ⟨some 40, .faddr 1 (.tmp 39), some (37, true)⟩, ⟨some 41, .load false 1 (.tmp 40), some (37, true)⟩, ⟨some 42, .iaddr 1 (.tmp 41) (.con (.int .i64 0)), some (37, true)⟩, ⟨some 43, .load false 1 (.tmp 42), some (37, true)⟩, ⟨some 44, .call 21 [.tmp 43], some (37, true)⟩, ⟨some 45, .mv (.tmp 2), some (37, true)⟩, ⟨some 46, .bin .eql .plain (.tmp 44) (.tmp 45), some (37, true)⟩, ⟨some 47, .pick (.tmp 37) (.tmp 46) (.con (.bool false)), none⟩, ⟨some 48, .mv (.tmp 47), none⟩, ⟨some 49, .mv (.tmp 1), some (48, true)⟩, ⟨some 50, .call 28 [.tmp 49, .con (.int .i64 0)], some (48, true)⟩, ⟨some 51, .pick (.tmp 48) (.tmp 50) (.con (.bool false)), none⟩, ⟨some 52, .mv (.tmp 51), none⟩, ⟨some 53, .mv (.tmp 1), some (52, true)⟩, ⟨some 54, .nilck (.tmp 53), some (52, true)⟩, ⟨some 55, .faddr 409 (.tmp 54), some (52, true)⟩, ⟨some 56, .load false 1 (.tmp 55), some (52, true)⟩, ⟨some 57, .bin .eql .plain (.tmp 56) (.con (.int .i64 1)), some (52, true)⟩, ⟨some 58, .pick (.tmp 52) (.tmp 57) (.con (.bool false)), none⟩, ⟨some 0, .mv (.tmp 58), none⟩])
 .ret)))))
def ac7 : AFun := ⟨0, 59, ab7, [(.tmp 0)]⟩
theorem cf7 : compF Try.prog Try.f7 = some ac7 := by kernel_rfl
theorem cl7 : callable Try.prog 7 = true := by kernel_rfl
theorem fn7 : Try.prog.funcs[7]? = some Try.f7 := by kernel_rfl
/- chancel/chancellaw19.within -/
def ab8 : ACode := (.seq (.reg [⟨some 4, .mv (.con (.int .i64 0)), none⟩])
 (.seq (.reg [⟨some 6, .mv (.tmp 0), none⟩, ⟨some 7, .mv (.tmp 1), none⟩, ⟨some 8, .bin .rem .plain (.tmp 6) (.tmp 7), none⟩, ⟨some 5, .mv (.tmp 8), none⟩])
 (.seq (.seq (.reg [⟨some 9, .mv (.tmp 5), none⟩, ⟨some 10, .bin .lss .plain (.tmp 9) (.con (.int .i64 0)), none⟩])
 (.cond (.tmp 10)
 (.reg [⟨some 11, .mv (.tmp 5), none⟩, ⟨some 12, .mv (.tmp 1), none⟩, ⟨some 13, .bin .add .plain (.tmp 11) (.tmp 12), none⟩, ⟨some 5, .mv (.tmp 13), none⟩])
 .skip))
 (.seq (.reg [⟨some 14, .mv (.tmp 5), none⟩, ⟨some 4, .mv (.tmp 14), none⟩])
 .ret))))
def ac8 : AFun := ⟨2, 15, ab8, [(.tmp 4)]⟩
theorem cf8 : compF Try.prog Try.f8 = some ac8 := by kernel_rfl
theorem cl8 : callable Try.prog 8 = true := by kernel_rfl
theorem fn8 : Try.prog.funcs[8]? = some Try.f8 := by kernel_rfl
/- chancel/chancellaw19.NewGroup -/
def ab9 : ACode := (.seq (.reg [⟨some 4, .mv (.con .nilp), none⟩])
 (.seq (.reg [⟨some 9, .mv (.tmp 0), none⟩, ⟨some 10, .build [.int .i64 0, .nils, .nils, .nils, .nils, .nils, .nils, .int .i64 0, .int .i64 0, .int .i64 0, .int .i64 0, .int .i64 0, .int .i64 0, .int .i64 0, .int .i64 0, .int .i64 0, .int .i64 0, .int .i64 0, .int .i64 0, .int .i64 0, .int .i64 0, .int .i64 0, .int .i64 0, .int .i64 0, .int .i64 0, .int .i64 0, .int .i64 0, .int .i64 0, .int .i64 0, .int .i64 0, .int .i64 0, .int .i64 0, .int .i64 0, .int .i64 0, .int .i64 0, .int .i64 0, .int .i64 0, .int .i64 0, .int .i64 0, .int .i64 0, .int .i64 0, .int .i64 0, .int .i64 0, .int .i64 0, .int .i64 0, .int .i64 0, .int .i64 0, .int .i64 0, .int .i64 0, .int .i64 0, .int .i64 0, .int .i64 0, .int .i64 0, .int .i64 0, .int .i64 0, .int .i64 0, .int .i64 0, .int .i64 0, .int .i64 0, .int .i64 0, .int .i64 0, .int .i64 0, .int .i64 0, .int .i64 0, .int .i64 0, .int .i64 0, .int .i64 0, .int .i64 0, .int .i64 0, .int .i64 0, .int .i64 0, .int .i64 0, .int .i64 0, .int .i64 0, .int .i64 0, .int .i64 0, .int .i64 0, .int .i64 0, .int .i64 0, .int .i64 0, .int .i64 0, .int .i64 0, .int .i64 0, .int .i64 0, .int .i64 0, .int .i64 0, .int .i64 0, .int .i64 0, .int .i64 0, .int .i64 0, .int .i64 0, .int .i64 0, .int .i64 0, .int .i64 0, .int .i64 0, .int .i64 0, .int .i64 0, .int .i64 0, .int .i64 0, .int .i64 0, .int .i64 0, .int .i64 0, .int .i64 0, .int .i64 0, .int .i64 0, .int .i64 0, .int .i64 0, .int .i64 0, .int .i64 0, .int .i64 0, .int .i64 0, .int .i64 0, .int .i64 0, .int .i64 0, .int .i64 0, .int .i64 0, .int .i64 0, .int .i64 0, .int .i64 0, .int .i64 0, .int .i64 0, .int .i64 0, .int .i64 0, .int .i64 0, .int .i64 0, .int .i64 0, .int .i64 0, .int .i64 0, .int .i64 0, .int .i64 0, .int .i64 0, .int .i64 0, .int .i64 0, .int .i64 0, .int .i64 0, .int .i64 0, .int .i64 0, .int .i64 0, .int .i64 0, .int .i64 0, .int .i64 0, .int .i64 0, .int .i64 0, .int .i64 0, .int .i64 0, .int .i64 0, .int .i64 0, .int .i64 0, .int .i64 0, .int .i64 0, .int .i64 0, .int .i64 0, .int .i64 0, .int .i64 0, .int .i64 0, .int .i64 0, .int .i64 0, .int .i64 0, .int .i64 0, .int .i64 0, .int .i64 0, .int .i64 0, .int .i64 0, .int .i64 0, .int .i64 0, .int .i64 0, .int .i64 0, .int .i64 0, .int .i64 0, .int .i64 0, .int .i64 0, .int .i64 0, .int .i64 0, .int .i64 0, .int .i64 0, .int .i64 0, .int .i64 0, .int .i64 0, .int .i64 0, .int .i64 0, .int .i64 0, .int .i64 0, .int .i64 0, .int .i64 0, .int .i64 0, .int .i64 0, .int .i64 0, .int .i64 0, .int .i64 0, .int .i64 0, .int .i64 0, .int .i64 0, .int .i64 0, .int .i64 0, .int .i64 0, .int .i64 0, .int .i64 0, .int .i64 0, .int .i64 0, .int .i64 0, .int .i64 0, .int .i64 0, .int .i64 0, .int .i64 0, .int .i64 0, .int .i64 0, .int .i64 0, .int .i64 0, .int .i64 0, .int .i64 0, .int .i64 0, .int .i64 0, .int .i64 0, .int .i64 0, .int .i64 0, .int .i64 0, .int .i64 0, .int .i64 0, .int .i64 0, .int .i64 0, .int .i64 0, .int .i64 0, .int .i64 0, .int .i64 0, .int .i64 0, .int .i64 0, .int .i64 0, .int .i64 0, .int .i64 0, .int .i64 0, .int .i64 0, .int .i64 0, .int .i64 0, .int .i64 0, .int .i64 0, .int .i64 0, .int .i64 0, .int .i64 0, .int .i64 0, .int .i64 0, .int .i64 0, .int .i64 0, .int .i64 0, .int .i64 0, .int .i64 0, .int .i64 0, .int .i64 0, .int .i64 0, .int .i64 0, .int .i64 0, .int .i64 0, .int .i64 0, .int .i64 0, .int .i64 0, .int .i64 0, .int .i64 0, .int .i64 0, .int .i64 0, .int .i64 0, .int .i64 0, .int .i64 0, .int .i64 0, .int .i64 0, .int .i64 0, .int .i64 0, .int .i64 0, .int .i64 0, .int .i64 0, .int .i64 0, .int .i64 0, .int .i64 0, .int .i64 0, .int .i64 0, .int .i64 0, .int .i64 0, .int .i64 0, .int .i64 0, .int .i64 0, .int .i64 0, .int .i64 0, .int .i64 0, .int .i64 0, .int .i64 0, .int .i64 0, .int .i64 0, .int .i64 0, .int .i64 0, .int .i64 0, .int .i64 0, .int .i64 0, .int .i64 0, .int .i64 0, .int .i64 0, .int .i64 0, .int .i64 0, .int .i64 0, .int .i64 0, .int .i64 0, .int .i64 0, .int .i64 0, .int .i64 0, .int .i64 0, .int .i64 0, .int .i64 0, .int .i64 0, .int .i64 0, .int .i64 0, .int .i64 0, .int .i64 0, .int .i64 0, .int .i64 0, .int .i64 0, .int .i64 0, .int .i64 0, .int .i64 0, .int .i64 0, .int .i64 0, .int .i64 0, .int .i64 0, .int .i64 0, .int .i64 0, .int .i64 0, .int .i64 0, .int .i64 0, .int .i64 0, .int .i64 0, .int .i64 0, .int .i64 0, .int .i64 0, .int .i64 0, .int .i64 0, .int .i64 0, .int .i64 0, .int .i64 0, .int .i64 0, .int .i64 0, .int .i64 0, .int .i64 0, .int .i64 0, .int .i64 0, .int .i64 0, .int .i64 0, .int .i64 0, .int .i64 0, .int .i64 0, .int .i64 0, .int .i64 0, .int .i64 0, .int .i64 0, .int .i64 0, .int .i64 0, .int .i64 0, .int .i64 0, .int .i64 0, .int .i64 0, .int .i64 0, .int .i64 0, .int .i64 0, .int .i64 0, .int .i64 0, .int .i64 0, .int .i64 0, .int .i64 0, .int .i64 0, .int .i64 0, .int .i64 0, .int .i64 0, .int .i64 0, .int .i64 0, .int .i64 0, .int .i64 0, .int .i64 0, .int .i64 0, .int .i64 0, .int .i64 0, .int .i64 0, .int .i64 0, .int .i64 0, .int .i64 0, .int .i64 0, .int .i64 0, .int .i64 0, .int .i64 0, .int .i64 0, .int .i64 0, .int .i64 0, .int .i64 0, .int .i64 0, .int .i64 0, .int .i64 0, .int .i64 0, .int .i64 0, .int .i64 0, .int .i64 0, .int .i64 0, .int .i64 0, .int .i64 0, .int .i64 0, .int .i64 0, .int .i64 0, .int .i64 0, .int .i64 0, .int .i64 0, .int .i64 0, .int .i64 0, .int .i64 0, .int .i64 0, .nils, .int .i64 0, .int .i64 0] [(0, 1, .tmp 9)], none⟩, ⟨some 11, .box (.tmp 10), none⟩, ⟨some 5, .mv (.tmp 11), none⟩])
 (.seq (.seq (.reg [⟨some 6, .mv (.con (.int .i64 0)), none⟩])
 (.block 0
 (.loop (.seq (.seq (.reg [⟨some 12, .mv (.tmp 6), none⟩, ⟨some 13, .mv (.tmp 0), none⟩, ⟨some 14, .bin .lss .plain (.tmp 12) (.tmp 13), none⟩])
 (.cond (.tmp 14)
 .skip
 (.exit 0)))
 (.seq (.block 1
 (.seq (.reg [⟨some 18, .mv (.tmp 6), none⟩, ⟨some 19, .mv (.tmp 1), none⟩, ⟨some 20, .call 22 [.tmp 18, .tmp 19], none⟩, ⟨some 17, .mv (.tmp 20), none⟩, ⟨some 21, .ext (.tmp 17) 0, none⟩, ⟨some 22, .ext (.tmp 17) 1, none⟩, ⟨some 7, .mv (.tmp 21), none⟩, ⟨some 8, .mv (.tmp 22), none⟩])
 (.seq (.seq (.reg [⟨some 23, .mv (.tmp 8), none⟩, ⟨some 24, .bin .neq .plain (.tmp 23) (.con (.int .i64 0)), none⟩, ⟨some 25, .mv (.tmp 24), none⟩, ⟨some 26, .mv (.tmp 7), some (25, false)⟩, ⟨some 27, .bin .eql .ptr (.tmp 26) (.con .nilp), some (25, false)⟩, ⟨some 28, .pick (.tmp 25) (.con (.bool true)) (.tmp 27), none⟩])
 (.cond (.tmp 28)
 (.seq (.reg [⟨some 4, .mv (.con .nilp), none⟩])
 .ret)
 .skip))
 (.seq (.reg [⟨some 29, .mv (.tmp 5), none⟩, ⟨some 30, .mv (.tmp 5), none⟩, ⟨some 31, .nilck (.tmp 30), none⟩, ⟨some 32, .faddr 1 (.tmp 31), none⟩, ⟨some 33, .load false 1 (.tmp 32), none⟩, ⟨some 34, .mv (.tmp 7), none⟩, ⟨some 35, .bslice 1 1 [.nilp] [(0, 1, .tmp 34)], none⟩, ⟨some 36, .append 1 8 (.tmp 33) (.tmp 35), none⟩, ⟨some 37, .nilck (.tmp 29), none⟩, ⟨some 38, .faddr 1 (.tmp 37), none⟩, ⟨none, .store 1 (.tmp 38) (.tmp 36), none⟩])
 (.seq (.dreg [⟨some 39, .mv (.tmp 5), none⟩, ⟨some 40, .mv (.tmp 5), none⟩, ⟨some 41, .nilck (.tmp 40), none⟩, ⟨some 42, .faddr 2 (.tmp 41), none⟩, ⟨some 43, .load false 1 (.tmp 42), none⟩, ⟨some 44, .mv (.tmp 7), none⟩, ⟨some 45, .call 30 [.tmp 44], none⟩, ⟨some 46, .bslice 1 1 [.nils] [(0, 1, .tmp 45)], none⟩, ⟨some 47, .append 1 24 (.tmp 43) (.tmp 46), none⟩, ⟨some 48, .nilck (.tmp 39), none⟩, ⟨some 49, .faddr 2 (.tmp 48), none⟩, ⟨none, .store 1 (.tmp 49) (.tmp 47), none⟩] [6, 7, 8, 11] [0, 0, 2, 6, 14, 0, 32, 96, 254, 511, 1023, 2047] [])
 (.seq (.reg [⟨some 50, .mv (.tmp 5), none⟩, ⟨some 51, .mv (.tmp 5), none⟩, ⟨some 52, .nilck (.tmp 51), none⟩, ⟨some 53, .faddr 5 (.tmp 52), none⟩, ⟨some 54, .load false 1 (.tmp 53), none⟩, ⟨some 55, .bslice 1 1 [.int .i64 0] [(0, 1, .con (.int .i64 0))], none⟩, ⟨some 56, .append 1 8 (.tmp 54) (.tmp 55), none⟩, ⟨some 57, .nilck (.tmp 50), none⟩, ⟨some 58, .faddr 5 (.tmp 57), none⟩, ⟨none, .store 1 (.tmp 58) (.tmp 56), none⟩])
 (.seq (.reg [⟨some 59, .mv (.tmp 5), none⟩, ⟨some 60, .mv (.tmp 5), none⟩, ⟨some 61, .nilck (.tmp 60), none⟩, ⟨some 62, .faddr 6 (.tmp 61), none⟩, ⟨some 63, .load false 1 (.tmp 62), none⟩, ⟨some 64, .bslice 1 1 [.int .i64 0] [(0, 1, .con (.int .i64 0))], none⟩, ⟨some 65, .append 1 8 (.tmp 63) (.tmp 64), none⟩, ⟨some 66, .nilck (.tmp 59), none⟩, ⟨some 67, .faddr 6 (.tmp 66), none⟩, ⟨none, .store 1 (.tmp 67) (.tmp 65), none⟩])
 (.reg [⟨some 68, .mv (.tmp 5), none⟩, ⟨some 69, .mv (.tmp 5), none⟩, ⟨some 70, .nilck (.tmp 69), none⟩, ⟨some 71, .faddr 407 (.tmp 70), none⟩, ⟨some 72, .load false 1 (.tmp 71), none⟩, ⟨some 73, .bslice 1 1 [.nils] [(0, 1, .con .nils)], none⟩, ⟨some 74, .append 1 24 (.tmp 72) (.tmp 73), none⟩, ⟨some 75, .nilck (.tmp 68), none⟩, ⟨some 76, .faddr 407 (.tmp 75), none⟩, ⟨none, .store 1 (.tmp 76) (.tmp 74), none⟩]))))))))
 (.reg [⟨some 15, .mv (.tmp 6), none⟩, ⟨some 16, .bin .add .plain (.tmp 15) (.con (.int .i64 1)), none⟩, ⟨some 6, .mv (.tmp 16), none⟩]))))))
 (.seq (.reg [⟨some 77, .mv (.tmp 5), none⟩, ⟨some 4, .mv (.tmp 77), none⟩])
 .ret))))
def ac9 : AFun := ⟨2, 78, ab9, [(.tmp 4)]⟩
theorem cf9 : compF Try.prog Try.f9 = some ac9 := by kernel_rfl
theorem cl9 : callable Try.prog 9 = true := by kernel_rfl
theorem fn9 : Try.prog.funcs[9]? = some Try.f9 := by kernel_rfl
/- chancel/chancellaw19.first -/
def ab10 : ACode := (.seq (.reg [⟨some 2, .mv (.con .nils), none⟩])
 (.seq (.reg [⟨some 3, .mv (.con .nils), none⟩])
 (.seq (.seq (.reg [⟨some 4, .mv (.con (.int .i64 0)), none⟩])
 (.block 0
 (.loop (.seq (.seq (.reg [⟨some 5, .mv (.tmp 4), none⟩, ⟨some 6, .mv (.tmp 0), none⟩, ⟨some 7, .bin .lss .plain (.tmp 5) (.tmp 6), none⟩])
 (.cond (.tmp 7)
 .skip
 (.exit 0)))
 (.seq (.block 1
 (.reg [⟨some 10, .mv (.tmp 3), none⟩, ⟨some 11, .mv (.tmp 4), none⟩, ⟨some 12, .bslice 1 1 [.int .i64 0] [(0, 1, .tmp 11)], none⟩, ⟨some 13, .append 1 8 (.tmp 10) (.tmp 12), none⟩, ⟨some 3, .mv (.tmp 13), none⟩]))
 (.reg [⟨some 8, .mv (.tmp 4), none⟩, ⟨some 9, .bin .add .plain (.tmp 8) (.con (.int .i64 1)), none⟩, ⟨some 4, .mv (.tmp 9), none⟩]))))))
 (.seq (.reg [⟨some 14, .mv (.tmp 3), none⟩, ⟨some 2, .mv (.tmp 14), none⟩])
 .ret))))
def ac10 : AFun := ⟨1, 15, ab10, [(.tmp 2)]⟩
theorem cf10 : compF Try.prog Try.f10 = some ac10 := by kernel_rfl
theorem cl10 : callable Try.prog 10 = true := by kernel_rfl
theorem fn10 : Try.prog.funcs[10]? = some Try.f10 := by kernel_rfl
/- (*chancel/chancellaw19.Group).rounds -/
def ab11 : ACode := (.seq (.reg [⟨some 4, .mv (.con (.bool false)), none⟩])
 (.seq (.seq (.reg [⟨some 5, .mv (.con (.int .i64 0)), none⟩])
 (.block 0
 (.loop (.seq (.seq (.reg [⟨some 6, .mv (.tmp 5), none⟩, ⟨some 7, .mv (.tmp 1), none⟩, ⟨some 8, .bin .lss .plain (.tmp 6) (.tmp 7), none⟩])
 (.cond (.tmp 8)
 .skip
 (.exit 0)))
 (.seq (.block 1
 (.seq (.reg [⟨some 11, .mv (.tmp 0), none⟩, ⟨some 12, .call 31 [.tmp 11], none⟩, ⟨some 13, .un .not (.tmp 12), none⟩])
 (.cond (.tmp 13)
 (.seq (.reg [⟨some 4, .mv (.con (.bool false)), none⟩])
 .ret)
 .skip)))
 (.reg [⟨some 9, .mv (.tmp 5), none⟩, ⟨some 10, .bin .add .plain (.tmp 9) (.con (.int .i64 1)), none⟩, ⟨some 5, .mv (.tmp 10), none⟩]))))))
 (.seq (.reg [⟨some 4, .mv (.con (.bool true)), none⟩])
 .ret)))
def ac11 : AFun := ⟨2, 14, ab11, [(.tmp 4)]⟩
theorem cf11 : compF Try.prog Try.f11 = some ac11 := by kernel_rfl
theorem cl11 : callable Try.prog 11 = true := by kernel_rfl
theorem fn11 : Try.prog.funcs[11]? = some Try.f11 := by kernel_rfl
/- (*chancel/chancellaw19.Group).leader -/
def ab12 : ACode := (.seq (.reg [⟨some 2, .mv (.con (.int .i64 0)), none⟩])
 (.seq (.reg [⟨some 3, .mv (.con (.int .i64 (-1))), none⟩])
 (.seq (.seq (.reg [⟨some 4, .mv (.con (.int .i64 0)), none⟩])
 (.block 0
 (.loop (.seq (.seq (.reg [⟨some 5, .mv (.tmp 4), none⟩, ⟨some 6, .mv (.tmp 0), none⟩, ⟨some 7, .nilck (.tmp 6), none⟩, ⟨some 8, .faddr 0 (.tmp 7), none⟩, ⟨some 9, .load false 1 (.tmp 8), none⟩, ⟨some 10, .bin .lss .plain (.tmp 5) (.tmp 9), none⟩])
 (.cond (.tmp 10)
 .skip
 (.exit 0)))
 (.seq (.block 1
 (.seq (.reg [⟨some 13, .mv (.tmp 0), none⟩, ⟨some 14, .nilck (.tmp 13), none⟩, ⟨some 15, .faddr 1 (.tmp 14), none⟩, ⟨some 16, .load false 1 (.tmp 15), none⟩, ⟨some 17, .mv (.tmp 4), none⟩, ⟨some 18, .iaddr 1 (.tmp 16) (.tmp 17), none⟩, ⟨some 19, .load false 1 (.tmp 18), none⟩, ⟨some 20, .call 29 [.tmp 19], none⟩, ⟨some 21, .bin .eql .plain (.tmp 20) (.con (.int .i64 2)), none⟩])
 (.cond (.tmp 21)
 (.seq (.seq (.reg [⟨some 22, .mv (.tmp 3), none⟩, ⟨some 23, .bin .geq .plain (.tmp 22) (.con (.int .i64 0)), none⟩])
 (.cond (.tmp 23)
 (.seq (.reg [⟨some 2, .mv (.con (.int .i64 (-1))), none⟩])
 .ret)
 .skip))
 (.reg [⟨some 24, .mv (.tmp 4), none⟩, ⟨some 3, .mv (.tmp 24), none⟩]))
 .skip)))
 (.reg [⟨some 11, .mv (.tmp 4), none⟩, ⟨some 12, .bin .add .plain (.tmp 11) (.con (.int .i64 1)), none⟩, ⟨some 4, .mv (.tmp 12), none⟩]))))))
 (.seq (.reg [⟨some 25, .mv (.tmp 3), none⟩, ⟨some 2, .mv (.tmp 25), none⟩])
 .ret))))
def ac12 : AFun := ⟨1, 26, ab12, [(.tmp 2)]⟩
theorem cf12 : compF Try.prog Try.f12 = some ac12 := by kernel_rfl
theorem cl12 : callable Try.prog 12 = true := by kernel_rfl
theorem fn12 : Try.prog.funcs[12]? = some Try.f12 := by kernel_rfl
/- (*chancel/raft.log).Last -/
def ab13 : ACode := (.seq (.reg [⟨some 2, .mv (.con (.int .i64 0)), none⟩])
 (.seq (.dreg [⟨some 3, .mv (.tmp 0), none⟩, ⟨some 4, .nilck (.tmp 3), none⟩, ⟨some 5, .faddr 0 (.tmp 4), none⟩, ⟨some 6, .faddr 0 (.tmp 5), none⟩, ⟨some 7, .load false 1 (.tmp 6), none⟩, ⟨some 8, .mv (.tmp 0), none⟩, ⟨some 9, .nilck (.tmp 8), none⟩, ⟨some 10, .faddr 4 (.tmp 9), none⟩, ⟨some 11, .load false 1 (.tmp 10), none⟩, ⟨some 12, .lenL (.tmp 11), none⟩, ⟨some 13, .bin .add .plain (.tmp 7) (.tmp 12), none⟩, ⟨some 2, .mv (.tmp 13), none⟩] [] [0, 1, 3, 7, 15, 0, 32, 96, 224, 480, 1023, 2047] [])
 .ret))
def ac13 : AFun := ⟨1, 14, ab13, [(.tmp 2)]⟩
theorem cf13 : compF Try.prog Try.f13 = some ac13 := by kernel_rfl
theorem cl13 : callable Try.prog 13 = true := by kernel_rfl
theorem fn13 : Try.prog.funcs[13]? = some Try.f13 := by kernel_rfl
/- (*chancel/chancellaw19.Group).propose -/
def ab14 : ACode := (.seq (.reg [⟨some 6, .mv (.con (.int .i64 0)), none⟩, ⟨some 7, .mv (.con (.int .i64 0)), none⟩, ⟨some 8, .mv (.con (.bool false)), none⟩])
 (.seq (.reg [⟨some 13, .mv (.tmp 0), none⟩, ⟨some 14, .nilck (.tmp 13), none⟩, ⟨some 15, .faddr 1 (.tmp 14), none⟩, ⟨some 16, .load false 1 (.tmp 15), none⟩, ⟨some 17, .mv (.tmp 1), none⟩, ⟨some 18, .iaddr 1 (.tmp 16) (.tmp 17), none⟩, ⟨some 19, .load false 1 (.tmp 18), none⟩, ⟨some 20, .call 29 [.tmp 19], none⟩, ⟨some 21, .bin .eql .plain (.tmp 20) (.con (.int .i64 2)), none⟩, ⟨some 9, .mv (.tmp 21), none⟩])
 (.seq (.reg [⟨some 22, .mv (.tmp 0), none⟩, ⟨some 23, .nilck (.tmp 22), none⟩, ⟨some 24, .faddr 1 (.tmp 23), none⟩, ⟨some 25, .load false 1 (.tmp 24), none⟩, ⟨some 26, .mv (.tmp 1), none⟩, ⟨some 27, .iaddr 1 (.tmp 25) (.tmp 26), none⟩, ⟨some 28, .load false 1 (.tmp 27), none⟩, ⟨some 29, .nilck (.tmp 28), none⟩, ⟨some 30, .faddr 0 (.tmp 29), none⟩, ⟨some 31, .call 13 [.tmp 30], none⟩, ⟨some 10, .mv (.tmp 31), none⟩])
 (.seq (.reg [⟨some 33, .mv (.tmp 0), none⟩, ⟨some 34, .nilck (.tmp 33), none⟩, ⟨some 35, .faddr 1 (.tmp 34), none⟩, ⟨some 36, .load false 1 (.tmp 35), none⟩, ⟨some 37, .mv (.tmp 1), none⟩, ⟨some 38, .iaddr 1 (.tmp 36) (.tmp 37), none⟩, ⟨some 39, .load false 1 (.tmp 38), none⟩, ⟨some 40, .mv (.tmp 2), none⟩, ⟨some 41, .call 23 [.tmp 39, .tmp 40], none⟩, ⟨some 32, .mv (.tmp 41), none⟩, ⟨some 42, .ext (.tmp 32) 0, none⟩, ⟨some 43, .ext (.tmp 32) 1, none⟩, ⟨some 11, .mv (.tmp 42), none⟩, ⟨some 12, .mv (.tmp 43), none⟩])
 (.seq (.seq (.reg [⟨some 44, .mv (.tmp 12), none⟩, ⟨some 45, .bin .eql .plain (.tmp 44) (.con (.int .i64 0)), none⟩, ⟨some 46, .mv (.tmp 45), none⟩, ⟨some 47, .mv (.tmp 9), some (46, true)⟩, ⟨some 48, .un .not (.tmp 47), some (46, true)⟩, ⟨some 49, .mv (.tmp 48), some (46, true)⟩, ⟨some 50, .mv (.tmp 11), some (49, false)⟩, ⟨some 51, .mv (.tmp 10), some (49, false)⟩, ⟨some 52, .bin .leq .plain (.tmp 50) (.tmp 51), some (49, false)⟩, ⟨some 53, .pick (.tmp 49) (.con (.bool true)) (.tmp 52), some (46, true)⟩, ⟨some 54, .pick (.tmp 46) (.tmp 53) (.con (.bool false)), none⟩, ⟨some 55, .mv (.tmp 54), none⟩, ⟨some 56, .mv (.tmp 12), some (55, false)⟩, ⟨some 57, .bin .neq .plain (.tmp 56) (.con (.int .i64 0)), some (55, false)⟩, ⟨some 58, .mv (.tmp 57), some (55, false)⟩, ⟨some 59, .mv (.tmp 11), some (58, true)⟩, ⟨some 60, .bin .neq .plain (.tmp 59) (.con (.int .i64 0)), some (58, true)⟩, ⟨some 61, .pick (.tmp 58) (.tmp 60) (.con (.bool false)), some (55, false)⟩, ⟨some 62, .pick (.tmp 55) (.con (.bool true)) (.tmp 61), none⟩, ⟨some 63, .mv (.tmp 62), none⟩, ⟨some 64, .mv (.tmp 9), some (63, false)⟩, ⟨some 65, .un .not (.tmp 64), some (63, false)⟩, ⟨some 66, .mv (.tmp 65), some (63, false)⟩, ⟨some 67, .mv (.tmp 12), some (66, true)⟩, ⟨some 68, .bin .neq .plain (.tmp 67) (.con (.int .i64 34)), some (66, true)⟩, ⟨some 69, .pick (.tmp 66) (.tmp 68) (.con (.bool false)), some (63, false)⟩, ⟨some 70, .pick (.tmp 63) (.con (.bool true)) (.tmp 69), none⟩])
 (.cond (.tmp 70)
 (.seq (.reg [⟨some 71, .mv (.tmp 12), none⟩, ⟨some 6, .mv (.con (.int .i64 0)), none⟩, ⟨some 7, .mv (.tmp 71), none⟩, ⟨some 8, .mv (.con (.bool false)), none⟩])
 .ret)
 .skip))
 (.seq (.reg [⟨some 72, .mv (.tmp 11), none⟩, ⟨some 73, .mv (.tmp 12), none⟩, ⟨some 74, .mv (.tmp 0), none⟩, ⟨some 75, .mv (.tmp 1), none⟩, ⟨some 76, .call 19 [.tmp 74, .tmp 75], none⟩, ⟨some 6, .mv (.tmp 72), none⟩, ⟨some 7, .mv (.tmp 73), none⟩, ⟨some 8, .mv (.tmp 76), none⟩])
 .ret))))))
def ac14 : AFun := ⟨3, 77, ab14, [(.tmp 6), (.tmp 7), (.tmp 8)]⟩
theorem cf14 : compF Try.prog Try.f14 = some ac14 := by kernel_rfl
theorem cl14 : callable Try.prog 14 = true := by kernel_rfl
theorem fn14 : Try.prog.funcs[14]? = some Try.f14 := by kernel_rfl
/- (*chancel/raft.log).Entry -/
def ab15 : ACode := (.seq (.reg [⟨some 4, .alloc [.int .i64 0, .int .i64 0, .int .i64 0, .nils, .nils], none⟩, ⟨some 5, .mv (.con (.bool false)), none⟩])
 (.seq (.seq (.reg [⟨some 7, .mv (.tmp 0), none⟩, ⟨some 8, .mv (.tmp 1), none⟩, ⟨some 9, .call 32 [.tmp 7, .tmp 8], none⟩, ⟨some 10, .un .not (.tmp 9), none⟩])
 (.cond (.tmp 10)
 (.seq (.reg [⟨some 11, .build [.int .i64 0, .int .i64 0, .int .i64 0, .nils, .nils] [], none⟩, ⟨none, .store 5 (.tmp 4) (.tmp 11), none⟩, ⟨some 5, .mv (.con (.bool false)), none⟩])
 .ret)
 .skip))
 (.seq (.reg [⟨some 12, .mv (.tmp 0), none⟩, ⟨some 13, .mv (.tmp 1), none⟩, ⟨some 14, .call 34 [.tmp 12, .tmp 13], none⟩, ⟨some 15, .call 33 [.tmp 14], none⟩, ⟨some 6, .alloc [.int .i64 0, .int .i64 0, .nils, .nils], none⟩, ⟨none, .store 4 (.tmp 6) (.tmp 15), none⟩])
 (.seq (.reg [⟨some 16, .mv (.tmp 1), none⟩, ⟨some 17, .faddr 0 (.tmp 6), none⟩, ⟨some 18, .load false 1 (.tmp 17), none⟩, ⟨some 19, .faddr 1 (.tmp 6), none⟩, ⟨some 20, .load false 1 (.tmp 19), none⟩, ⟨some 21, .faddr 2 (.tmp 6), none⟩, ⟨some 22, .load false 1 (.tmp 21), none⟩, ⟨some 23, .faddr 3 (.tmp 6), none⟩, ⟨some 24, .load false 1 (.tmp 23), none⟩, ⟨some 25, .build [.int .i64 0, .int .i64 0, .int .i64 0, .nils, .nils] [(0, 1, .tmp 16), (1, 1, .tmp 18), (2, 1, .tmp 20), (3, 1, .tmp 22), (4, 1, .tmp 24)], none⟩, ⟨none, .store 5 (.tmp 4) (.tmp 25), none⟩, ⟨some 5, .mv (.con (.bool true)), none⟩])
 .ret))))
def ac15 : AFun := ⟨2, 26, ab15, [(.cell 4 true 5), (.tmp 5)]⟩
theorem cf15 : compF Try.prog Try.f15 = some ac15 := by kernel_rfl
theorem cl15 : callable Try.prog 15 = true := by kernel_rfl
theorem fn15 : Try.prog.funcs[15]? = some Try.f15 := by kernel_rfl
/- (*chancel/raft.log).Snap -/
def ab16 : ACode := (.seq (.reg [⟨some 2, .mv (.con (.int .i64 0)), none⟩, ⟨some 3, .mv (.con .nils), none⟩])
 (.seq (.dreg [⟨some 4, .mv (.tmp 0), none⟩, ⟨some 5, .nilck (.tmp 4), none⟩, ⟨some 6, .faddr 0 (.tmp 5), none⟩, ⟨some 7, .faddr 0 (.tmp 6), none⟩, ⟨some 8, .load false 1 (.tmp 7), none⟩, ⟨some 9, .mv (.tmp 0), none⟩, ⟨some 10, .nilck (.tmp 9), none⟩, ⟨some 11, .faddr 0 (.tmp 10), none⟩, ⟨some 12, .faddr 3 (.tmp 11), none⟩, ⟨some 13, .load false 1 (.tmp 12), none⟩, ⟨some 14, .call 35 [.tmp 13], none⟩, ⟨some 2, .mv (.tmp 8), none⟩, ⟨some 3, .mv (.tmp 14), none⟩] [10] [0, 1, 3, 7, 15, 0, 32, 96, 224, 480, 992, 2047, 4095] [])
 .ret))
def ac16 : AFun := ⟨1, 15, ab16, [(.tmp 2), (.tmp 3)]⟩
theorem cf16 : compF Try.prog Try.f16 = some ac16 := by kernel_rfl
theorem cl16 : callable Try.prog 16 = true := by kernel_rfl
theorem fn16 : Try.prog.funcs[16]? = some Try.f16 := by kernel_rfl
/- (*chancel/chancellaw19.Group).data -/
def ab17 : ACode := (.seq (.reg [⟨some 2, .mv (.con .nils), none⟩])
 (.seq (.reg [⟨some 3, .mv (.tmp 0), none⟩, ⟨some 4, .nilck (.tmp 3), none⟩, ⟨some 5, .faddr 408 (.tmp 4), none⟩, ⟨some 6, .load false 1 (.tmp 5), none⟩, ⟨some 7, .bin .add .plain (.tmp 6) (.con (.int .i64 1)), none⟩, ⟨some 8, .nilck (.tmp 3), none⟩, ⟨some 9, .faddr 408 (.tmp 8), none⟩, ⟨none, .store 1 (.tmp 9) (.tmp 7), none⟩])
 (.seq (.dreg [⟨some 10, .mv (.tmp 0), none⟩, ⟨some 11, .nilck (.tmp 10), none⟩, ⟨some 12, .faddr 408 (.tmp 11), none⟩, ⟨some 13, .load false 1 (.tmp 12), none⟩, ⟨some 14, .cvInt .u8 (.tmp 13), none⟩, ⟨some 15, .mv (.tmp 0), none⟩, ⟨some 16, .nilck (.tmp 15), none⟩, ⟨some 17, .faddr 408 (.tmp 16), none⟩, ⟨some 18, .load false 1 (.tmp 17), none⟩, ⟨some 19, .bin .shr .plain (.tmp 18) (.con (.int .u64 8)), none⟩, ⟨some 20, .cvInt .u8 (.tmp 19), none⟩, ⟨some 21, .bslice 1 3 [.int .u8 0] [(0, 1, .con (.int .u8 100)), (1, 1, .tmp 14), (2, 1, .tmp 20)], none⟩, ⟨some 2, .mv (.tmp 21), none⟩] [11] [0, 1, 3, 7, 15, 0, 32, 96, 224, 480, 992, 2047, 4095] [])
 .ret)))
def ac17 : AFun := ⟨1, 22, ab17, [(.tmp 2)]⟩
theorem cf17 : compF Try.prog Try.f17 = some ac17 := by kernel_rfl
theorem cl17 : callable Try.prog 17 = true := by kernel_rfl
theorem fn17 : Try.prog.funcs[17]? = some Try.f17 := by kernel_rfl
/- (*chancel/raft.Core).Change -/
def ab18 : ACode := (.seq (.reg [⟨some 4, .mv (.con (.int .i64 0)), none⟩, ⟨some 5, .mv (.con (.int .i64 0)), none⟩])
 (.seq (.dreg [⟨some 9, .mv (.tmp 0), none⟩, ⟨some 10, .nilck (.tmp 9), none⟩, ⟨some 11, .faddr 0 (.tmp 10), none⟩, ⟨some 12, .mv (.tmp 0), none⟩, ⟨some 13, .nilck (.tmp 12), none⟩, ⟨some 14, .faddr 0 (.tmp 13), none⟩, ⟨some 15, .call 13 [.tmp 14], none⟩, ⟨some 16, .call 36 [.tmp 11, .tmp 15], none⟩, ⟨some 8, .mv (.tmp 16), none⟩, ⟨some 17, .ext (.tmp 8) 0, none⟩, ⟨some 18, .ext (.tmp 8) 1, none⟩, ⟨some 6, .mv (.tmp 17), none⟩, ⟨some 7, .mv (.tmp 18), none⟩] [6, 7] [0, 1, 3, 0, 8, 24, 56, 127, 255, 511, 511, 1023, 4095] [])
 (.seq (.block 0
 (.seq (.reg [⟨some 20, .mv (.tmp 1), none⟩, ⟨some 21, .call 37 [.tmp 20], none⟩, ⟨some 22, .un .not (.tmp 21), none⟩, ⟨some 23, .mv (.tmp 22), none⟩, ⟨some 24, .mv (.tmp 6), some (23, false)⟩, ⟨some 25, .mv (.tmp 1), some (23, false)⟩, ⟨some 26, .call 38 [.tmp 24, .tmp 25], some (23, false)⟩, ⟨some 27, .un .not (.tmp 26), some (23, false)⟩, ⟨some 28, .pick (.tmp 23) (.con (.bool true)) (.tmp 27), none⟩, ⟨some 19, .mv (.tmp 28), none⟩])
 (.cond (.tmp 19)
 (.seq (.reg [⟨some 4, .mv (.con (.int .i64 0)), none⟩, ⟨some 5, .mv (.con (.int .i64 1)), none⟩])
 .ret)
 (.seq (.reg [⟨some 30, .mv (.tmp 0), none⟩, ⟨some 31, .nilck (.tmp 30), none⟩, ⟨some 32, .faddr 9 (.tmp 31), none⟩, ⟨some 33, .load false 1 (.tmp 32), none⟩, ⟨some 34, .bin .neq .plain (.tmp 33) (.con (.int .i64 2)), none⟩, ⟨some 29, .mv (.tmp 34), none⟩])
 (.cond (.tmp 29)
 (.seq (.reg [⟨some 4, .mv (.con (.int .i64 0)), none⟩, ⟨some 5, .mv (.con (.int .i64 34)), none⟩])
 .ret)
 (.seq (.dreg [⟨some 36, .mv (.tmp 7), none⟩, ⟨some 37, .mv (.tmp 0), none⟩, ⟨some 38, .nilck (.tmp 37), none⟩, ⟨some 39, .faddr 8 (.tmp 38), none⟩, ⟨some 40, .load false 1 (.tmp 39), none⟩, ⟨some 41, .bin .gtr .plain (.tmp 36) (.tmp 40), none⟩, ⟨some 42, .mv (.tmp 41), none⟩, ⟨some 43, .mv (.tmp 0), some (42, false)⟩, ⟨some 44, .nilck (.tmp 43), some (42, false)⟩, ⟨some 45, .faddr 0 (.tmp 44), some (42, false)⟩, ⟨some 46, .mv (.tmp 0), some (42, false)⟩, ⟨some 47, .nilck (.tmp 46), some (42, false)⟩, ⟨some 48, .faddr 8 (.tmp 47), some (42, false)⟩, ⟨some 49, .load false 1 (.tmp 48), some (42, false)⟩, ⟨some 50, .call 39 [.tmp 45, .tmp 49], some (42, false)⟩, ⟨some 51, .mv (.tmp 0), some (42, false)⟩, ⟨some 52, .nilck (.tmp 51), some (42, false)⟩, ⟨some 53, .faddr 6 (.tmp 52), some (42, false)⟩, ⟨some 54, .load false 1 (.tmp 53), some (42, false)⟩, ⟨some 55, .bin .neq .plain (.tmp 50) (.tmp 54), some (42, false)⟩, ⟨some 56, .pick (.tmp 42) (.con (.bool true)) (.tmp 55), none⟩, ⟨some 35, .mv (.tmp 56), none⟩] [14] [0, 0, 2, 6, 14, 31, 63, 127, 255, 511, 127, 1151, 3199, 7295, 16383, 127, 32895, 98431, 229503, 524287, 1048575, 2097151] [])
 (.cond (.tmp 35)
 (.seq (.reg [⟨some 4, .mv (.con (.int .i64 0)), none⟩, ⟨some 5, .mv (.con (.int .i64 20)), none⟩])
 .ret)
 (.seq (.reg [⟨some 58, .mv (.tmp 0), none⟩, ⟨some 59, .call 40 [.tmp 58], none⟩, ⟨some 57, .mv (.tmp 59), none⟩])
 (.cond (.tmp 57)
 (.seq (.reg [⟨some 4, .mv (.con (.int .i64 0)), none⟩, ⟨some 5, .mv (.con (.int .i64 33)), none⟩])
 .ret)
 .skip)))))))))
 (.seq (.reg [⟨some 60, .mv (.tmp 0), none⟩, ⟨some 61, .mv (.tmp 1), none⟩, ⟨some 62, .build [.int .i64 0, .int .i64 0, .nils, .nils] [(1, 1, .con (.int .i64 2)), (3, 1, .tmp 61)], none⟩, ⟨some 63, .call 41 [.tmp 60, .tmp 62], none⟩, ⟨some 4, .mv (.tmp 63), none⟩, ⟨some 5, .mv (.con (.int .i64 0)), none⟩])
 .ret))))
def ac18 : AFun := ⟨2, 64, ab18, [(.tmp 4), (.tmp 5)]⟩
theorem cf18 : compF Try.prog Try.f18 = some ac18 := by kernel_rfl
theorem cl18 : callable Try.prog 18 = true := by kernel_rfl
theorem fn18 : Try.prog.funcs[18]? = some Try.f18 := by kernel_rfl
/- (*chancel/chancellaw19.Group).told -/
def ab19 : ACode := (.seq (.reg [⟨some 4, .mv (.con (.bool false)), none⟩])
 (.seq (.reg [⟨some 15, .mv (.tmp 0), none⟩, ⟨some 16, .nilck (.tmp 15), none⟩, ⟨some 17, .faddr 1 (.tmp 16), none⟩, ⟨some 18, .load false 1 (.tmp 17), none⟩, ⟨some 19, .mv (.tmp 1), none⟩, ⟨some 20, .iaddr 1 (.tmp 18) (.tmp 19), none⟩, ⟨some 21, .load false 1 (.tmp 20), none⟩, ⟨some 5, .mv (.tmp 21), none⟩])
 (.seq (.dreg [⟨some 22, .mv (.tmp 0), none⟩, ⟨some 23, .nilck (.tmp 22), none⟩, ⟨some 24, .faddr 2 (.tmp 23), none⟩, ⟨some 25, .load false 1 (.tmp 24), none⟩, ⟨some 26, .mv (.tmp 1), none⟩, ⟨some 27, .mv (.tmp 5), none⟩, ⟨some 28, .call 30 [.tmp 27], none⟩, ⟨some 29, .iaddr 1 (.tmp 25) (.tmp 26), none⟩, ⟨none, .store 1 (.tmp 29) (.tmp 28), none⟩] [6, 8] [0, 1, 3, 7, 0, 0, 32, 127, 255] [])
 (.seq (.seq (.reg [⟨some 30, .mv (.tmp 0), none⟩, ⟨some 31, .nilck (.tmp 30), none⟩, ⟨some 32, .faddr 2 (.tmp 31), none⟩, ⟨some 33, .load false 1 (.tmp 32), none⟩, ⟨some 34, .mv (.tmp 1), none⟩, ⟨some 35, .iaddr 1 (.tmp 33) (.tmp 34), none⟩, ⟨some 36, .load false 1 (.tmp 35), none⟩, ⟨some 37, .lenL (.tmp 36), none⟩, ⟨some 38, .bin .gtr .plain (.tmp 37) (.con (.int .i64 110000)), none⟩])
 (.cond (.tmp 38)
 (.seq (.reg [⟨some 4, .mv (.con (.bool false)), none⟩])
 .ret)
 .skip))
 (.seq (.reg [⟨some 39, .mv (.tmp 5), none⟩, ⟨some 40, .call 42 [.tmp 39], none⟩, ⟨some 6, .mv (.tmp 40), none⟩])
 (.seq (.seq (.reg [⟨some 7, .mv (.con (.int .i64 0)), none⟩])
 (.block 0
 (.loop (.seq (.seq (.reg [⟨some 41, .mv (.tmp 7), none⟩, ⟨some 42, .mv (.tmp 6), none⟩, ⟨some 43, .lenL (.tmp 42), none⟩, ⟨some 44, .bin .lss .plain (.tmp 41) (.tmp 43), none⟩])
 (.cond (.tmp 44)
 .skip
 (.exit 0)))
 (.seq (.block 1
 (.seq (.reg [⟨some 48, .mv (.tmp 6), none⟩, ⟨some 49, .mv (.tmp 7), none⟩, ⟨some 50, .iaddr 14 (.tmp 48) (.tmp 49), none⟩, ⟨some 51, .load true 14 (.tmp 50), none⟩, ⟨some 52, .call 43 [.tmp 51], none⟩, ⟨some 47, .mv (.tmp 52), none⟩, ⟨some 53, .ext (.tmp 47) 0, none⟩, ⟨some 54, .ext (.tmp 47) 1, none⟩, ⟨some 8, .mv (.tmp 53), none⟩, ⟨some 9, .mv (.tmp 54), none⟩])
 (.seq (.seq (.reg [⟨some 55, .mv (.tmp 9), none⟩, ⟨some 56, .bin .neq .plain (.tmp 55) (.con (.int .i64 0)), none⟩, ⟨some 57, .mv (.tmp 56), none⟩, ⟨some 58, .mv (.tmp 6), some (57, false)⟩, ⟨some 59, .mv (.tmp 7), some (57, false)⟩, ⟨some 60, .iaddr 14 (.tmp 58) (.tmp 59), some (57, false)⟩, ⟨some 61, .faddr 0 (.tmp 60), some (57, false)⟩, ⟨some 62, .load false 1 (.tmp 61), some (57, false)⟩, ⟨some 63, .mv (.tmp 1), some (57, false)⟩, ⟨some 64, .bin .neq .plain (.tmp 62) (.tmp 63), some (57, false)⟩, ⟨some 65, .pick (.tmp 57) (.con (.bool true)) (.tmp 64), none⟩, ⟨some 66, .mv (.tmp 65), none⟩, ⟨some 67, .mv (.tmp 6), some (66, false)⟩, ⟨some 68, .mv (.tmp 7), some (66, false)⟩, ⟨some 69, .iaddr 14 (.tmp 67) (.tmp 68), some (66, false)⟩, ⟨some 70, .faddr 1 (.tmp 69), some (66, false)⟩, ⟨some 71, .load false 1 (.tmp 70), some (66, false)⟩, ⟨some 72, .bin .lss .plain (.tmp 71) (.con (.int .i64 0)), some (66, false)⟩, ⟨some 73, .pick (.tmp 66) (.con (.bool true)) (.tmp 72), none⟩, ⟨some 74, .mv (.tmp 73), none⟩, ⟨some 75, .mv (.tmp 6), some (74, false)⟩, ⟨some 76, .mv (.tmp 7), some (74, false)⟩, ⟨some 77, .iaddr 14 (.tmp 75) (.tmp 76), some (74, false)⟩, ⟨some 78, .faddr 1 (.tmp 77), some (74, false)⟩, ⟨some 79, .load false 1 (.tmp 78), some (74, false)⟩, ⟨some 80, .bin .geq .plain (.tmp 79) (.con (.int .i64 7)), some (74, false)⟩, ⟨some 81, .pick (.tmp 74) (.con (.bool true)) (.tmp 80), none⟩, ⟨some 82, .mv (.tmp 81), none⟩, ⟨some 83, .mv (.tmp 6), some (82, false)⟩, ⟨some 84, .mv (.tmp 7), some (82, false)⟩, ⟨some 85, .iaddr 14 (.tmp 83) (.tmp 84), some (82, false)⟩, ⟨some 86, .faddr 1 (.tmp 85), some (82, false)⟩, ⟨some 87, .load false 1 (.tmp 86), some (82, false)⟩, ⟨some 88, .mv (.tmp 1), some (82, false)⟩, ⟨some 89, .bin .eql .plain (.tmp 87) (.tmp 88), some (82, false)⟩, ⟨some 90, .pick (.tmp 82) (.con (.bool true)) (.tmp 89), none⟩])
 (.cond (.tmp 90)
 (.seq (.reg [⟨some 4, .mv (.con (.bool false)), none⟩])
 .ret)
 .skip))
 (.seq (.reg [⟨some 91, .mv (.tmp 0), none⟩, ⟨some 92, .nilck (.tmp 91), none⟩, ⟨some 93, .faddr 3 (.tmp 92), none⟩, ⟨some 94, .load false 1 (.tmp 93), none⟩, ⟨some 95, .lenL (.tmp 94), none⟩, ⟨some 96, .bin .lss .plain (.tmp 95) (.con (.int .i64 4000)), none⟩])
 (.cond (.tmp 96)
 (.dreg [⟨some 97, .mv (.tmp 0), none⟩, ⟨some 98, .mv (.tmp 0), none⟩, ⟨some 99, .nilck (.tmp 98), none⟩, ⟨some 100, .faddr 3 (.tmp 99), none⟩, ⟨some 101, .load false 1 (.tmp 100), none⟩, ⟨some 102, .mv (.tmp 6), none⟩, ⟨some 103, .mv (.tmp 7), none⟩, ⟨some 104, .iaddr 14 (.tmp 102) (.tmp 103), none⟩, ⟨some 105, .load true 14 (.tmp 104), none⟩, ⟨some 106, .bslice 14 1 [.int .i64 0, .int .i64 0, .int .i64 0, .int .i64 0, .int .i64 0, .int .i64 0, .int .i64 0, .int .i64 0, .bool false, .nils, .nils, .nils, .nils, .nils] [(0, 14, .tmp 105)], none⟩, ⟨some 107, .append 14 192 (.tmp 101) (.tmp 106), none⟩, ⟨some 108, .nilck (.tmp 97), none⟩, ⟨some 109, .faddr 3 (.tmp 108), none⟩, ⟨none, .store 1 (.tmp 109) (.tmp 107), none⟩] [9, 10, 13] [0, 0, 2, 6, 14, 0, 0, 96, 224, 480, 1022, 2047, 4095, 8191] [])
 .skip)))))
 (.reg [⟨some 45, .mv (.tmp 7), none⟩, ⟨some 46, .bin .add .plain (.tmp 45) (.con (.int .i64 1)), none⟩, ⟨some 7, .mv (.tmp 46), none⟩]))))))
 (.seq (.seq (.dreg [⟨some 110, .mv (.tmp 5), none⟩, ⟨some 111, .call 44 [.tmp 110], none⟩, ⟨some 112, .mv (.tmp 0), none⟩, ⟨some 113, .nilck (.tmp 112), none⟩, ⟨some 114, .faddr 5 (.tmp 113), none⟩, ⟨some 115, .load false 1 (.tmp 114), none⟩, ⟨some 116, .mv (.tmp 1), none⟩, ⟨some 117, .iaddr 1 (.tmp 115) (.tmp 116), none⟩, ⟨some 118, .load false 1 (.tmp 117), none⟩, ⟨some 119, .bin .lss .plain (.tmp 111) (.tmp 118), none⟩, ⟨some 120, .mv (.tmp 119), none⟩, ⟨some 121, .mv (.tmp 5), some (120, false)⟩, ⟨some 122, .call 21 [.tmp 121], some (120, false)⟩, ⟨some 123, .mv (.tmp 0), some (120, false)⟩, ⟨some 124, .nilck (.tmp 123), some (120, false)⟩, ⟨some 125, .faddr 6 (.tmp 124), some (120, false)⟩, ⟨some 126, .load false 1 (.tmp 125), some (120, false)⟩, ⟨some 127, .mv (.tmp 1), some (120, false)⟩, ⟨some 128, .iaddr 1 (.tmp 126) (.tmp 127), some (120, false)⟩, ⟨some 129, .load false 1 (.tmp 128), some (120, false)⟩, ⟨some 130, .bin .lss .plain (.tmp 122) (.tmp 129), some (120, false)⟩, ⟨some 131, .pick (.tmp 120) (.con (.bool true)) (.tmp 130), none⟩, ⟨some 132, .mv (.tmp 131), none⟩, ⟨some 133, .mv (.tmp 5), some (132, false)⟩, ⟨some 134, .call 29 [.tmp 133], some (132, false)⟩, ⟨some 135, .bin .lss .plain (.tmp 134) (.con (.int .i64 0)), some (132, false)⟩, ⟨some 136, .pick (.tmp 132) (.con (.bool true)) (.tmp 135), none⟩, ⟨some 137, .mv (.tmp 136), none⟩, ⟨some 138, .mv (.tmp 5), some (137, false)⟩, ⟨some 139, .call 29 [.tmp 138], some (137, false)⟩, ⟨some 140, .bin .gtr .plain (.tmp 139) (.con (.int .i64 2)), some (137, false)⟩, ⟨some 141, .pick (.tmp 137) (.con (.bool true)) (.tmp 140), none⟩, ⟨some 142, .mv (.tmp 141), none⟩, ⟨some 143, .mv (.tmp 5), some (142, false)⟩, ⟨some 144, .nilck (.tmp 143), some (142, false)⟩, ⟨some 145, .faddr 0 (.tmp 144), some (142, false)⟩, ⟨some 146, .call 13 [.tmp 145], some (142, false)⟩, ⟨some 147, .mv (.tmp 5), some (142, false)⟩, ⟨some 148, .call 21 [.tmp 147], some (142, false)⟩, ⟨some 149, .bin .lss .plain (.tmp 146) (.tmp 148), some (142, false)⟩, ⟨some 150, .pick (.tmp 142) (.con (.bool true)) (.tmp 149), none⟩] [1, 12, 24, 29, 36, 38] [0, 1, 0, 4, 12, 28, 0, 124, 252, 511, 1023, 2047, 4095, 2047, 10239, 26623, 59391, 2047, 255999, 518143, 1048575, 2097151, 4194303, 8388607, 16777215, 33554431, 67108863, 134217727, 268435455, 536870911, 1073741823, 2147483647, 4294967295, 8589934591, 17179869183, 34359738367, 68719476735, 8589934591, 274877906943, 549755813887, 1099511627775] [])
 (.cond (.tmp 150)
 (.seq (.reg [⟨some 4, .mv (.con (.bool false)), none⟩])
 .ret)
 .skip))
 (.seq (.dreg [⟨some 151, .mv (.tmp 0), none⟩, ⟨some 152, .nilck (.tmp 151), none⟩, ⟨some 153, .faddr 5 (.tmp 152), none⟩, ⟨some 154, .load false 1 (.tmp 153), none⟩, ⟨some 155, .mv (.tmp 1), none⟩, ⟨some 156, .mv (.tmp 0), none⟩, ⟨some 157, .nilck (.tmp 156), none⟩, ⟨some 158, .faddr 6 (.tmp 157), none⟩, ⟨some 159, .load false 1 (.tmp 158), none⟩, ⟨some 160, .mv (.tmp 1), none⟩, ⟨some 161, .mv (.tmp 5), none⟩, ⟨some 162, .call 44 [.tmp 161], none⟩, ⟨some 163, .mv (.tmp 5), none⟩, ⟨some 164, .call 21 [.tmp 163], none⟩, ⟨some 165, .iaddr 1 (.tmp 154) (.tmp 155), none⟩, ⟨none, .store 1 (.tmp 165) (.tmp 162), none⟩, ⟨some 166, .iaddr 1 (.tmp 159) (.tmp 160), none⟩, ⟨none, .store 1 (.tmp 166) (.tmp 164), none⟩] [11, 13, 15, 17] [0, 1, 3, 7, 0, 0, 32, 96, 224, 0, 0, 1024, 0, 7168, 15871, 32255, 65535, 131071] [])
 (.seq (.reg [⟨some 168, .mv (.tmp 5), none⟩, ⟨some 169, .nilck (.tmp 168), none⟩, ⟨some 170, .faddr 0 (.tmp 169), none⟩, ⟨some 171, .call 16 [.tmp 170], none⟩, ⟨some 167, .mv (.tmp 171), none⟩, ⟨some 172, .ext (.tmp 167) 0, none⟩, ⟨some 173, .ext (.tmp 167) 1, none⟩, ⟨some 10, .mv (.tmp 172), none⟩, ⟨some 11, .mv (.tmp 173), none⟩])
 (.seq (.seq (.dreg [⟨some 174, .mv (.tmp 10), none⟩, ⟨some 175, .bin .gtr .plain (.tmp 174) (.con (.int .i64 0)), none⟩, ⟨some 176, .mv (.tmp 175), none⟩, ⟨some 177, .mv (.tmp 11), some (176, true)⟩, ⟨some 178, .cvBS (.tmp 177), some (176, true)⟩, ⟨some 179, .mv (.tmp 10), some (176, true)⟩, ⟨some 180, .call 45 [.tmp 179], some (176, true)⟩, ⟨some 181, .bin .neq .plain (.tmp 178) (.tmp 180), some (176, true)⟩, ⟨some 182, .pick (.tmp 176) (.tmp 181) (.con (.bool false)), none⟩, ⟨some 183, .mv (.tmp 182), none⟩, ⟨some 184, .mv (.tmp 10), some (183, false)⟩, ⟨some 185, .bin .eql .plain (.tmp 184) (.con (.int .i64 0)), some (183, false)⟩, ⟨some 186, .mv (.tmp 185), some (183, false)⟩, ⟨some 187, .mv (.tmp 11), some (186, true)⟩, ⟨some 188, .lenL (.tmp 187), some (186, true)⟩, ⟨some 189, .bin .gtr .plain (.tmp 188) (.con (.int .i64 0)), some (186, true)⟩, ⟨some 190, .pick (.tmp 186) (.tmp 189) (.con (.bool false)), some (183, false)⟩, ⟨some 191, .pick (.tmp 183) (.con (.bool true)) (.tmp 190), none⟩, ⟨some 192, .mv (.tmp 191), none⟩, ⟨some 193, .mv (.tmp 10), some (192, false)⟩, ⟨some 194, .mv (.tmp 5), some (192, false)⟩, ⟨some 195, .call 21 [.tmp 194], some (192, false)⟩, ⟨some 196, .bin .gtr .plain (.tmp 193) (.tmp 195), some (192, false)⟩, ⟨some 197, .pick (.tmp 192) (.con (.bool true)) (.tmp 196), none⟩] [6, 21] [0, 1, 3, 7, 15, 7, 39, 127, 255, 511, 1023, 2047, 4095, 8191, 16383, 32767, 65535, 131071, 262143, 524287, 524287, 1572863, 4194303, 8388607] [])
 (.cond (.tmp 197)
 (.seq (.reg [⟨some 4, .mv (.con (.bool false)), none⟩])
 .ret)
 .skip))
 (.seq (.seq (.reg [⟨some 198, .mv (.tmp 10), none⟩, ⟨some 199, .bin .add .plain (.tmp 198) (.con (.int .i64 1)), none⟩, ⟨some 12, .mv (.tmp 199), none⟩])
 (.block 2
 (.loop (.seq (.seq (.reg [⟨some 200, .mv (.tmp 12), none⟩, ⟨some 201, .mv (.tmp 5), none⟩, ⟨some 202, .call 21 [.tmp 201], none⟩, ⟨some 203, .bin .leq .plain (.tmp 200) (.tmp 202), none⟩])
 (.cond (.tmp 203)
 .skip
 (.exit 2)))
 (.seq (.block 3
 (.seq (.reg [⟨some 207, .mv (.tmp 5), none⟩, ⟨some 208, .nilck (.tmp 207), none⟩, ⟨some 209, .faddr 0 (.tmp 208), none⟩, ⟨some 210, .mv (.tmp 12), none⟩, ⟨some 211, .call 15 [.tmp 209, .tmp 210], none⟩, ⟨some 206, .mv (.tmp 211), none⟩, ⟨some 212, .ext (.tmp 206) 0, none⟩, ⟨some 213, .ext (.tmp 206) 1, none⟩, ⟨some 13, .alloc [.int .i64 0, .int .i64 0, .int .i64 0, .nils, .nils], none⟩, ⟨none, .store 5 (.tmp 13) (.tmp 212), none⟩, ⟨some 14, .mv (.tmp 213), none⟩])
 (.seq (.seq (.reg [⟨some 214, .mv (.tmp 14), none⟩, ⟨some 215, .un .not (.tmp 214), none⟩, ⟨some 216, .mv (.tmp 215), none⟩, ⟨some 217, .faddr 0 (.tmp 13), some (216, false)⟩, ⟨some 218, .load false 1 (.tmp 217), some (216, false)⟩, ⟨some 219, .mv (.tmp 12), some (216, false)⟩, ⟨some 220, .bin .neq .plain (.tmp 218) (.tmp 219), some (216, false)⟩, ⟨some 221, .pick (.tmp 216) (.con (.bool true)) (.tmp 220), none⟩])
 (.cond (.tmp 221)
 (.seq (.reg [⟨some 4, .mv (.con (.bool false)), none⟩])
 .ret)
 .skip))
 (.seq (.seq (.reg [⟨some 222, .mv (.tmp 12), none⟩, ⟨some 223, .mv (.tmp 0), none⟩, ⟨some 224, .nilck (.tmp 223), none⟩, ⟨some 225, .faddr 4 (.tmp 224), none⟩, ⟨some 226, .load false 1 (.tmp 225), none⟩, ⟨some 227, .lenL (.tmp 226), none⟩, ⟨some 228, .bin .add .plain (.tmp 227) (.con (.int .i64 1)), none⟩, ⟨some 229, .bin .eql .plain (.tmp 222) (.tmp 228), none⟩])
 (.cond (.tmp 229)
 (.dreg [⟨some 230, .mv (.tmp 0), none⟩, ⟨some 231, .mv (.tmp 0), none⟩, ⟨some 232, .nilck (.tmp 231), none⟩, ⟨some 233, .faddr 4 (.tmp 232), none⟩, ⟨some 234, .load false 1 (.tmp 233), none⟩, ⟨some 235, .load true 5 (.tmp 13), none⟩, ⟨some 236, .bslice 5 1 [.int .i64 0, .int .i64 0, .int .i64 0, .nils, .nils] [(0, 5, .tmp 235)], none⟩, ⟨some 237, .append 5 72 (.tmp 234) (.tmp 236), none⟩, ⟨some 238, .nilck (.tmp 230), none⟩, ⟨some 239, .faddr 4 (.tmp 238), none⟩, ⟨none, .store 1 (.tmp 239) (.tmp 237), none⟩] [6, 7, 10] [0, 0, 2, 6, 14, 0, 32, 126, 255, 511, 1023] [])
 .skip))
 (.seq (.dreg [⟨some 240, .mv (.tmp 12), none⟩, ⟨some 241, .mv (.tmp 0), none⟩, ⟨some 242, .nilck (.tmp 241), none⟩, ⟨some 243, .faddr 4 (.tmp 242), none⟩, ⟨some 244, .load false 1 (.tmp 243), none⟩, ⟨some 245, .lenL (.tmp 244), none⟩, ⟨some 246, .bin .gtr .plain (.tmp 240) (.tmp 245), none⟩, ⟨some 247, .mv (.tmp 246), none⟩, ⟨some 248, .load true 5 (.tmp 13), some (247, false)⟩, ⟨some 249, .mv (.tmp 0), some (247, false)⟩, ⟨some 250, .nilck (.tmp 249), some (247, false)⟩, ⟨some 251, .faddr 4 (.tmp 250), some (247, false)⟩, ⟨some 252, .load false 1 (.tmp 251), some (247, false)⟩, ⟨some 253, .mv (.tmp 12), some (247, false)⟩, ⟨some 254, .bin .sub .plain (.tmp 253) (.con (.int .i64 1)), some (247, false)⟩, ⟨some 255, .iaddr 5 (.tmp 252) (.tmp 254), some (247, false)⟩, ⟨some 256, .load true 5 (.tmp 255), some (247, false)⟩, ⟨some 257, .call 46 [.tmp 248, .tmp 256], some (247, false)⟩, ⟨some 258, .un .not (.tmp 257), some (247, false)⟩, ⟨some 259, .pick (.tmp 247) (.con (.bool true)) (.tmp 258), none⟩] [17] [0, 0, 2, 6, 14, 30, 63, 127, 255, 255, 767, 1791, 3839, 255, 8447, 32511, 65279, 131071, 262143, 524287] [])
 (.cond (.tmp 259)
 (.seq (.reg [⟨some 4, .mv (.con (.bool false)), none⟩])
 .ret)
 .skip))))))
 (.reg [⟨some 204, .mv (.tmp 12), none⟩, ⟨some 205, .bin .add .plain (.tmp 204) (.con (.int .i64 1)), none⟩, ⟨some 12, .mv (.tmp 205), none⟩]))))))
 (.seq (.seq (.reg [⟨some 260, .mv (.tmp 10), none⟩, ⟨some 261, .mv (.tmp 0), none⟩, ⟨some 262, .nilck (.tmp 261), none⟩, ⟨some 263, .faddr 4 (.tmp 262), none⟩, ⟨some 264, .load false 1 (.tmp 263), none⟩, ⟨some 265, .lenL (.tmp 264), none⟩, ⟨some 266, .bin .gtr .plain (.tmp 260) (.tmp 265), none⟩])
 (.cond (.tmp 266)
 (.seq (.reg [⟨some 4, .mv (.con (.bool false)), none⟩])
 .ret)
 .skip))
 (.seq (.seq (.reg [⟨some 267, .mv (.tmp 5), none⟩, ⟨some 268, .call 29 [.tmp 267], none⟩, ⟨some 269, .bin .eql .plain (.tmp 268) (.con (.int .i64 2)), none⟩, ⟨some 270, .mv (.tmp 269), none⟩, ⟨some 271, .mv (.tmp 5), some (270, true)⟩, ⟨some 272, .call 44 [.tmp 271], some (270, true)⟩, ⟨some 273, .bin .lss .plain (.tmp 272) (.con (.int .i64 400)), some (270, true)⟩, ⟨some 274, .pick (.tmp 270) (.tmp 273) (.con (.bool false)), none⟩])
 (.cond (.tmp 274)
 (.seq (.seq (.dreg [⟨some 275, .mv (.tmp 0), none⟩, ⟨some 276, .mv (.tmp 5), none⟩, ⟨some 277, .call 44 [.tmp 276], none⟩, ⟨some 278, .nilck (.tmp 275), none⟩, ⟨some 279, .faddr 7 (.tmp 278), none⟩, ⟨some 280, .iaddrA 400 1 (.tmp 279) (.tmp 277), none⟩, ⟨some 281, .load false 1 (.tmp 280), none⟩, ⟨some 282, .bin .neq .plain (.tmp 281) (.con (.int .i64 0)), none⟩, ⟨some 283, .mv (.tmp 282), none⟩, ⟨some 284, .mv (.tmp 0), some (283, true)⟩, ⟨some 285, .mv (.tmp 5), some (283, true)⟩, ⟨some 286, .call 44 [.tmp 285], some (283, true)⟩, ⟨some 287, .nilck (.tmp 284), some (283, true)⟩, ⟨some 288, .faddr 7 (.tmp 287), some (283, true)⟩, ⟨some 289, .iaddrA 400 1 (.tmp 288) (.tmp 286), some (283, true)⟩, ⟨some 290, .load false 1 (.tmp 289), some (283, true)⟩, ⟨some 291, .mv (.tmp 1), some (283, true)⟩, ⟨some 292, .bin .add .plain (.tmp 291) (.con (.int .i64 1)), some (283, true)⟩, ⟨some 293, .bin .neq .plain (.tmp 290) (.tmp 292), some (283, true)⟩, ⟨some 294, .pick (.tmp 283) (.tmp 293) (.con (.bool false)), none⟩] [2, 11] [0, 0, 2, 1, 9, 31, 63, 127, 255, 511, 511, 1535, 1023, 5119, 16383, 32767, 511, 66047, 262143, 524287] [])
 (.cond (.tmp 294)
 (.seq (.reg [⟨some 4, .mv (.con (.bool false)), none⟩])
 .ret)
 .skip))
 (.dreg [⟨some 295, .mv (.tmp 0), none⟩, ⟨some 296, .mv (.tmp 5), none⟩, ⟨some 297, .call 44 [.tmp 296], none⟩, ⟨some 298, .mv (.tmp 1), none⟩, ⟨some 299, .bin .add .plain (.tmp 298) (.con (.int .i64 1)), none⟩, ⟨some 300, .nilck (.tmp 295), none⟩, ⟨some 301, .faddr 7 (.tmp 300), none⟩, ⟨some 302, .iaddrA 400 1 (.tmp 301) (.tmp 297), none⟩, ⟨none, .store 1 (.tmp 302) (.tmp 299), none⟩] [2, 8] [0, 0, 2, 0, 8, 1, 33, 127, 255] []))
 .skip))
 (.seq (.reg [⟨some 303, .mv (.tmp 0), none⟩, ⟨some 304, .mv (.tmp 1), none⟩, ⟨some 305, .call 47 [.tmp 303, .tmp 304], none⟩, ⟨some 4, .mv (.tmp 305), none⟩])
 .ret))))))))))))))
def ac19 : AFun := ⟨2, 306, ab19, [(.tmp 4)]⟩
theorem cf19 : compF Try.prog Try.f19 = some ac19 := by kernel_rfl
theorem cl19 : callable Try.prog 19 = true := by kernel_rfl
theorem fn19 : Try.prog.funcs[19]? = some Try.f19 := by kernel_rfl
/- (*chancel/raft.Core).Members -/
def ab20 : ACode := (.seq (.reg [⟨some 2, .mv (.con .nils), none⟩])
 (.seq (.dreg [⟨some 6, .mv (.tmp 0), none⟩, ⟨some 7, .nilck (.tmp 6), none⟩, ⟨some 8, .faddr 0 (.tmp 7), none⟩, ⟨some 9, .mv (.tmp 0), none⟩, ⟨some 10, .nilck (.tmp 9), none⟩, ⟨some 11, .faddr 0 (.tmp 10), none⟩, ⟨some 12, .call 13 [.tmp 11], none⟩, ⟨some 13, .call 36 [.tmp 8, .tmp 12], none⟩, ⟨some 5, .mv (.tmp 13), none⟩, ⟨some 14, .ext (.tmp 5) 0, none⟩, ⟨some 15, .ext (.tmp 5) 1, none⟩, ⟨some 3, .mv (.tmp 14), none⟩, ⟨some 4, .mv (.tmp 15), none⟩] [6, 7] [0, 1, 3, 0, 8, 24, 56, 127, 255, 511, 511, 1023, 4095] [])
 (.seq (.reg [⟨some 16, .mv (.tmp 3), none⟩, ⟨some 17, .call 48 [.tmp 16], none⟩, ⟨some 2, .mv (.tmp 17), none⟩])
 .ret)))
def ac20 : AFun := ⟨1, 18, ab20, [(.tmp 2)]⟩
theorem cf20 : compF Try.prog Try.f20 = some ac20 := by kernel_rfl
theorem cl20 : callable Try.prog 20 = true := by kernel_rfl
theorem fn20 : Try.prog.funcs[20]? = some Try.f20 := by kernel_rfl
/- (*chancel/raft.Core).Commit -/
def ab21 : ACode := (.seq (.reg [⟨some 2, .mv (.con (.int .i64 0)), none⟩])
 (.seq (.reg [⟨some 3, .mv (.tmp 0), none⟩, ⟨some 4, .nilck (.tmp 3), none⟩, ⟨some 5, .faddr 8 (.tmp 4), none⟩, ⟨some 6, .load false 1 (.tmp 5), none⟩, ⟨some 2, .mv (.tmp 6), none⟩])
 .ret))
def ac21 : AFun := ⟨1, 7, ab21, [(.tmp 2)]⟩
theorem cf21 : compF Try.prog Try.f21 = some ac21 := by kernel_rfl
theorem cl21 : callable Try.prog 21 = true := by kernel_rfl
theorem fn21 : Try.prog.funcs[21]? = some Try.f21 := by kernel_rfl
/- chancel/raft.New -/
def ab22 : ACode := (.seq (.reg [⟨some 4, .mv (.con .nilp), none⟩, ⟨some 5, .mv (.con (.int .i64 0)), none⟩])
 (.seq (.seq (.reg [⟨some 7, .mv (.tmp 0), none⟩, ⟨some 8, .bin .lss .plain (.tmp 7) (.con (.int .i64 0)), none⟩, ⟨some 9, .mv (.tmp 8), none⟩, ⟨some 10, .mv (.tmp 0), some (9, false)⟩, ⟨some 11, .bin .geq .plain (.tmp 10) (.con (.int .i64 7)), some (9, false)⟩, ⟨some 12, .pick (.tmp 9) (.con (.bool true)) (.tmp 11), none⟩, ⟨some 13, .mv (.tmp 12), none⟩, ⟨some 14, .mv (.tmp 1), some (13, false)⟩, ⟨some 15, .call 37 [.tmp 14], some (13, false)⟩, ⟨some 16, .un .not (.tmp 15), some (13, false)⟩, ⟨some 17, .pick (.tmp 13) (.con (.bool true)) (.tmp 16), none⟩])
 (.cond (.tmp 17)
 (.seq (.reg [⟨some 4, .mv (.con .nilp), none⟩, ⟨some 5, .mv (.con (.int .i64 1)), none⟩])
 .ret)
 .skip))
 (.seq (.reg [⟨some 18, .mv (.tmp 0), none⟩, ⟨some 19, .build [.int .i64 0, .int .i64 0, .nils, .nils, .nils, .int .i64 0, .int .i64 0, .int .i64 0, .int .i64 0, .int .i64 0, .nils, .int .i64 0, .int .i64 0, .int .i64 0, .bool false, .int .i64 0, .int .i64 0, .int .i64 0, .int .i64 0, .bool false, .int .i64 0, .int .i64 0, .int .i64 0, .int .i64 0, .bool false, .int .i64 0, .int .i64 0, .int .i64 0, .int .i64 0, .bool false, .int .i64 0, .int .i64 0, .int .i64 0, .int .i64 0, .bool false, .int .i64 0, .int .i64 0, .int .i64 0, .int .i64 0, .bool false, .int .i64 0, .int .i64 0, .int .i64 0, .int .i64 0, .bool false, .int .i64 0, .int .i64 0, .nils, .nils, .int .i64 0, .int .i64 0, .int .i64 0, .nils] [(5, 1, .tmp 18), (7, 1, .con (.int .i64 (-1)))], none⟩, ⟨some 20, .box (.tmp 19), none⟩, ⟨some 6, .mv (.tmp 20), none⟩])
 (.seq (.reg [⟨some 21, .mv (.tmp 6), none⟩, ⟨some 22, .mv (.tmp 1), none⟩, ⟨some 23, .call 48 [.tmp 22], none⟩, ⟨some 24, .nilck (.tmp 21), none⟩, ⟨some 25, .faddr 0 (.tmp 24), none⟩, ⟨some 26, .faddr 0 (.tmp 25), none⟩, ⟨some 27, .faddr 2 (.tmp 26), none⟩, ⟨none, .store 1 (.tmp 27) (.tmp 23), none⟩])
 (.seq (.reg [⟨some 28, .mv (.tmp 6), none⟩, ⟨some 29, .call 49 [.tmp 28, .con (.int .i64 0)], none⟩])
 (.seq (.reg [⟨some 30, .mv (.tmp 6), none⟩, ⟨some 4, .mv (.tmp 30), none⟩, ⟨some 5, .mv (.con (.int .i64 0)), none⟩])
 .ret))))))
def ac22 : AFun := ⟨2, 31, ab22, [(.tmp 4), (.tmp 5)]⟩
theorem cf22 : compF Try.prog Try.f22 = some ac22 := by kernel_rfl
theorem cl22 : callable Try.prog 22 = true := by kernel_rfl
theorem fn22 : Try.prog.funcs[22]? = some Try.f22 := by kernel_rfl
/- (*chancel/raft.Core).Propose -/
def ab23 : ACode := (.seq (.reg [⟨some 4, .mv (.con (.int .i64 0)), none⟩, ⟨some 5, .mv (.con (.int .i64 0)), none⟩])
 (.seq (.block 0
 (.seq (.reg [⟨some 7, .mv (.tmp 1), none⟩, ⟨some 8, .lenL (.tmp 7), none⟩, ⟨some 9, .bin .gtr .plain (.tmp 8) (.con (.int .i64 700)), none⟩, ⟨some 6, .mv (.tmp 9), none⟩])
 (.cond (.tmp 6)
 (.seq (.reg [⟨some 4, .mv (.con (.int .i64 0)), none⟩, ⟨some 5, .mv (.con (.int .i64 5)), none⟩])
 .ret)
 (.seq (.reg [⟨some 11, .mv (.tmp 0), none⟩, ⟨some 12, .nilck (.tmp 11), none⟩, ⟨some 13, .faddr 9 (.tmp 12), none⟩, ⟨some 14, .load false 1 (.tmp 13), none⟩, ⟨some 15, .bin .neq .plain (.tmp 14) (.con (.int .i64 2)), none⟩, ⟨some 10, .mv (.tmp 15), none⟩])
 (.cond (.tmp 10)
 (.seq (.reg [⟨some 4, .mv (.con (.int .i64 0)), none⟩, ⟨some 5, .mv (.con (.int .i64 34)), none⟩])
 .ret)
 (.seq (.reg [⟨some 17, .mv (.tmp 0), none⟩, ⟨some 18, .call 40 [.tmp 17], none⟩, ⟨some 16, .mv (.tmp 18), none⟩])
 (.cond (.tmp 16)
 (.seq (.reg [⟨some 4, .mv (.con (.int .i64 0)), none⟩, ⟨some 5, .mv (.con (.int .i64 33)), none⟩])
 .ret)
 .skip)))))))
 (.seq (.reg [⟨some 19, .mv (.tmp 0), none⟩, ⟨some 20, .mv (.tmp 1), none⟩, ⟨some 21, .build [.int .i64 0, .int .i64 0, .nils, .nils] [(1, 1, .con (.int .i64 1)), (2, 1, .tmp 20)], none⟩, ⟨some 22, .call 41 [.tmp 19, .tmp 21], none⟩, ⟨some 4, .mv (.tmp 22), none⟩, ⟨some 5, .mv (.con (.int .i64 0)), none⟩])
 .ret)))
def ac23 : AFun := ⟨2, 23, ab23, [(.tmp 4), (.tmp 5)]⟩
theorem cf23 : compF Try.prog Try.f23 = some ac23 := by kernel_rfl
theorem cl23 : callable Try.prog 23 = true := by kernel_rfl
theorem fn23 : Try.prog.funcs[23]? = some Try.f23 := by kernel_rfl
/- (*chancel/raft.Core).Ask -/
def ab24 : ACode := (.seq (.reg [⟨some 4, .mv (.con (.int .i64 0)), none⟩])
 (.seq (.block 0
 (.seq (.reg [⟨some 6, .mv (.tmp 0), none⟩, ⟨some 7, .nilck (.tmp 6), none⟩, ⟨some 8, .faddr 9 (.tmp 7), none⟩, ⟨some 9, .load false 1 (.tmp 8), none⟩, ⟨some 10, .bin .neq .plain (.tmp 9) (.con (.int .i64 2)), none⟩, ⟨some 5, .mv (.tmp 10), none⟩])
 (.cond (.tmp 5)
 (.seq (.reg [⟨some 4, .mv (.con (.int .i64 34)), none⟩])
 .ret)
 (.seq (.dreg [⟨some 12, .mv (.tmp 0), none⟩, ⟨some 13, .nilck (.tmp 12), none⟩, ⟨some 14, .faddr 0 (.tmp 13), none⟩, ⟨some 15, .mv (.tmp 0), none⟩, ⟨some 16, .nilck (.tmp 15), none⟩, ⟨some 17, .faddr 8 (.tmp 16), none⟩, ⟨some 18, .load false 1 (.tmp 17), none⟩, ⟨some 19, .call 39 [.tmp 14, .tmp 18], none⟩, ⟨some 20, .mv (.tmp 0), none⟩, ⟨some 21, .nilck (.tmp 20), none⟩, ⟨some 22, .faddr 6 (.tmp 21), none⟩, ⟨some 23, .load false 1 (.tmp 22), none⟩, ⟨some 24, .bin .neq .plain (.tmp 19) (.tmp 23), none⟩, ⟨some 11, .mv (.tmp 24), none⟩] [7] [0, 1, 3, 0, 8, 24, 56, 127, 0, 256, 768, 1792, 4095, 8191] [])
 (.cond (.tmp 11)
 (.seq (.reg [⟨some 4, .mv (.con (.int .i64 20)), none⟩])
 .ret)
 .skip)))))
 (.seq (.reg [⟨some 25, .mv (.tmp 0), none⟩, ⟨some 26, .nilck (.tmp 25), none⟩, ⟨some 27, .faddr 46 (.tmp 26), none⟩, ⟨some 28, .load false 1 (.tmp 27), none⟩, ⟨some 29, .bin .add .plain (.tmp 28) (.con (.int .i64 1)), none⟩, ⟨some 30, .nilck (.tmp 25), none⟩, ⟨some 31, .faddr 46 (.tmp 30), none⟩, ⟨none, .store 1 (.tmp 31) (.tmp 29), none⟩])
 (.seq (.dreg [⟨some 32, .mv (.tmp 0), none⟩, ⟨some 33, .mv (.tmp 0), none⟩, ⟨some 34, .nilck (.tmp 33), none⟩, ⟨some 35, .faddr 47 (.tmp 34), none⟩, ⟨some 36, .load false 1 (.tmp 35), none⟩, ⟨some 37, .mv (.tmp 1), none⟩, ⟨some 38, .mv (.tmp 0), none⟩, ⟨some 39, .nilck (.tmp 38), none⟩, ⟨some 40, .faddr 8 (.tmp 39), none⟩, ⟨some 41, .load false 1 (.tmp 40), none⟩, ⟨some 42, .build [.int .i64 0, .int .i64 0] [(0, 1, .tmp 37), (1, 1, .tmp 41)], none⟩, ⟨some 43, .mv (.tmp 0), none⟩, ⟨some 44, .nilck (.tmp 43), none⟩, ⟨some 45, .faddr 46 (.tmp 44), none⟩, ⟨some 46, .load false 1 (.tmp 45), none⟩, ⟨some 47, .build [.int .i64 0, .int .i64 0, .int .i64 0] [(0, 2, .tmp 42), (2, 1, .tmp 46)], none⟩, ⟨some 48, .bslice 3 1 [.int .i64 0, .int .i64 0, .int .i64 0] [(0, 3, .tmp 47)], none⟩, ⟨some 49, .append 3 24 (.tmp 36) (.tmp 48), none⟩, ⟨some 50, .nilck (.tmp 32), none⟩, ⟨some 51, .faddr 47 (.tmp 50), none⟩, ⟨none, .store 1 (.tmp 51) (.tmp 49), none⟩] [16, 17, 20] [0, 0, 2, 6, 14, 0, 0, 64, 192, 448, 992, 0, 2048, 6144, 14336, 32736, 65504, 131070, 262143, 524287, 1048575] [])
 (.seq (.reg [⟨some 52, .mv (.tmp 0), none⟩, ⟨some 53, .call 50 [.tmp 52], none⟩])
 (.seq (.reg [⟨some 54, .mv (.tmp 0), none⟩, ⟨some 55, .call 51 [.tmp 54], none⟩])
 (.seq (.reg [⟨some 4, .mv (.con (.int .i64 0)), none⟩])
 .ret)))))))
def ac24 : AFun := ⟨2, 56, ab24, [(.tmp 4)]⟩
theorem cf24 : compF Try.prog Try.f24 = some ac24 := by kernel_rfl
theorem cl24 : callable Try.prog 24 = true := by kernel_rfl
theorem fn24 : Try.prog.funcs[24]? = some Try.f24 := by kernel_rfl
/- (*chancel/raft.Core).Reads -/
def ab26 : ACode := (.seq (.reg [⟨some 2, .mv (.con .nils), none⟩])
 (.seq (.reg [⟨some 4, .mv (.tmp 0), none⟩, ⟨some 5, .nilck (.tmp 4), none⟩, ⟨some 6, .faddr 48 (.tmp 5), none⟩, ⟨some 7, .load false 1 (.tmp 6), none⟩, ⟨some 3, .mv (.tmp 7), none⟩])
 (.seq (.reg [⟨some 8, .mv (.tmp 0), none⟩, ⟨some 9, .nilck (.tmp 8), none⟩, ⟨some 10, .faddr 48 (.tmp 9), none⟩, ⟨none, .store 1 (.tmp 10) (.con .nils), none⟩])
 (.seq (.reg [⟨some 11, .mv (.tmp 3), none⟩, ⟨some 2, .mv (.tmp 11), none⟩])
 .ret))))
def ac26 : AFun := ⟨1, 12, ab26, [(.tmp 2)]⟩
theorem cf26 : compF Try.prog Try.f26 = some ac26 := by kernel_rfl
theorem cl26 : callable Try.prog 26 = true := by kernel_rfl
theorem fn26 : Try.prog.funcs[26]? = some Try.f26 := by kernel_rfl
/- (*chancel/chancellaw19.Group).ask -/
def ab28 : ACode := (.seq (.reg [⟨some 4, .mv (.con (.bool false)), none⟩])
 (.seq (.reg [⟨some 7, .mv (.tmp 0), none⟩, ⟨some 8, .nilck (.tmp 7), none⟩, ⟨some 9, .faddr 408 (.tmp 8), none⟩, ⟨some 10, .load false 1 (.tmp 9), none⟩, ⟨some 11, .bin .add .plain (.tmp 10) (.con (.int .i64 1)), none⟩, ⟨some 12, .nilck (.tmp 7), none⟩, ⟨some 13, .faddr 408 (.tmp 12), none⟩, ⟨none, .store 1 (.tmp 13) (.tmp 11), none⟩])
 (.seq (.reg [⟨some 14, .mv (.tmp 0), none⟩, ⟨some 15, .nilck (.tmp 14), none⟩, ⟨some 16, .faddr 4 (.tmp 15), none⟩, ⟨some 17, .load false 1 (.tmp 16), none⟩, ⟨some 18, .lenL (.tmp 17), none⟩, ⟨some 5, .mv (.tmp 18), none⟩])
 (.seq (.dreg [⟨some 19, .mv (.tmp 0), none⟩, ⟨some 20, .nilck (.tmp 19), none⟩, ⟨some 21, .faddr 1 (.tmp 20), none⟩, ⟨some 22, .load false 1 (.tmp 21), none⟩, ⟨some 23, .mv (.tmp 1), none⟩, ⟨some 24, .iaddr 1 (.tmp 22) (.tmp 23), none⟩, ⟨some 25, .load false 1 (.tmp 24), none⟩, ⟨some 26, .mv (.tmp 0), none⟩, ⟨some 27, .nilck (.tmp 26), none⟩, ⟨some 28, .faddr 408 (.tmp 27), none⟩, ⟨some 29, .load false 1 (.tmp 28), none⟩, ⟨some 30, .call 24 [.tmp 25, .tmp 29], none⟩, ⟨some 6, .mv (.tmp 30), none⟩] [11] [0, 1, 3, 7, 0, 31, 63, 0, 128, 384, 896, 2047, 4095] [])
 (.seq (.seq (.reg [⟨some 31, .mv (.tmp 6), none⟩, ⟨some 32, .bin .neq .plain (.tmp 31) (.con (.int .i64 0)), none⟩])
 (.cond (.tmp 32)
 (.seq (.reg [⟨some 33, .mv (.tmp 6), none⟩, ⟨some 34, .bin .eql .plain (.tmp 33) (.con (.int .i64 34)), none⟩, ⟨some 35, .mv (.tmp 34), none⟩, ⟨some 36, .mv (.tmp 6), some (35, false)⟩, ⟨some 37, .bin .eql .plain (.tmp 36) (.con (.int .i64 20)), some (35, false)⟩, ⟨some 38, .pick (.tmp 35) (.con (.bool true)) (.tmp 37), none⟩, ⟨some 39, .mv (.tmp 38), none⟩, ⟨some 40, .mv (.tmp 6), some (39, true)⟩, ⟨some 41, .bin .eql .plain (.tmp 40) (.con (.int .i64 34)), some (39, true)⟩, ⟨some 42, .mv (.tmp 0), some (39, true)⟩, ⟨some 43, .nilck (.tmp 42), some (39, true)⟩, ⟨some 44, .faddr 1 (.tmp 43), some (39, true)⟩, ⟨some 45, .load false 1 (.tmp 44), some (39, true)⟩, ⟨some 46, .mv (.tmp 1), some (39, true)⟩, ⟨some 47, .iaddr 1 (.tmp 45) (.tmp 46), some (39, true)⟩, ⟨some 48, .load false 1 (.tmp 47), some (39, true)⟩, ⟨some 49, .call 29 [.tmp 48], some (39, true)⟩, ⟨some 50, .bin .neq .plain (.tmp 49) (.con (.int .i64 2)), some (39, true)⟩, ⟨some 51, .bin .eql .bool (.tmp 41) (.tmp 50), some (39, true)⟩, ⟨some 52, .pick (.tmp 39) (.tmp 51) (.con (.bool false)), none⟩, ⟨some 4, .mv (.tmp 52), none⟩])
 .ret)
 .skip))
 (.seq (.dreg [⟨some 53, .mv (.tmp 0), none⟩, ⟨some 54, .nilck (.tmp 53), none⟩, ⟨some 55, .faddr 407 (.tmp 54), none⟩, ⟨some 56, .load false 1 (.tmp 55), none⟩, ⟨some 57, .mv (.tmp 1), none⟩, ⟨some 58, .mv (.tmp 0), none⟩, ⟨some 59, .nilck (.tmp 58), none⟩, ⟨some 60, .faddr 407 (.tmp 59), none⟩, ⟨some 61, .load false 1 (.tmp 60), none⟩, ⟨some 62, .mv (.tmp 1), none⟩, ⟨some 63, .iaddr 1 (.tmp 61) (.tmp 62), none⟩, ⟨some 64, .load false 1 (.tmp 63), none⟩, ⟨some 65, .mv (.tmp 0), none⟩, ⟨some 66, .nilck (.tmp 65), none⟩, ⟨some 67, .faddr 408 (.tmp 66), none⟩, ⟨some 68, .load false 1 (.tmp 67), none⟩, ⟨some 69, .mv (.tmp 5), none⟩, ⟨some 70, .build [.int .i64 0, .int .i64 0] [(0, 1, .tmp 68), (1, 1, .tmp 69)], none⟩, ⟨some 71, .bslice 2 1 [.int .i64 0, .int .i64 0] [(0, 2, .tmp 70)], none⟩, ⟨some 72, .append 2 16 (.tmp 64) (.tmp 71), none⟩, ⟨some 73, .iaddr 1 (.tmp 56) (.tmp 57), none⟩, ⟨none, .store 1 (.tmp 73) (.tmp 72), none⟩] [18, 19, 21] [0, 1, 3, 7, 0, 0, 32, 96, 224, 0, 992, 2016, 0, 4096, 12288, 28672, 0, 126976, 258048, 524256, 1048575, 2097151] [])
 (.seq (.reg [⟨some 74, .mv (.tmp 0), none⟩, ⟨some 75, .mv (.tmp 1), none⟩, ⟨some 76, .call 19 [.tmp 74, .tmp 75], none⟩, ⟨some 4, .mv (.tmp 76), none⟩])
 .ret)))))))
def ac28 : AFun := ⟨2, 77, ab28, [(.tmp 4)]⟩
theorem cf28 : compF Try.prog Try.f28 = some ac28 := by kernel_rfl
theorem cl28 : callable Try.prog 28 = true := by kernel_rfl
theorem fn28 : Try.prog.funcs[28]? = some Try.f28 := by kernel_rfl
/- (*chancel/raft.Core).Role -/
def ab29 : ACode := (.seq (.reg [⟨some 2, .mv (.con (.int .i64 0)), none⟩])
 (.seq (.reg [⟨some 3, .mv (.tmp 0), none⟩, ⟨some 4, .nilck (.tmp 3), none⟩, ⟨some 5, .faddr 9 (.tmp 4), none⟩, ⟨some 6, .load false 1 (.tmp 5), none⟩, ⟨some 2, .mv (.tmp 6), none⟩])
 .ret))
def ac29 : AFun := ⟨1, 7, ab29, [(.tmp 2)]⟩
theorem cf29 : compF Try.prog Try.f29 = some ac29 := by kernel_rfl
theorem cl29 : callable Try.prog 29 = true := by kernel_rfl
theorem fn29 : Try.prog.funcs[29]? = some Try.f29 := by kernel_rfl
/- (*chancel/raft.Core).Save -/
def ab30 : ACode := (.seq (.reg [⟨some 2, .mv (.con .nils), none⟩])
 (.seq (.dreg [⟨some 6, .mv (.tmp 0), none⟩, ⟨some 7, .nilck (.tmp 6), none⟩, ⟨some 8, .faddr 5 (.tmp 7), none⟩, ⟨some 9, .load false 1 (.tmp 8), none⟩, ⟨some 10, .mv (.tmp 0), none⟩, ⟨some 11, .nilck (.tmp 10), none⟩, ⟨some 12, .faddr 6 (.tmp 11), none⟩, ⟨some 13, .load false 1 (.tmp 12), none⟩, ⟨some 14, .mv (.tmp 0), none⟩, ⟨some 15, .nilck (.tmp 14), none⟩, ⟨some 16, .faddr 7 (.tmp 15), none⟩, ⟨some 17, .load false 1 (.tmp 16), none⟩, ⟨some 18, .mv (.tmp 0), none⟩, ⟨some 19, .nilck (.tmp 18), none⟩, ⟨some 20, .faddr 8 (.tmp 19), none⟩, ⟨some 21, .load false 1 (.tmp 20), none⟩, ⟨some 22, .mv (.tmp 0), none⟩, ⟨some 23, .nilck (.tmp 22), none⟩, ⟨some 24, .faddr 0 (.tmp 23), none⟩, ⟨some 25, .faddr 0 (.tmp 24), none⟩, ⟨some 26, .faddr 0 (.tmp 25), none⟩, ⟨some 27, .load false 1 (.tmp 26), none⟩, ⟨some 28, .mv (.tmp 0), none⟩, ⟨some 29, .nilck (.tmp 28), none⟩, ⟨some 30, .faddr 0 (.tmp 29), none⟩, ⟨some 31, .faddr 0 (.tmp 30), none⟩, ⟨some 32, .faddr 1 (.tmp 31), none⟩, ⟨some 33, .load false 1 (.tmp 32), none⟩, ⟨some 34, .bslice 1 6 [.int .i64 0] [(0, 1, .tmp 9), (1, 1, .tmp 13), (2, 1, .tmp 17), (3, 1, .tmp 21), (4, 1, .tmp 27), (5, 1, .tmp 33)], none⟩, ⟨some 35, .call 58 [.con .nils, .tmp 34], none⟩, ⟨some 3, .mv (.tmp 35), none⟩] [28, 29] [0, 1, 3, 7, 0, 16, 48, 112, 0, 256, 768, 1792, 0, 4096, 12288, 28672, 0, 65536, 196608, 458752, 983040, 2031616, 0, 4194304, 12582912, 29360128, 62914560, 130023424, 268435455, 536870911, 1073741823] [])
 (.seq (.reg [⟨some 36, .mv (.tmp 3), none⟩, ⟨some 37, .mv (.tmp 0), none⟩, ⟨some 38, .nilck (.tmp 37), none⟩, ⟨some 39, .faddr 0 (.tmp 38), none⟩, ⟨some 40, .faddr 0 (.tmp 39), none⟩, ⟨some 41, .faddr 2 (.tmp 40), none⟩, ⟨some 42, .load false 1 (.tmp 41), none⟩, ⟨some 43, .call 60 [.tmp 42], none⟩, ⟨some 44, .call 59 [.tmp 36, .tmp 43], none⟩, ⟨some 3, .mv (.tmp 44), none⟩])
 (.seq (.reg [⟨some 45, .mv (.tmp 3), none⟩, ⟨some 46, .mv (.tmp 0), none⟩, ⟨some 47, .nilck (.tmp 46), none⟩, ⟨some 48, .faddr 0 (.tmp 47), none⟩, ⟨some 49, .faddr 0 (.tmp 48), none⟩, ⟨some 50, .faddr 3 (.tmp 49), none⟩, ⟨some 51, .load false 1 (.tmp 50), none⟩, ⟨some 52, .call 59 [.tmp 45, .tmp 51], none⟩, ⟨some 3, .mv (.tmp 52), none⟩])
 (.seq (.reg [⟨some 53, .mv (.tmp 3), none⟩, ⟨some 54, .mv (.tmp 0), none⟩, ⟨some 55, .nilck (.tmp 54), none⟩, ⟨some 56, .faddr 0 (.tmp 55), none⟩, ⟨some 57, .faddr 4 (.tmp 56), none⟩, ⟨some 58, .load false 1 (.tmp 57), none⟩, ⟨some 59, .lenL (.tmp 58), none⟩, ⟨some 60, .bslice 1 1 [.int .i64 0] [(0, 1, .tmp 59)], none⟩, ⟨some 61, .call 58 [.tmp 53, .tmp 60], none⟩, ⟨some 3, .mv (.tmp 61), none⟩])
 (.seq (.seq (.reg [⟨some 62, .mv (.tmp 0), none⟩, ⟨some 63, .nilck (.tmp 62), none⟩, ⟨some 64, .faddr 0 (.tmp 63), none⟩, ⟨some 65, .faddr 4 (.tmp 64), none⟩, ⟨some 66, .load false 1 (.tmp 65), none⟩, ⟨some 67, .lenL (.tmp 66), none⟩, ⟨some 68, .mv (.con (.int .i64 0)), none⟩])
 (.block 0
 (.loop (.seq (.reg [⟨some 69, .bin .lss .plain (.tmp 68) (.tmp 67), none⟩])
 (.seq (.cond (.tmp 69)
 .skip
 (.exit 0))
 (.seq (.block 1
 (.seq (.reg [⟨some 70, .iaddr 4 (.tmp 66) (.tmp 68), none⟩, ⟨some 71, .load true 4 (.tmp 70), none⟩, ⟨some 5, .alloc [.int .i64 0, .int .i64 0, .nils, .nils], none⟩, ⟨none, .store 4 (.tmp 5) (.tmp 71), none⟩])
 (.seq (.reg [⟨some 72, .mv (.tmp 3), none⟩, ⟨some 73, .faddr 0 (.tmp 5), none⟩, ⟨some 74, .load false 1 (.tmp 73), none⟩, ⟨some 75, .faddr 1 (.tmp 5), none⟩, ⟨some 76, .load false 1 (.tmp 75), none⟩, ⟨some 77, .bslice 1 2 [.int .i64 0] [(0, 1, .tmp 74), (1, 1, .tmp 76)], none⟩, ⟨some 78, .call 58 [.tmp 72, .tmp 77], none⟩, ⟨some 3, .mv (.tmp 78), none⟩])
 (.seq (.reg [⟨some 79, .mv (.tmp 3), none⟩, ⟨some 80, .faddr 2 (.tmp 5), none⟩, ⟨some 81, .load false 1 (.tmp 80), none⟩, ⟨some 82, .call 59 [.tmp 79, .tmp 81], none⟩, ⟨some 3, .mv (.tmp 82), none⟩])
 (.reg [⟨some 83, .mv (.tmp 3), none⟩, ⟨some 84, .faddr 3 (.tmp 5), none⟩, ⟨some 85, .load false 1 (.tmp 84), none⟩, ⟨some 86, .call 60 [.tmp 85], none⟩, ⟨some 87, .call 59 [.tmp 83, .tmp 86], none⟩, ⟨some 3, .mv (.tmp 87), none⟩])))))
 (.reg [⟨some 88, .bin .add .plain (.tmp 68) (.con (.int .i64 1)), none⟩, ⟨some 68, .mv (.tmp 88), none⟩])))))))
 (.seq (.reg [⟨some 89, .mv (.tmp 3), none⟩, ⟨some 2, .mv (.tmp 89), none⟩])
 .ret)))))))
def ac30 : AFun := ⟨1, 90, ab30, [(.tmp 2)]⟩
theorem cf30 : compF Try.prog Try.f30 = some ac30 := by kernel_rfl
theorem cl30 : callable Try.prog 30 = true := by kernel_rfl
theorem fn30 : Try.prog.funcs[30]? = some Try.f30 := by kernel_rfl
/- (*chancel/chancellaw19.Group).quiet -/
def ab31 : ACode := (.seq (.reg [⟨some 2, .mv (.con (.bool false)), none⟩])
 (.seq (.seq (.reg [⟨some 3, .mv (.con (.int .i64 0)), none⟩])
 (.block 0
 (.loop (.seq (.seq (.reg [⟨some 8, .mv (.tmp 3), none⟩, ⟨some 9, .mv (.tmp 0), none⟩, ⟨some 10, .nilck (.tmp 9), none⟩, ⟨some 11, .faddr 0 (.tmp 10), none⟩, ⟨some 12, .load false 1 (.tmp 11), none⟩, ⟨some 13, .bin .lss .plain (.tmp 8) (.tmp 12), none⟩])
 (.cond (.tmp 13)
 .skip
 (.exit 0)))
 (.seq (.block 1
 (.seq (.reg [⟨some 16, .mv (.tmp 0), none⟩, ⟨some 17, .nilck (.tmp 16), none⟩, ⟨some 18, .faddr 1 (.tmp 17), none⟩, ⟨some 19, .load false 1 (.tmp 18), none⟩, ⟨some 20, .mv (.tmp 3), none⟩, ⟨some 21, .iaddr 1 (.tmp 19) (.tmp 20), none⟩, ⟨some 22, .load false 1 (.tmp 21), none⟩, ⟨some 23, .mv (.tmp 3), none⟩, ⟨some 24, .bin .mul .plain (.con (.int .i64 7)) (.tmp 23), none⟩, ⟨some 25, .bin .rem .plain (.tmp 24) (.con (.int .i64 10)), none⟩, ⟨some 26, .call 53 [.tmp 22, .tmp 25], none⟩])
 (.seq (.reg [⟨some 27, .mv (.tmp 0), none⟩, ⟨some 28, .mv (.tmp 3), none⟩, ⟨some 29, .call 19 [.tmp 27, .tmp 28], none⟩, ⟨some 30, .un .not (.tmp 29), none⟩])
 (.cond (.tmp 30)
 (.seq (.reg [⟨some 2, .mv (.con (.bool false)), none⟩])
 .ret)
 .skip))))
 (.reg [⟨some 14, .mv (.tmp 3), none⟩, ⟨some 15, .bin .add .plain (.tmp 14) (.con (.int .i64 1)), none⟩, ⟨some 3, .mv (.tmp 15), none⟩]))))))
 (.seq (.seq (.reg [⟨some 4, .mv (.con (.int .i64 0)), none⟩])
 (.block 2
 (.loop (.seq (.seq (.reg [⟨some 31, .mv (.tmp 4), none⟩, ⟨some 32, .bin .lss .plain (.tmp 31) (.con (.int .i64 2000)), none⟩, ⟨some 33, .mv (.tmp 32), none⟩, ⟨some 34, .mv (.tmp 0), some (33, true)⟩, ⟨some 35, .nilck (.tmp 34), some (33, true)⟩, ⟨some 36, .faddr 3 (.tmp 35), some (33, true)⟩, ⟨some 37, .load false 1 (.tmp 36), some (33, true)⟩, ⟨some 38, .lenL (.tmp 37), some (33, true)⟩, ⟨some 39, .bin .gtr .plain (.tmp 38) (.con (.int .i64 0)), some (33, true)⟩, ⟨some 40, .pick (.tmp 33) (.tmp 39) (.con (.bool false)), none⟩])
 (.cond (.tmp 40)
 .skip
 (.exit 2)))
 (.seq (.block 3
 (.seq (.reg [⟨some 43, .mv (.tmp 0), none⟩, ⟨some 44, .call 54 [.tmp 43, .con (.int .i64 0)], none⟩, ⟨some 45, .un .not (.tmp 44), none⟩])
 (.cond (.tmp 45)
 (.seq (.reg [⟨some 2, .mv (.con (.bool false)), none⟩])
 .ret)
 .skip)))
 (.reg [⟨some 41, .mv (.tmp 4), none⟩, ⟨some 42, .bin .add .plain (.tmp 41) (.con (.int .i64 1)), none⟩, ⟨some 4, .mv (.tmp 42), none⟩]))))))
 (.seq (.reg [⟨some 46, .mv (.tmp 0), none⟩, ⟨some 47, .nilck (.tmp 46), none⟩, ⟨some 48, .faddr 3 (.tmp 47), none⟩, ⟨none, .store 1 (.tmp 48) (.con .nils), none⟩])
 (.seq (.seq (.reg [⟨some 5, .mv (.con (.int .i64 0)), none⟩])
 (.block 4
 (.loop (.seq (.seq (.reg [⟨some 49, .mv (.tmp 5), none⟩, ⟨some 50, .mv (.tmp 0), none⟩, ⟨some 51, .nilck (.tmp 50), none⟩, ⟨some 52, .faddr 0 (.tmp 51), none⟩, ⟨some 53, .load false 1 (.tmp 52), none⟩, ⟨some 54, .bin .lss .plain (.tmp 49) (.tmp 53), none⟩])
 (.cond (.tmp 54)
 .skip
 (.exit 4)))
 (.seq (.block 5
 (.seq (.reg [⟨some 58, .mv (.tmp 0), none⟩, ⟨some 59, .nilck (.tmp 58), none⟩, ⟨some 60, .faddr 1 (.tmp 59), none⟩, ⟨some 61, .load false 1 (.tmp 60), none⟩, ⟨some 62, .mv (.tmp 5), none⟩, ⟨some 63, .iaddr 1 (.tmp 61) (.tmp 62), none⟩, ⟨some 64, .load false 1 (.tmp 63), none⟩, ⟨some 65, .nilck (.tmp 64), none⟩, ⟨some 66, .faddr 0 (.tmp 65), none⟩, ⟨some 67, .call 16 [.tmp 66], none⟩, ⟨some 57, .mv (.tmp 67), none⟩, ⟨some 68, .ext (.tmp 57) 0, none⟩, ⟨some 69, .ext (.tmp 57) 1, none⟩, ⟨some 6, .mv (.tmp 68), none⟩, ⟨some 7, .mv (.tmp 69), none⟩])
 (.seq (.reg [⟨some 70, .mv (.tmp 0), none⟩, ⟨some 71, .nilck (.tmp 70), none⟩, ⟨some 72, .faddr 1 (.tmp 71), none⟩, ⟨some 73, .load false 1 (.tmp 72), none⟩, ⟨some 74, .mv (.tmp 5), none⟩, ⟨some 75, .iaddr 1 (.tmp 73) (.tmp 74), none⟩, ⟨some 76, .load false 1 (.tmp 75), none⟩, ⟨some 77, .nilck (.tmp 76), none⟩, ⟨some 78, .faddr 0 (.tmp 77), none⟩, ⟨some 79, .call 13 [.tmp 78], none⟩, ⟨some 80, .mv (.tmp 6), none⟩, ⟨some 81, .bin .sub .plain (.tmp 79) (.tmp 80), none⟩, ⟨some 82, .bin .geq .plain (.tmp 81) (.con (.int .i64 24)), none⟩, ⟨some 83, .mv (.tmp 82), none⟩, ⟨some 84, .mv (.tmp 0), some (83, true)⟩, ⟨some 85, .mv (.tmp 5), some (83, true)⟩, ⟨some 86, .mv (.tmp 0), some (83, true)⟩, ⟨some 87, .nilck (.tmp 86), some (83, true)⟩, ⟨some 88, .faddr 1 (.tmp 87), some (83, true)⟩, ⟨some 89, .load false 1 (.tmp 88), some (83, true)⟩, ⟨some 90, .mv (.tmp 5), some (83, true)⟩, ⟨some 91, .iaddr 1 (.tmp 89) (.tmp 90), some (83, true)⟩, ⟨some 92, .load false 1 (.tmp 91), some (83, true)⟩, ⟨some 93, .call 21 [.tmp 92], some (83, true)⟩, ⟨some 94, .call 57 [.tmp 84, .tmp 85, .tmp 93], some (83, true)⟩, ⟨some 95, .un .not (.tmp 94), some (83, true)⟩, ⟨some 96, .pick (.tmp 83) (.tmp 95) (.con (.bool false)), none⟩])
 (.cond (.tmp 96)
 (.seq (.reg [⟨some 2, .mv (.con (.bool false)), none⟩])
 .ret)
 .skip))))
 (.reg [⟨some 55, .mv (.tmp 5), none⟩, ⟨some 56, .bin .add .plain (.tmp 55) (.con (.int .i64 1)), none⟩, ⟨some 5, .mv (.tmp 56), none⟩]))))))
 (.seq (.reg [⟨some 2, .mv (.con (.bool true)), none⟩])
 .ret))))))
def ac31 : AFun := ⟨1, 97, ab31, [(.tmp 2)]⟩
theorem cf31 : compF Try.prog Try.f31 = some ac31 := by kernel_rfl
theorem cl31 : callable Try.prog 31 = true := by kernel_rfl
theorem fn31 : Try.prog.funcs[31]? = some Try.f31 := by kernel_rfl
/- (*chancel/raft.log).has -/
def ab32 : ACode := (.seq (.reg [⟨some 4, .mv (.con (.bool false)), none⟩])
 (.seq (.reg [⟨some 5, .mv (.tmp 1), none⟩, ⟨some 6, .mv (.tmp 0), none⟩, ⟨some 7, .nilck (.tmp 6), none⟩, ⟨some 8, .faddr 0 (.tmp 7), none⟩, ⟨some 9, .faddr 0 (.tmp 8), none⟩, ⟨some 10, .load false 1 (.tmp 9), none⟩, ⟨some 11, .bin .gtr .plain (.tmp 5) (.tmp 10), none⟩, ⟨some 12, .mv (.tmp 11), none⟩, ⟨some 13, .mv (.tmp 1), some (12, true)⟩, ⟨some 14, .mv (.tmp 0), some (12, true)⟩, ⟨some 15, .call 13 [.tmp 14], some (12, true)⟩, ⟨some 16, .bin .leq .plain (.tmp 13) (.tmp 15), some (12, true)⟩, ⟨some 17, .pick (.tmp 12) (.tmp 16) (.con (.bool false)), none⟩, ⟨some 4, .mv (.tmp 17), none⟩])
 .ret))
def ac32 : AFun := ⟨2, 18, ab32, [(.tmp 4)]⟩
theorem cf32 : compF Try.prog Try.f32 = some ac32 := by kernel_rfl
theorem cl32 : callable Try.prog 32 = true := by kernel_rfl
theorem fn32 : Try.prog.funcs[32]? = some Try.f32 := by kernel_rfl
/- chancel/raft.twin -/
def ab33 : ACode := (.seq (.reg [⟨some 1, .box (.tmp 0), none⟩, ⟨some 2, .alloc [.int .i64 0, .int .i64 0, .nils, .nils], none⟩])
 (.seq (.dreg [⟨some 3, .faddr 2 (.tmp 1), none⟩, ⟨some 4, .load false 1 (.tmp 3), none⟩, ⟨some 5, .call 35 [.tmp 4], none⟩, ⟨some 6, .faddr 3 (.tmp 1), none⟩, ⟨some 7, .load false 1 (.tmp 6), none⟩, ⟨some 8, .call 48 [.tmp 7], none⟩, ⟨some 9, .faddr 2 (.tmp 1), none⟩, ⟨none, .store 1 (.tmp 9) (.tmp 5), none⟩, ⟨some 10, .faddr 3 (.tmp 1), none⟩, ⟨none, .store 1 (.tmp 10) (.tmp 8), none⟩] [2, 5, 7, 9] [0, 1, 3, 0, 8, 31, 31, 127, 255, 511] [])
 (.seq (.reg [⟨some 11, .load true 4 (.tmp 1), none⟩, ⟨none, .store 4 (.tmp 2) (.tmp 11), none⟩])
 .ret)))
def ac33 : AFun := ⟨1, 12, ab33, [(.cell 2 true 4)]⟩
theorem cf33 : compF Try.prog Try.f33 = some ac33 := by kernel_rfl
theorem cl33 : callable Try.prog 33 = true := by kernel_rfl
theorem fn33 : Try.prog.funcs[33]? = some Try.f33 := by kernel_rfl
/- (*chancel/raft.log).at -/
def ab34 : ACode := (.seq (.reg [⟨some 4, .alloc [.int .i64 0, .int .i64 0, .nils, .nils], none⟩])
 (.seq (.dreg [⟨some 5, .mv (.tmp 0), none⟩, ⟨some 6, .nilck (.tmp 5), none⟩, ⟨some 7, .faddr 4 (.tmp 6), none⟩, ⟨some 8, .load false 1 (.tmp 7), none⟩, ⟨some 9, .mv (.tmp 1), none⟩, ⟨some 10, .mv (.tmp 0), none⟩, ⟨some 11, .nilck (.tmp 10), none⟩, ⟨some 12, .faddr 0 (.tmp 11), none⟩, ⟨some 13, .faddr 0 (.tmp 12), none⟩, ⟨some 14, .load false 1 (.tmp 13), none⟩, ⟨some 15, .bin .sub .plain (.tmp 9) (.tmp 14), none⟩, ⟨some 16, .bin .sub .plain (.tmp 15) (.con (.int .i64 1)), none⟩, ⟨some 17, .iaddr 4 (.tmp 8) (.tmp 16), none⟩, ⟨some 18, .load true 4 (.tmp 17), none⟩, ⟨none, .store 4 (.tmp 4) (.tmp 18), none⟩] [14] [0, 1, 3, 7, 0, 0, 32, 96, 224, 480, 1008, 2032, 4095, 8191, 16383] [])
 .ret))
def ac34 : AFun := ⟨2, 19, ab34, [(.cell 4 true 4)]⟩
theorem cf34 : compF Try.prog Try.f34 = some ac34 := by kernel_rfl
theorem cl34 : callable Try.prog 34 = true := by kernel_rfl
theorem fn34 : Try.prog.funcs[34]? = some Try.f34 := by kernel_rfl
/- slices.Clone[[]byte,byte] -/
def ab35 : ACode := (.seq (.reg [⟨some 2, .mv (.con .nils), none⟩])
 (.seq (.seq (.reg [⟨some 3, .mv (.tmp 0), none⟩, ⟨some 4, .bin .eql .slice (.tmp 3) (.con .nils), none⟩])
 (.cond (.tmp 4)
 (.seq (.reg [⟨some 2, .mv (.con .nils), none⟩])
 .ret)
 .skip))
 (.seq (.reg [⟨some 5, .bslice 1 0 [.int .u8 0] [], none⟩, ⟨some 6, .mv (.tmp 0), none⟩, ⟨some 7, .append 1 1 (.tmp 5) (.tmp 6), none⟩, ⟨some 2, .mv (.tmp 7), none⟩])
 .ret)))
def ac35 : AFun := ⟨1, 8, ab35, [(.tmp 2)]⟩
theorem cf35 : compF Try.prog Try.f35 = some ac35 := by kernel_rfl
theorem cl35 : callable Try.prog 35 = true := by kernel_rfl
theorem fn35 : Try.prog.funcs[35]? = some Try.f35 := by kernel_rfl
/- (*chancel/raft.log).counted -/
def ab36 : ACode := (.seq (.reg [⟨some 4, .mv (.con .nils), none⟩, ⟨some 5, .mv (.con (.int .i64 0)), none⟩])
 (.seq (.seq (.reg [⟨some 8, .mv (.tmp 1), none⟩, ⟨some 9, .mv (.tmp 0), none⟩, ⟨some 10, .call 13 [.tmp 9], none⟩, ⟨some 11, .mn [.tmp 8, .tmp 10], none⟩, ⟨some 6, .mv (.tmp 11), none⟩])
 (.block 0
 (.loop (.seq (.seq (.reg [⟨some 12, .mv (.tmp 6), none⟩, ⟨some 13, .mv (.tmp 0), none⟩, ⟨some 14, .nilck (.tmp 13), none⟩, ⟨some 15, .faddr 0 (.tmp 14), none⟩, ⟨some 16, .faddr 0 (.tmp 15), none⟩, ⟨some 17, .load false 1 (.tmp 16), none⟩, ⟨some 18, .bin .gtr .plain (.tmp 12) (.tmp 17), none⟩])
 (.cond (.tmp 18)
 .skip
 (.exit 0)))
 (.seq (.block 1
 (.seq (.reg [⟨some 21, .mv (.tmp 0), none⟩, ⟨some 22, .mv (.tmp 6), none⟩, ⟨some 23, .call 34 [.tmp 21, .tmp 22], none⟩, ⟨some 7, .alloc [.int .i64 0, .int .i64 0, .nils, .nils], none⟩, ⟨none, .store 4 (.tmp 7) (.tmp 23), none⟩])
 (.seq (.reg [⟨some 24, .faddr 1 (.tmp 7), none⟩, ⟨some 25, .load false 1 (.tmp 24), none⟩, ⟨some 26, .bin .eql .plain (.tmp 25) (.con (.int .i64 2)), none⟩])
 (.cond (.tmp 26)
 (.seq (.reg [⟨some 27, .faddr 3 (.tmp 7), none⟩, ⟨some 28, .load false 1 (.tmp 27), none⟩, ⟨some 29, .mv (.tmp 6), none⟩, ⟨some 4, .mv (.tmp 28), none⟩, ⟨some 5, .mv (.tmp 29), none⟩])
 .ret)
 .skip))))
 (.reg [⟨some 19, .mv (.tmp 6), none⟩, ⟨some 20, .bin .sub .plain (.tmp 19) (.con (.int .i64 1)), none⟩, ⟨some 6, .mv (.tmp 20), none⟩]))))))
 (.seq (.dreg [⟨some 30, .mv (.tmp 0), none⟩, ⟨some 31, .nilck (.tmp 30), none⟩, ⟨some 32, .faddr 0 (.tmp 31), none⟩, ⟨some 33, .faddr 2 (.tmp 32), none⟩, ⟨some 34, .load false 1 (.tmp 33), none⟩, ⟨some 35, .mv (.tmp 0), none⟩, ⟨some 36, .nilck (.tmp 35), none⟩, ⟨some 37, .faddr 0 (.tmp 36), none⟩, ⟨some 38, .faddr 0 (.tmp 37), none⟩, ⟨some 39, .load false 1 (.tmp 38), none⟩, ⟨some 4, .mv (.tmp 34), none⟩, ⟨some 5, .mv (.tmp 39), none⟩] [] [0, 1, 3, 7, 15, 0, 32, 96, 224, 480, 31, 2047] [])
 .ret)))
def ac36 : AFun := ⟨2, 40, ab36, [(.tmp 4), (.tmp 5)]⟩
theorem cf36 : compF Try.prog Try.f36 = some ac36 := by kernel_rfl
theorem cl36 : callable Try.prog 36 = true := by kernel_rfl
theorem fn36 : Try.prog.funcs[36]? = some Try.f36 := by kernel_rfl
/- chancel/raft.valid -/
def ab37 : ACode := (.seq (.reg [⟨some 2, .mv (.con (.bool false)), none⟩])
 (.seq (.seq (.reg [⟨some 5, .mv (.tmp 0), none⟩, ⟨some 6, .lenL (.tmp 5), none⟩, ⟨some 7, .mv (.con (.int .i64 0)), none⟩])
 (.block 0
 (.loop (.seq (.reg [⟨some 8, .bin .lss .plain (.tmp 7) (.tmp 6), none⟩])
 (.seq (.cond (.tmp 8)
 .skip
 (.exit 0))
 (.seq (.block 1
 (.seq (.reg [⟨some 9, .mv (.tmp 7), none⟩, ⟨some 10, .iaddr 1 (.tmp 5) (.tmp 7), none⟩, ⟨some 11, .load false 1 (.tmp 10), none⟩, ⟨some 3, .mv (.tmp 9), none⟩, ⟨some 4, .mv (.tmp 11), none⟩])
 (.seq (.reg [⟨some 12, .mv (.tmp 4), none⟩, ⟨some 13, .bin .lss .plain (.tmp 12) (.con (.int .i64 0)), none⟩, ⟨some 14, .mv (.tmp 13), none⟩, ⟨some 15, .mv (.tmp 4), some (14, false)⟩, ⟨some 16, .bin .geq .plain (.tmp 15) (.con (.int .i64 7)), some (14, false)⟩, ⟨some 17, .pick (.tmp 14) (.con (.bool true)) (.tmp 16), none⟩, ⟨some 18, .mv (.tmp 17), none⟩, ⟨some 19, .mv (.tmp 3), some (18, false)⟩, ⟨some 20, .bin .gtr .plain (.tmp 19) (.con (.int .i64 0)), some (18, false)⟩, ⟨some 21, .mv (.tmp 20), some (18, false)⟩, ⟨some 22, .mv (.tmp 4), some (21, true)⟩, ⟨some 23, .mv (.tmp 0), some (21, true)⟩, ⟨some 24, .mv (.tmp 3), some (21, true)⟩, ⟨some 25, .bin .sub .plain (.tmp 24) (.con (.int .i64 1)), some (21, true)⟩, ⟨some 26, .iaddr 1 (.tmp 23) (.tmp 25), some (21, true)⟩, ⟨some 27, .load false 1 (.tmp 26), some (21, true)⟩, ⟨some 28, .bin .leq .plain (.tmp 22) (.tmp 27), some (21, true)⟩, ⟨some 29, .pick (.tmp 21) (.tmp 28) (.con (.bool false)), some (18, false)⟩, ⟨some 30, .pick (.tmp 18) (.con (.bool true)) (.tmp 29), none⟩])
 (.cond (.tmp 30)
 (.seq (.reg [⟨some 2, .mv (.con (.bool false)), none⟩])
 .ret)
 .skip))))
 (.reg [⟨some 31, .bin .add .plain (.tmp 7) (.con (.int .i64 1)), none⟩, ⟨some 7, .mv (.tmp 31), none⟩])))))))
 (.seq (.reg [⟨some 32, .mv (.tmp 0), none⟩, ⟨some 33, .lenL (.tmp 32), none⟩, ⟨some 34, .bin .gtr .plain (.tmp 33) (.con (.int .i64 0)), none⟩, ⟨some 2, .mv (.tmp 34), none⟩])
 .ret)))
def ac37 : AFun := ⟨1, 35, ab37, [(.tmp 2)]⟩
theorem cf37 : compF Try.prog Try.f37 = some ac37 := by kernel_rfl
theorem cl37 : callable Try.prog 37 = true := by kernel_rfl
theorem fn37 : Try.prog.funcs[37]? = some Try.f37 := by kernel_rfl
/- chancel/raft.step -/
def ab38 : ACode := (.seq (.reg [⟨some 4, .mv (.con (.bool false)), none⟩])
 (.seq (.reg [⟨some 5, .mv (.con (.int .i64 0)), none⟩])
 (.seq (.seq (.reg [⟨some 7, .mv (.con (.int .i64 0)), none⟩])
 (.block 0
 (.loop (.seq (.reg [⟨some 8, .bin .lss .plain (.tmp 7) (.con (.int .i64 7)), none⟩])
 (.seq (.cond (.tmp 8)
 .skip
 (.exit 0))
 (.seq (.block 1
 (.seq (.reg [⟨some 9, .mv (.tmp 7), none⟩, ⟨some 6, .mv (.tmp 9), none⟩])
 (.seq (.reg [⟨some 10, .mv (.tmp 0), none⟩, ⟨some 11, .mv (.tmp 6), none⟩, ⟨some 12, .call 61 [.tmp 10, .tmp 11], none⟩, ⟨some 13, .mv (.tmp 1), none⟩, ⟨some 14, .mv (.tmp 6), none⟩, ⟨some 15, .call 61 [.tmp 13, .tmp 14], none⟩, ⟨some 16, .bin .neq .bool (.tmp 12) (.tmp 15), none⟩])
 (.cond (.tmp 16)
 (.reg [⟨some 17, .mv (.tmp 5), none⟩, ⟨some 18, .bin .add .plain (.tmp 17) (.con (.int .i64 1)), none⟩, ⟨some 5, .mv (.tmp 18), none⟩])
 .skip))))
 (.reg [⟨some 19, .bin .add .plain (.tmp 7) (.con (.int .i64 1)), none⟩, ⟨some 7, .mv (.tmp 19), none⟩])))))))
 (.seq (.reg [⟨some 20, .mv (.tmp 5), none⟩, ⟨some 21, .bin .eql .plain (.tmp 20) (.con (.int .i64 1)), none⟩, ⟨some 4, .mv (.tmp 21), none⟩])
 .ret))))
def ac38 : AFun := ⟨2, 22, ab38, [(.tmp 4)]⟩
theorem cf38 : compF Try.prog Try.f38 = some ac38 := by kernel_rfl
theorem cl38 : callable Try.prog 38 = true := by kernel_rfl
theorem fn38 : Try.prog.funcs[38]? = some Try.f38 := by kernel_rfl
/- (*chancel/raft.log).termAt -/
def ab39 : ACode := (.seq (.reg [⟨some 4, .mv (.con (.int .i64 0)), none⟩])
 (.seq (.block 0
 (.seq (.reg [⟨some 6, .mv (.tmp 1), none⟩, ⟨some 7, .mv (.tmp 0), none⟩, ⟨some 8, .nilck (.tmp 7), none⟩, ⟨some 9, .faddr 0 (.tmp 8), none⟩, ⟨some 10, .faddr 0 (.tmp 9), none⟩, ⟨some 11, .load false 1 (.tmp 10), none⟩, ⟨some 12, .bin .eql .plain (.tmp 6) (.tmp 11), none⟩, ⟨some 5, .mv (.tmp 12), none⟩])
 (.cond (.tmp 5)
 (.seq (.reg [⟨some 13, .mv (.tmp 0), none⟩, ⟨some 14, .nilck (.tmp 13), none⟩, ⟨some 15, .faddr 0 (.tmp 14), none⟩, ⟨some 16, .faddr 1 (.tmp 15), none⟩, ⟨some 17, .load false 1 (.tmp 16), none⟩, ⟨some 4, .mv (.tmp 17), none⟩])
 .ret)
 (.seq (.reg [⟨some 19, .mv (.tmp 0), none⟩, ⟨some 20, .mv (.tmp 1), none⟩, ⟨some 21, .call 32 [.tmp 19, .tmp 20], none⟩, ⟨some 18, .mv (.tmp 21), none⟩])
 (.cond (.tmp 18)
 (.seq (.reg [⟨some 22, .mv (.tmp 0), none⟩, ⟨some 23, .mv (.tmp 1), none⟩, ⟨some 24, .call 34 [.tmp 22, .tmp 23], none⟩, ⟨some 25, .fld false 1 0 (.tmp 24), none⟩, ⟨some 4, .mv (.tmp 25), none⟩])
 .ret)
 .skip)))))
 (.seq (.reg [⟨some 4, .mv (.con (.int .i64 0)), none⟩])
 .ret)))
def ac39 : AFun := ⟨2, 26, ab39, [(.tmp 4)]⟩
theorem cf39 : compF Try.prog Try.f39 = some ac39 := by kernel_rfl
theorem cl39 : callable Try.prog 39 = true := by kernel_rfl
theorem fn39 : Try.prog.funcs[39]? = some Try.f39 := by kernel_rfl
/- (*chancel/raft.Core).full -/
def ab40 : ACode := (.seq (.reg [⟨some 2, .mv (.con (.bool false)), none⟩])
 (.seq (.reg [⟨some 3, .mv (.tmp 0), none⟩, ⟨some 4, .nilck (.tmp 3), none⟩, ⟨some 5, .faddr 0 (.tmp 4), none⟩, ⟨some 6, .faddr 4 (.tmp 5), none⟩, ⟨some 7, .load false 1 (.tmp 6), none⟩, ⟨some 8, .lenL (.tmp 7), none⟩, ⟨some 9, .bin .geq .plain (.tmp 8) (.con (.int .i64 56)), none⟩, ⟨some 2, .mv (.tmp 9), none⟩])
 .ret))
def ac40 : AFun := ⟨1, 10, ab40, [(.tmp 2)]⟩
theorem cf40 : compF Try.prog Try.f40 = some ac40 := by kernel_rfl
theorem cl40 : callable Try.prog 40 = true := by kernel_rfl
theorem fn40 : Try.prog.funcs[40]? = some Try.f40 := by kernel_rfl
/- (*chancel/raft.Core).lay -/
def ab41 : ACode := (.seq (.reg [⟨some 3, .box (.tmp 1), none⟩, ⟨some 4, .mv (.con (.int .i64 0)), none⟩])
 (.seq (.reg [⟨some 6, .mv (.tmp 0), none⟩, ⟨some 7, .nilck (.tmp 6), none⟩, ⟨some 8, .faddr 6 (.tmp 7), none⟩, ⟨some 9, .load false 1 (.tmp 8), none⟩, ⟨some 10, .faddr 0 (.tmp 3), none⟩, ⟨none, .store 1 (.tmp 10) (.tmp 9), none⟩])
 (.seq (.dreg [⟨some 11, .mv (.tmp 0), none⟩, ⟨some 12, .nilck (.tmp 11), none⟩, ⟨some 13, .faddr 0 (.tmp 12), none⟩, ⟨some 14, .load true 4 (.tmp 3), none⟩, ⟨some 15, .call 62 [.tmp 13, .tmp 14], none⟩] [4] [0, 1, 3, 0, 15] [])
 (.seq (.reg [⟨some 16, .mv (.tmp 0), none⟩, ⟨some 17, .nilck (.tmp 16), none⟩, ⟨some 18, .faddr 0 (.tmp 17), none⟩, ⟨some 19, .call 13 [.tmp 18], none⟩, ⟨some 5, .mv (.tmp 19), none⟩])
 (.seq (.reg [⟨some 20, .mv (.tmp 0), none⟩, ⟨some 21, .call 50 [.tmp 20], none⟩])
 (.seq (.reg [⟨some 22, .mv (.tmp 0), none⟩, ⟨some 23, .call 63 [.tmp 22], none⟩])
 (.seq (.reg [⟨some 24, .mv (.tmp 5), none⟩, ⟨some 4, .mv (.tmp 24), none⟩])
 .ret)))))))
def ac41 : AFun := ⟨2, 25, ab41, [(.tmp 4)]⟩
theorem cf41 : compF Try.prog Try.f41 = some ac41 := by kernel_rfl
theorem cl41 : callable Try.prog 41 = true := by kernel_rfl
theorem fn41 : Try.prog.funcs[41]? = some Try.f41 := by kernel_rfl
/- (*chancel/raft.Core).Out -/
def ab42 : ACode := (.seq (.reg [⟨some 2, .mv (.con .nils), none⟩])
 (.seq (.reg [⟨some 4, .mv (.tmp 0), none⟩, ⟨some 5, .nilck (.tmp 4), none⟩, ⟨some 6, .faddr 52 (.tmp 5), none⟩, ⟨some 7, .load false 1 (.tmp 6), none⟩, ⟨some 3, .mv (.tmp 7), none⟩])
 (.seq (.reg [⟨some 8, .mv (.tmp 0), none⟩, ⟨some 9, .nilck (.tmp 8), none⟩, ⟨some 10, .faddr 52 (.tmp 9), none⟩, ⟨none, .store 1 (.tmp 10) (.con .nils), none⟩])
 (.seq (.reg [⟨some 11, .mv (.tmp 3), none⟩, ⟨some 2, .mv (.tmp 11), none⟩])
 .ret))))
def ac42 : AFun := ⟨1, 12, ab42, [(.tmp 2)]⟩
theorem cf42 : compF Try.prog Try.f42 = some ac42 := by kernel_rfl
theorem cl42 : callable Try.prog 42 = true := by kernel_rfl
theorem fn42 : Try.prog.funcs[42]? = some Try.f42 := by kernel_rfl
end Go.Proofs.Ythojhpjjkfjeiaa.Va
