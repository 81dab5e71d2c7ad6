/- Functions of the program as resolved code (printed by gen.py from the kernel's own value). Conditions: none. -/
import Derived.Test.YthojhpjjkfjeiaaProg
import Derived.Test.YthojhpjjkfjeiaaVaF
import Derived.KernelRfl
set_option maxRecDepth 100000
set_option maxHeartbeats 4000000
set_option linter.all false
namespace Go.Proofs.Ythojhpjjkfjeiaa.Va
open Go.Proofs
/- (*chancel/chancellaw19.Group).Do -/
def ab27 : ACode := (.seq (.reg [⟨some 3, .box (.tmp 1), none⟩, ⟨some 4, .mv (.con (.bool false)), none⟩])
 (.seq (.dreg [⟨some 12, .faddr 1 (.tmp 3), none⟩, ⟨some 13, .load false 1 (.tmp 12), none⟩, ⟨some 14, .mv (.tmp 0), none⟩, ⟨some 15, .nilck (.tmp 14), none⟩, ⟨some 16, .faddr 0 (.tmp 15), none⟩, ⟨some 17, .load false 1 (.tmp 16), none⟩, ⟨some 18, .call 8 [.tmp 13, .tmp 17], none⟩, ⟨some 5, .mv (.tmp 18), none⟩] [6] [0, 1, 0, 4, 12, 28, 63, 127] [])
 (.seq (.reg [⟨some 6, .mv (.con (.int .i64 0)), none⟩])
 (.seq (.seq (.reg [⟨some 19, .mv (.tmp 0), none⟩, ⟨some 20, .nilck (.tmp 19), none⟩, ⟨some 21, .faddr 3 (.tmp 20), none⟩, ⟨some 22, .load false 1 (.tmp 21), none⟩, ⟨some 23, .lenL (.tmp 22), none⟩, ⟨some 24, .bin .gtr .plain (.tmp 23) (.con (.int .i64 0)), none⟩])
 (.cond (.tmp 24)
 (.dreg [⟨some 25, .faddr 2 (.tmp 3), none⟩, ⟨some 26, .load false 1 (.tmp 25), none⟩, ⟨some 27, .mv (.tmp 0), none⟩, ⟨some 28, .nilck (.tmp 27), none⟩, ⟨some 29, .faddr 3 (.tmp 28), none⟩, ⟨some 30, .load false 1 (.tmp 29), none⟩, ⟨some 31, .lenL (.tmp 30), none⟩, ⟨some 32, .call 8 [.tmp 26, .tmp 31], none⟩, ⟨some 6, .mv (.tmp 32), none⟩] [7] [0, 1, 0, 4, 12, 28, 60, 127, 255] [])
 .skip))
 (.seq (.seq (.reg [⟨some 33, .faddr 0 (.tmp 3), none⟩, ⟨some 34, .load false 1 (.tmp 33), none⟩, ⟨some 35, .call 8 [.tmp 34, .con (.int .i64 10)], none⟩])
 (.block 0
 (.seq (.reg [⟨some 37, .bin .eql .plain (.tmp 35) (.con (.int .i64 0)), none⟩, ⟨some 36, .mv (.tmp 37), none⟩])
 (.cond (.tmp 36)
 (.seq (.dreg [⟨some 38, .mv (.tmp 0), none⟩, ⟨some 39, .nilck (.tmp 38), none⟩, ⟨some 40, .faddr 1 (.tmp 39), none⟩, ⟨some 41, .load false 1 (.tmp 40), none⟩, ⟨some 42, .mv (.tmp 5), none⟩, ⟨some 43, .iaddr 1 (.tmp 41) (.tmp 42), none⟩, ⟨some 44, .load false 1 (.tmp 43), none⟩, ⟨some 45, .faddr 2 (.tmp 3), none⟩, ⟨some 46, .load false 1 (.tmp 45), none⟩, ⟨some 47, .call 53 [.tmp 44, .tmp 46], none⟩] [9] [0, 1, 3, 7, 0, 31, 63, 0, 128, 511] [])
 (.seq (.reg [⟨some 48, .mv (.tmp 0), none⟩, ⟨some 49, .mv (.tmp 5), none⟩, ⟨some 50, .call 19 [.tmp 48, .tmp 49], none⟩, ⟨some 4, .mv (.tmp 50), none⟩])
 .ret))
 (.seq (.reg [⟨some 52, .bin .eql .plain (.tmp 35) (.con (.int .i64 1)), none⟩, ⟨some 51, .mv (.tmp 52), none⟩])
 (.cond (.tmp 51)
 (.seq (.reg [⟨some 53, .mv (.tmp 0), none⟩, ⟨some 54, .nilck (.tmp 53), none⟩, ⟨some 55, .faddr 3 (.tmp 54), none⟩, ⟨some 56, .load false 1 (.tmp 55), none⟩, ⟨some 57, .lenL (.tmp 56), none⟩, ⟨some 58, .bin .eql .plain (.tmp 57) (.con (.int .i64 0)), none⟩, ⟨some 59, .mv (.tmp 58), none⟩, ⟨some 60, .mv (.tmp 0), some (59, false)⟩, ⟨some 61, .mv (.tmp 6), some (59, false)⟩, ⟨some 62, .call 54 [.tmp 60, .tmp 61], some (59, false)⟩, ⟨some 63, .pick (.tmp 59) (.con (.bool true)) (.tmp 62), none⟩, ⟨some 4, .mv (.tmp 63), none⟩])
 .ret)
 (.seq (.reg [⟨some 65, .bin .eql .plain (.tmp 35) (.con (.int .i64 2)), none⟩, ⟨some 64, .mv (.tmp 65), none⟩])
 (.cond (.tmp 64)
 (.seq (.reg [⟨some 66, .mv (.tmp 0), none⟩, ⟨some 67, .nilck (.tmp 66), none⟩, ⟨some 68, .faddr 3 (.tmp 67), none⟩, ⟨some 69, .load false 1 (.tmp 68), none⟩, ⟨some 70, .lenL (.tmp 69), none⟩, ⟨some 71, .bin .gtr .plain (.tmp 70) (.con (.int .i64 0)), none⟩])
 (.cond (.tmp 71)
 (.dreg [⟨some 72, .mv (.tmp 0), none⟩, ⟨some 73, .bslice 14 0 [.int .i64 0, .int .i64 0, .int .i64 0, .int .i64 0, .int .i64 0, .int .i64 0, .int .i64 0, .int .i64 0, .bool false, .nils, .nils, .nils, .nils, .nils] [], none⟩, ⟨some 74, .mv (.tmp 0), none⟩, ⟨some 75, .nilck (.tmp 74), none⟩, ⟨some 76, .faddr 3 (.tmp 75), none⟩, ⟨some 77, .load false 1 (.tmp 76), none⟩, ⟨some 78, .mv (.tmp 6), none⟩, ⟨some 79, .slSl 14 (.tmp 77) none (some (.tmp 78)) none, none⟩, ⟨some 80, .append 14 192 (.tmp 73) (.tmp 79), none⟩, ⟨some 81, .mv (.tmp 0), none⟩, ⟨some 82, .nilck (.tmp 81), none⟩, ⟨some 83, .faddr 3 (.tmp 82), none⟩, ⟨some 84, .load false 1 (.tmp 83), none⟩, ⟨some 85, .mv (.tmp 6), none⟩, ⟨some 86, .bin .add .plain (.tmp 85) (.con (.int .i64 1)), none⟩, ⟨some 87, .slSl 14 (.tmp 84) (some (.tmp 86)) none none, none⟩, ⟨some 88, .append 14 192 (.tmp 80) (.tmp 87), none⟩, ⟨some 89, .nilck (.tmp 72), none⟩, ⟨some 90, .faddr 3 (.tmp 89), none⟩, ⟨none, .store 1 (.tmp 90) (.tmp 88), none⟩] [1, 8, 16, 19] [0, 0, 0, 4, 12, 28, 0, 124, 254, 0, 512, 1536, 3584, 0, 8192, 32256, 65534, 131071, 262143, 524287] [])
 .skip))
 (.seq (.reg [⟨some 92, .bin .eql .plain (.tmp 35) (.con (.int .i64 3)), none⟩, ⟨some 91, .mv (.tmp 92), none⟩])
 (.cond (.tmp 91)
 (.seq (.reg [⟨some 93, .mv (.tmp 0), none⟩, ⟨some 94, .nilck (.tmp 93), none⟩, ⟨some 95, .faddr 3 (.tmp 94), none⟩, ⟨some 96, .load false 1 (.tmp 95), none⟩, ⟨some 97, .lenL (.tmp 96), none⟩, ⟨some 98, .bin .gtr .plain (.tmp 97) (.con (.int .i64 0)), none⟩, ⟨some 99, .mv (.tmp 98), none⟩, ⟨some 100, .mv (.tmp 0), some (99, true)⟩, ⟨some 101, .nilck (.tmp 100), some (99, true)⟩, ⟨some 102, .faddr 3 (.tmp 101), some (99, true)⟩, ⟨some 103, .load false 1 (.tmp 102), some (99, true)⟩, ⟨some 104, .lenL (.tmp 103), some (99, true)⟩, ⟨some 105, .bin .lss .plain (.tmp 104) (.con (.int .i64 400)), some (99, true)⟩, ⟨some 106, .pick (.tmp 99) (.tmp 105) (.con (.bool false)), none⟩])
 (.cond (.tmp 106)
 (.dreg [⟨some 107, .mv (.tmp 0), none⟩, ⟨some 108, .bslice 14 0 [.int .i64 0, .int .i64 0, .int .i64 0, .int .i64 0, .int .i64 0, .int .i64 0, .int .i64 0, .int .i64 0, .bool false, .nils, .nils, .nils, .nils, .nils] [], none⟩, ⟨some 109, .mv (.tmp 0), none⟩, ⟨some 110, .nilck (.tmp 109), none⟩, ⟨some 111, .faddr 3 (.tmp 110), none⟩, ⟨some 112, .load false 1 (.tmp 111), none⟩, ⟨some 113, .append 14 192 (.tmp 108) (.tmp 112), none⟩, ⟨some 114, .mv (.tmp 0), none⟩, ⟨some 115, .nilck (.tmp 114), none⟩, ⟨some 116, .faddr 3 (.tmp 115), none⟩, ⟨some 117, .load false 1 (.tmp 116), none⟩, ⟨some 118, .mv (.tmp 6), none⟩, ⟨some 119, .iaddr 14 (.tmp 117) (.tmp 118), none⟩, ⟨some 120, .load true 14 (.tmp 119), none⟩, ⟨some 121, .bslice 14 1 [.int .i64 0, .int .i64 0, .int .i64 0, .int .i64 0, .int .i64 0, .int .i64 0, .int .i64 0, .int .i64 0, .bool false, .nils, .nils, .nils, .nils, .nils] [(0, 14, .tmp 120)], none⟩, ⟨some 122, .append 14 192 (.tmp 113) (.tmp 121), none⟩, ⟨some 123, .nilck (.tmp 107), none⟩, ⟨some 124, .faddr 3 (.tmp 123), none⟩, ⟨none, .store 1 (.tmp 124) (.tmp 122), none⟩] [6, 15, 18] [0, 0, 0, 4, 12, 28, 62, 0, 128, 384, 896, 0, 3968, 8064, 16256, 32766, 65535, 131071, 262143] [1, 14])
 .skip))
 (.seq (.reg [⟨some 126, .bin .eql .plain (.tmp 35) (.con (.int .i64 4)), none⟩, ⟨some 125, .mv (.tmp 126), none⟩])
 (.cond (.tmp 125)
 (.seq (.reg [⟨some 128, .mv (.tmp 0), none⟩, ⟨some 129, .mv (.tmp 5), none⟩, ⟨some 130, .mv (.tmp 0), none⟩, ⟨some 131, .call 17 [.tmp 130], none⟩, ⟨some 132, .call 14 [.tmp 128, .tmp 129, .tmp 131], none⟩, ⟨some 127, .mv (.tmp 132), none⟩, ⟨some 133, .ext (.tmp 127) 0, none⟩, ⟨some 134, .ext (.tmp 127) 1, none⟩, ⟨some 135, .ext (.tmp 127) 2, none⟩, ⟨some 7, .mv (.tmp 133), none⟩, ⟨some 8, .mv (.tmp 134), none⟩, ⟨some 9, .mv (.tmp 135), none⟩])
 (.seq (.reg [⟨some 136, .mv (.tmp 9), none⟩, ⟨some 4, .mv (.tmp 136), none⟩])
 .ret))
 (.seq (.reg [⟨some 138, .bin .eql .plain (.tmp 35) (.con (.int .i64 5)), none⟩, ⟨some 137, .mv (.tmp 138), none⟩])
 (.cond (.tmp 137)
 (.seq (.reg [⟨some 140, .mv (.tmp 5), none⟩, ⟨some 141, .mv (.tmp 0), none⟩, ⟨some 142, .nilck (.tmp 141), none⟩, ⟨some 143, .faddr 2 (.tmp 142), none⟩, ⟨some 144, .load false 1 (.tmp 143), none⟩, ⟨some 145, .mv (.tmp 5), none⟩, ⟨some 146, .iaddr 1 (.tmp 144) (.tmp 145), none⟩, ⟨some 147, .load false 1 (.tmp 146), none⟩, ⟨some 148, .call 55 [.tmp 140, .tmp 147], none⟩, ⟨some 139, .mv (.tmp 148), none⟩, ⟨some 149, .ext (.tmp 139) 0, none⟩, ⟨some 150, .ext (.tmp 139) 1, none⟩, ⟨some 10, .mv (.tmp 149), none⟩, ⟨some 11, .mv (.tmp 150), none⟩])
 (.seq (.seq (.reg [⟨some 151, .mv (.tmp 11), none⟩, ⟨some 152, .bin .neq .plain (.tmp 151) (.con (.int .i64 0)), none⟩, ⟨some 153, .mv (.tmp 152), none⟩, ⟨some 154, .mv (.tmp 10), some (153, false)⟩, ⟨some 155, .bin .eql .ptr (.tmp 154) (.con .nilp), some (153, false)⟩, ⟨some 156, .pick (.tmp 153) (.con (.bool true)) (.tmp 155), none⟩, ⟨some 157, .mv (.tmp 156), none⟩, ⟨some 158, .mv (.tmp 10), some (157, false)⟩, ⟨some 159, .call 29 [.tmp 158], some (157, false)⟩, ⟨some 160, .bin .neq .plain (.tmp 159) (.con (.int .i64 0)), some (157, false)⟩, ⟨some 161, .pick (.tmp 157) (.con (.bool true)) (.tmp 160), none⟩])
 (.cond (.tmp 161)
 (.seq (.reg [⟨some 4, .mv (.con (.bool false)), none⟩])
 .ret)
 .skip))
 (.seq (.reg [⟨some 162, .mv (.tmp 0), none⟩, ⟨some 163, .nilck (.tmp 162), none⟩, ⟨some 164, .faddr 1 (.tmp 163), none⟩, ⟨some 165, .load false 1 (.tmp 164), none⟩, ⟨some 166, .mv (.tmp 5), none⟩, ⟨some 167, .mv (.tmp 10), none⟩, ⟨some 168, .iaddr 1 (.tmp 165) (.tmp 166), none⟩, ⟨none, .store 1 (.tmp 168) (.tmp 167), none⟩])
 (.seq (.dreg [⟨some 169, .mv (.tmp 0), none⟩, ⟨some 170, .nilck (.tmp 169), none⟩, ⟨some 171, .faddr 6 (.tmp 170), none⟩, ⟨some 172, .load false 1 (.tmp 171), none⟩, ⟨some 173, .mv (.tmp 5), none⟩, ⟨some 174, .mv (.tmp 0), none⟩, ⟨some 175, .nilck (.tmp 174), none⟩, ⟨some 176, .faddr 407 (.tmp 175), none⟩, ⟨some 177, .load false 1 (.tmp 176), none⟩, ⟨some 178, .mv (.tmp 5), none⟩, ⟨some 179, .iaddr 1 (.tmp 172) (.tmp 173), none⟩, ⟨none, .store 1 (.tmp 179) (.con (.int .i64 0)), none⟩, ⟨some 180, .iaddr 1 (.tmp 177) (.tmp 178), none⟩, ⟨none, .store 1 (.tmp 180) (.con .nils), none⟩] [11, 13] [0, 1, 3, 7, 0, 0, 32, 96, 224, 0, 511, 1535, 4095, 8191] [])
 (.seq (.reg [⟨some 181, .mv (.tmp 0), none⟩, ⟨some 182, .mv (.tmp 5), none⟩, ⟨some 183, .call 19 [.tmp 181, .tmp 182], none⟩, ⟨some 4, .mv (.tmp 183), none⟩])
 .ret)))))
 (.seq (.reg [⟨some 185, .bin .eql .plain (.tmp 35) (.con (.int .i64 6)), none⟩, ⟨some 184, .mv (.tmp 185), none⟩])
 (.cond (.tmp 184)
 (.seq (.reg [⟨some 186, .mv (.tmp 0), none⟩, ⟨some 187, .call 31 [.tmp 186], none⟩, ⟨some 4, .mv (.tmp 187), none⟩])
 .ret)
 (.seq (.reg [⟨some 189, .bin .eql .plain (.tmp 35) (.con (.int .i64 7)), none⟩, ⟨some 188, .mv (.tmp 189), none⟩])
 (.cond (.tmp 188)
 (.seq (.reg [⟨some 190, .mv (.tmp 0), none⟩, ⟨some 191, .mv (.tmp 5), none⟩, ⟨some 192, .faddr 2 (.tmp 3), none⟩, ⟨some 193, .load false 1 (.tmp 192), none⟩, ⟨some 194, .call 56 [.tmp 190, .tmp 191, .tmp 193], none⟩, ⟨some 4, .mv (.tmp 194), none⟩])
 .ret)
 (.seq (.reg [⟨some 196, .bin .eql .plain (.tmp 35) (.con (.int .i64 8)), none⟩, ⟨some 195, .mv (.tmp 196), none⟩])
 (.cond (.tmp 195)
 (.seq (.reg [⟨some 197, .mv (.tmp 0), none⟩, ⟨some 198, .mv (.tmp 5), none⟩, ⟨some 199, .call 28 [.tmp 197, .tmp 198], none⟩, ⟨some 4, .mv (.tmp 199), none⟩])
 .ret)
 (.seq (.reg [⟨some 201, .bin .eql .plain (.tmp 35) (.con (.int .i64 9)), none⟩, ⟨some 200, .mv (.tmp 201), none⟩])
 (.cond (.tmp 200)
 (.seq (.dreg [⟨some 202, .mv (.tmp 0), none⟩, ⟨some 203, .mv (.tmp 5), none⟩, ⟨some 204, .mv (.tmp 0), none⟩, ⟨some 205, .nilck (.tmp 204), none⟩, ⟨some 206, .faddr 1 (.tmp 205), none⟩, ⟨some 207, .load false 1 (.tmp 206), none⟩, ⟨some 208, .mv (.tmp 5), none⟩, ⟨some 209, .iaddr 1 (.tmp 207) (.tmp 208), none⟩, ⟨some 210, .load false 1 (.tmp 209), none⟩, ⟨some 211, .call 21 [.tmp 210], none⟩, ⟨some 212, .faddr 2 (.tmp 3), none⟩, ⟨some 213, .load false 1 (.tmp 212), none⟩, ⟨some 214, .call 8 [.tmp 213, .con (.int .i64 5)], none⟩, ⟨some 215, .bin .sub .plain (.tmp 211) (.tmp 214), none⟩, ⟨some 216, .bin .add .plain (.tmp 215) (.con (.int .i64 1)), none⟩, ⟨some 217, .call 57 [.tmp 202, .tmp 203, .tmp 216], none⟩, ⟨some 4, .mv (.tmp 217), none⟩] [9, 12, 15] [0, 0, 0, 4, 12, 28, 0, 124, 252, 508, 0, 1024, 4092, 8188, 16380, 32767, 65535] [])
 .ret)
 .skip))))))))))))))))))))))
 (.seq (.reg [⟨some 4, .mv (.con (.bool true)), none⟩])
 .ret))))))
def ac27 : AFun := ⟨2, 218, ab27, [(.tmp 4)]⟩
theorem cf27 : compF Try.prog Try.f27 = some ac27 := by kernel_rfl
theorem cl27 : callable Try.prog 27 = true := by kernel_rfl
theorem fn27 : Try.prog.funcs[27]? = some Try.f27 := by kernel_rfl
/- (*chancel/chancellaw19.Group).ask -/
def ab28 : ACode := (.seq (.reg [⟨some 4, .mv (.con (.bool false)), none⟩])
 (.seq (.reg [⟨some 7, .mv (.tmp 0), none⟩, ⟨some 8, .nilck (.tmp 7), none⟩, ⟨some 9, .faddr 408 (.tmp 8), none⟩, ⟨some 10, .load false 1 (.tmp 9), none⟩, ⟨some 11, .bin .add .plain (.tmp 10) (.con (.int .i64 1)), none⟩, ⟨some 12, .nilck (.tmp 7), none⟩, ⟨some 13, .faddr 408 (.tmp 12), none⟩, ⟨none, .store 1 (.tmp 13) (.tmp 11), none⟩])
 (.seq (.reg [⟨some 14, .mv (.tmp 0), none⟩, ⟨some 15, .nilck (.tmp 14), none⟩, ⟨some 16, .faddr 4 (.tmp 15), none⟩, ⟨some 17, .load false 1 (.tmp 16), none⟩, ⟨some 18, .lenL (.tmp 17), none⟩, ⟨some 5, .mv (.tmp 18), none⟩])
 (.seq (.dreg [⟨some 19, .mv (.tmp 0), none⟩, ⟨some 20, .nilck (.tmp 19), none⟩, ⟨some 21, .faddr 1 (.tmp 20), none⟩, ⟨some 22, .load false 1 (.tmp 21), none⟩, ⟨some 23, .mv (.tmp 1), none⟩, ⟨some 24, .iaddr 1 (.tmp 22) (.tmp 23), none⟩, ⟨some 25, .load false 1 (.tmp 24), none⟩, ⟨some 26, .mv (.tmp 0), none⟩, ⟨some 27, .nilck (.tmp 26), none⟩, ⟨some 28, .faddr 408 (.tmp 27), none⟩, ⟨some 29, .load false 1 (.tmp 28), none⟩, ⟨some 30, .call 24 [.tmp 25, .tmp 29], none⟩, ⟨some 6, .mv (.tmp 30), none⟩] [11] [0, 1, 3, 7, 0, 31, 63, 0, 128, 384, 896, 2047, 4095] [])
 (.seq (.seq (.reg [⟨some 31, .mv (.tmp 6), none⟩, ⟨some 32, .bin .neq .plain (.tmp 31) (.con (.int .i64 0)), none⟩])
 (.cond (.tmp 32)
 (.seq (.reg [⟨some 33, .mv (.tmp 6), none⟩, ⟨some 34, .bin .eql .plain (.tmp 33) (.con (.int .i64 34)), none⟩, ⟨some 35, .mv (.tmp 34), none⟩, ⟨some 36, .mv (.tmp 6), some (35, false)⟩, ⟨some 37, .bin .eql .plain (.tmp 36) (.con (.int .i64 20)), some (35, false)⟩, ⟨some 38, .pick (.tmp 35) (.con (.bool true)) (.tmp 37), none⟩, ⟨some 39, .mv (.tmp 38), none⟩, ⟨some 40, .mv (.tmp 6), some (39, true)⟩, ⟨some 41, .bin .eql .plain (.tmp 40) (.con (.int .i64 34)), some (39, true)⟩, ⟨some 42, .mv (.tmp 0), some (39, true)⟩, ⟨some 43, .nilck (.tmp 42), some (39, true)⟩, ⟨some 44, .faddr 1 (.tmp 43), some (39, true)⟩, ⟨some 45, .load false 1 (.tmp 44), some (39, true)⟩, ⟨some 46, .mv (.tmp 1), some (39, true)⟩, ⟨some 47, .iaddr 1 (.tmp 45) (.tmp 46), some (39, true)⟩, ⟨some 48, .load false 1 (.tmp 47), some (39, true)⟩, ⟨some 49, .call 29 [.tmp 48], some (39, true)⟩, ⟨some 50, .bin .neq .plain (.tmp 49) (.con (.int .i64 2)), some (39, true)⟩, ⟨some 51, .bin .eql .bool (.tmp 41) (.tmp 50), some (39, true)⟩, ⟨some 52, .pick (.tmp 39) (.tmp 51) (.con (.bool false)), none⟩, ⟨some 4, .mv (.tmp 52), none⟩])
 .ret)
 .skip))
 (.seq (.dreg [⟨some 53, .mv (.tmp 0), none⟩, ⟨some 54, .nilck (.tmp 53), none⟩, ⟨some 55, .faddr 407 (.tmp 54), none⟩, ⟨some 56, .load false 1 (.tmp 55), none⟩, ⟨some 57, .mv (.tmp 1), none⟩, ⟨some 58, .mv (.tmp 0), none⟩, ⟨some 59, .nilck (.tmp 58), none⟩, ⟨some 60, .faddr 407 (.tmp 59), none⟩, ⟨some 61, .load false 1 (.tmp 60), none⟩, ⟨some 62, .mv (.tmp 1), none⟩, ⟨some 63, .iaddr 1 (.tmp 61) (.tmp 62), none⟩, ⟨some 64, .load false 1 (.tmp 63), none⟩, ⟨some 65, .mv (.tmp 0), none⟩, ⟨some 66, .nilck (.tmp 65), none⟩, ⟨some 67, .faddr 408 (.tmp 66), none⟩, ⟨some 68, .load false 1 (.tmp 67), none⟩, ⟨some 69, .mv (.tmp 5), none⟩, ⟨some 70, .build [.int .i64 0, .int .i64 0] [(0, 1, .tmp 68), (1, 1, .tmp 69)], none⟩, ⟨some 71, .bslice 2 1 [.int .i64 0, .int .i64 0] [(0, 2, .tmp 70)], none⟩, ⟨some 72, .append 2 16 (.tmp 64) (.tmp 71), none⟩, ⟨some 73, .iaddr 1 (.tmp 56) (.tmp 57), none⟩, ⟨none, .store 1 (.tmp 73) (.tmp 72), none⟩] [18, 19, 21] [0, 1, 3, 7, 0, 0, 32, 96, 224, 0, 992, 2016, 0, 4096, 12288, 28672, 0, 126976, 258048, 524256, 1048575, 2097151] [])
 (.seq (.reg [⟨some 74, .mv (.tmp 0), none⟩, ⟨some 75, .mv (.tmp 1), none⟩, ⟨some 76, .call 19 [.tmp 74, .tmp 75], none⟩, ⟨some 4, .mv (.tmp 76), none⟩])
 .ret)))))))
def ac28 : AFun := ⟨2, 77, ab28, [(.tmp 4)]⟩
theorem cf28 : compF Try.prog Try.f28 = some ac28 := by kernel_rfl
theorem cl28 : callable Try.prog 28 = true := by kernel_rfl
theorem fn28 : Try.prog.funcs[28]? = some Try.f28 := by kernel_rfl
/- (*chancel/raft.Core).Role -/
def ab29 : ACode := (.seq (.reg [⟨some 2, .mv (.con (.int .i64 0)), none⟩])
 (.seq (.reg [⟨some 3, .mv (.tmp 0), none⟩, ⟨some 4, .nilck (.tmp 3), none⟩, ⟨some 5, .faddr 9 (.tmp 4), none⟩, ⟨some 6, .load false 1 (.tmp 5), none⟩, ⟨some 2, .mv (.tmp 6), none⟩])
 .ret))
def ac29 : AFun := ⟨1, 7, ab29, [(.tmp 2)]⟩
theorem cf29 : compF Try.prog Try.f29 = some ac29 := by kernel_rfl
theorem cl29 : callable Try.prog 29 = true := by kernel_rfl
theorem fn29 : Try.prog.funcs[29]? = some Try.f29 := by kernel_rfl
/- (*chancel/raft.Core).Save -/
def ab30 : ACode := (.seq (.reg [⟨some 2, .mv (.con .nils), none⟩])
 (.seq (.dreg [⟨some 6, .mv (.tmp 0), none⟩, ⟨some 7, .nilck (.tmp 6), none⟩, ⟨some 8, .faddr 5 (.tmp 7), none⟩, ⟨some 9, .load false 1 (.tmp 8), none⟩, ⟨some 10, .mv (.tmp 0), none⟩, ⟨some 11, .nilck (.tmp 10), none⟩, ⟨some 12, .faddr 6 (.tmp 11), none⟩, ⟨some 13, .load false 1 (.tmp 12), none⟩, ⟨some 14, .mv (.tmp 0), none⟩, ⟨some 15, .nilck (.tmp 14), none⟩, ⟨some 16, .faddr 7 (.tmp 15), none⟩, ⟨some 17, .load false 1 (.tmp 16), none⟩, ⟨some 18, .mv (.tmp 0), none⟩, ⟨some 19, .nilck (.tmp 18), none⟩, ⟨some 20, .faddr 8 (.tmp 19), none⟩, ⟨some 21, .load false 1 (.tmp 20), none⟩, ⟨some 22, .mv (.tmp 0), none⟩, ⟨some 23, .nilck (.tmp 22), none⟩, ⟨some 24, .faddr 0 (.tmp 23), none⟩, ⟨some 25, .faddr 0 (.tmp 24), none⟩, ⟨some 26, .faddr 0 (.tmp 25), none⟩, ⟨some 27, .load false 1 (.tmp 26), none⟩, ⟨some 28, .mv (.tmp 0), none⟩, ⟨some 29, .nilck (.tmp 28), none⟩, ⟨some 30, .faddr 0 (.tmp 29), none⟩, ⟨some 31, .faddr 0 (.tmp 30), none⟩, ⟨some 32, .faddr 1 (.tmp 31), none⟩, ⟨some 33, .load false 1 (.tmp 32), none⟩, ⟨some 34, .bslice 1 6 [.int .i64 0] [(0, 1, .tmp 9), (1, 1, .tmp 13), (2, 1, .tmp 17), (3, 1, .tmp 21), (4, 1, .tmp 27), (5, 1, .tmp 33)], none⟩, ⟨some 35, .call 58 [.con .nils, .tmp 34], none⟩, ⟨some 3, .mv (.tmp 35), none⟩] [28, 29] [0, 1, 3, 7, 0, 16, 48, 112, 0, 256, 768, 1792, 0, 4096, 12288, 28672, 0, 65536, 196608, 458752, 983040, 2031616, 0, 4194304, 12582912, 29360128, 62914560, 130023424, 268435455, 536870911, 1073741823] [])
 (.seq (.reg [⟨some 36, .mv (.tmp 3), none⟩, ⟨some 37, .mv (.tmp 0), none⟩, ⟨some 38, .nilck (.tmp 37), none⟩, ⟨some 39, .faddr 0 (.tmp 38), none⟩, ⟨some 40, .faddr 0 (.tmp 39), none⟩, ⟨some 41, .faddr 2 (.tmp 40), none⟩, ⟨some 42, .load false 1 (.tmp 41), none⟩, ⟨some 43, .call 60 [.tmp 42], none⟩, ⟨some 44, .call 59 [.tmp 36, .tmp 43], none⟩, ⟨some 3, .mv (.tmp 44), none⟩])
 (.seq (.reg [⟨some 45, .mv (.tmp 3), none⟩, ⟨some 46, .mv (.tmp 0), none⟩, ⟨some 47, .nilck (.tmp 46), none⟩, ⟨some 48, .faddr 0 (.tmp 47), none⟩, ⟨some 49, .faddr 0 (.tmp 48), none⟩, ⟨some 50, .faddr 3 (.tmp 49), none⟩, ⟨some 51, .load false 1 (.tmp 50), none⟩, ⟨some 52, .call 59 [.tmp 45, .tmp 51], none⟩, ⟨some 3, .mv (.tmp 52), none⟩])
 (.seq (.reg [⟨some 53, .mv (.tmp 3), none⟩, ⟨some 54, .mv (.tmp 0), none⟩, ⟨some 55, .nilck (.tmp 54), none⟩, ⟨some 56, .faddr 0 (.tmp 55), none⟩, ⟨some 57, .faddr 4 (.tmp 56), none⟩, ⟨some 58, .load false 1 (.tmp 57), none⟩, ⟨some 59, .lenL (.tmp 58), none⟩, ⟨some 60, .bslice 1 1 [.int .i64 0] [(0, 1, .tmp 59)], none⟩, ⟨some 61, .call 58 [.tmp 53, .tmp 60], none⟩, ⟨some 3, .mv (.tmp 61), none⟩])
 (.seq (.seq (.reg [⟨some 62, .mv (.tmp 0), none⟩, ⟨some 63, .nilck (.tmp 62), none⟩, ⟨some 64, .faddr 0 (.tmp 63), none⟩, ⟨some 65, .faddr 4 (.tmp 64), none⟩, ⟨some 66, .load false 1 (.tmp 65), none⟩, ⟨some 67, .lenL (.tmp 66), none⟩, ⟨some 68, .mv (.con (.int .i64 0)), none⟩])
 (.block 0
 (.loop (.seq (.reg [⟨some 69, .bin .lss .plain (.tmp 68) (.tmp 67), none⟩])
 (.seq (.cond (.tmp 69)
 .skip
 (.exit 0))
 (.seq (.block 1
 (.seq (.reg [⟨some 70, .iaddr 4 (.tmp 66) (.tmp 68), none⟩, ⟨some 71, .load true 4 (.tmp 70), none⟩, ⟨some 5, .alloc [.int .i64 0, .int .i64 0, .nils, .nils], none⟩, ⟨none, .store 4 (.tmp 5) (.tmp 71), none⟩])
 (.seq (.reg [⟨some 72, .mv (.tmp 3), none⟩, ⟨some 73, .faddr 0 (.tmp 5), none⟩, ⟨some 74, .load false 1 (.tmp 73), none⟩, ⟨some 75, .faddr 1 (.tmp 5), none⟩, ⟨some 76, .load false 1 (.tmp 75), none⟩, ⟨some 77, .bslice 1 2 [.int .i64 0] [(0, 1, .tmp 74), (1, 1, .tmp 76)], none⟩, ⟨some 78, .call 58 [.tmp 72, .tmp 77], none⟩, ⟨some 3, .mv (.tmp 78), none⟩])
 (.seq (.reg [⟨some 79, .mv (.tmp 3), none⟩, ⟨some 80, .faddr 2 (.tmp 5), none⟩, ⟨some 81, .load false 1 (.tmp 80), none⟩, ⟨some 82, .call 59 [.tmp 79, .tmp 81], none⟩, ⟨some 3, .mv (.tmp 82), none⟩])
 (.reg [⟨some 83, .mv (.tmp 3), none⟩, ⟨some 84, .faddr 3 (.tmp 5), none⟩, ⟨some 85, .load false 1 (.tmp 84), none⟩, ⟨some 86, .call 60 [.tmp 85], none⟩, ⟨some 87, .call 59 [.tmp 83, .tmp 86], none⟩, ⟨some 3, .mv (.tmp 87), none⟩])))))
 (.reg [⟨some 88, .bin .add .plain (.tmp 68) (.con (.int .i64 1)), none⟩, ⟨some 68, .mv (.tmp 88), none⟩])))))))
 (.seq (.reg [⟨some 89, .mv (.tmp 3), none⟩, ⟨some 2, .mv (.tmp 89), none⟩])
 .ret)))))))
def ac30 : AFun := ⟨1, 90, ab30, [(.tmp 2)]⟩
theorem cf30 : compF Try.prog Try.f30 = some ac30 := by kernel_rfl
theorem cl30 : callable Try.prog 30 = true := by kernel_rfl
theorem fn30 : Try.prog.funcs[30]? = some Try.f30 := by kernel_rfl
/- (*chancel/chancellaw19.Group).quiet -/
def ab31 : ACode := (.seq (.reg [⟨some 2, .mv (.con (.bool false)), none⟩])
 (.seq (.seq (.reg [⟨some 3, .mv (.con (.int .i64 0)), none⟩])
 (.block 0
 (.loop (.seq (.seq (.reg [⟨some 8, .mv (.tmp 3), none⟩, ⟨some 9, .mv (.tmp 0), none⟩, ⟨some 10, .nilck (.tmp 9), none⟩, ⟨some 11, .faddr 0 (.tmp 10), none⟩, ⟨some 12, .load false 1 (.tmp 11), none⟩, ⟨some 13, .bin .lss .plain (.tmp 8) (.tmp 12), none⟩])
 (.cond (.tmp 13)
 .skip
 (.exit 0)))
 (.seq (.block 1
 (.seq (.reg [⟨some 16, .mv (.tmp 0), none⟩, ⟨some 17, .nilck (.tmp 16), none⟩, ⟨some 18, .faddr 1 (.tmp 17), none⟩, ⟨some 19, .load false 1 (.tmp 18), none⟩, ⟨some 20, .mv (.tmp 3), none⟩, ⟨some 21, .iaddr 1 (.tmp 19) (.tmp 20), none⟩, ⟨some 22, .load false 1 (.tmp 21), none⟩, ⟨some 23, .mv (.tmp 3), none⟩, ⟨some 24, .bin .mul .plain (.con (.int .i64 7)) (.tmp 23), none⟩, ⟨some 25, .bin .rem .plain (.tmp 24) (.con (.int .i64 10)), none⟩, ⟨some 26, .call 53 [.tmp 22, .tmp 25], none⟩])
 (.seq (.reg [⟨some 27, .mv (.tmp 0), none⟩, ⟨some 28, .mv (.tmp 3), none⟩, ⟨some 29, .call 19 [.tmp 27, .tmp 28], none⟩, ⟨some 30, .un .not (.tmp 29), none⟩])
 (.cond (.tmp 30)
 (.seq (.reg [⟨some 2, .mv (.con (.bool false)), none⟩])
 .ret)
 .skip))))
 (.reg [⟨some 14, .mv (.tmp 3), none⟩, ⟨some 15, .bin .add .plain (.tmp 14) (.con (.int .i64 1)), none⟩, ⟨some 3, .mv (.tmp 15), none⟩]))))))
 (.seq (.seq (.reg [⟨some 4, .mv (.con (.int .i64 0)), none⟩])
 (.block 2
 (.loop (.seq (.seq (.reg [⟨some 31, .mv (.tmp 4), none⟩, ⟨some 32, .bin .lss .plain (.tmp 31) (.con (.int .i64 2000)), none⟩, ⟨some 33, .mv (.tmp 32), none⟩, ⟨some 34, .mv (.tmp 0), some (33, true)⟩, ⟨some 35, .nilck (.tmp 34), some (33, true)⟩, ⟨some 36, .faddr 3 (.tmp 35), some (33, true)⟩, ⟨some 37, .load false 1 (.tmp 36), some (33, true)⟩, ⟨some 38, .lenL (.tmp 37), some (33, true)⟩, ⟨some 39, .bin .gtr .plain (.tmp 38) (.con (.int .i64 0)), some (33, true)⟩, ⟨some 40, .pick (.tmp 33) (.tmp 39) (.con (.bool false)), none⟩])
 (.cond (.tmp 40)
 .skip
 (.exit 2)))
 (.seq (.block 3
 (.seq (.reg [⟨some 43, .mv (.tmp 0), none⟩, ⟨some 44, .call 54 [.tmp 43, .con (.int .i64 0)], none⟩, ⟨some 45, .un .not (.tmp 44), none⟩])
 (.cond (.tmp 45)
 (.seq (.reg [⟨some 2, .mv (.con (.bool false)), none⟩])
 .ret)
 .skip)))
 (.reg [⟨some 41, .mv (.tmp 4), none⟩, ⟨some 42, .bin .add .plain (.tmp 41) (.con (.int .i64 1)), none⟩, ⟨some 4, .mv (.tmp 42), none⟩]))))))
 (.seq (.reg [⟨some 46, .mv (.tmp 0), none⟩, ⟨some 47, .nilck (.tmp 46), none⟩, ⟨some 48, .faddr 3 (.tmp 47), none⟩, ⟨none, .store 1 (.tmp 48) (.con .nils), none⟩])
 (.seq (.seq (.reg [⟨some 5, .mv (.con (.int .i64 0)), none⟩])
 (.block 4
 (.loop (.seq (.seq (.reg [⟨some 49, .mv (.tmp 5), none⟩, ⟨some 50, .mv (.tmp 0), none⟩, ⟨some 51, .nilck (.tmp 50), none⟩, ⟨some 52, .faddr 0 (.tmp 51), none⟩, ⟨some 53, .load false 1 (.tmp 52), none⟩, ⟨some 54, .bin .lss .plain (.tmp 49) (.tmp 53), none⟩])
 (.cond (.tmp 54)
 .skip
 (.exit 4)))
 (.seq (.block 5
 (.seq (.reg [⟨some 58, .mv (.tmp 0), none⟩, ⟨some 59, .nilck (.tmp 58), none⟩, ⟨some 60, .faddr 1 (.tmp 59), none⟩, ⟨some 61, .load false 1 (.tmp 60), none⟩, ⟨some 62, .mv (.tmp 5), none⟩, ⟨some 63, .iaddr 1 (.tmp 61) (.tmp 62), none⟩, ⟨some 64, .load false 1 (.tmp 63), none⟩, ⟨some 65, .nilck (.tmp 64), none⟩, ⟨some 66, .faddr 0 (.tmp 65), none⟩, ⟨some 67, .call 16 [.tmp 66], none⟩, ⟨some 57, .mv (.tmp 67), none⟩, ⟨some 68, .ext (.tmp 57) 0, none⟩, ⟨some 69, .ext (.tmp 57) 1, none⟩, ⟨some 6, .mv (.tmp 68), none⟩, ⟨some 7, .mv (.tmp 69), none⟩])
 (.seq (.reg [⟨some 70, .mv (.tmp 0), none⟩, ⟨some 71, .nilck (.tmp 70), none⟩, ⟨some 72, .faddr 1 (.tmp 71), none⟩, ⟨some 73, .load false 1 (.tmp 72), none⟩, ⟨some 74, .mv (.tmp 5), none⟩, ⟨some 75, .iaddr 1 (.tmp 73) (.tmp 74), none⟩, ⟨some 76, .load false 1 (.tmp 75), none⟩, ⟨some 77, .nilck (.tmp 76), none⟩, ⟨some 78, .faddr 0 (.tmp 77), none⟩, ⟨some 79, .call 13 [.tmp 78], none⟩, ⟨some 80, .mv (.tmp 6), none⟩, ⟨some 81, .bin .sub .plain (.tmp 79) (.tmp 80), none⟩, ⟨some 82, .bin .geq .plain (.tmp 81) (.con (.int .i64 24)), none⟩, ⟨some 83, .mv (.tmp 82), none⟩, ⟨some 84, .mv (.tmp 0), some (83, true)⟩, ⟨some 85, .mv (.tmp 5), some (83, true)⟩, ⟨some 86, .mv (.tmp 0), some (83, true)⟩, ⟨some 87, .nilck (.tmp 86), some (83, true)⟩, ⟨some 88, .faddr 1 (.tmp 87), some (83, true)⟩, ⟨some 89, .load false 1 (.tmp 88), some (83, true)⟩, ⟨some 90, .mv (.tmp 5), some (83, true)⟩, ⟨some 91, .iaddr 1 (.tmp 89) (.tmp 90), some (83, true)⟩, ⟨some 92, .load false 1 (.tmp 91), some (83, true)⟩, ⟨some 93, .call 21 [.tmp 92], some (83, true)⟩, ⟨some 94, .call 57 [.tmp 84, .tmp 85, .tmp 93], some (83, true)⟩, ⟨some 95, .un .not (.tmp 94), some (83, true)⟩, ⟨some 96, .pick (.tmp 83) (.tmp 95) (.con (.bool false)), none⟩])
 (.cond (.tmp 96)
 (.seq (.reg [⟨some 2, .mv (.con (.bool false)), none⟩])
 .ret)
 .skip))))
 (.reg [⟨some 55, .mv (.tmp 5), none⟩, ⟨some 56, .bin .add .plain (.tmp 55) (.con (.int .i64 1)), none⟩, ⟨some 5, .mv (.tmp 56), none⟩]))))))
 (.seq (.reg [⟨some 2, .mv (.con (.bool true)), none⟩])
 .ret))))))
def ac31 : AFun := ⟨1, 97, ab31, [(.tmp 2)]⟩
theorem cf31 : compF Try.prog Try.f31 = some ac31 := by kernel_rfl
theorem cl31 : callable Try.prog 31 = true := by kernel_rfl
theorem fn31 : Try.prog.funcs[31]? = some Try.f31 := by kernel_rfl
/- (*chancel/raft.log).has -/
def ab32 : ACode := (.seq (.reg [⟨some 4, .mv (.con (.bool false)), none⟩])
 (.seq (.reg [⟨some 5, .mv (.tmp 1), none⟩, ⟨some 6, .mv (.tmp 0), none⟩, ⟨some 7, .nilck (.tmp 6), none⟩, ⟨some 8, .faddr 0 (.tmp 7), none⟩, ⟨some 9, .faddr 0 (.tmp 8), none⟩, ⟨some 10, .load false 1 (.tmp 9), none⟩, ⟨some 11, .bin .gtr .plain (.tmp 5) (.tmp 10), none⟩, ⟨some 12, .mv (.tmp 11), none⟩, ⟨some 13, .mv (.tmp 1), some (12, true)⟩, ⟨some 14, .mv (.tmp 0), some (12, true)⟩, ⟨some 15, .call 13 [.tmp 14], some (12, true)⟩, ⟨some 16, .bin .leq .plain (.tmp 13) (.tmp 15), some (12, true)⟩, ⟨some 17, .pick (.tmp 12) (.tmp 16) (.con (.bool false)), none⟩, ⟨some 4, .mv (.tmp 17), none⟩])
 .ret))
def ac32 : AFun := ⟨2, 18, ab32, [(.tmp 4)]⟩
theorem cf32 : compF Try.prog Try.f32 = some ac32 := by kernel_rfl
theorem cl32 : callable Try.prog 32 = true := by kernel_rfl
theorem fn32 : Try.prog.funcs[32]? = some Try.f32 := by kernel_rfl
/- chancel/raft.twin -/
def ab33 : ACode := (.seq (.reg [⟨some 1, .box (.tmp 0), none⟩, ⟨some 2, .alloc [.int .i64 0, .int .i64 0, .nils, .nils], none⟩])
 (.seq (.dreg [⟨some 3, .faddr 2 (.tmp 1), none⟩, ⟨some 4, .load false 1 (.tmp 3), none⟩, ⟨some 5, .call 35 [.tmp 4], none⟩, ⟨some 6, .faddr 3 (.tmp 1), none⟩, ⟨some 7, .load false 1 (.tmp 6), none⟩, ⟨some 8, .call 48 [.tmp 7], none⟩, ⟨some 9, .faddr 2 (.tmp 1), none⟩, ⟨none, .store 1 (.tmp 9) (.tmp 5), none⟩, ⟨some 10, .faddr 3 (.tmp 1), none⟩, ⟨none, .store 1 (.tmp 10) (.tmp 8), none⟩] [2, 5, 7, 9] [0, 1, 3, 0, 8, 31, 31, 127, 255, 511] [])
 (.seq (.reg [⟨some 11, .load true 4 (.tmp 1), none⟩, ⟨none, .store 4 (.tmp 2) (.tmp 11), none⟩])
 .ret)))
def ac33 : AFun := ⟨1, 12, ab33, [(.cell 2 true 4)]⟩
theorem cf33 : compF Try.prog Try.f33 = some ac33 := by kernel_rfl
theorem cl33 : callable Try.prog 33 = true := by kernel_rfl
theorem fn33 : Try.prog.funcs[33]? = some Try.f33 := by kernel_rfl
/- (*chancel/raft.log).at -/
def ab34 : ACode := (.seq (.reg [⟨some 4, .alloc [.int .i64 0, .int .i64 0, .nils, .nils], none⟩])
 (.seq (.dreg [⟨some 5, .mv (.tmp 0), none⟩, ⟨some 6, .nilck (.tmp 5), none⟩, ⟨some 7, .faddr 4 (.tmp 6), none⟩, ⟨some 8, .load false 1 (.tmp 7), none⟩, ⟨some 9, .mv (.tmp 1), none⟩, ⟨some 10, .mv (.tmp 0), none⟩, ⟨some 11, .nilck (.tmp 10), none⟩, ⟨some 12, .faddr 0 (.tmp 11), none⟩, ⟨some 13, .faddr 0 (.tmp 12), none⟩, ⟨some 14, .load false 1 (.tmp 13), none⟩, ⟨some 15, .bin .sub .plain (.tmp 9) (.tmp 14), none⟩, ⟨some 16, .bin .sub .plain (.tmp 15) (.con (.int .i64 1)), none⟩, ⟨some 17, .iaddr 4 (.tmp 8) (.tmp 16), none⟩, ⟨some 18, .load true 4 (.tmp 17), none⟩, ⟨none, .store 4 (.tmp 4) (.tmp 18), none⟩] [14] [0, 1, 3, 7, 0, 0, 32, 96, 224, 480, 1008, 2032, 4095, 8191, 16383] [])
 .ret))
def ac34 : AFun := ⟨2, 19, ab34, [(.cell 4 true 4)]⟩
theorem cf34 : compF Try.prog Try.f34 = some ac34 := by kernel_rfl
theorem cl34 : callable Try.prog 34 = true := by kernel_rfl
theorem fn34 : Try.prog.funcs[34]? = some Try.f34 := by kernel_rfl
/- slices.Clone[[]byte,byte] -/
def ab35 : ACode := (.seq (.reg [⟨some 2, .mv (.con .nils), none⟩])
 (.seq (.seq (.reg [⟨some 3, .mv (.tmp 0), none⟩, ⟨some 4, .bin .eql .slice (.tmp 3) (.con .nils), none⟩])
 (.cond (.tmp 4)
 (.seq (.reg [⟨some 2, .mv (.con .nils), none⟩])
 .ret)
 .skip))
 (.seq (.reg [⟨some 5, .bslice 1 0 [.int .u8 0] [], none⟩, ⟨some 6, .mv (.tmp 0), none⟩, ⟨some 7, .append 1 1 (.tmp 5) (.tmp 6), none⟩, ⟨some 2, .mv (.tmp 7), none⟩])
 .ret)))
def ac35 : AFun := ⟨1, 8, ab35, [(.tmp 2)]⟩
theorem cf35 : compF Try.prog Try.f35 = some ac35 := by kernel_rfl
theorem cl35 : callable Try.prog 35 = true := by kernel_rfl
theorem fn35 : Try.prog.funcs[35]? = some Try.f35 := by kernel_rfl
/- (*chancel/raft.log).counted -/
def ab36 : ACode := (.seq (.reg [⟨some 4, .mv (.con .nils), none⟩, ⟨some 5, .mv (.con (.int .i64 0)), none⟩])
 (.seq (.seq (.reg [⟨some 8, .mv (.tmp 1), none⟩, ⟨some 9, .mv (.tmp 0), none⟩, ⟨some 10, .call 13 [.tmp 9], none⟩, ⟨some 11, .mn [.tmp 8, .tmp 10], none⟩, ⟨some 6, .mv (.tmp 11), none⟩])
 (.block 0
 (.loop (.seq (.seq (.reg [⟨some 12, .mv (.tmp 6), none⟩, ⟨some 13, .mv (.tmp 0), none⟩, ⟨some 14, .nilck (.tmp 13), none⟩, ⟨some 15, .faddr 0 (.tmp 14), none⟩, ⟨some 16, .faddr 0 (.tmp 15), none⟩, ⟨some 17, .load false 1 (.tmp 16), none⟩, ⟨some 18, .bin .gtr .plain (.tmp 12) (.tmp 17), none⟩])
 (.cond (.tmp 18)
 .skip
 (.exit 0)))
 (.seq (.block 1
 (.seq (.reg [⟨some 21, .mv (.tmp 0), none⟩, ⟨some 22, .mv (.tmp 6), none⟩, ⟨some 23, .call 34 [.tmp 21, .tmp 22], none⟩, ⟨some 7, .alloc [.int .i64 0, .int .i64 0, .nils, .nils], none⟩, ⟨none, .store 4 (.tmp 7) (.tmp 23), none⟩])
 (.seq (.reg [⟨some 24, .faddr 1 (.tmp 7), none⟩, ⟨some 25, .load false 1 (.tmp 24), none⟩, ⟨some 26, .bin .eql .plain (.tmp 25) (.con (.int .i64 2)), none⟩])
 (.cond (.tmp 26)
 (.seq (.reg [⟨some 27, .faddr 3 (.tmp 7), none⟩, ⟨some 28, .load false 1 (.tmp 27), none⟩, ⟨some 29, .mv (.tmp 6), none⟩, ⟨some 4, .mv (.tmp 28), none⟩, ⟨some 5, .mv (.tmp 29), none⟩])
 .ret)
 .skip))))
 (.reg [⟨some 19, .mv (.tmp 6), none⟩, ⟨some 20, .bin .sub .plain (.tmp 19) (.con (.int .i64 1)), none⟩, ⟨some 6, .mv (.tmp 20), none⟩]))))))
 (.seq (.dreg [⟨some 30, .mv (.tmp 0), none⟩, ⟨some 31, .nilck (.tmp 30), none⟩, ⟨some 32, .faddr 0 (.tmp 31), none⟩, ⟨some 33, .faddr 2 (.tmp 32), none⟩, ⟨some 34, .load false 1 (.tmp 33), none⟩, ⟨some 35, .mv (.tmp 0), none⟩, ⟨some 36, .nilck (.tmp 35), none⟩, ⟨some 37, .faddr 0 (.tmp 36), none⟩, ⟨some 38, .faddr 0 (.tmp 37), none⟩, ⟨some 39, .load false 1 (.tmp 38), none⟩, ⟨some 4, .mv (.tmp 34), none⟩, ⟨some 5, .mv (.tmp 39), none⟩] [] [0, 1, 3, 7, 15, 0, 32, 96, 224, 480, 31, 2047] [])
 .ret)))
def ac36 : AFun := ⟨2, 40, ab36, [(.tmp 4), (.tmp 5)]⟩
theorem cf36 : compF Try.prog Try.f36 = some ac36 := by kernel_rfl
theorem cl36 : callable Try.prog 36 = true := by kernel_rfl
theorem fn36 : Try.prog.funcs[36]? = some Try.f36 := by kernel_rfl
/- chancel/raft.valid -/
def ab37 : ACode := (.seq (.reg [⟨some 2, .mv (.con (.bool false)), none⟩])
 (.seq (.seq (.reg [⟨some 5, .mv (.tmp 0), none⟩, ⟨some 6, .lenL (.tmp 5), none⟩, ⟨some 7, .mv (.con (.int .i64 0)), none⟩])
 (.block 0
 (.loop (.seq (.reg [⟨some 8, .bin .lss .plain (.tmp 7) (.tmp 6), none⟩])
 (.seq (.cond (.tmp 8)
 .skip
 (.exit 0))
 (.seq (.block 1
 (.seq (.reg [⟨some 9, .mv (.tmp 7), none⟩, ⟨some 10, .iaddr 1 (.tmp 5) (.tmp 7), none⟩, ⟨some 11, .load false 1 (.tmp 10), none⟩, ⟨some 3, .mv (.tmp 9), none⟩, ⟨some 4, .mv (.tmp 11), none⟩])
 (.seq (.reg [⟨some 12, .mv (.tmp 4), none⟩, ⟨some 13, .bin .lss .plain (.tmp 12) (.con (.int .i64 0)), none⟩, ⟨some 14, .mv (.tmp 13), none⟩, ⟨some 15, .mv (.tmp 4), some (14, false)⟩, ⟨some 16, .bin .geq .plain (.tmp 15) (.con (.int .i64 7)), some (14, false)⟩, ⟨some 17, .pick (.tmp 14) (.con (.bool true)) (.tmp 16), none⟩, ⟨some 18, .mv (.tmp 17), none⟩, ⟨some 19, .mv (.tmp 3), some (18, false)⟩, ⟨some 20, .bin .gtr .plain (.tmp 19) (.con (.int .i64 0)), some (18, false)⟩, ⟨some 21, .mv (.tmp 20), some (18, false)⟩, ⟨some 22, .mv (.tmp 4), some (21, true)⟩, ⟨some 23, .mv (.tmp 0), some (21, true)⟩, ⟨some 24, .mv (.tmp 3), some (21, true)⟩, ⟨some 25, .bin .sub .plain (.tmp 24) (.con (.int .i64 1)), some (21, true)⟩, ⟨some 26, .iaddr 1 (.tmp 23) (.tmp 25), some (21, true)⟩, ⟨some 27, .load false 1 (.tmp 26), some (21, true)⟩, ⟨some 28, .bin .leq .plain (.tmp 22) (.tmp 27), some (21, true)⟩, ⟨some 29, .pick (.tmp 21) (.tmp 28) (.con (.bool false)), some (18, false)⟩, ⟨some 30, .pick (.tmp 18) (.con (.bool true)) (.tmp 29), none⟩])
 (.cond (.tmp 30)
 (.seq (.reg [⟨some 2, .mv (.con (.bool false)), none⟩])
 .ret)
 .skip))))
 (.reg [⟨some 31, .bin .add .plain (.tmp 7) (.con (.int .i64 1)), none⟩, ⟨some 7, .mv (.tmp 31), none⟩])))))))
 (.seq (.reg [⟨some 32, .mv (.tmp 0), none⟩, ⟨some 33, .lenL (.tmp 32), none⟩, ⟨some 34, .bin .gtr .plain (.tmp 33) (.con (.int .i64 0)), none⟩, ⟨some 2, .mv (.tmp 34), none⟩])
 .ret)))
def ac37 : AFun := ⟨1, 35, ab37, [(.tmp 2)]⟩
theorem cf37 : compF Try.prog Try.f37 = some ac37 := by kernel_rfl
theorem cl37 : callable Try.prog 37 = true := by kernel_rfl
theorem fn37 : Try.prog.funcs[37]? = some Try.f37 := by kernel_rfl
/- chancel/raft.step -/
def ab38 : ACode := (.seq (.reg [⟨some 4, .mv (.con (.bool false)), none⟩])
 (.seq (.reg [⟨some 5, .mv (.con (.int .i64 0)), none⟩])
 (.seq (.seq (.reg [⟨some 7, .mv (.con (.int .i64 0)), none⟩])
 (.block 0
 (.loop (.seq (.reg [⟨some 8, .bin .lss .plain (.tmp 7) (.con (.int .i64 7)), none⟩])
 (.seq (.cond (.tmp 8)
 .skip
 (.exit 0))
 (.seq (.block 1
 (.seq (.reg [⟨some 9, .mv (.tmp 7), none⟩, ⟨some 6, .mv (.tmp 9), none⟩])
 (.seq (.reg [⟨some 10, .mv (.tmp 0), none⟩, ⟨some 11, .mv (.tmp 6), none⟩, ⟨some 12, .call 61 [.tmp 10, .tmp 11], none⟩, ⟨some 13, .mv (.tmp 1), none⟩, ⟨some 14, .mv (.tmp 6), none⟩, ⟨some 15, .call 61 [.tmp 13, .tmp 14], none⟩, ⟨some 16, .bin .neq .bool (.tmp 12) (.tmp 15), none⟩])
 (.cond (.tmp 16)
 (.reg [⟨some 17, .mv (.tmp 5), none⟩, ⟨some 18, .bin .add .plain (.tmp 17) (.con (.int .i64 1)), none⟩, ⟨some 5, .mv (.tmp 18), none⟩])
 .skip))))
 (.reg [⟨some 19, .bin .add .plain (.tmp 7) (.con (.int .i64 1)), none⟩, ⟨some 7, .mv (.tmp 19), none⟩])))))))
 (.seq (.reg [⟨some 20, .mv (.tmp 5), none⟩, ⟨some 21, .bin .eql .plain (.tmp 20) (.con (.int .i64 1)), none⟩, ⟨some 4, .mv (.tmp 21), none⟩])
 .ret))))
def ac38 : AFun := ⟨2, 22, ab38, [(.tmp 4)]⟩
theorem cf38 : compF Try.prog Try.f38 = some ac38 := by kernel_rfl
theorem cl38 : callable Try.prog 38 = true := by kernel_rfl
theorem fn38 : Try.prog.funcs[38]? = some Try.f38 := by kernel_rfl
/- (*chancel/raft.log).termAt -/
def ab39 : ACode := (.seq (.reg [⟨some 4, .mv (.con (.int .i64 0)), none⟩])
 (.seq (.block 0
 (.seq (.reg [⟨some 6, .mv (.tmp 1), none⟩, ⟨some 7, .mv (.tmp 0), none⟩, ⟨some 8, .nilck (.tmp 7), none⟩, ⟨some 9, .faddr 0 (.tmp 8), none⟩, ⟨some 10, .faddr 0 (.tmp 9), none⟩, ⟨some 11, .load false 1 (.tmp 10), none⟩, ⟨some 12, .bin .eql .plain (.tmp 6) (.tmp 11), none⟩, ⟨some 5, .mv (.tmp 12), none⟩])
 (.cond (.tmp 5)
 (.seq (.reg [⟨some 13, .mv (.tmp 0), none⟩, ⟨some 14, .nilck (.tmp 13), none⟩, ⟨some 15, .faddr 0 (.tmp 14), none⟩, ⟨some 16, .faddr 1 (.tmp 15), none⟩, ⟨some 17, .load false 1 (.tmp 16), none⟩, ⟨some 4, .mv (.tmp 17), none⟩])
 .ret)
 (.seq (.reg [⟨some 19, .mv (.tmp 0), none⟩, ⟨some 20, .mv (.tmp 1), none⟩, ⟨some 21, .call 32 [.tmp 19, .tmp 20], none⟩, ⟨some 18, .mv (.tmp 21), none⟩])
 (.cond (.tmp 18)
 (.seq (.reg [⟨some 22, .mv (.tmp 0), none⟩, ⟨some 23, .mv (.tmp 1), none⟩, ⟨some 24, .call 34 [.tmp 22, .tmp 23], none⟩, ⟨some 25, .fld false 1 0 (.tmp 24), none⟩, ⟨some 4, .mv (.tmp 25), none⟩])
 .ret)
 .skip)))))
 (.seq (.reg [⟨some 4, .mv (.con (.int .i64 0)), none⟩])
 .ret)))
def ac39 : AFun := ⟨2, 26, ab39, [(.tmp 4)]⟩
theorem cf39 : compF Try.prog Try.f39 = some ac39 := by kernel_rfl
theorem cl39 : callable Try.prog 39 = true := by kernel_rfl
theorem fn39 : Try.prog.funcs[39]? = some Try.f39 := by kernel_rfl
/- (*chancel/raft.Core).full -/
def ab40 : ACode := (.seq (.reg [⟨some 2, .mv (.con (.bool false)), none⟩])
 (.seq (.reg [⟨some 3, .mv (.tmp 0), none⟩, ⟨some 4, .nilck (.tmp 3), none⟩, ⟨some 5, .faddr 0 (.tmp 4), none⟩, ⟨some 6, .faddr 4 (.tmp 5), none⟩, ⟨some 7, .load false 1 (.tmp 6), none⟩, ⟨some 8, .lenL (.tmp 7), none⟩, ⟨some 9, .bin .geq .plain (.tmp 8) (.con (.int .i64 56)), none⟩, ⟨some 2, .mv (.tmp 9), none⟩])
 .ret))
def ac40 : AFun := ⟨1, 10, ab40, [(.tmp 2)]⟩
theorem cf40 : compF Try.prog Try.f40 = some ac40 := by kernel_rfl
theorem cl40 : callable Try.prog 40 = true := by kernel_rfl
theorem fn40 : Try.prog.funcs[40]? = some Try.f40 := by kernel_rfl
/- (*chancel/raft.Core).lay -/
def ab41 : ACode := (.seq (.reg [⟨some 3, .box (.tmp 1), none⟩, ⟨some 4, .mv (.con (.int .i64 0)), none⟩])
 (.seq (.reg [⟨some 6, .mv (.tmp 0), none⟩, ⟨some 7, .nilck (.tmp 6), none⟩, ⟨some 8, .faddr 6 (.tmp 7), none⟩, ⟨some 9, .load false 1 (.tmp 8), none⟩, ⟨some 10, .faddr 0 (.tmp 3), none⟩, ⟨none, .store 1 (.tmp 10) (.tmp 9), none⟩])
 (.seq (.dreg [⟨some 11, .mv (.tmp 0), none⟩, ⟨some 12, .nilck (.tmp 11), none⟩, ⟨some 13, .faddr 0 (.tmp 12), none⟩, ⟨some 14, .load true 4 (.tmp 3), none⟩, ⟨some 15, .call 62 [.tmp 13, .tmp 14], none⟩] [4] [0, 1, 3, 0, 15] [])
 (.seq (.reg [⟨some 16, .mv (.tmp 0), none⟩, ⟨some 17, .nilck (.tmp 16), none⟩, ⟨some 18, .faddr 0 (.tmp 17), none⟩, ⟨some 19, .call 13 [.tmp 18], none⟩, ⟨some 5, .mv (.tmp 19), none⟩])
 (.seq (.reg [⟨some 20, .mv (.tmp 0), none⟩, ⟨some 21, .call 50 [.tmp 20], none⟩])
 (.seq (.reg [⟨some 22, .mv (.tmp 0), none⟩, ⟨some 23, .call 63 [.tmp 22], none⟩])
 (.seq (.reg [⟨some 24, .mv (.tmp 5), none⟩, ⟨some 4, .mv (.tmp 24), none⟩])
 .ret)))))))
def ac41 : AFun := ⟨2, 25, ab41, [(.tmp 4)]⟩
theorem cf41 : compF Try.prog Try.f41 = some ac41 := by kernel_rfl
theorem cl41 : callable Try.prog 41 = true := by kernel_rfl
theorem fn41 : Try.prog.funcs[41]? = some Try.f41 := by kernel_rfl
/- (*chancel/raft.Core).Out -/
def ab42 : ACode := (.seq (.reg [⟨some 2, .mv (.con .nils), none⟩])
 (.seq (.reg [⟨some 4, .mv (.tmp 0), none⟩, ⟨some 5, .nilck (.tmp 4), none⟩, ⟨some 6, .faddr 52 (.tmp 5), none⟩, ⟨some 7, .load false 1 (.tmp 6), none⟩, ⟨some 3, .mv (.tmp 7), none⟩])
 (.seq (.reg [⟨some 8, .mv (.tmp 0), none⟩, ⟨some 9, .nilck (.tmp 8), none⟩, ⟨some 10, .faddr 52 (.tmp 9), none⟩, ⟨none, .store 1 (.tmp 10) (.con .nils), none⟩])
 (.seq (.reg [⟨some 11, .mv (.tmp 3), none⟩, ⟨some 2, .mv (.tmp 11), none⟩])
 .ret))))
def ac42 : AFun := ⟨1, 12, ab42, [(.tmp 2)]⟩
theorem cf42 : compF Try.prog Try.f42 = some ac42 := by kernel_rfl
theorem cl42 : callable Try.prog 42 = true := by kernel_rfl
theorem fn42 : Try.prog.funcs[42]? = some Try.f42 := by kernel_rfl
/- chancel/chancelref7.Msg -/
def ab43 : ACode := (.seq (.reg [⟨some 1, .box (.tmp 0), none⟩, ⟨some 2, .mv (.con .nils), none⟩, ⟨some 3, .mv (.con (.int .i64 0)), none⟩])
 (.seq (.seq (.reg [⟨some 7, .load true 14 (.tmp 1), none⟩, ⟨some 8, .call 64 [.tmp 7], none⟩, ⟨some 9, .bin .neq .plain (.tmp 8) (.con (.int .i64 0)), none⟩])
 (.cond (.tmp 9)
 (.seq (.reg [⟨some 10, .load true 14 (.tmp 1), none⟩, ⟨some 11, .call 64 [.tmp 10], none⟩, ⟨some 2, .mv (.con .nils), none⟩, ⟨some 3, .mv (.tmp 11), none⟩])
 .ret)
 .skip))
 (.seq (.dreg [⟨some 12, .faddr 0 (.tmp 1), none⟩, ⟨some 13, .load false 1 (.tmp 12), none⟩, ⟨some 14, .call 65 [.con .nils, .tmp 13], none⟩, ⟨some 15, .faddr 1 (.tmp 1), none⟩, ⟨some 16, .load false 1 (.tmp 15), none⟩, ⟨some 17, .call 65 [.tmp 14, .tmp 16], none⟩, ⟨some 18, .faddr 2 (.tmp 1), none⟩, ⟨some 19, .load false 1 (.tmp 18), none⟩, ⟨some 20, .cvInt .u8 (.tmp 19), none⟩, ⟨some 21, .bslice 1 1 [.int .u8 0] [(0, 1, .tmp 20)], none⟩, ⟨some 22, .append 1 1 (.tmp 17) (.tmp 21), none⟩, ⟨some 4, .mv (.tmp 22), none⟩] [2, 5, 10] [0, 1, 3, 0, 8, 31, 0, 64, 192, 448, 1023, 2047] [9])
 (.seq (.dreg [⟨some 23, .mv (.tmp 4), none⟩, ⟨some 24, .faddr 3 (.tmp 1), none⟩, ⟨some 25, .load false 1 (.tmp 24), none⟩, ⟨some 26, .call 65 [.tmp 23, .tmp 25], none⟩, ⟨some 27, .faddr 4 (.tmp 1), none⟩, ⟨some 28, .load false 1 (.tmp 27), none⟩, ⟨some 29, .call 65 [.tmp 26, .tmp 28], none⟩, ⟨some 30, .faddr 5 (.tmp 1), none⟩, ⟨some 31, .load false 1 (.tmp 30), none⟩, ⟨some 32, .call 65 [.tmp 29, .tmp 31], none⟩, ⟨some 33, .faddr 6 (.tmp 1), none⟩, ⟨some 34, .load false 1 (.tmp 33), none⟩, ⟨some 35, .call 65 [.tmp 32, .tmp 34], none⟩, ⟨some 36, .faddr 7 (.tmp 1), none⟩, ⟨some 37, .load false 1 (.tmp 36), none⟩, ⟨some 38, .call 65 [.tmp 35, .tmp 37], none⟩, ⟨some 4, .mv (.tmp 38), none⟩] [3, 6, 9, 12, 15] [0, 0, 2, 7, 0, 16, 63, 0, 128, 511, 0, 1024, 4095, 0, 8192, 32767, 65535] [])
 (.seq (.seq (.reg [⟨some 39, .faddr 8 (.tmp 1), none⟩, ⟨some 40, .load false 1 (.tmp 39), none⟩])
 (.cond (.tmp 40)
 (.reg [⟨some 41, .mv (.tmp 4), none⟩, ⟨some 42, .bslice 1 1 [.int .u8 0] [(0, 1, .con (.int .u8 1))], none⟩, ⟨some 43, .append 1 1 (.tmp 41) (.tmp 42), none⟩, ⟨some 4, .mv (.tmp 43), none⟩])
 (.reg [⟨some 44, .mv (.tmp 4), none⟩, ⟨some 45, .bslice 1 1 [.int .u8 0] [(0, 1, .con (.int .u8 0))], none⟩, ⟨some 46, .append 1 1 (.tmp 44) (.tmp 45), none⟩, ⟨some 4, .mv (.tmp 46), none⟩])))
 (.seq (.reg [⟨some 47, .mv (.tmp 4), none⟩, ⟨some 48, .faddr 11 (.tmp 1), none⟩, ⟨some 49, .load false 1 (.tmp 48), none⟩, ⟨some 50, .lenL (.tmp 49), none⟩, ⟨some 51, .cvInt .u8 (.tmp 50), none⟩, ⟨some 52, .bslice 1 1 [.int .u8 0] [(0, 1, .tmp 51)], none⟩, ⟨some 53, .append 1 1 (.tmp 47) (.tmp 52), none⟩, ⟨some 4, .mv (.tmp 53), none⟩])
 (.seq (.seq (.reg [⟨some 5, .mv (.con (.int .i64 0)), none⟩])
 (.block 0
 (.loop (.seq (.seq (.reg [⟨some 54, .mv (.tmp 5), none⟩, ⟨some 55, .faddr 11 (.tmp 1), none⟩, ⟨some 56, .load false 1 (.tmp 55), none⟩, ⟨some 57, .lenL (.tmp 56), none⟩, ⟨some 58, .bin .lss .plain (.tmp 54) (.tmp 57), none⟩])
 (.cond (.tmp 58)
 .skip
 (.exit 0)))
 (.seq (.block 1
 (.dreg [⟨some 61, .mv (.tmp 4), none⟩, ⟨some 62, .faddr 9 (.tmp 1), none⟩, ⟨some 63, .load false 1 (.tmp 62), none⟩, ⟨some 64, .mv (.tmp 5), none⟩, ⟨some 65, .iaddr 1 (.tmp 63) (.tmp 64), none⟩, ⟨some 66, .load false 1 (.tmp 65), none⟩, ⟨some 67, .call 65 [.tmp 61, .tmp 66], none⟩, ⟨some 68, .faddr 10 (.tmp 1), none⟩, ⟨some 69, .load false 1 (.tmp 68), none⟩, ⟨some 70, .mv (.tmp 5), none⟩, ⟨some 71, .iaddr 1 (.tmp 69) (.tmp 70), none⟩, ⟨some 72, .load false 1 (.tmp 71), none⟩, ⟨some 73, .call 65 [.tmp 67, .tmp 72], none⟩, ⟨some 74, .faddr 11 (.tmp 1), none⟩, ⟨some 75, .load false 1 (.tmp 74), none⟩, ⟨some 76, .mv (.tmp 5), none⟩, ⟨some 77, .iaddr 1 (.tmp 75) (.tmp 76), none⟩, ⟨some 78, .load false 1 (.tmp 77), none⟩, ⟨some 79, .call 66 [.tmp 73, .tmp 78], none⟩, ⟨some 4, .mv (.tmp 79), none⟩] [6, 12, 18] [0, 0, 2, 0, 14, 30, 63, 0, 128, 0, 896, 1920, 4095, 0, 8192, 0, 57344, 122880, 262143, 524287] []))
 (.reg [⟨some 59, .mv (.tmp 5), none⟩, ⟨some 60, .bin .add .plain (.tmp 59) (.con (.int .i64 1)), none⟩, ⟨some 5, .mv (.tmp 60), none⟩]))))))
 (.seq (.reg [⟨some 80, .mv (.tmp 4), none⟩, ⟨some 81, .faddr 12 (.tmp 1), none⟩, ⟨some 82, .load false 1 (.tmp 81), none⟩, ⟨some 83, .lenL (.tmp 82), none⟩, ⟨some 84, .cvInt .u8 (.tmp 83), none⟩, ⟨some 85, .bslice 1 1 [.int .u8 0] [(0, 1, .tmp 84)], none⟩, ⟨some 86, .append 1 1 (.tmp 80) (.tmp 85), none⟩, ⟨some 4, .mv (.tmp 86), none⟩])
 (.seq (.seq (.reg [⟨some 6, .mv (.con (.int .i64 0)), none⟩])
 (.block 2
 (.loop (.seq (.seq (.reg [⟨some 87, .mv (.tmp 6), none⟩, ⟨some 88, .faddr 12 (.tmp 1), none⟩, ⟨some 89, .load false 1 (.tmp 88), none⟩, ⟨some 90, .lenL (.tmp 89), none⟩, ⟨some 91, .bin .lss .plain (.tmp 87) (.tmp 90), none⟩])
 (.cond (.tmp 91)
 .skip
 (.exit 2)))
 (.seq (.block 3
 (.reg [⟨some 94, .mv (.tmp 4), none⟩, ⟨some 95, .faddr 12 (.tmp 1), none⟩, ⟨some 96, .load false 1 (.tmp 95), none⟩, ⟨some 97, .mv (.tmp 6), none⟩, ⟨some 98, .iaddr 1 (.tmp 96) (.tmp 97), none⟩, ⟨some 99, .load false 1 (.tmp 98), none⟩, ⟨some 100, .call 65 [.tmp 94, .tmp 99], none⟩, ⟨some 4, .mv (.tmp 100), none⟩]))
 (.reg [⟨some 92, .mv (.tmp 6), none⟩, ⟨some 93, .bin .add .plain (.tmp 92) (.con (.int .i64 1)), none⟩, ⟨some 6, .mv (.tmp 93), none⟩]))))))
 (.seq (.reg [⟨some 101, .mv (.tmp 4), none⟩, ⟨some 102, .faddr 13 (.tmp 1), none⟩, ⟨some 103, .load false 1 (.tmp 102), none⟩, ⟨some 104, .call 66 [.tmp 101, .tmp 103], none⟩, ⟨some 2, .mv (.tmp 104), none⟩, ⟨some 3, .mv (.con (.int .i64 0)), none⟩])
 .ret))))))))))
def ac43 : AFun := ⟨1, 105, ab43, [(.tmp 2), (.tmp 3)]⟩
theorem cf43 : compF Try.prog Try.f43 = some ac43 := by kernel_rfl
theorem cl43 : callable Try.prog 43 = true := by kernel_rfl
theorem fn43 : Try.prog.funcs[43]? = some Try.f43 := by kernel_rfl
/- (*chancel/raft.Core).Term -/
def ab44 : ACode := (.seq (.reg [⟨some 2, .mv (.con (.int .i64 0)), none⟩])
 (.seq (.reg [⟨some 3, .mv (.tmp 0), none⟩, ⟨some 4, .nilck (.tmp 3), none⟩, ⟨some 5, .faddr 6 (.tmp 4), none⟩, ⟨some 6, .load false 1 (.tmp 5), none⟩, ⟨some 2, .mv (.tmp 6), none⟩])
 .ret))
def ac44 : AFun := ⟨1, 7, ab44, [(.tmp 2)]⟩
theorem cf44 : compF Try.prog Try.f44 = some ac44 := by kernel_rfl
theorem cl44 : callable Try.prog 44 = true := by kernel_rfl
theorem fn44 : Try.prog.funcs[44]? = some Try.f44 := by kernel_rfl
/- chancel/chancellaw19.snap -/
def ab45 : ACode := (.seq (.reg [⟨some 2, .mv (.con (.str [])), none⟩])
 (.seq (.reg [⟨some 3, .mv (.tmp 0), none⟩, ⟨some 4, .cvInt .u8 (.tmp 3), none⟩, ⟨some 5, .mv (.tmp 0), none⟩, ⟨some 6, .bin .shr .plain (.tmp 5) (.con (.int .u64 8)), none⟩, ⟨some 7, .cvInt .u8 (.tmp 6), none⟩, ⟨some 8, .bslice 1 3 [.int .u8 0] [(0, 1, .con (.int .u8 115)), (1, 1, .tmp 4), (2, 1, .tmp 7)], none⟩, ⟨some 9, .cvBS (.tmp 8), none⟩, ⟨some 2, .mv (.tmp 9), none⟩])
 .ret))
def ac45 : AFun := ⟨1, 10, ab45, [(.tmp 2)]⟩
theorem cf45 : compF Try.prog Try.f45 = some ac45 := by kernel_rfl
theorem cl45 : callable Try.prog 45 = true := by kernel_rfl
theorem fn45 : Try.prog.funcs[45]? = some Try.f45 := by kernel_rfl
/- chancel/chancellaw19.same -/
def ab46 : ACode := (.seq (.reg [⟨some 2, .box (.tmp 0), none⟩, ⟨some 3, .box (.tmp 1), none⟩, ⟨some 4, .mv (.con (.bool false)), none⟩])
 (.seq (.seq (.reg [⟨some 6, .faddr 0 (.tmp 2), none⟩, ⟨some 7, .load false 1 (.tmp 6), none⟩, ⟨some 8, .faddr 0 (.tmp 3), none⟩, ⟨some 9, .load false 1 (.tmp 8), none⟩, ⟨some 10, .bin .neq .plain (.tmp 7) (.tmp 9), none⟩, ⟨some 11, .mv (.tmp 10), none⟩, ⟨some 12, .faddr 1 (.tmp 2), some (11, false)⟩, ⟨some 13, .load false 1 (.tmp 12), some (11, false)⟩, ⟨some 14, .faddr 1 (.tmp 3), some (11, false)⟩, ⟨some 15, .load false 1 (.tmp 14), some (11, false)⟩, ⟨some 16, .bin .neq .plain (.tmp 13) (.tmp 15), some (11, false)⟩, ⟨some 17, .pick (.tmp 11) (.con (.bool true)) (.tmp 16), none⟩, ⟨some 18, .mv (.tmp 17), none⟩, ⟨some 19, .faddr 2 (.tmp 2), some (18, false)⟩, ⟨some 20, .load false 1 (.tmp 19), some (18, false)⟩, ⟨some 21, .faddr 2 (.tmp 3), some (18, false)⟩, ⟨some 22, .load false 1 (.tmp 21), some (18, false)⟩, ⟨some 23, .bin .neq .plain (.tmp 20) (.tmp 22), some (18, false)⟩, ⟨some 24, .pick (.tmp 18) (.con (.bool true)) (.tmp 23), none⟩, ⟨some 25, .mv (.tmp 24), none⟩, ⟨some 26, .faddr 3 (.tmp 2), some (25, false)⟩, ⟨some 27, .load false 1 (.tmp 26), some (25, false)⟩, ⟨some 28, .cvBS (.tmp 27), some (25, false)⟩, ⟨some 29, .faddr 3 (.tmp 3), some (25, false)⟩, ⟨some 30, .load false 1 (.tmp 29), some (25, false)⟩, ⟨some 31, .cvBS (.tmp 30), some (25, false)⟩, ⟨some 32, .bin .neq .plain (.tmp 28) (.tmp 31), some (25, false)⟩, ⟨some 33, .pick (.tmp 25) (.con (.bool true)) (.tmp 32), none⟩, ⟨some 34, .mv (.tmp 33), none⟩, ⟨some 35, .faddr 4 (.tmp 2), some (34, false)⟩, ⟨some 36, .load false 1 (.tmp 35), some (34, false)⟩, ⟨some 37, .lenL (.tmp 36), some (34, false)⟩, ⟨some 38, .faddr 4 (.tmp 3), some (34, false)⟩, ⟨some 39, .load false 1 (.tmp 38), some (34, false)⟩, ⟨some 40, .lenL (.tmp 39), some (34, false)⟩, ⟨some 41, .bin .neq .plain (.tmp 37) (.tmp 40), some (34, false)⟩, ⟨some 42, .pick (.tmp 34) (.con (.bool true)) (.tmp 41), none⟩])
 (.cond (.tmp 42)
 (.seq (.reg [⟨some 4, .mv (.con (.bool false)), none⟩])
 .ret)
 .skip))
 (.seq (.seq (.reg [⟨some 5, .mv (.con (.int .i64 0)), none⟩])
 (.block 0
 (.loop (.seq (.seq (.reg [⟨some 43, .mv (.tmp 5), none⟩, ⟨some 44, .faddr 4 (.tmp 2), none⟩, ⟨some 45, .load false 1 (.tmp 44), none⟩, ⟨some 46, .lenL (.tmp 45), none⟩, ⟨some 47, .bin .lss .plain (.tmp 43) (.tmp 46), none⟩])
 (.cond (.tmp 47)
 .skip
 (.exit 0)))
 (.seq (.block 1
 (.seq (.dreg [⟨some 50, .faddr 4 (.tmp 2), none⟩, ⟨some 51, .load false 1 (.tmp 50), none⟩, ⟨some 52, .mv (.tmp 5), none⟩, ⟨some 53, .iaddr 1 (.tmp 51) (.tmp 52), none⟩, ⟨some 54, .load false 1 (.tmp 53), none⟩, ⟨some 55, .faddr 4 (.tmp 3), none⟩, ⟨some 56, .load false 1 (.tmp 55), none⟩, ⟨some 57, .mv (.tmp 5), none⟩, ⟨some 58, .iaddr 1 (.tmp 56) (.tmp 57), none⟩, ⟨some 59, .load false 1 (.tmp 58), none⟩, ⟨some 60, .bin .neq .plain (.tmp 54) (.tmp 59), none⟩] [] [0, 1, 0, 7, 15, 0, 32, 0, 224, 480, 1023] [])
 (.cond (.tmp 60)
 (.seq (.reg [⟨some 4, .mv (.con (.bool false)), none⟩])
 .ret)
 .skip)))
 (.reg [⟨some 48, .mv (.tmp 5), none⟩, ⟨some 49, .bin .add .plain (.tmp 48) (.con (.int .i64 1)), none⟩, ⟨some 5, .mv (.tmp 49), none⟩]))))))
 (.seq (.reg [⟨some 4, .mv (.con (.bool true)), none⟩])
 .ret))))
def ac46 : AFun := ⟨2, 61, ab46, [(.tmp 4)]⟩
theorem cf46 : compF Try.prog Try.f46 = some ac46 := by kernel_rfl
theorem cl46 : callable Try.prog 46 = true := by kernel_rfl
theorem fn46 : Try.prog.funcs[46]? = some Try.f46 := by kernel_rfl
/- (*chancel/chancellaw19.Group).reads -/
def ab47 : ACode := (.seq (.reg [⟨some 4, .mv (.con (.bool false)), none⟩])
 (.seq (.reg [⟨some 9, .mv (.tmp 0), none⟩, ⟨some 10, .nilck (.tmp 9), none⟩, ⟨some 11, .faddr 1 (.tmp 10), none⟩, ⟨some 12, .load false 1 (.tmp 11), none⟩, ⟨some 13, .mv (.tmp 1), none⟩, ⟨some 14, .iaddr 1 (.tmp 12) (.tmp 13), none⟩, ⟨some 15, .load false 1 (.tmp 14), none⟩, ⟨some 16, .call 26 [.tmp 15], none⟩, ⟨some 5, .mv (.tmp 16), none⟩])
 (.seq (.seq (.reg [⟨some 6, .mv (.con (.int .i64 0)), none⟩])
 (.block 0
 (.loop (.seq (.seq (.reg [⟨some 17, .mv (.tmp 6), none⟩, ⟨some 18, .mv (.tmp 5), none⟩, ⟨some 19, .lenL (.tmp 18), none⟩, ⟨some 20, .bin .lss .plain (.tmp 17) (.tmp 19), none⟩])
 (.cond (.tmp 20)
 .skip
 (.exit 0)))
 (.seq (.block 1
 (.seq (.reg [⟨some 7, .mv (.con (.int .i64 (-1))), none⟩])
 (.seq (.seq (.reg [⟨some 8, .mv (.con (.int .i64 0)), none⟩])
 (.block 2
 (.loop (.seq (.seq (.reg [⟨some 23, .mv (.tmp 8), none⟩, ⟨some 24, .mv (.tmp 0), none⟩, ⟨some 25, .nilck (.tmp 24), none⟩, ⟨some 26, .faddr 407 (.tmp 25), none⟩, ⟨some 27, .load false 1 (.tmp 26), none⟩, ⟨some 28, .mv (.tmp 1), none⟩, ⟨some 29, .iaddr 1 (.tmp 27) (.tmp 28), none⟩, ⟨some 30, .load false 1 (.tmp 29), none⟩, ⟨some 31, .lenL (.tmp 30), none⟩, ⟨some 32, .bin .lss .plain (.tmp 23) (.tmp 31), none⟩])
 (.cond (.tmp 32)
 .skip
 (.exit 2)))
 (.seq (.block 3
 (.seq (.dreg [⟨some 35, .mv (.tmp 0), none⟩, ⟨some 36, .nilck (.tmp 35), none⟩, ⟨some 37, .faddr 407 (.tmp 36), none⟩, ⟨some 38, .load false 1 (.tmp 37), none⟩, ⟨some 39, .mv (.tmp 1), none⟩, ⟨some 40, .iaddr 1 (.tmp 38) (.tmp 39), none⟩, ⟨some 41, .load false 1 (.tmp 40), none⟩, ⟨some 42, .mv (.tmp 8), none⟩, ⟨some 43, .iaddr 2 (.tmp 41) (.tmp 42), none⟩, ⟨some 44, .faddr 0 (.tmp 43), none⟩, ⟨some 45, .load false 1 (.tmp 44), none⟩, ⟨some 46, .mv (.tmp 5), none⟩, ⟨some 47, .mv (.tmp 6), none⟩, ⟨some 48, .iaddr 2 (.tmp 46) (.tmp 47), none⟩, ⟨some 49, .faddr 0 (.tmp 48), none⟩, ⟨some 50, .load false 1 (.tmp 49), none⟩, ⟨some 51, .bin .eql .plain (.tmp 45) (.tmp 50), none⟩] [] [0, 1, 3, 7, 0, 31, 63, 0, 255, 511, 1023, 0, 0, 6144, 14336, 30720, 65535] [])
 (.cond (.tmp 51)
 (.reg [⟨some 52, .mv (.tmp 8), none⟩, ⟨some 7, .mv (.tmp 52), none⟩])
 .skip)))
 (.reg [⟨some 33, .mv (.tmp 8), none⟩, ⟨some 34, .bin .add .plain (.tmp 33) (.con (.int .i64 1)), none⟩, ⟨some 8, .mv (.tmp 34), none⟩]))))))
 (.seq (.seq (.dreg [⟨some 53, .mv (.tmp 7), none⟩, ⟨some 54, .bin .lss .plain (.tmp 53) (.con (.int .i64 0)), none⟩, ⟨some 55, .mv (.tmp 54), none⟩, ⟨some 56, .mv (.tmp 5), some (55, false)⟩, ⟨some 57, .mv (.tmp 6), some (55, false)⟩, ⟨some 58, .iaddr 2 (.tmp 56) (.tmp 57), some (55, false)⟩, ⟨some 59, .faddr 1 (.tmp 58), some (55, false)⟩, ⟨some 60, .load false 1 (.tmp 59), some (55, false)⟩, ⟨some 61, .mv (.tmp 0), some (55, false)⟩, ⟨some 62, .nilck (.tmp 61), some (55, false)⟩, ⟨some 63, .faddr 407 (.tmp 62), some (55, false)⟩, ⟨some 64, .load false 1 (.tmp 63), some (55, false)⟩, ⟨some 65, .mv (.tmp 1), some (55, false)⟩, ⟨some 66, .iaddr 1 (.tmp 64) (.tmp 65), some (55, false)⟩, ⟨some 67, .load false 1 (.tmp 66), some (55, false)⟩, ⟨some 68, .mv (.tmp 7), some (55, false)⟩, ⟨some 69, .iaddr 2 (.tmp 67) (.tmp 68), some (55, false)⟩, ⟨some 70, .faddr 1 (.tmp 69), some (55, false)⟩, ⟨some 71, .load false 1 (.tmp 70), some (55, false)⟩, ⟨some 72, .bin .lss .plain (.tmp 60) (.tmp 71), some (55, false)⟩, ⟨some 73, .pick (.tmp 55) (.con (.bool true)) (.tmp 72), none⟩, ⟨some 74, .mv (.tmp 73), none⟩, ⟨some 75, .mv (.tmp 5), some (74, false)⟩, ⟨some 76, .mv (.tmp 6), some (74, false)⟩, ⟨some 77, .iaddr 2 (.tmp 75) (.tmp 76), some (74, false)⟩, ⟨some 78, .faddr 1 (.tmp 77), some (74, false)⟩, ⟨some 79, .load false 1 (.tmp 78), some (74, false)⟩, ⟨some 80, .mv (.tmp 0), some (74, false)⟩, ⟨some 81, .nilck (.tmp 80), some (74, false)⟩, ⟨some 82, .faddr 1 (.tmp 81), some (74, false)⟩, ⟨some 83, .load false 1 (.tmp 82), some (74, false)⟩, ⟨some 84, .mv (.tmp 1), some (74, false)⟩, ⟨some 85, .iaddr 1 (.tmp 83) (.tmp 84), some (74, false)⟩, ⟨some 86, .load false 1 (.tmp 85), some (74, false)⟩, ⟨some 87, .call 21 [.tmp 86], some (74, false)⟩, ⟨some 88, .bin .gtr .plain (.tmp 79) (.tmp 87), some (74, false)⟩, ⟨some 89, .pick (.tmp 74) (.con (.bool true)) (.tmp 88), none⟩] [34] [0, 1, 3, 7, 7, 31, 63, 127, 7, 263, 775, 1799, 7, 7943, 16135, 7, 65287, 130823, 261895, 524287, 1048575, 2097151, 4194303, 4194303, 16777215, 33554431, 67108863, 4194303, 138412031, 406847487, 943718399, 4194303, 4164943871, 8459911167, 17049845759, 34359738367, 68719476735] [])
 (.cond (.tmp 89)
 (.seq (.reg [⟨some 4, .mv (.con (.bool false)), none⟩])
 .ret)
 .skip))
 (.seq (.dreg [⟨some 90, .mv (.tmp 0), none⟩, ⟨some 91, .nilck (.tmp 90), none⟩, ⟨some 92, .faddr 407 (.tmp 91), none⟩, ⟨some 93, .load false 1 (.tmp 92), none⟩, ⟨some 94, .mv (.tmp 1), none⟩, ⟨some 95, .bslice 2 0 [.int .i64 0, .int .i64 0] [], none⟩, ⟨some 96, .mv (.tmp 0), none⟩, ⟨some 97, .nilck (.tmp 96), none⟩, ⟨some 98, .faddr 407 (.tmp 97), none⟩, ⟨some 99, .load false 1 (.tmp 98), none⟩, ⟨some 100, .mv (.tmp 1), none⟩, ⟨some 101, .iaddr 1 (.tmp 99) (.tmp 100), none⟩, ⟨some 102, .load false 1 (.tmp 101), none⟩, ⟨some 103, .mv (.tmp 7), none⟩, ⟨some 104, .bin .add .plain (.tmp 103) (.con (.int .i64 1)), none⟩, ⟨some 105, .slSl 2 (.tmp 102) (some (.tmp 104)) none none, none⟩, ⟨some 106, .append 2 16 (.tmp 95) (.tmp 105), none⟩, ⟨some 107, .iaddr 1 (.tmp 93) (.tmp 94), none⟩, ⟨none, .store 1 (.tmp 107) (.tmp 106), none⟩] [5, 16, 18] [0, 1, 3, 7, 0, 0, 0, 64, 192, 448, 0, 1984, 4032, 0, 8192, 32704, 65504, 131071, 262143] [])
 (.reg [⟨some 108, .mv (.tmp 0), none⟩, ⟨some 109, .nilck (.tmp 108), none⟩, ⟨some 110, .faddr 409 (.tmp 109), none⟩, ⟨some 111, .load false 1 (.tmp 110), none⟩, ⟨some 112, .bin .add .plain (.tmp 111) (.con (.int .i64 1)), none⟩, ⟨some 113, .nilck (.tmp 108), none⟩, ⟨some 114, .faddr 409 (.tmp 113), none⟩, ⟨none, .store 1 (.tmp 114) (.tmp 112), none⟩]))))))
 (.reg [⟨some 21, .mv (.tmp 6), none⟩, ⟨some 22, .bin .add .plain (.tmp 21) (.con (.int .i64 1)), none⟩, ⟨some 6, .mv (.tmp 22), none⟩]))))))
 (.seq (.reg [⟨some 4, .mv (.con (.bool true)), none⟩])
 .ret))))
def ac47 : AFun := ⟨2, 115, ab47, [(.tmp 4)]⟩
theorem cf47 : compF Try.prog Try.f47 = some ac47 := by kernel_rfl
theorem cl47 : callable Try.prog 47 = true := by kernel_rfl
theorem fn47 : Try.prog.funcs[47]? = some Try.f47 := by kernel_rfl
/- slices.Clone[[]int,int] -/
def ab48 : ACode := (.seq (.reg [⟨some 2, .mv (.con .nils), none⟩])
 (.seq (.seq (.reg [⟨some 3, .mv (.tmp 0), none⟩, ⟨some 4, .bin .eql .slice (.tmp 3) (.con .nils), none⟩])
 (.cond (.tmp 4)
 (.seq (.reg [⟨some 2, .mv (.con .nils), none⟩])
 .ret)
 .skip))
 (.seq (.reg [⟨some 5, .bslice 1 0 [.int .i64 0] [], none⟩, ⟨some 6, .mv (.tmp 0), none⟩, ⟨some 7, .append 1 8 (.tmp 5) (.tmp 6), none⟩, ⟨some 2, .mv (.tmp 7), none⟩])
 .ret)))
def ac48 : AFun := ⟨1, 8, ab48, [(.tmp 2)]⟩
theorem cf48 : compF Try.prog Try.f48 = some ac48 := by kernel_rfl
theorem cl48 : callable Try.prog 48 = true := by kernel_rfl
theorem fn48 : Try.prog.funcs[48]? = some Try.f48 := by kernel_rfl
/- (*chancel/raft.Core).wait -/
def ab49 : ACode := (.reg [⟨some 4, .mv (.tmp 0), none⟩, ⟨some 5, .mv (.tmp 1), none⟩, ⟨some 6, .bin .rem .plain (.tmp 5) (.con (.int .i64 10)), none⟩, ⟨some 7, .bin .add .plain (.tmp 6) (.con (.int .i64 10)), none⟩, ⟨some 8, .bin .rem .plain (.tmp 7) (.con (.int .i64 10)), none⟩, ⟨some 9, .bin .add .plain (.con (.int .i64 10)) (.tmp 8), none⟩, ⟨some 10, .nilck (.tmp 4), none⟩, ⟨some 11, .faddr 49 (.tmp 10), none⟩, ⟨none, .store 1 (.tmp 11) (.tmp 9), none⟩])
def ac49 : AFun := ⟨2, 12, ab49, []⟩
theorem cf49 : compF Try.prog Try.f49 = some ac49 := by kernel_rfl
theorem cl49 : callable Try.prog 49 = true := by kernel_rfl
theorem fn49 : Try.prog.funcs[49]? = some Try.f49 := by kernel_rfl
/- (*chancel/raft.Core).tell -/
def ab50 : ACode := (.seq (.reg [⟨some 3, .mv (.con (.int .i64 0)), none⟩])
 (.block 0
 (.loop (.seq (.reg [⟨some 4, .bin .lss .plain (.tmp 3) (.con (.int .i64 7)), none⟩])
 (.seq (.cond (.tmp 4)
 .skip
 (.exit 0))
 (.seq (.block 1
 (.seq (.reg [⟨some 5, .mv (.tmp 3), none⟩, ⟨some 2, .mv (.tmp 5), none⟩])
 (.seq (.reg [⟨some 6, .mv (.tmp 2), none⟩, ⟨some 7, .mv (.tmp 0), none⟩, ⟨some 8, .nilck (.tmp 7), none⟩, ⟨some 9, .faddr 5 (.tmp 8), none⟩, ⟨some 10, .load false 1 (.tmp 9), none⟩, ⟨some 11, .bin .neq .plain (.tmp 6) (.tmp 10), none⟩])
 (.cond (.tmp 11)
 (.reg [⟨some 12, .mv (.tmp 0), none⟩, ⟨some 13, .mv (.tmp 2), none⟩, ⟨some 14, .call 67 [.tmp 12, .tmp 13], none⟩])
 .skip))))
 (.reg [⟨some 15, .bin .add .plain (.tmp 3) (.con (.int .i64 1)), none⟩, ⟨some 3, .mv (.tmp 15), none⟩])))))))
def ac50 : AFun := ⟨1, 16, ab50, []⟩
theorem cf50 : compF Try.prog Try.f50 = some ac50 := by kernel_rfl
theorem cl50 : callable Try.prog 50 = true := by kernel_rfl
theorem fn50 : Try.prog.funcs[50]? = some Try.f50 := by kernel_rfl
/- (*chancel/raft.Core).confirm -/
def ab51 : ACode := (.seq (.reg [⟨some 1, .box (.tmp 0), none⟩])
 (.block 0
 (.loop (.seq (.seq (.reg [⟨some 3, .load false 1 (.tmp 1), none⟩, ⟨some 4, .nilck (.tmp 3), none⟩, ⟨some 5, .faddr 47 (.tmp 4), none⟩, ⟨some 6, .load false 1 (.tmp 5), none⟩, ⟨some 7, .lenL (.tmp 6), none⟩, ⟨some 8, .bin .gtr .plain (.tmp 7) (.con (.int .i64 0)), none⟩, ⟨some 9, .mv (.tmp 8), none⟩, ⟨some 10, .load false 1 (.tmp 1), some (9, true)⟩, ⟨some 11, .nilck (.tmp 10), some (9, true)⟩, ⟨some 12, .faddr 9 (.tmp 11), some (9, true)⟩, ⟨some 13, .load false 1 (.tmp 12), some (9, true)⟩, ⟨some 14, .bin .eql .plain (.tmp 13) (.con (.int .i64 2)), some (9, true)⟩, ⟨some 15, .pick (.tmp 9) (.tmp 14) (.con (.bool false)), none⟩])
 (.cond (.tmp 15)
 .skip
 (.exit 0)))
 (.block 1
 (.seq (.reg [⟨some 16, .load false 1 (.tmp 1), none⟩, ⟨some 17, .nilck (.tmp 16), none⟩, ⟨some 18, .faddr 47 (.tmp 17), none⟩, ⟨some 19, .load false 1 (.tmp 18), none⟩, ⟨some 20, .iaddr 3 (.tmp 19) (.con (.int .i64 0)), none⟩, ⟨some 21, .load true 3 (.tmp 20), none⟩, ⟨some 2, .alloc [.int .i64 0, .int .i64 0, .int .i64 0], none⟩, ⟨none, .store 3 (.tmp 2) (.tmp 21), none⟩])
 (.seq (.seq (.reg [⟨some 22, .load false 1 (.tmp 1), none⟩, ⟨some 23, .mkfn 69 [.tmp 1, .tmp 2], none⟩, ⟨some 24, .call 68 [.tmp 22, .tmp 23], none⟩, ⟨some 25, .un .not (.tmp 24), none⟩])
 (.cond (.tmp 25)
 .ret
 .skip))
 (.seq (.dreg [⟨some 26, .load false 1 (.tmp 1), none⟩, ⟨some 27, .load false 1 (.tmp 1), none⟩, ⟨some 28, .nilck (.tmp 27), none⟩, ⟨some 29, .faddr 48 (.tmp 28), none⟩, ⟨some 30, .load false 1 (.tmp 29), none⟩, ⟨some 31, .faddr 0 (.tmp 2), none⟩, ⟨some 32, .load true 2 (.tmp 31), none⟩, ⟨some 33, .bslice 2 1 [.int .i64 0, .int .i64 0] [(0, 2, .tmp 32)], none⟩, ⟨some 34, .append 2 16 (.tmp 30) (.tmp 33), none⟩, ⟨some 35, .nilck (.tmp 26), none⟩, ⟨some 36, .faddr 48 (.tmp 35), none⟩, ⟨none, .store 1 (.tmp 36) (.tmp 34), none⟩] [7, 8, 11] [0, 0, 2, 6, 14, 0, 32, 96, 254, 511, 1023, 2047] [])
 (.dreg [⟨some 37, .load false 1 (.tmp 1), none⟩, ⟨some 38, .load false 1 (.tmp 1), none⟩, ⟨some 39, .nilck (.tmp 38), none⟩, ⟨some 40, .faddr 47 (.tmp 39), none⟩, ⟨some 41, .load false 1 (.tmp 40), none⟩, ⟨some 42, .slSl 3 (.tmp 41) (some (.con (.int .i64 1))) none none, none⟩, ⟨some 43, .nilck (.tmp 37), none⟩, ⟨some 44, .faddr 47 (.tmp 43), none⟩, ⟨none, .store 1 (.tmp 44) (.tmp 42), none⟩] [8] [0, 0, 2, 6, 14, 30, 63, 127, 255] [])))))))))
def ac51 : AFun := ⟨1, 45, ab51, []⟩
theorem cf51 : compF Try.prog Try.f51 = some ac51 := by kernel_rfl
theorem cl51 : callable Try.prog 51 = true := by kernel_rfl
theorem fn51 : Try.prog.funcs[51]? = some Try.f51 := by kernel_rfl
/- (*chancel/raft.log).keep -/
def ab52 : ACode := (.seq (.reg [⟨some 10, .mv (.tmp 0), none⟩, ⟨some 11, .mv (.tmp 1), none⟩, ⟨some 12, .call 36 [.tmp 10, .tmp 11], none⟩, ⟨some 9, .mv (.tmp 12), none⟩, ⟨some 13, .ext (.tmp 9) 0, none⟩, ⟨some 14, .ext (.tmp 9) 1, none⟩, ⟨some 6, .mv (.tmp 13), none⟩, ⟨some 7, .mv (.tmp 14), none⟩])
 (.seq (.reg [⟨some 15, .mv (.tmp 1), none⟩, ⟨some 16, .mv (.tmp 0), none⟩, ⟨some 17, .mv (.tmp 1), none⟩, ⟨some 18, .call 39 [.tmp 16, .tmp 17], none⟩, ⟨some 19, .mv (.tmp 6), none⟩, ⟨some 20, .call 48 [.tmp 19], none⟩, ⟨some 21, .mv (.tmp 2), none⟩, ⟨some 22, .call 35 [.tmp 21], none⟩, ⟨some 23, .build [.int .i64 0, .int .i64 0, .nils, .nils] [(0, 1, .tmp 15), (1, 1, .tmp 18), (2, 1, .tmp 20), (3, 1, .tmp 22)], none⟩, ⟨some 8, .alloc [.int .i64 0, .int .i64 0, .nils, .nils], none⟩, ⟨none, .store 4 (.tmp 8) (.tmp 23), none⟩])
 (.seq (.dreg [⟨some 24, .mv (.tmp 0), none⟩, ⟨some 25, .mv (.tmp 0), none⟩, ⟨some 26, .nilck (.tmp 25), none⟩, ⟨some 27, .faddr 4 (.tmp 26), none⟩, ⟨some 28, .load false 1 (.tmp 27), none⟩, ⟨some 29, .mv (.tmp 1), none⟩, ⟨some 30, .mv (.tmp 0), none⟩, ⟨some 31, .nilck (.tmp 30), none⟩, ⟨some 32, .faddr 0 (.tmp 31), none⟩, ⟨some 33, .faddr 0 (.tmp 32), none⟩, ⟨some 34, .load false 1 (.tmp 33), none⟩, ⟨some 35, .bin .sub .plain (.tmp 29) (.tmp 34), none⟩, ⟨some 36, .slSl 4 (.tmp 28) (some (.tmp 35)) none none, none⟩, ⟨some 37, .call 70 [.tmp 36], none⟩, ⟨some 38, .nilck (.tmp 24), none⟩, ⟨some 39, .faddr 4 (.tmp 38), none⟩, ⟨none, .store 1 (.tmp 39) (.tmp 37), none⟩] [13, 16] [0, 0, 2, 6, 14, 0, 0, 64, 192, 448, 960, 2016, 4094, 8190, 16383, 32767, 65535] [])
 (.reg [⟨some 40, .mv (.tmp 0), none⟩, ⟨some 41, .load true 4 (.tmp 8), none⟩, ⟨some 42, .nilck (.tmp 40), none⟩, ⟨some 43, .faddr 0 (.tmp 42), none⟩, ⟨none, .store 4 (.tmp 43) (.tmp 41), none⟩]))))
def ac52 : AFun := ⟨3, 44, ab52, []⟩
theorem cf52 : compF Try.prog Try.f52 = some ac52 := by kernel_rfl
theorem cl52 : callable Try.prog 52 = true := by kernel_rfl
theorem fn52 : Try.prog.funcs[52]? = some Try.f52 := by kernel_rfl
/- (*chancel/raft.Core).Tick -/
def ab53 : ACode := (.seq (.reg [⟨some 4, .mv (.tmp 0), none⟩, ⟨some 5, .mv (.tmp 1), none⟩, ⟨some 6, .nilck (.tmp 4), none⟩, ⟨some 7, .faddr 50 (.tmp 6), none⟩, ⟨none, .store 1 (.tmp 7) (.tmp 5), none⟩])
 (.seq (.seq (.reg [⟨some 8, .mv (.tmp 0), none⟩, ⟨some 9, .nilck (.tmp 8), none⟩, ⟨some 10, .faddr 9 (.tmp 9), none⟩, ⟨some 11, .load false 1 (.tmp 10), none⟩, ⟨some 12, .bin .eql .plain (.tmp 11) (.con (.int .i64 2)), none⟩])
 (.cond (.tmp 12)
 (.seq (.reg [⟨some 13, .mv (.tmp 0), none⟩, ⟨some 14, .nilck (.tmp 13), none⟩, ⟨some 15, .faddr 51 (.tmp 14), none⟩, ⟨some 16, .load false 1 (.tmp 15), none⟩, ⟨some 17, .bin .add .plain (.tmp 16) (.con (.int .i64 1)), none⟩, ⟨some 18, .nilck (.tmp 13), none⟩, ⟨some 19, .faddr 51 (.tmp 18), none⟩, ⟨none, .store 1 (.tmp 19) (.tmp 17), none⟩])
 (.seq (.seq (.reg [⟨some 20, .mv (.tmp 0), none⟩, ⟨some 21, .nilck (.tmp 20), none⟩, ⟨some 22, .faddr 51 (.tmp 21), none⟩, ⟨some 23, .load false 1 (.tmp 22), none⟩, ⟨some 24, .bin .rem .plain (.tmp 23) (.con (.int .i64 3)), none⟩, ⟨some 25, .bin .eql .plain (.tmp 24) (.con (.int .i64 0)), none⟩])
 (.cond (.tmp 25)
 (.reg [⟨some 26, .mv (.tmp 0), none⟩, ⟨some 27, .call 50 [.tmp 26], none⟩])
 .skip))
 .ret))
 .skip))
 (.seq (.reg [⟨some 28, .mv (.tmp 0), none⟩, ⟨some 29, .nilck (.tmp 28), none⟩, ⟨some 30, .faddr 49 (.tmp 29), none⟩, ⟨some 31, .load false 1 (.tmp 30), none⟩, ⟨some 32, .bin .sub .plain (.tmp 31) (.con (.int .i64 1)), none⟩, ⟨some 33, .nilck (.tmp 28), none⟩, ⟨some 34, .faddr 49 (.tmp 33), none⟩, ⟨none, .store 1 (.tmp 34) (.tmp 32), none⟩])
 (.seq (.reg [⟨some 35, .mv (.tmp 0), none⟩, ⟨some 36, .nilck (.tmp 35), none⟩, ⟨some 37, .faddr 49 (.tmp 36), none⟩, ⟨some 38, .load false 1 (.tmp 37), none⟩, ⟨some 39, .bin .leq .plain (.tmp 38) (.con (.int .i64 0)), none⟩])
 (.cond (.tmp 39)
 (.seq (.reg [⟨some 40, .mv (.tmp 0), none⟩, ⟨some 41, .mv (.tmp 1), none⟩, ⟨some 42, .call 49 [.tmp 40, .tmp 41], none⟩])
 (.reg [⟨some 43, .mv (.tmp 0), none⟩, ⟨some 44, .call 71 [.tmp 43], none⟩]))
 .skip)))))
def ac53 : AFun := ⟨2, 45, ab53, []⟩
theorem cf53 : compF Try.prog Try.f53 = some ac53 := by kernel_rfl
theorem cl53 : callable Try.prog 53 = true := by kernel_rfl
theorem fn53 : Try.prog.funcs[53]? = some Try.f53 := by kernel_rfl
/- (*chancel/chancellaw19.Group).step -/
def ab54 : ACode := (.seq (.reg [⟨some 4, .mv (.con (.bool false)), none⟩])
 (.seq (.reg [⟨some 6, .mv (.tmp 0), none⟩, ⟨some 7, .nilck (.tmp 6), none⟩, ⟨some 8, .faddr 3 (.tmp 7), none⟩, ⟨some 9, .load false 1 (.tmp 8), none⟩, ⟨some 10, .mv (.tmp 1), none⟩, ⟨some 11, .iaddr 14 (.tmp 9) (.tmp 10), none⟩, ⟨some 12, .load true 14 (.tmp 11), none⟩, ⟨some 5, .alloc [.int .i64 0, .int .i64 0, .int .i64 0, .int .i64 0, .int .i64 0, .int .i64 0, .int .i64 0, .int .i64 0, .bool false, .nils, .nils, .nils, .nils, .nils], none⟩, ⟨none, .store 14 (.tmp 5) (.tmp 12), none⟩])
 (.seq (.dreg [⟨some 13, .mv (.tmp 0), none⟩, ⟨some 14, .bslice 14 0 [.int .i64 0, .int .i64 0, .int .i64 0, .int .i64 0, .int .i64 0, .int .i64 0, .int .i64 0, .int .i64 0, .bool false, .nils, .nils, .nils, .nils, .nils] [], none⟩, ⟨some 15, .mv (.tmp 0), none⟩, ⟨some 16, .nilck (.tmp 15), none⟩, ⟨some 17, .faddr 3 (.tmp 16), none⟩, ⟨some 18, .load false 1 (.tmp 17), none⟩, ⟨some 19, .mv (.tmp 1), none⟩, ⟨some 20, .slSl 14 (.tmp 18) none (some (.tmp 19)) none, none⟩, ⟨some 21, .append 14 192 (.tmp 14) (.tmp 20), none⟩, ⟨some 22, .mv (.tmp 0), none⟩, ⟨some 23, .nilck (.tmp 22), none⟩, ⟨some 24, .faddr 3 (.tmp 23), none⟩, ⟨some 25, .load false 1 (.tmp 24), none⟩, ⟨some 26, .mv (.tmp 1), none⟩, ⟨some 27, .bin .add .plain (.tmp 26) (.con (.int .i64 1)), none⟩, ⟨some 28, .slSl 14 (.tmp 25) (some (.tmp 27)) none none, none⟩, ⟨some 29, .append 14 192 (.tmp 21) (.tmp 28), none⟩, ⟨some 30, .nilck (.tmp 13), none⟩, ⟨some 31, .faddr 3 (.tmp 30), none⟩, ⟨none, .store 1 (.tmp 31) (.tmp 29), none⟩] [1, 8, 16, 19] [0, 0, 0, 4, 12, 28, 0, 124, 254, 0, 512, 1536, 3584, 0, 8192, 32256, 65534, 131071, 262143, 524287] [])
 (.seq (.seq (.dreg [⟨some 32, .faddr 1 (.tmp 5), none⟩, ⟨some 33, .load false 1 (.tmp 32), none⟩, ⟨some 34, .mv (.tmp 0), none⟩, ⟨some 35, .nilck (.tmp 34), none⟩, ⟨some 36, .faddr 0 (.tmp 35), none⟩, ⟨some 37, .load false 1 (.tmp 36), none⟩, ⟨some 38, .bin .geq .plain (.tmp 33) (.tmp 37), none⟩] [] [0, 1, 0, 4, 12, 28, 63] [])
 (.cond (.tmp 38)
 (.seq (.reg [⟨some 4, .mv (.con (.bool true)), none⟩])
 .ret)
 .skip))
 (.seq (.dreg [⟨some 39, .mv (.tmp 0), none⟩, ⟨some 40, .nilck (.tmp 39), none⟩, ⟨some 41, .faddr 1 (.tmp 40), none⟩, ⟨some 42, .load false 1 (.tmp 41), none⟩, ⟨some 43, .faddr 1 (.tmp 5), none⟩, ⟨some 44, .load false 1 (.tmp 43), none⟩, ⟨some 45, .iaddr 1 (.tmp 42) (.tmp 44), none⟩, ⟨some 46, .load false 1 (.tmp 45), none⟩, ⟨some 47, .load true 14 (.tmp 5), none⟩, ⟨some 48, .call 72 [.tmp 46, .tmp 47], none⟩] [9] [0, 1, 3, 7, 0, 16, 63, 127, 0, 511] [])
 (.seq (.reg [⟨some 49, .mv (.tmp 0), none⟩, ⟨some 50, .faddr 1 (.tmp 5), none⟩, ⟨some 51, .load false 1 (.tmp 50), none⟩, ⟨some 52, .call 19 [.tmp 49, .tmp 51], none⟩, ⟨some 4, .mv (.tmp 52), none⟩])
 .ret))))))
def ac54 : AFun := ⟨2, 53, ab54, [(.tmp 4)]⟩
theorem cf54 : compF Try.prog Try.f54 = some ac54 := by kernel_rfl
theorem cl54 : callable Try.prog 54 = true := by kernel_rfl
theorem fn54 : Try.prog.funcs[54]? = some Try.f54 := by kernel_rfl
/- chancel/raft.Load -/
def ab55 : ACode := (.seq (.reg [⟨some 4, .mv (.con .nilp), none⟩, ⟨some 5, .mv (.con (.int .i64 0)), none⟩])
 (.seq (.reg [⟨some 10, .mv (.tmp 1), none⟩, ⟨some 11, .build [.nils, .bool false] [(0, 1, .tmp 10)], none⟩, ⟨some 12, .box (.tmp 11), none⟩, ⟨some 6, .mv (.tmp 12), none⟩])
 (.seq (.reg [⟨some 13, .mv (.tmp 6), none⟩, ⟨some 14, .call 73 [.tmp 13], none⟩, ⟨some 15, .build [.int .i64 0, .int .i64 0, .nils, .nils, .nils, .int .i64 0, .int .i64 0, .int .i64 0, .int .i64 0, .int .i64 0, .nils, .int .i64 0, .int .i64 0, .int .i64 0, .bool false, .int .i64 0, .int .i64 0, .int .i64 0, .int .i64 0, .bool false, .int .i64 0, .int .i64 0, .int .i64 0, .int .i64 0, .bool false, .int .i64 0, .int .i64 0, .int .i64 0, .int .i64 0, .bool false, .int .i64 0, .int .i64 0, .int .i64 0, .int .i64 0, .bool false, .int .i64 0, .int .i64 0, .int .i64 0, .int .i64 0, .bool false, .int .i64 0, .int .i64 0, .int .i64 0, .int .i64 0, .bool false, .int .i64 0, .int .i64 0, .nils, .nils, .int .i64 0, .int .i64 0, .int .i64 0, .nils] [(5, 1, .tmp 14)], none⟩, ⟨some 16, .box (.tmp 15), none⟩, ⟨some 7, .mv (.tmp 16), none⟩])
 (.seq (.reg [⟨some 17, .mv (.tmp 7), none⟩, ⟨some 18, .mv (.tmp 7), none⟩, ⟨some 19, .mv (.tmp 7), none⟩, ⟨some 20, .mv (.tmp 6), none⟩, ⟨some 21, .call 73 [.tmp 20], none⟩, ⟨some 22, .mv (.tmp 6), none⟩, ⟨some 23, .call 73 [.tmp 22], none⟩, ⟨some 24, .mv (.tmp 6), none⟩, ⟨some 25, .call 73 [.tmp 24], none⟩, ⟨some 26, .nilck (.tmp 17), none⟩, ⟨some 27, .faddr 6 (.tmp 26), none⟩, ⟨none, .store 1 (.tmp 27) (.tmp 21), none⟩, ⟨some 28, .nilck (.tmp 18), none⟩, ⟨some 29, .faddr 7 (.tmp 28), none⟩, ⟨none, .store 1 (.tmp 29) (.tmp 23), none⟩, ⟨some 30, .nilck (.tmp 19), none⟩, ⟨some 31, .faddr 8 (.tmp 30), none⟩, ⟨none, .store 1 (.tmp 31) (.tmp 25), none⟩])
 (.seq (.reg [⟨some 32, .mv (.tmp 7), none⟩, ⟨some 33, .mv (.tmp 6), none⟩, ⟨some 34, .call 73 [.tmp 33], none⟩, ⟨some 35, .mv (.tmp 6), none⟩, ⟨some 36, .call 73 [.tmp 35], none⟩, ⟨some 37, .build [.int .i64 0, .int .i64 0, .nils, .nils] [(0, 1, .tmp 34), (1, 1, .tmp 36)], none⟩, ⟨some 38, .nilck (.tmp 32), none⟩, ⟨some 39, .faddr 0 (.tmp 38), none⟩, ⟨some 40, .faddr 0 (.tmp 39), none⟩, ⟨none, .store 4 (.tmp 40) (.tmp 37), none⟩])
 (.seq (.reg [⟨some 41, .mv (.tmp 7), none⟩, ⟨some 42, .mv (.tmp 6), none⟩, ⟨some 43, .call 75 [.tmp 42], none⟩, ⟨some 44, .call 74 [.tmp 43], none⟩, ⟨some 45, .nilck (.tmp 41), none⟩, ⟨some 46, .faddr 0 (.tmp 45), none⟩, ⟨some 47, .faddr 0 (.tmp 46), none⟩, ⟨some 48, .faddr 2 (.tmp 47), none⟩, ⟨none, .store 1 (.tmp 48) (.tmp 44), none⟩])
 (.seq (.reg [⟨some 49, .mv (.tmp 7), none⟩, ⟨some 50, .mv (.tmp 6), none⟩, ⟨some 51, .call 75 [.tmp 50], none⟩, ⟨some 52, .nilck (.tmp 49), none⟩, ⟨some 53, .faddr 0 (.tmp 52), none⟩, ⟨some 54, .faddr 0 (.tmp 53), none⟩, ⟨some 55, .faddr 3 (.tmp 54), none⟩, ⟨none, .store 1 (.tmp 55) (.tmp 51), none⟩])
 (.seq (.reg [⟨some 56, .mv (.tmp 6), none⟩, ⟨some 57, .call 73 [.tmp 56], none⟩, ⟨some 8, .mv (.tmp 57), none⟩])
 (.seq (.seq (.reg [⟨some 58, .mv (.tmp 6), none⟩, ⟨some 59, .nilck (.tmp 58), none⟩, ⟨some 60, .faddr 1 (.tmp 59), none⟩, ⟨some 61, .load false 1 (.tmp 60), none⟩, ⟨some 62, .mv (.tmp 61), none⟩, ⟨some 63, .mv (.tmp 7), some (62, false)⟩, ⟨some 64, .nilck (.tmp 63), some (62, false)⟩, ⟨some 65, .faddr 5 (.tmp 64), some (62, false)⟩, ⟨some 66, .load false 1 (.tmp 65), some (62, false)⟩, ⟨some 67, .mv (.tmp 0), some (62, false)⟩, ⟨some 68, .bin .neq .plain (.tmp 66) (.tmp 67), some (62, false)⟩, ⟨some 69, .pick (.tmp 62) (.con (.bool true)) (.tmp 68), none⟩, ⟨some 70, .mv (.tmp 69), none⟩, ⟨some 71, .mv (.tmp 7), some (70, false)⟩, ⟨some 72, .nilck (.tmp 71), some (70, false)⟩, ⟨some 73, .faddr 0 (.tmp 72), some (70, false)⟩, ⟨some 74, .faddr 0 (.tmp 73), some (70, false)⟩, ⟨some 75, .faddr 2 (.tmp 74), some (70, false)⟩, ⟨some 76, .load false 1 (.tmp 75), some (70, false)⟩, ⟨some 77, .call 37 [.tmp 76], some (70, false)⟩, ⟨some 78, .un .not (.tmp 77), some (70, false)⟩, ⟨some 79, .pick (.tmp 70) (.con (.bool true)) (.tmp 78), none⟩, ⟨some 80, .mv (.tmp 79), none⟩, ⟨some 81, .mv (.tmp 8), some (80, false)⟩, ⟨some 82, .bin .lss .plain (.tmp 81) (.con (.int .i64 0)), some (80, false)⟩, ⟨some 83, .pick (.tmp 80) (.con (.bool true)) (.tmp 82), none⟩, ⟨some 84, .mv (.tmp 83), none⟩, ⟨some 85, .mv (.tmp 8), some (84, false)⟩, ⟨some 86, .bin .gtr .plain (.tmp 85) (.con (.int .i64 64)), some (84, false)⟩, ⟨some 87, .pick (.tmp 84) (.con (.bool true)) (.tmp 86), none⟩, ⟨some 88, .mv (.tmp 87), none⟩, ⟨some 89, .mv (.tmp 7), some (88, false)⟩, ⟨some 90, .nilck (.tmp 89), some (88, false)⟩, ⟨some 91, .faddr 0 (.tmp 90), some (88, false)⟩, ⟨some 92, .faddr 0 (.tmp 91), some (88, false)⟩, ⟨some 93, .faddr 0 (.tmp 92), some (88, false)⟩, ⟨some 94, .load false 1 (.tmp 93), some (88, false)⟩, ⟨some 95, .bin .lss .plain (.tmp 94) (.con (.int .i64 0)), some (88, false)⟩, ⟨some 96, .pick (.tmp 88) (.con (.bool true)) (.tmp 95), none⟩, ⟨some 97, .mv (.tmp 96), none⟩, ⟨some 98, .mv (.tmp 7), some (97, false)⟩, ⟨some 99, .nilck (.tmp 98), some (97, false)⟩, ⟨some 100, .faddr 6 (.tmp 99), some (97, false)⟩, ⟨some 101, .load false 1 (.tmp 100), some (97, false)⟩, ⟨some 102, .bin .lss .plain (.tmp 101) (.con (.int .i64 0)), some (97, false)⟩, ⟨some 103, .pick (.tmp 97) (.con (.bool true)) (.tmp 102), none⟩])
 (.cond (.tmp 103)
 (.seq (.reg [⟨some 4, .mv (.con .nilp), none⟩, ⟨some 5, .mv (.con (.int .i64 31)), none⟩])
 .ret)
 .skip))
 (.seq (.seq (.reg [⟨some 104, .mv (.tmp 8), none⟩, ⟨some 105, .mv (.con (.int .i64 0)), none⟩])
 (.block 0
 (.loop (.seq (.reg [⟨some 106, .bin .lss .plain (.tmp 105) (.tmp 104), none⟩])
 (.seq (.cond (.tmp 106)
 .skip
 (.exit 0))
 (.seq (.block 1
 (.seq (.reg [⟨some 107, .mv (.tmp 6), none⟩, ⟨some 108, .call 73 [.tmp 107], none⟩, ⟨some 109, .mv (.tmp 6), none⟩, ⟨some 110, .call 73 [.tmp 109], none⟩, ⟨some 111, .mv (.tmp 6), none⟩, ⟨some 112, .call 75 [.tmp 111], none⟩, ⟨some 113, .build [.int .i64 0, .int .i64 0, .nils, .nils] [(0, 1, .tmp 108), (1, 1, .tmp 110), (2, 1, .tmp 112)], none⟩, ⟨some 9, .alloc [.int .i64 0, .int .i64 0, .nils, .nils], none⟩, ⟨none, .store 4 (.tmp 9) (.tmp 113), none⟩])
 (.seq (.reg [⟨some 114, .mv (.tmp 6), none⟩, ⟨some 115, .call 75 [.tmp 114], none⟩, ⟨some 116, .call 74 [.tmp 115], none⟩, ⟨some 117, .faddr 3 (.tmp 9), none⟩, ⟨none, .store 1 (.tmp 117) (.tmp 116), none⟩])
 (.seq (.seq (.reg [⟨some 118, .mv (.tmp 6), none⟩, ⟨some 119, .nilck (.tmp 118), none⟩, ⟨some 120, .faddr 1 (.tmp 119), none⟩, ⟨some 121, .load false 1 (.tmp 120), none⟩, ⟨some 122, .mv (.tmp 121), none⟩, ⟨some 123, .faddr 1 (.tmp 9), some (122, false)⟩, ⟨some 124, .load false 1 (.tmp 123), some (122, false)⟩, ⟨some 125, .bin .lss .plain (.tmp 124) (.con (.int .i64 0)), some (122, false)⟩, ⟨some 126, .pick (.tmp 122) (.con (.bool true)) (.tmp 125), none⟩, ⟨some 127, .mv (.tmp 126), none⟩, ⟨some 128, .faddr 1 (.tmp 9), some (127, false)⟩, ⟨some 129, .load false 1 (.tmp 128), some (127, false)⟩, ⟨some 130, .bin .gtr .plain (.tmp 129) (.con (.int .i64 2)), some (127, false)⟩, ⟨some 131, .pick (.tmp 127) (.con (.bool true)) (.tmp 130), none⟩, ⟨some 132, .mv (.tmp 131), none⟩, ⟨some 133, .faddr 1 (.tmp 9), some (132, false)⟩, ⟨some 134, .load false 1 (.tmp 133), some (132, false)⟩, ⟨some 135, .bin .eql .plain (.tmp 134) (.con (.int .i64 2)), some (132, false)⟩, ⟨some 136, .mv (.tmp 135), some (132, false)⟩, ⟨some 137, .faddr 3 (.tmp 9), some (136, true)⟩, ⟨some 138, .load false 1 (.tmp 137), some (136, true)⟩, ⟨some 139, .call 37 [.tmp 138], some (136, true)⟩, ⟨some 140, .un .not (.tmp 139), some (136, true)⟩, ⟨some 141, .pick (.tmp 136) (.tmp 140) (.con (.bool false)), some (132, false)⟩, ⟨some 142, .pick (.tmp 132) (.con (.bool true)) (.tmp 141), none⟩])
 (.cond (.tmp 142)
 (.seq (.reg [⟨some 4, .mv (.con .nilp), none⟩, ⟨some 5, .mv (.con (.int .i64 31)), none⟩])
 .ret)
 .skip))
 (.dreg [⟨some 143, .mv (.tmp 7), none⟩, ⟨some 144, .mv (.tmp 7), none⟩, ⟨some 145, .nilck (.tmp 144), none⟩, ⟨some 146, .faddr 0 (.tmp 145), none⟩, ⟨some 147, .faddr 4 (.tmp 146), none⟩, ⟨some 148, .load false 1 (.tmp 147), none⟩, ⟨some 149, .load true 4 (.tmp 9), none⟩, ⟨some 150, .bslice 4 1 [.int .i64 0, .int .i64 0, .nils, .nils] [(0, 4, .tmp 149)], none⟩, ⟨some 151, .append 4 64 (.tmp 148) (.tmp 150), none⟩, ⟨some 152, .nilck (.tmp 143), none⟩, ⟨some 153, .faddr 0 (.tmp 152), none⟩, ⟨some 154, .faddr 4 (.tmp 153), none⟩, ⟨none, .store 1 (.tmp 154) (.tmp 151), none⟩] [7, 8, 12] [0, 0, 2, 6, 14, 30, 0, 64, 254, 511, 1023, 2047, 4095] [])))))
 (.reg [⟨some 155, .bin .add .plain (.tmp 105) (.con (.int .i64 1)), none⟩, ⟨some 105, .mv (.tmp 155), none⟩])))))))
 (.seq (.seq (.dreg [⟨some 156, .mv (.tmp 6), none⟩, ⟨some 157, .nilck (.tmp 156), none⟩, ⟨some 158, .faddr 0 (.tmp 157), none⟩, ⟨some 159, .load false 1 (.tmp 158), none⟩, ⟨some 160, .lenL (.tmp 159), none⟩, ⟨some 161, .bin .gtr .plain (.tmp 160) (.con (.int .i64 0)), none⟩, ⟨some 162, .mv (.tmp 161), none⟩, ⟨some 163, .mv (.tmp 7), some (162, false)⟩, ⟨some 164, .nilck (.tmp 163), some (162, false)⟩, ⟨some 165, .faddr 8 (.tmp 164), some (162, false)⟩, ⟨some 166, .load false 1 (.tmp 165), some (162, false)⟩, ⟨some 167, .mv (.tmp 7), some (162, false)⟩, ⟨some 168, .nilck (.tmp 167), some (162, false)⟩, ⟨some 169, .faddr 0 (.tmp 168), some (162, false)⟩, ⟨some 170, .faddr 0 (.tmp 169), some (162, false)⟩, ⟨some 171, .faddr 0 (.tmp 170), some (162, false)⟩, ⟨some 172, .load false 1 (.tmp 171), some (162, false)⟩, ⟨some 173, .bin .lss .plain (.tmp 166) (.tmp 172), some (162, false)⟩, ⟨some 174, .pick (.tmp 162) (.con (.bool true)) (.tmp 173), none⟩, ⟨some 175, .mv (.tmp 174), none⟩, ⟨some 176, .mv (.tmp 7), some (175, false)⟩, ⟨some 177, .nilck (.tmp 176), some (175, false)⟩, ⟨some 178, .faddr 8 (.tmp 177), some (175, false)⟩, ⟨some 179, .load false 1 (.tmp 178), some (175, false)⟩, ⟨some 180, .mv (.tmp 7), some (175, false)⟩, ⟨some 181, .nilck (.tmp 180), some (175, false)⟩, ⟨some 182, .faddr 0 (.tmp 181), some (175, false)⟩, ⟨some 183, .call 13 [.tmp 182], some (175, false)⟩, ⟨some 184, .bin .gtr .plain (.tmp 179) (.tmp 183), some (175, false)⟩, ⟨some 185, .pick (.tmp 175) (.con (.bool true)) (.tmp 184), none⟩, ⟨some 186, .mv (.tmp 185), none⟩, ⟨some 187, .mv (.tmp 0), some (186, false)⟩, ⟨some 188, .bin .lss .plain (.tmp 187) (.con (.int .i64 0)), some (186, false)⟩, ⟨some 189, .pick (.tmp 186) (.con (.bool true)) (.tmp 188), none⟩, ⟨some 190, .mv (.tmp 189), none⟩, ⟨some 191, .mv (.tmp 0), some (190, false)⟩, ⟨some 192, .bin .geq .plain (.tmp 191) (.con (.int .i64 7)), some (190, false)⟩, ⟨some 193, .pick (.tmp 190) (.con (.bool true)) (.tmp 192), none⟩] [27] [0, 1, 3, 7, 15, 31, 63, 127, 255, 511, 1023, 127, 2175, 6271, 14463, 30847, 63615, 131071, 262143, 524287, 1048575, 2097151, 4194303, 8388607, 1048575, 17825791, 51380223, 118489087, 268435455, 536870911, 1073741823, 2147483647, 4294967295, 8589934591, 17179869183, 34359738367, 68719476735, 137438953471] [])
 (.cond (.tmp 193)
 (.seq (.reg [⟨some 4, .mv (.con .nilp), none⟩, ⟨some 5, .mv (.con (.int .i64 31)), none⟩])
 .ret)
 .skip))
 (.seq (.reg [⟨some 194, .mv (.tmp 7), none⟩, ⟨some 195, .call 49 [.tmp 194, .con (.int .i64 0)], none⟩])
 (.seq (.reg [⟨some 196, .mv (.tmp 7), none⟩, ⟨some 4, .mv (.tmp 196), none⟩, ⟨some 5, .mv (.con (.int .i64 0)), none⟩])
 .ret)))))))))))))
def ac55 : AFun := ⟨2, 197, ab55, [(.tmp 4), (.tmp 5)]⟩
theorem cf55 : compF Try.prog Try.f55 = some ac55 := by kernel_rfl
theorem cl55 : callable Try.prog 55 = true := by kernel_rfl
theorem fn55 : Try.prog.funcs[55]? = some Try.f55 := by kernel_rfl
/- (*chancel/chancellaw19.Group).change -/
def ab56 : ACode := (.seq (.reg [⟨some 6, .mv (.con (.bool false)), none⟩])
 (.seq (.reg [⟨some 16, .mv (.tmp 0), none⟩, ⟨some 17, .nilck (.tmp 16), none⟩, ⟨some 18, .faddr 1 (.tmp 17), none⟩, ⟨some 19, .load false 1 (.tmp 18), none⟩, ⟨some 20, .mv (.tmp 1), none⟩, ⟨some 21, .iaddr 1 (.tmp 19) (.tmp 20), none⟩, ⟨some 22, .load false 1 (.tmp 21), none⟩, ⟨some 23, .call 20 [.tmp 22], none⟩, ⟨some 7, .mv (.tmp 23), none⟩])
 (.seq (.reg [⟨some 24, .mv (.tmp 2), none⟩, ⟨some 25, .mv (.tmp 0), none⟩, ⟨some 26, .nilck (.tmp 25), none⟩, ⟨some 27, .faddr 0 (.tmp 26), none⟩, ⟨some 28, .load false 1 (.tmp 27), none⟩, ⟨some 29, .call 8 [.tmp 24, .tmp 28], none⟩, ⟨some 8, .mv (.tmp 29), none⟩])
 (.seq (.reg [⟨some 9, .mv (.con .nils), none⟩])
 (.seq (.seq (.reg [⟨some 10, .mv (.con (.int .i64 0)), none⟩])
 (.block 0
 (.loop (.seq (.seq (.reg [⟨some 30, .mv (.tmp 10), none⟩, ⟨some 31, .mv (.tmp 0), none⟩, ⟨some 32, .nilck (.tmp 31), none⟩, ⟨some 33, .faddr 0 (.tmp 32), none⟩, ⟨some 34, .load false 1 (.tmp 33), none⟩, ⟨some 35, .bin .lss .plain (.tmp 30) (.tmp 34), none⟩])
 (.cond (.tmp 35)
 .skip
 (.exit 0)))
 (.seq (.block 1
 (.seq (.reg [⟨some 11, .mv (.con (.bool false)), none⟩])
 (.seq (.seq (.reg [⟨some 12, .mv (.con (.int .i64 0)), none⟩])
 (.block 2
 (.loop (.seq (.seq (.reg [⟨some 38, .mv (.tmp 12), none⟩, ⟨some 39, .mv (.tmp 7), none⟩, ⟨some 40, .lenL (.tmp 39), none⟩, ⟨some 41, .bin .lss .plain (.tmp 38) (.tmp 40), none⟩])
 (.cond (.tmp 41)
 .skip
 (.exit 2)))
 (.seq (.block 3
 (.reg [⟨some 44, .mv (.tmp 11), none⟩, ⟨some 45, .mv (.tmp 44), none⟩, ⟨some 46, .mv (.tmp 7), some (45, false)⟩, ⟨some 47, .mv (.tmp 12), some (45, false)⟩, ⟨some 48, .iaddr 1 (.tmp 46) (.tmp 47), some (45, false)⟩, ⟨some 49, .load false 1 (.tmp 48), some (45, false)⟩, ⟨some 50, .mv (.tmp 10), some (45, false)⟩, ⟨some 51, .bin .eql .plain (.tmp 49) (.tmp 50), some (45, false)⟩, ⟨some 52, .pick (.tmp 45) (.con (.bool true)) (.tmp 51), none⟩, ⟨some 11, .mv (.tmp 52), none⟩]))
 (.reg [⟨some 42, .mv (.tmp 12), none⟩, ⟨some 43, .bin .add .plain (.tmp 42) (.con (.int .i64 1)), none⟩, ⟨some 12, .mv (.tmp 43), none⟩]))))))
 (.seq (.reg [⟨some 53, .mv (.tmp 11), none⟩, ⟨some 54, .mv (.tmp 10), none⟩, ⟨some 55, .mv (.tmp 8), none⟩, ⟨some 56, .bin .eql .plain (.tmp 54) (.tmp 55), none⟩, ⟨some 57, .bin .neq .bool (.tmp 53) (.tmp 56), none⟩])
 (.cond (.tmp 57)
 (.reg [⟨some 58, .mv (.tmp 9), none⟩, ⟨some 59, .mv (.tmp 10), none⟩, ⟨some 60, .bslice 1 1 [.int .i64 0] [(0, 1, .tmp 59)], none⟩, ⟨some 61, .append 1 8 (.tmp 58) (.tmp 60), none⟩, ⟨some 9, .mv (.tmp 61), none⟩])
 .skip)))))
 (.reg [⟨some 36, .mv (.tmp 10), none⟩, ⟨some 37, .bin .add .plain (.tmp 36) (.con (.int .i64 1)), none⟩, ⟨some 10, .mv (.tmp 37), none⟩]))))))
 (.seq (.reg [⟨some 62, .mv (.tmp 0), none⟩, ⟨some 63, .nilck (.tmp 62), none⟩, ⟨some 64, .faddr 1 (.tmp 63), none⟩, ⟨some 65, .load false 1 (.tmp 64), none⟩, ⟨some 66, .mv (.tmp 1), none⟩, ⟨some 67, .iaddr 1 (.tmp 65) (.tmp 66), none⟩, ⟨some 68, .load false 1 (.tmp 67), none⟩, ⟨some 69, .call 29 [.tmp 68], none⟩, ⟨some 70, .bin .eql .plain (.tmp 69) (.con (.int .i64 2)), none⟩, ⟨some 13, .mv (.tmp 70), none⟩])
 (.seq (.reg [⟨some 72, .mv (.tmp 0), none⟩, ⟨some 73, .nilck (.tmp 72), none⟩, ⟨some 74, .faddr 1 (.tmp 73), none⟩, ⟨some 75, .load false 1 (.tmp 74), none⟩, ⟨some 76, .mv (.tmp 1), none⟩, ⟨some 77, .iaddr 1 (.tmp 75) (.tmp 76), none⟩, ⟨some 78, .load false 1 (.tmp 77), none⟩, ⟨some 79, .mv (.tmp 9), none⟩, ⟨some 80, .call 18 [.tmp 78, .tmp 79], none⟩, ⟨some 71, .mv (.tmp 80), none⟩, ⟨some 81, .ext (.tmp 71) 0, none⟩, ⟨some 82, .ext (.tmp 71) 1, none⟩, ⟨some 14, .mv (.tmp 81), none⟩, ⟨some 15, .mv (.tmp 82), none⟩])
 (.seq (.seq (.reg [⟨some 83, .mv (.tmp 9), none⟩, ⟨some 84, .lenL (.tmp 83), none⟩, ⟨some 85, .bin .eql .plain (.tmp 84) (.con (.int .i64 0)), none⟩, ⟨some 86, .mv (.tmp 85), none⟩, ⟨some 87, .mv (.tmp 15), some (86, true)⟩, ⟨some 88, .bin .neq .plain (.tmp 87) (.con (.int .i64 1)), some (86, true)⟩, ⟨some 89, .pick (.tmp 86) (.tmp 88) (.con (.bool false)), none⟩, ⟨some 90, .mv (.tmp 89), none⟩, ⟨some 91, .mv (.tmp 15), some (90, false)⟩, ⟨some 92, .bin .eql .plain (.tmp 91) (.con (.int .i64 0)), some (90, false)⟩, ⟨some 93, .mv (.tmp 92), some (90, false)⟩, ⟨some 94, .mv (.tmp 13), some (93, true)⟩, ⟨some 95, .un .not (.tmp 94), some (93, true)⟩, ⟨some 96, .pick (.tmp 93) (.tmp 95) (.con (.bool false)), some (90, false)⟩, ⟨some 97, .pick (.tmp 90) (.con (.bool true)) (.tmp 96), none⟩])
 (.cond (.tmp 97)
 (.seq (.reg [⟨some 6, .mv (.con (.bool false)), none⟩])
 .ret)
 .skip))
 (.seq (.reg [⟨some 98, .mv (.tmp 0), none⟩, ⟨some 99, .mv (.tmp 1), none⟩, ⟨some 100, .call 19 [.tmp 98, .tmp 99], none⟩, ⟨some 6, .mv (.tmp 100), none⟩])
 .ret)))))))))
def ac56 : AFun := ⟨3, 101, ab56, [(.tmp 6)]⟩
theorem cf56 : compF Try.prog Try.f56 = some ac56 := by kernel_rfl
theorem cl56 : callable Try.prog 56 = true := by kernel_rfl
theorem fn56 : Try.prog.funcs[56]? = some Try.f56 := by kernel_rfl
/- (*chancel/chancellaw19.Group).keep -/
def ab57 : ACode := (.seq (.reg [⟨some 6, .mv (.con (.bool false)), none⟩])
 (.seq (.reg [⟨some 15, .mv (.tmp 0), none⟩, ⟨some 16, .nilck (.tmp 15), none⟩, ⟨some 17, .faddr 1 (.tmp 16), none⟩, ⟨some 18, .load false 1 (.tmp 17), none⟩, ⟨some 19, .mv (.tmp 1), none⟩, ⟨some 20, .iaddr 1 (.tmp 18) (.tmp 19), none⟩, ⟨some 21, .load false 1 (.tmp 20), none⟩, ⟨some 22, .nilck (.tmp 21), none⟩, ⟨some 23, .faddr 0 (.tmp 22), none⟩, ⟨some 24, .call 16 [.tmp 23], none⟩, ⟨some 14, .mv (.tmp 24), none⟩, ⟨some 25, .ext (.tmp 14) 0, none⟩, ⟨some 26, .ext (.tmp 14) 1, none⟩, ⟨some 7, .mv (.tmp 25), none⟩, ⟨some 8, .mv (.tmp 26), none⟩])
 (.seq (.dreg [⟨some 27, .mv (.tmp 0), none⟩, ⟨some 28, .nilck (.tmp 27), none⟩, ⟨some 29, .faddr 1 (.tmp 28), none⟩, ⟨some 30, .load false 1 (.tmp 29), none⟩, ⟨some 31, .mv (.tmp 1), none⟩, ⟨some 32, .iaddr 1 (.tmp 30) (.tmp 31), none⟩, ⟨some 33, .load false 1 (.tmp 32), none⟩, ⟨some 34, .mv (.tmp 2), none⟩, ⟨some 35, .mv (.tmp 2), none⟩, ⟨some 36, .call 45 [.tmp 35], none⟩, ⟨some 37, .cvSB (.tmp 36), none⟩, ⟨some 38, .call 25 [.tmp 33, .tmp 34, .tmp 37], none⟩, ⟨some 9, .mv (.tmp 38), none⟩] [9, 10, 11] [0, 1, 3, 7, 0, 31, 63, 0, 0, 256, 768, 2047, 4095] [])
 (.seq (.seq (.reg [⟨some 39, .mv (.tmp 9), none⟩, ⟨some 40, .bin .eql .plain (.tmp 39) (.con (.int .i64 0)), none⟩, ⟨some 41, .mv (.tmp 2), none⟩, ⟨some 42, .mv (.tmp 7), none⟩, ⟨some 43, .bin .gtr .plain (.tmp 41) (.tmp 42), none⟩, ⟨some 44, .mv (.tmp 43), none⟩, ⟨some 45, .mv (.tmp 2), some (44, true)⟩, ⟨some 46, .mv (.tmp 0), some (44, true)⟩, ⟨some 47, .nilck (.tmp 46), some (44, true)⟩, ⟨some 48, .faddr 1 (.tmp 47), some (44, true)⟩, ⟨some 49, .load false 1 (.tmp 48), some (44, true)⟩, ⟨some 50, .mv (.tmp 1), some (44, true)⟩, ⟨some 51, .iaddr 1 (.tmp 49) (.tmp 50), some (44, true)⟩, ⟨some 52, .load false 1 (.tmp 51), some (44, true)⟩, ⟨some 53, .call 21 [.tmp 52], some (44, true)⟩, ⟨some 54, .bin .leq .plain (.tmp 45) (.tmp 53), some (44, true)⟩, ⟨some 55, .pick (.tmp 44) (.tmp 54) (.con (.bool false)), none⟩, ⟨some 56, .bin .neq .bool (.tmp 40) (.tmp 55), none⟩, ⟨some 57, .mv (.tmp 56), none⟩, ⟨some 58, .mv (.tmp 9), some (57, false)⟩, ⟨some 59, .bin .neq .plain (.tmp 58) (.con (.int .i64 0)), some (57, false)⟩, ⟨some 60, .mv (.tmp 59), some (57, false)⟩, ⟨some 61, .mv (.tmp 9), some (60, true)⟩, ⟨some 62, .bin .neq .plain (.tmp 61) (.con (.int .i64 1)), some (60, true)⟩, ⟨some 63, .pick (.tmp 60) (.tmp 62) (.con (.bool false)), some (57, false)⟩, ⟨some 64, .pick (.tmp 57) (.con (.bool true)) (.tmp 63), none⟩])
 (.cond (.tmp 64)
 (.seq (.reg [⟨some 6, .mv (.con (.bool false)), none⟩])
 .ret)
 .skip))
 (.seq (.reg [⟨some 66, .mv (.tmp 0), none⟩, ⟨some 67, .nilck (.tmp 66), none⟩, ⟨some 68, .faddr 1 (.tmp 67), none⟩, ⟨some 69, .load false 1 (.tmp 68), none⟩, ⟨some 70, .mv (.tmp 1), none⟩, ⟨some 71, .iaddr 1 (.tmp 69) (.tmp 70), none⟩, ⟨some 72, .load false 1 (.tmp 71), none⟩, ⟨some 73, .nilck (.tmp 72), none⟩, ⟨some 74, .faddr 0 (.tmp 73), none⟩, ⟨some 75, .call 16 [.tmp 74], none⟩, ⟨some 65, .mv (.tmp 75), none⟩, ⟨some 76, .ext (.tmp 65) 0, none⟩, ⟨some 77, .ext (.tmp 65) 1, none⟩, ⟨some 10, .mv (.tmp 76), none⟩, ⟨some 11, .mv (.tmp 77), none⟩])
 (.seq (.reg [⟨some 79, .mv (.tmp 0), none⟩, ⟨some 80, .nilck (.tmp 79), none⟩, ⟨some 81, .faddr 1 (.tmp 80), none⟩, ⟨some 82, .load false 1 (.tmp 81), none⟩, ⟨some 83, .mv (.tmp 1), none⟩, ⟨some 84, .iaddr 1 (.tmp 82) (.tmp 83), none⟩, ⟨some 85, .load false 1 (.tmp 84), none⟩, ⟨some 86, .nilck (.tmp 85), none⟩, ⟨some 87, .faddr 0 (.tmp 86), none⟩, ⟨some 88, .mv (.tmp 2), none⟩, ⟨some 89, .call 15 [.tmp 87, .tmp 88], none⟩, ⟨some 78, .mv (.tmp 89), none⟩, ⟨some 90, .ext (.tmp 78) 0, none⟩, ⟨some 91, .ext (.tmp 78) 1, none⟩, ⟨some 12, .alloc [.int .i64 0, .int .i64 0, .int .i64 0, .nils, .nils], none⟩, ⟨none, .store 5 (.tmp 12) (.tmp 90), none⟩, ⟨some 13, .mv (.tmp 91), none⟩])
 (.seq (.reg [⟨some 92, .mv (.tmp 9), none⟩, ⟨some 93, .bin .neq .plain (.tmp 92) (.con (.int .i64 0)), none⟩, ⟨some 94, .mv (.tmp 93), none⟩, ⟨some 95, .mv (.tmp 10), some (94, false)⟩, ⟨some 96, .mv (.tmp 2), some (94, false)⟩, ⟨some 97, .bin .eql .plain (.tmp 95) (.tmp 96), some (94, false)⟩, ⟨some 98, .mv (.tmp 97), some (94, false)⟩, ⟨some 99, .mv (.tmp 13), some (98, true)⟩, ⟨some 100, .un .not (.tmp 99), some (98, true)⟩, ⟨some 101, .pick (.tmp 98) (.tmp 100) (.con (.bool false)), some (94, false)⟩, ⟨some 102, .pick (.tmp 94) (.con (.bool true)) (.tmp 101), none⟩, ⟨some 103, .mv (.tmp 102), none⟩, ⟨some 104, .mv (.tmp 9), some (103, true)⟩, ⟨some 105, .bin .eql .plain (.tmp 104) (.con (.int .i64 0)), some (103, true)⟩, ⟨some 106, .mv (.tmp 105), some (103, true)⟩, ⟨some 107, .mv (.tmp 10), some (106, false)⟩, ⟨some 108, .mv (.tmp 7), some (106, false)⟩, ⟨some 109, .bin .eql .plain (.tmp 107) (.tmp 108), some (106, false)⟩, ⟨some 110, .pick (.tmp 106) (.con (.bool true)) (.tmp 109), some (103, true)⟩, ⟨some 111, .pick (.tmp 103) (.tmp 110) (.con (.bool false)), none⟩, ⟨some 112, .mv (.tmp 111), none⟩, ⟨some 113, .mv (.tmp 0), some (112, true)⟩, ⟨some 114, .mv (.tmp 1), some (112, true)⟩, ⟨some 115, .call 19 [.tmp 113, .tmp 114], some (112, true)⟩, ⟨some 116, .pick (.tmp 112) (.tmp 115) (.con (.bool false)), none⟩, ⟨some 6, .mv (.tmp 116), none⟩])
 .ret)))))))
def ac57 : AFun := ⟨3, 117, ab57, [(.tmp 6)]⟩
theorem cf57 : compF Try.prog Try.f57 = some ac57 := by kernel_rfl
theorem cl57 : callable Try.prog 57 = true := by kernel_rfl
theorem fn57 : Try.prog.funcs[57]? = some Try.f57 := by kernel_rfl
/- chancel/raft.put -/
def ab58 : ACode := (.seq (.reg [⟨some 4, .mv (.con .nils), none⟩])
 (.seq (.seq (.reg [⟨some 8, .mv (.tmp 1), none⟩, ⟨some 9, .lenL (.tmp 8), none⟩, ⟨some 10, .mv (.con (.int .i64 0)), none⟩])
 (.block 0
 (.loop (.seq (.reg [⟨some 11, .bin .lss .plain (.tmp 10) (.tmp 9), none⟩])
 (.seq (.cond (.tmp 11)
 .skip
 (.exit 0))
 (.seq (.block 1
 (.seq (.reg [⟨some 12, .iaddr 1 (.tmp 8) (.tmp 10), none⟩, ⟨some 13, .load false 1 (.tmp 12), none⟩, ⟨some 6, .mv (.tmp 13), none⟩])
 (.seq (.reg [⟨some 7, .mv (.con (.int .i64 7)), none⟩])
 (.block 2
 (.loop (.seq (.seq (.reg [⟨some 14, .mv (.tmp 7), none⟩, ⟨some 15, .bin .geq .plain (.tmp 14) (.con (.int .i64 0)), none⟩])
 (.cond (.tmp 15)
 .skip
 (.exit 2)))
 (.seq (.block 3
 (.reg [⟨some 18, .mv (.tmp 0), none⟩, ⟨some 19, .mv (.tmp 6), none⟩, ⟨some 20, .mv (.tmp 7), none⟩, ⟨some 21, .bin .mul .plain (.con (.int .i64 8)) (.tmp 20), none⟩, ⟨some 22, .bin .shr .plain (.tmp 19) (.tmp 21), none⟩, ⟨some 23, .cvInt .u8 (.tmp 22), none⟩, ⟨some 24, .bslice 1 1 [.int .u8 0] [(0, 1, .tmp 23)], none⟩, ⟨some 25, .append 1 1 (.tmp 18) (.tmp 24), none⟩, ⟨some 0, .mv (.tmp 25), none⟩]))
 (.reg [⟨some 16, .mv (.tmp 7), none⟩, ⟨some 17, .bin .sub .plain (.tmp 16) (.con (.int .i64 1)), none⟩, ⟨some 7, .mv (.tmp 17), none⟩]))))))))
 (.reg [⟨some 26, .bin .add .plain (.tmp 10) (.con (.int .i64 1)), none⟩, ⟨some 10, .mv (.tmp 26), none⟩])))))))
 (.seq (.reg [⟨some 27, .mv (.tmp 0), none⟩, ⟨some 4, .mv (.tmp 27), none⟩])
 .ret)))
def ac58 : AFun := ⟨2, 28, ab58, [(.tmp 4)]⟩
theorem cf58 : compF Try.prog Try.f58 = some ac58 := by kernel_rfl
theorem cl58 : callable Try.prog 58 = true := by kernel_rfl
theorem fn58 : Try.prog.funcs[58]? = some Try.f58 := by kernel_rfl
/- chancel/raft.lay -/
def ab59 : ACode := (.seq (.reg [⟨some 4, .mv (.con .nils), none⟩])
 (.seq (.reg [⟨some 5, .mv (.tmp 0), none⟩, ⟨some 6, .mv (.tmp 1), none⟩, ⟨some 7, .lenL (.tmp 6), none⟩, ⟨some 8, .bslice 1 1 [.int .i64 0] [(0, 1, .tmp 7)], none⟩, ⟨some 9, .call 58 [.tmp 5, .tmp 8], none⟩, ⟨some 10, .mv (.tmp 1), none⟩, ⟨some 11, .append 1 1 (.tmp 9) (.tmp 10), none⟩, ⟨some 4, .mv (.tmp 11), none⟩])
 .ret))
def ac59 : AFun := ⟨2, 12, ab59, [(.tmp 4)]⟩
theorem cf59 : compF Try.prog Try.f59 = some ac59 := by kernel_rfl
theorem cl59 : callable Try.prog 59 = true := by kernel_rfl
theorem fn59 : Try.prog.funcs[59]? = some Try.f59 := by kernel_rfl
/- chancel/raft.ids -/
def ab60 : ACode := (.seq (.reg [⟨some 2, .mv (.con .nils), none⟩])
 (.seq (.reg [⟨some 3, .mv (.con .nils), none⟩])
 (.seq (.seq (.reg [⟨some 6, .mv (.tmp 0), none⟩, ⟨some 7, .lenL (.tmp 6), none⟩, ⟨some 8, .mv (.con (.int .i64 0)), none⟩])
 (.block 0
 (.loop (.seq (.reg [⟨some 9, .bin .lss .plain (.tmp 8) (.tmp 7), none⟩])
 (.seq (.cond (.tmp 9)
 .skip
 (.exit 0))
 (.seq (.block 1
 (.seq (.reg [⟨some 10, .iaddr 1 (.tmp 6) (.tmp 8), none⟩, ⟨some 11, .load false 1 (.tmp 10), none⟩, ⟨some 5, .mv (.tmp 11), none⟩])
 (.reg [⟨some 12, .mv (.tmp 3), none⟩, ⟨some 13, .mv (.tmp 5), none⟩, ⟨some 14, .cvInt .u8 (.tmp 13), none⟩, ⟨some 15, .bslice 1 1 [.int .u8 0] [(0, 1, .tmp 14)], none⟩, ⟨some 16, .append 1 1 (.tmp 12) (.tmp 15), none⟩, ⟨some 3, .mv (.tmp 16), none⟩])))
 (.reg [⟨some 17, .bin .add .plain (.tmp 8) (.con (.int .i64 1)), none⟩, ⟨some 8, .mv (.tmp 17), none⟩])))))))
 (.seq (.reg [⟨some 18, .mv (.tmp 3), none⟩, ⟨some 2, .mv (.tmp 18), none⟩])
 .ret))))
def ac60 : AFun := ⟨1, 19, ab60, [(.tmp 2)]⟩
theorem cf60 : compF Try.prog Try.f60 = some ac60 := by kernel_rfl
theorem cl60 : callable Try.prog 60 = true := by kernel_rfl
theorem fn60 : Try.prog.funcs[60]? = some Try.f60 := by kernel_rfl
/- slices.Contains[[]int,int] -/
def ab61 : ACode := (.seq (.reg [⟨some 4, .mv (.con (.bool false)), none⟩])
 (.seq (.reg [⟨some 5, .mv (.tmp 0), none⟩, ⟨some 6, .mv (.tmp 1), none⟩, ⟨some 7, .call 76 [.tmp 5, .tmp 6], none⟩, ⟨some 8, .bin .geq .plain (.tmp 7) (.con (.int .i64 0)), none⟩, ⟨some 4, .mv (.tmp 8), none⟩])
 .ret))
def ac61 : AFun := ⟨2, 9, ab61, [(.tmp 4)]⟩
theorem cf61 : compF Try.prog Try.f61 = some ac61 := by kernel_rfl
theorem cl61 : callable Try.prog 61 = true := by kernel_rfl
theorem fn61 : Try.prog.funcs[61]? = some Try.f61 := by kernel_rfl
/- (*chancel/raft.log).add -/
def ab62 : ACode := (.seq (.reg [⟨some 3, .box (.tmp 1), none⟩])
 (.dreg [⟨some 4, .mv (.tmp 0), none⟩, ⟨some 5, .mv (.tmp 0), none⟩, ⟨some 6, .nilck (.tmp 5), none⟩, ⟨some 7, .faddr 4 (.tmp 6), none⟩, ⟨some 8, .load false 1 (.tmp 7), none⟩, ⟨some 9, .load true 4 (.tmp 3), none⟩, ⟨some 10, .call 33 [.tmp 9], none⟩, ⟨some 11, .bslice 4 1 [.int .i64 0, .int .i64 0, .nils, .nils] [(0, 4, .tmp 10)], none⟩, ⟨some 12, .append 4 64 (.tmp 8) (.tmp 11), none⟩, ⟨some 13, .nilck (.tmp 4), none⟩, ⟨some 14, .faddr 4 (.tmp 13), none⟩, ⟨none, .store 1 (.tmp 14) (.tmp 12), none⟩] [6, 7, 8, 11] [0, 0, 2, 6, 14, 0, 32, 96, 254, 511, 1023, 2047] []))
def ac62 : AFun := ⟨2, 15, ab62, []⟩
theorem cf62 : compF Try.prog Try.f62 = some ac62 := by kernel_rfl
theorem cl62 : callable Try.prog 62 = true := by kernel_rfl
theorem fn62 : Try.prog.funcs[62]? = some Try.f62 := by kernel_rfl
/- (*chancel/raft.Core).advance -/
def ab63 : ACode := (.seq (.reg [⟨some 1, .box (.tmp 0), none⟩])
 (.seq (.reg [⟨some 3, .load false 1 (.tmp 1), none⟩, ⟨some 4, .nilck (.tmp 3), none⟩, ⟨some 5, .faddr 0 (.tmp 4), none⟩, ⟨some 6, .call 13 [.tmp 5], none⟩, ⟨some 2, .alloc [.int .i64 0], none⟩, ⟨none, .store 1 (.tmp 2) (.tmp 6), none⟩])
 (.block 0
 (.loop (.seq (.seq (.dreg [⟨some 7, .load false 1 (.tmp 2), none⟩, ⟨some 8, .load false 1 (.tmp 1), none⟩, ⟨some 9, .nilck (.tmp 8), none⟩, ⟨some 10, .faddr 8 (.tmp 9), none⟩, ⟨some 11, .load false 1 (.tmp 10), none⟩, ⟨some 12, .bin .gtr .plain (.tmp 7) (.tmp 11), none⟩, ⟨some 13, .mv (.tmp 12), none⟩, ⟨some 14, .load false 1 (.tmp 1), some (13, true)⟩, ⟨some 15, .nilck (.tmp 14), some (13, true)⟩, ⟨some 16, .faddr 9 (.tmp 15), some (13, true)⟩, ⟨some 17, .load false 1 (.tmp 16), some (13, true)⟩, ⟨some 18, .bin .eql .plain (.tmp 17) (.con (.int .i64 2)), some (13, true)⟩, ⟨some 19, .pick (.tmp 13) (.tmp 18) (.con (.bool false)), none⟩, ⟨some 20, .mv (.tmp 19), none⟩, ⟨some 21, .load false 1 (.tmp 1), some (20, true)⟩, ⟨some 22, .nilck (.tmp 21), some (20, true)⟩, ⟨some 23, .faddr 0 (.tmp 22), some (20, true)⟩, ⟨some 24, .load false 1 (.tmp 2), some (20, true)⟩, ⟨some 25, .call 39 [.tmp 23, .tmp 24], some (20, true)⟩, ⟨some 26, .load false 1 (.tmp 1), some (20, true)⟩, ⟨some 27, .nilck (.tmp 26), some (20, true)⟩, ⟨some 28, .faddr 6 (.tmp 27), some (20, true)⟩, ⟨some 29, .load false 1 (.tmp 28), some (20, true)⟩, ⟨some 30, .bin .eql .plain (.tmp 25) (.tmp 29), some (20, true)⟩, ⟨some 31, .pick (.tmp 20) (.tmp 30) (.con (.bool false)), none⟩] [18] [0, 0, 2, 6, 14, 31, 63, 127, 255, 511, 1023, 2047, 4095, 8191, 16383, 32767, 65535, 16383, 262143, 16383, 540671, 1589247, 3686399, 8388607, 16777215] [])
 (.cond (.tmp 31)
 .skip
 (.exit 0)))
 (.seq (.block 1
 (.seq (.reg [⟨some 34, .load false 1 (.tmp 1), none⟩, ⟨some 35, .mkfn 77 [.tmp 1, .tmp 2], none⟩, ⟨some 36, .call 68 [.tmp 34, .tmp 35], none⟩])
 (.cond (.tmp 36)
 (.seq (.reg [⟨some 37, .load false 1 (.tmp 1), none⟩, ⟨some 38, .load false 1 (.tmp 2), none⟩, ⟨some 39, .nilck (.tmp 37), none⟩, ⟨some 40, .faddr 8 (.tmp 39), none⟩, ⟨none, .store 1 (.tmp 40) (.tmp 38), none⟩])
 (.seq (.reg [⟨some 41, .load false 1 (.tmp 1), none⟩, ⟨some 42, .call 50 [.tmp 41], none⟩])
 (.seq (.reg [⟨some 43, .load false 1 (.tmp 1), none⟩, ⟨some 44, .call 78 [.tmp 43], none⟩])
 .ret)))
 .skip)))
 (.seq (.seq (.reg [⟨some 45, .load false 1 (.tmp 2), none⟩])
 (.reg [⟨some 2, .alloc [.int .i64 0], none⟩, ⟨none, .store 1 (.tmp 2) (.tmp 45), none⟩]))
 (.reg [⟨some 32, .load false 1 (.tmp 2), none⟩, ⟨some 33, .bin .sub .plain (.tmp 32) (.con (.int .i64 1)), none⟩, ⟨none, .store 1 (.tmp 2) (.tmp 33), none⟩]))))))))
def ac63 : AFun := ⟨1, 46, ab63, []⟩
theorem cf63 : compF Try.prog Try.f63 = some ac63 := by kernel_rfl
theorem cl63 : callable Try.prog 63 = true := by kernel_rfl
theorem fn63 : Try.prog.funcs[63]? = some Try.f63 := by kernel_rfl
/- chancel/chancelref7.wrongMsg -/
def ab64 : ACode := (.seq (.reg [⟨some 1, .box (.tmp 0), none⟩, ⟨some 2, .mv (.con (.int .i64 0)), none⟩])
 (.seq (.block 0
 (.seq (.reg [⟨some 5, .faddr 2 (.tmp 1), none⟩, ⟨some 6, .load false 1 (.tmp 5), none⟩, ⟨some 7, .bin .lss .plain (.tmp 6) (.con (.int .i64 1)), none⟩, ⟨some 8, .mv (.tmp 7), none⟩, ⟨some 9, .faddr 2 (.tmp 1), some (8, false)⟩, ⟨some 10, .load false 1 (.tmp 9), some (8, false)⟩, ⟨some 11, .bin .gtr .plain (.tmp 10) (.con (.int .i64 15)), some (8, false)⟩, ⟨some 12, .pick (.tmp 8) (.con (.bool true)) (.tmp 11), none⟩, ⟨some 4, .mv (.tmp 12), none⟩])
 (.cond (.tmp 4)
 (.seq (.reg [⟨some 2, .mv (.con (.int .i64 3)), none⟩])
 .ret)
 (.seq (.reg [⟨some 14, .faddr 9 (.tmp 1), none⟩, ⟨some 15, .load false 1 (.tmp 14), none⟩, ⟨some 16, .lenL (.tmp 15), none⟩, ⟨some 17, .faddr 11 (.tmp 1), none⟩, ⟨some 18, .load false 1 (.tmp 17), none⟩, ⟨some 19, .lenL (.tmp 18), none⟩, ⟨some 20, .bin .neq .plain (.tmp 16) (.tmp 19), none⟩, ⟨some 21, .mv (.tmp 20), none⟩, ⟨some 22, .faddr 10 (.tmp 1), some (21, false)⟩, ⟨some 23, .load false 1 (.tmp 22), some (21, false)⟩, ⟨some 24, .lenL (.tmp 23), some (21, false)⟩, ⟨some 25, .faddr 11 (.tmp 1), some (21, false)⟩, ⟨some 26, .load false 1 (.tmp 25), some (21, false)⟩, ⟨some 27, .lenL (.tmp 26), some (21, false)⟩, ⟨some 28, .bin .neq .plain (.tmp 24) (.tmp 27), some (21, false)⟩, ⟨some 29, .pick (.tmp 21) (.con (.bool true)) (.tmp 28), none⟩, ⟨some 13, .mv (.tmp 29), none⟩])
 (.cond (.tmp 13)
 (.seq (.reg [⟨some 2, .mv (.con (.int .i64 1)), none⟩])
 .ret)
 (.seq (.reg [⟨some 31, .faddr 11 (.tmp 1), none⟩, ⟨some 32, .load false 1 (.tmp 31), none⟩, ⟨some 33, .lenL (.tmp 32), none⟩, ⟨some 34, .bin .gtr .plain (.tmp 33) (.con (.int .i64 64)), none⟩, ⟨some 35, .mv (.tmp 34), none⟩, ⟨some 36, .faddr 12 (.tmp 1), some (35, false)⟩, ⟨some 37, .load false 1 (.tmp 36), some (35, false)⟩, ⟨some 38, .lenL (.tmp 37), some (35, false)⟩, ⟨some 39, .bin .gtr .plain (.tmp 38) (.con (.int .i64 7)), some (35, false)⟩, ⟨some 40, .pick (.tmp 35) (.con (.bool true)) (.tmp 39), none⟩, ⟨some 30, .mv (.tmp 40), none⟩])
 (.cond (.tmp 30)
 (.seq (.reg [⟨some 2, .mv (.con (.int .i64 4)), none⟩])
 .ret)
 .skip)))))))
 (.seq (.seq (.reg [⟨some 3, .mv (.con (.int .i64 0)), none⟩])
 (.block 1
 (.loop (.seq (.seq (.reg [⟨some 41, .mv (.tmp 3), none⟩, ⟨some 42, .faddr 11 (.tmp 1), none⟩, ⟨some 43, .load false 1 (.tmp 42), none⟩, ⟨some 44, .lenL (.tmp 43), none⟩, ⟨some 45, .bin .lss .plain (.tmp 41) (.tmp 44), none⟩])
 (.cond (.tmp 45)
 .skip
 (.exit 1)))
 (.seq (.block 2
 (.seq (.reg [⟨some 48, .faddr 11 (.tmp 1), none⟩, ⟨some 49, .load false 1 (.tmp 48), none⟩, ⟨some 50, .mv (.tmp 3), none⟩, ⟨some 51, .iaddr 1 (.tmp 49) (.tmp 50), none⟩, ⟨some 52, .load false 1 (.tmp 51), none⟩, ⟨some 53, .lenL (.tmp 52), none⟩, ⟨some 54, .bin .gtr .plain (.tmp 53) (.con (.int .i64 700)), none⟩])
 (.cond (.tmp 54)
 (.seq (.reg [⟨some 2, .mv (.con (.int .i64 5)), none⟩])
 .ret)
 .skip)))
 (.reg [⟨some 46, .mv (.tmp 3), none⟩, ⟨some 47, .bin .add .plain (.tmp 46) (.con (.int .i64 1)), none⟩, ⟨some 3, .mv (.tmp 47), none⟩]))))))
 (.seq (.seq (.reg [⟨some 55, .faddr 13 (.tmp 1), none⟩, ⟨some 56, .load false 1 (.tmp 55), none⟩, ⟨some 57, .lenL (.tmp 56), none⟩, ⟨some 58, .bin .gtr .plain (.tmp 57) (.con (.int .i64 60000)), none⟩])
 (.cond (.tmp 58)
 (.seq (.reg [⟨some 2, .mv (.con (.int .i64 5)), none⟩])
 .ret)
 .skip))
 (.seq (.reg [⟨some 2, .mv (.con (.int .i64 0)), none⟩])
 .ret)))))
def ac64 : AFun := ⟨1, 59, ab64, [(.tmp 2)]⟩
theorem cf64 : compF Try.prog Try.f64 = some ac64 := by kernel_rfl
theorem cl64 : callable Try.prog 64 = true := by kernel_rfl
theorem fn64 : Try.prog.funcs[64]? = some Try.f64 := by kernel_rfl
/- chancel/chancelref7.num -/
def ab65 : ACode := (.seq (.reg [⟨some 4, .mv (.con .nils), none⟩])
 (.seq (.seq (.reg [⟨some 5, .mv (.con (.int .i64 7)), none⟩])
 (.block 0
 (.loop (.seq (.seq (.reg [⟨some 6, .mv (.tmp 5), none⟩, ⟨some 7, .bin .geq .plain (.tmp 6) (.con (.int .i64 0)), none⟩])
 (.cond (.tmp 7)
 .skip
 (.exit 0)))
 (.seq (.block 1
 (.reg [⟨some 10, .mv (.tmp 0), none⟩, ⟨some 11, .mv (.tmp 1), none⟩, ⟨some 12, .cvInt .u64 (.tmp 11), none⟩, ⟨some 13, .mv (.tmp 5), none⟩, ⟨some 14, .bin .mul .plain (.con (.int .i64 8)) (.tmp 13), none⟩, ⟨some 15, .bin .shr .plain (.tmp 12) (.tmp 14), none⟩, ⟨some 16, .cvInt .u8 (.tmp 15), none⟩, ⟨some 17, .bslice 1 1 [.int .u8 0] [(0, 1, .tmp 16)], none⟩, ⟨some 18, .append 1 1 (.tmp 10) (.tmp 17), none⟩, ⟨some 0, .mv (.tmp 18), none⟩]))
 (.reg [⟨some 8, .mv (.tmp 5), none⟩, ⟨some 9, .bin .sub .plain (.tmp 8) (.con (.int .i64 1)), none⟩, ⟨some 5, .mv (.tmp 9), none⟩]))))))
 (.seq (.reg [⟨some 19, .mv (.tmp 0), none⟩, ⟨some 4, .mv (.tmp 19), none⟩])
 .ret)))
def ac65 : AFun := ⟨2, 20, ab65, [(.tmp 4)]⟩
theorem cf65 : compF Try.prog Try.f65 = some ac65 := by kernel_rfl
theorem cl65 : callable Try.prog 65 = true := by kernel_rfl
theorem fn65 : Try.prog.funcs[65]? = some Try.f65 := by kernel_rfl
/- chancel/chancelref7.bytes -/
def ab66 : ACode := (.seq (.reg [⟨some 4, .mv (.con .nils), none⟩])
 (.seq (.reg [⟨some 5, .mv (.tmp 0), none⟩, ⟨some 6, .mv (.tmp 1), none⟩, ⟨some 7, .lenL (.tmp 6), none⟩, ⟨some 8, .bin .shr .plain (.tmp 7) (.con (.int .u64 8)), none⟩, ⟨some 9, .cvInt .u8 (.tmp 8), none⟩, ⟨some 10, .mv (.tmp 1), none⟩, ⟨some 11, .lenL (.tmp 10), none⟩, ⟨some 12, .cvInt .u8 (.tmp 11), none⟩, ⟨some 13, .bslice 1 2 [.int .u8 0] [(0, 1, .tmp 9), (1, 1, .tmp 12)], none⟩, ⟨some 14, .append 1 1 (.tmp 5) (.tmp 13), none⟩, ⟨some 15, .mv (.tmp 1), none⟩, ⟨some 16, .append 1 1 (.tmp 14) (.tmp 15), none⟩, ⟨some 4, .mv (.tmp 16), none⟩])
 .ret))
def ac66 : AFun := ⟨2, 17, ab66, [(.tmp 4)]⟩
theorem cf66 : compF Try.prog Try.f66 = some ac66 := by kernel_rfl
theorem cl66 : callable Try.prog 66 = true := by kernel_rfl
theorem fn66 : Try.prog.funcs[66]? = some Try.f66 := by kernel_rfl
end Go.Proofs.Ythojhpjjkfjeiaa.Va
