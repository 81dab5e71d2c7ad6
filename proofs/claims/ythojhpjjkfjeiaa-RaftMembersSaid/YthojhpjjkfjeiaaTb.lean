/- Functions of the program as resolved code (printed by gen.py from the kernel's own value). Conditions: none. -/
import Derived.Test.YthojhpjjkfjeiaaProg
import Derived.Test.YthojhpjjkfjeiaaVaF
import Derived.KernelRfl
set_option maxRecDepth 100000
set_option maxHeartbeats 4000000
set_option linter.all false
namespace Go.Proofs.Ythojhpjjkfjeiaa.Va
open Go.Proofs
/- chancel/chancelref7.Msg -/
def ab43 : ACode := (.seq (.reg [⟨some 1, .box (.tmp 0), none⟩, ⟨some 2, .mv (.con .nils), none⟩, ⟨some 3, .mv (.con (.int .i64 0)), none⟩])
 (.seq (.seq (.reg [⟨some 7, .load true 14 (.tmp 1), none⟩, ⟨some 8, .call 64 [.tmp 7], none⟩, ⟨some 9, .bin .neq .plain (.tmp 8) (.con (.int .i64 0)), none⟩])
 (.cond (.tmp 9)
 (.seq (.reg [⟨some 10, .load true 14 (.tmp 1), none⟩, ⟨some 11, .call 64 [.tmp 10], none⟩, ⟨some 2, .mv (.con .nils), none⟩, ⟨some 3, .mv (.tmp 11), none⟩])
 .ret)
 .skip))
 (.seq (.dreg [⟨some 12, .faddr 0 (.tmp 1), none⟩, ⟨some 13, .load false 1 (.tmp 12), none⟩, ⟨some 14, .call 65 [.con .nils, .tmp 13], none⟩, ⟨some 15, .faddr 1 (.tmp 1), none⟩, ⟨some 16, .load false 1 (.tmp 15), none⟩, ⟨some 17, .call 65 [.tmp 14, .tmp 16], none⟩, ⟨some 18, .faddr 2 (.tmp 1), none⟩, ⟨some 19, .load false 1 (.tmp 18), none⟩, ⟨some 20, .cvInt .u8 (.tmp 19), none⟩, ⟨some 21, .bslice 1 1 [.int .u8 0] [(0, 1, .tmp 20)], none⟩, ⟨some 22, .append 1 1 (.tmp 17) (.tmp 21), none⟩, ⟨some 4, .mv (.tmp 22), none⟩] [2, 5, 10] [0, 1, 3, 0, 8, 31, 0, 64, 192, 448, 1023, 2047] [9])
 (.seq (.dreg [⟨some 23, .mv (.tmp 4), none⟩, ⟨some 24, .faddr 3 (.tmp 1), none⟩, ⟨some 25, .load false 1 (.tmp 24), none⟩, ⟨some 26, .call 65 [.tmp 23, .tmp 25], none⟩, ⟨some 27, .faddr 4 (.tmp 1), none⟩, ⟨some 28, .load false 1 (.tmp 27), none⟩, ⟨some 29, .call 65 [.tmp 26, .tmp 28], none⟩, ⟨some 30, .faddr 5 (.tmp 1), none⟩, ⟨some 31, .load false 1 (.tmp 30), none⟩, ⟨some 32, .call 65 [.tmp 29, .tmp 31], none⟩, ⟨some 33, .faddr 6 (.tmp 1), none⟩, ⟨some 34, .load false 1 (.tmp 33), none⟩, ⟨some 35, .call 65 [.tmp 32, .tmp 34], none⟩, ⟨some 36, .faddr 7 (.tmp 1), none⟩, ⟨some 37, .load false 1 (.tmp 36), none⟩, ⟨some 38, .call 65 [.tmp 35, .tmp 37], none⟩, ⟨some 4, .mv (.tmp 38), none⟩] [3, 6, 9, 12, 15] [0, 0, 2, 7, 0, 16, 63, 0, 128, 511, 0, 1024, 4095, 0, 8192, 32767, 65535] [])
 (.seq (.seq (.reg [⟨some 39, .faddr 8 (.tmp 1), none⟩, ⟨some 40, .load false 1 (.tmp 39), none⟩])
 (.cond (.tmp 40)
 (.reg [⟨some 41, .mv (.tmp 4), none⟩, ⟨some 42, .bslice 1 1 [.int .u8 0] [(0, 1, .con (.int .u8 1))], none⟩, ⟨some 43, .append 1 1 (.tmp 41) (.tmp 42), none⟩, ⟨some 4, .mv (.tmp 43), none⟩])
 (.reg [⟨some 44, .mv (.tmp 4), none⟩, ⟨some 45, .bslice 1 1 [.int .u8 0] [(0, 1, .con (.int .u8 0))], none⟩, ⟨some 46, .append 1 1 (.tmp 44) (.tmp 45), none⟩, ⟨some 4, .mv (.tmp 46), none⟩])))
 (.seq (.reg [⟨some 47, .mv (.tmp 4), none⟩, ⟨some 48, .faddr 11 (.tmp 1), none⟩, ⟨some 49, .load false 1 (.tmp 48), none⟩, ⟨some 50, .lenL (.tmp 49), none⟩, ⟨some 51, .cvInt .u8 (.tmp 50), none⟩, ⟨some 52, .bslice 1 1 [.int .u8 0] [(0, 1, .tmp 51)], none⟩, ⟨some 53, .append 1 1 (.tmp 47) (.tmp 52), none⟩, ⟨some 4, .mv (.tmp 53), none⟩])
 (.seq (.seq (.reg [⟨some 5, .mv (.con (.int .i64 0)), none⟩])
 (.block 0
 (.loop (.seq (.seq (.reg [⟨some 54, .mv (.tmp 5), none⟩, ⟨some 55, .faddr 11 (.tmp 1), none⟩, ⟨some 56, .load false 1 (.tmp 55), none⟩, ⟨some 57, .lenL (.tmp 56), none⟩, ⟨some 58, .bin .lss .plain (.tmp 54) (.tmp 57), none⟩])
 (.cond (.tmp 58)
 .skip
 (.exit 0)))
 (.seq (.block 1
 (.dreg [⟨some 61, .mv (.tmp 4), none⟩, ⟨some 62, .faddr 9 (.tmp 1), none⟩, ⟨some 63, .load false 1 (.tmp 62), none⟩, ⟨some 64, .mv (.tmp 5), none⟩, ⟨some 65, .iaddr 1 (.tmp 63) (.tmp 64), none⟩, ⟨some 66, .load false 1 (.tmp 65), none⟩, ⟨some 67, .call 65 [.tmp 61, .tmp 66], none⟩, ⟨some 68, .faddr 10 (.tmp 1), none⟩, ⟨some 69, .load false 1 (.tmp 68), none⟩, ⟨some 70, .mv (.tmp 5), none⟩, ⟨some 71, .iaddr 1 (.tmp 69) (.tmp 70), none⟩, ⟨some 72, .load false 1 (.tmp 71), none⟩, ⟨some 73, .call 65 [.tmp 67, .tmp 72], none⟩, ⟨some 74, .faddr 11 (.tmp 1), none⟩, ⟨some 75, .load false 1 (.tmp 74), none⟩, ⟨some 76, .mv (.tmp 5), none⟩, ⟨some 77, .iaddr 1 (.tmp 75) (.tmp 76), none⟩, ⟨some 78, .load false 1 (.tmp 77), none⟩, ⟨some 79, .call 66 [.tmp 73, .tmp 78], none⟩, ⟨some 4, .mv (.tmp 79), none⟩] [6, 12, 18] [0, 0, 2, 0, 14, 30, 63, 0, 128, 0, 896, 1920, 4095, 0, 8192, 0, 57344, 122880, 262143, 524287] []))
 (.reg [⟨some 59, .mv (.tmp 5), none⟩, ⟨some 60, .bin .add .plain (.tmp 59) (.con (.int .i64 1)), none⟩, ⟨some 5, .mv (.tmp 60), none⟩]))))))
 (.seq (.reg [⟨some 80, .mv (.tmp 4), none⟩, ⟨some 81, .faddr 12 (.tmp 1), none⟩, ⟨some 82, .load false 1 (.tmp 81), none⟩, ⟨some 83, .lenL (.tmp 82), none⟩, ⟨some 84, .cvInt .u8 (.tmp 83), none⟩, ⟨some 85, .bslice 1 1 [.int .u8 0] [(0, 1, .tmp 84)], none⟩, ⟨some 86, .append 1 1 (.tmp 80) (.tmp 85), none⟩, ⟨some 4, .mv (.tmp 86), none⟩])
 (.seq (.seq (.reg [⟨some 6, .mv (.con (.int .i64 0)), none⟩])
 (.block 2
 (.loop (.seq (.seq (.reg [⟨some 87, .mv (.tmp 6), none⟩, ⟨some 88, .faddr 12 (.tmp 1), none⟩, ⟨some 89, .load false 1 (.tmp 88), none⟩, ⟨some 90, .lenL (.tmp 89), none⟩, ⟨some 91, .bin .lss .plain (.tmp 87) (.tmp 90), none⟩])
 (.cond (.tmp 91)
 .skip
 (.exit 2)))
 (.seq (.block 3
 (.reg [⟨some 94, .mv (.tmp 4), none⟩, ⟨some 95, .faddr 12 (.tmp 1), none⟩, ⟨some 96, .load false 1 (.tmp 95), none⟩, ⟨some 97, .mv (.tmp 6), none⟩, ⟨some 98, .iaddr 1 (.tmp 96) (.tmp 97), none⟩, ⟨some 99, .load false 1 (.tmp 98), none⟩, ⟨some 100, .call 65 [.tmp 94, .tmp 99], none⟩, ⟨some 4, .mv (.tmp 100), none⟩]))
 (.reg [⟨some 92, .mv (.tmp 6), none⟩, ⟨some 93, .bin .add .plain (.tmp 92) (.con (.int .i64 1)), none⟩, ⟨some 6, .mv (.tmp 93), none⟩]))))))
 (.seq (.reg [⟨some 101, .mv (.tmp 4), none⟩, ⟨some 102, .faddr 13 (.tmp 1), none⟩, ⟨some 103, .load false 1 (.tmp 102), none⟩, ⟨some 104, .call 66 [.tmp 101, .tmp 103], none⟩, ⟨some 2, .mv (.tmp 104), none⟩, ⟨some 3, .mv (.con (.int .i64 0)), none⟩])
 .ret))))))))))
def ac43 : AFun := ⟨1, 105, ab43, [(.tmp 2), (.tmp 3)]⟩
theorem cf43 : compF Try.prog Try.f43 = some ac43 := by kernel_rfl
theorem cl43 : callable Try.prog 43 = true := by kernel_rfl
theorem fn43 : Try.prog.funcs[43]? = some Try.f43 := by kernel_rfl
/- (*chancel/raft.Core).Term -/
def ab44 : ACode := (.seq (.reg [⟨some 2, .mv (.con (.int .i64 0)), none⟩])
 (.seq (.reg [⟨some 3, .mv (.tmp 0), none⟩, ⟨some 4, .nilck (.tmp 3), none⟩, ⟨some 5, .faddr 6 (.tmp 4), none⟩, ⟨some 6, .load false 1 (.tmp 5), none⟩, ⟨some 2, .mv (.tmp 6), none⟩])
 .ret))
def ac44 : AFun := ⟨1, 7, ab44, [(.tmp 2)]⟩
theorem cf44 : compF Try.prog Try.f44 = some ac44 := by kernel_rfl
theorem cl44 : callable Try.prog 44 = true := by kernel_rfl
theorem fn44 : Try.prog.funcs[44]? = some Try.f44 := by kernel_rfl
/- chancel/chancellaw19.snap -/
def ab45 : ACode := (.seq (.reg [⟨some 2, .mv (.con (.str [])), none⟩])
 (.seq (.reg [⟨some 3, .mv (.tmp 0), none⟩, ⟨some 4, .cvInt .u8 (.tmp 3), none⟩, ⟨some 5, .mv (.tmp 0), none⟩, ⟨some 6, .bin .shr .plain (.tmp 5) (.con (.int .u64 8)), none⟩, ⟨some 7, .cvInt .u8 (.tmp 6), none⟩, ⟨some 8, .bslice 1 3 [.int .u8 0] [(0, 1, .con (.int .u8 115)), (1, 1, .tmp 4), (2, 1, .tmp 7)], none⟩, ⟨some 9, .cvBS (.tmp 8), none⟩, ⟨some 2, .mv (.tmp 9), none⟩])
 .ret))
def ac45 : AFun := ⟨1, 10, ab45, [(.tmp 2)]⟩
theorem cf45 : compF Try.prog Try.f45 = some ac45 := by kernel_rfl
theorem cl45 : callable Try.prog 45 = true := by kernel_rfl
theorem fn45 : Try.prog.funcs[45]? = some Try.f45 := by kernel_rfl
/- chancel/chancellaw19.same -/
def ab46 : ACode := (.seq (.reg [⟨some 2, .box (.tmp 0), none⟩, ⟨some 3, .box (.tmp 1), none⟩, ⟨some 4, .mv (.con (.bool false)), none⟩])
 (.seq (.seq (.reg [⟨some 6, .faddr 0 (.tmp 2), none⟩, ⟨some 7, .load false 1 (.tmp 6), none⟩, ⟨some 8, .faddr 0 (.tmp 3), none⟩, ⟨some 9, .load false 1 (.tmp 8), none⟩, ⟨some 10, .bin .neq .plain (.tmp 7) (.tmp 9), none⟩, ⟨some 11, .mv (.tmp 10), none⟩, ⟨some 12, .faddr 1 (.tmp 2), some (11, false)⟩, ⟨some 13, .load false 1 (.tmp 12), some (11, false)⟩, ⟨some 14, .faddr 1 (.tmp 3), some (11, false)⟩, ⟨some 15, .load false 1 (.tmp 14), some (11, false)⟩, ⟨some 16, .bin .neq .plain (.tmp 13) (.tmp 15), some (11, false)⟩, ⟨some 17, .pick (.tmp 11) (.con (.bool true)) (.tmp 16), none⟩, ⟨some 18, .mv (.tmp 17), none⟩, ⟨some 19, .faddr 2 (.tmp 2), some (18, false)⟩, ⟨some 20, .load false 1 (.tmp 19), some (18, false)⟩, ⟨some 21, .faddr 2 (.tmp 3), some (18, false)⟩, ⟨some 22, .load false 1 (.tmp 21), some (18, false)⟩, ⟨some 23, .bin .neq .plain (.tmp 20) (.tmp 22), some (18, false)⟩, ⟨some 24, .pick (.tmp 18) (.con (.bool true)) (.tmp 23), none⟩, ⟨some 25, .mv (.tmp 24), none⟩, ⟨some 26, .faddr 3 (.tmp 2), some (25, false)⟩, ⟨some 27, .load false 1 (.tmp 26), some (25, false)⟩, ⟨some 28, .cvBS (.tmp 27), some (25, false)⟩, ⟨some 29, .faddr 3 (.tmp 3), some (25, false)⟩, ⟨some 30, .load false 1 (.tmp 29), some (25, false)⟩, ⟨some 31, .cvBS (.tmp 30), some (25, false)⟩, ⟨some 32, .bin .neq .plain (.tmp 28) (.tmp 31), some (25, false)⟩, ⟨some 33, .pick (.tmp 25) (.con (.bool true)) (.tmp 32), none⟩, ⟨some 34, .mv (.tmp 33), none⟩, ⟨some 35, .faddr 4 (.tmp 2), some (34, false)⟩, ⟨some 36, .load false 1 (.tmp 35), some (34, false)⟩, ⟨some 37, .lenL (.tmp 36), some (34, false)⟩, ⟨some 38, .faddr 4 (.tmp 3), some (34, false)⟩, ⟨some 39, .load false 1 (.tmp 38), some (34, false)⟩, ⟨some 40, .lenL (.tmp 39), some (34, false)⟩, ⟨some 41, .bin .neq .plain (.tmp 37) (.tmp 40), some (34, false)⟩, ⟨some 42, .pick (.tmp 34) (.con (.bool true)) (.tmp 41), none⟩])
 (.cond (.tmp 42)
 (.seq (.reg [⟨some 4, .mv (.con (.bool false)), none⟩])
 .ret)
 .skip))
 (.seq (.seq (.reg [⟨some 5, .mv (.con (.int .i64 0)), none⟩])
 (.block 0
 (.loop (.seq (.seq (.reg [⟨some 43, .mv (.tmp 5), none⟩, ⟨some 44, .faddr 4 (.tmp 2), none⟩, ⟨some 45, .load false 1 (.tmp 44), none⟩, ⟨some 46, .lenL (.tmp 45), none⟩, ⟨some 47, .bin .lss .plain (.tmp 43) (.tmp 46), none⟩])
 (.cond (.tmp 47)
 .skip
 (.exit 0)))
 (.seq (.block 1
 (.seq (.dreg [⟨some 50, .faddr 4 (.tmp 2), none⟩, ⟨some 51, .load false 1 (.tmp 50), none⟩, ⟨some 52, .mv (.tmp 5), none⟩, ⟨some 53, .iaddr 1 (.tmp 51) (.tmp 52), none⟩, ⟨some 54, .load false 1 (.tmp 53), none⟩, ⟨some 55, .faddr 4 (.tmp 3), none⟩, ⟨some 56, .load false 1 (.tmp 55), none⟩, ⟨some 57, .mv (.tmp 5), none⟩, ⟨some 58, .iaddr 1 (.tmp 56) (.tmp 57), none⟩, ⟨some 59, .load false 1 (.tmp 58), none⟩, ⟨some 60, .bin .neq .plain (.tmp 54) (.tmp 59), none⟩] [] [0, 1, 0, 7, 15, 0, 32, 0, 224, 480, 1023] [])
 (.cond (.tmp 60)
 (.seq (.reg [⟨some 4, .mv (.con (.bool false)), none⟩])
 .ret)
 .skip)))
 (.reg [⟨some 48, .mv (.tmp 5), none⟩, ⟨some 49, .bin .add .plain (.tmp 48) (.con (.int .i64 1)), none⟩, ⟨some 5, .mv (.tmp 49), none⟩]))))))
 (.seq (.reg [⟨some 4, .mv (.con (.bool true)), none⟩])
 .ret))))
def ac46 : AFun := ⟨2, 61, ab46, [(.tmp 4)]⟩
theorem cf46 : compF Try.prog Try.f46 = some ac46 := by kernel_rfl
theorem cl46 : callable Try.prog 46 = true := by kernel_rfl
theorem fn46 : Try.prog.funcs[46]? = some Try.f46 := by kernel_rfl
/- (*chancel/chancellaw19.Group).reads -/
def ab47 : ACode := (.seq (.reg [⟨some 4, .mv (.con (.bool false)), none⟩])
 (.seq (.reg [⟨some 9, .mv (.tmp 0), none⟩, ⟨some 10, .nilck (.tmp 9), none⟩, ⟨some 11, .faddr 1 (.tmp 10), none⟩, ⟨some 12, .load false 1 (.tmp 11), none⟩, ⟨some 13, .mv (.tmp 1), none⟩, ⟨some 14, .iaddr 1 (.tmp 12) (.tmp 13), none⟩, ⟨some 15, .load false 1 (.tmp 14), none⟩, ⟨some 16, .call 26 [.tmp 15], none⟩, ⟨some 5, .mv (.tmp 16), none⟩])
 (.seq (.seq (.reg [⟨some 6, .mv (.con (.int .i64 0)), none⟩])
 (.block 0
 (.loop (.seq (.seq (.reg [⟨some 17, .mv (.tmp 6), none⟩, ⟨some 18, .mv (.tmp 5), none⟩, ⟨some 19, .lenL (.tmp 18), none⟩, ⟨some 20, .bin .lss .plain (.tmp 17) (.tmp 19), none⟩])
 (.cond (.tmp 20)
 .skip
 (.exit 0)))
 (.seq (.block 1
 (.seq (.reg [⟨some 7, .mv (.con (.int .i64 (-1))), none⟩])
 (.seq (.seq (.reg [⟨some 8, .mv (.con (.int .i64 0)), none⟩])
 (.block 2
 (.loop (.seq (.seq (.reg [⟨some 23, .mv (.tmp 8), none⟩, ⟨some 24, .mv (.tmp 0), none⟩, ⟨some 25, .nilck (.tmp 24), none⟩, ⟨some 26, .faddr 407 (.tmp 25), none⟩, ⟨some 27, .load false 1 (.tmp 26), none⟩, ⟨some 28, .mv (.tmp 1), none⟩, ⟨some 29, .iaddr 1 (.tmp 27) (.tmp 28), none⟩, ⟨some 30, .load false 1 (.tmp 29), none⟩, ⟨some 31, .lenL (.tmp 30), none⟩, ⟨some 32, .bin .lss .plain (.tmp 23) (.tmp 31), none⟩])
 (.cond (.tmp 32)
 .skip
 (.exit 2)))
 (.seq (.block 3
 (.seq (.dreg [⟨some 35, .mv (.tmp 0), none⟩, ⟨some 36, .nilck (.tmp 35), none⟩, ⟨some 37, .faddr 407 (.tmp 36), none⟩, ⟨some 38, .load false 1 (.tmp 37), none⟩, ⟨some 39, .mv (.tmp 1), none⟩, ⟨some 40, .iaddr 1 (.tmp 38) (.tmp 39), none⟩, ⟨some 41, .load false 1 (.tmp 40), none⟩, ⟨some 42, .mv (.tmp 8), none⟩, ⟨some 43, .iaddr 2 (.tmp 41) (.tmp 42), none⟩, ⟨some 44, .faddr 0 (.tmp 43), none⟩, ⟨some 45, .load false 1 (.tmp 44), none⟩, ⟨some 46, .mv (.tmp 5), none⟩, ⟨some 47, .mv (.tmp 6), none⟩, ⟨some 48, .iaddr 2 (.tmp 46) (.tmp 47), none⟩, ⟨some 49, .faddr 0 (.tmp 48), none⟩, ⟨some 50, .load false 1 (.tmp 49), none⟩, ⟨some 51, .bin .eql .plain (.tmp 45) (.tmp 50), none⟩] [] [0, 1, 3, 7, 0, 31, 63, 0, 255, 511, 1023, 0, 0, 6144, 14336, 30720, 65535] [])
 (.cond (.tmp 51)
 (.reg [⟨some 52, .mv (.tmp 8), none⟩, ⟨some 7, .mv (.tmp 52), none⟩])
 .skip)))
 (.reg [⟨some 33, .mv (.tmp 8), none⟩, ⟨some 34, .bin .add .plain (.tmp 33) (.con (.int .i64 1)), none⟩, ⟨some 8, .mv (.tmp 34), none⟩]))))))
 (.seq (.seq (.dreg [⟨some 53, .mv (.tmp 7), none⟩, ⟨some 54, .bin .lss .plain (.tmp 53) (.con (.int .i64 0)), none⟩, ⟨some 55, .mv (.tmp 54), none⟩, ⟨some 56, .mv (.tmp 5), some (55, false)⟩, ⟨some 57, .mv (.tmp 6), some (55, false)⟩, ⟨some 58, .iaddr 2 (.tmp 56) (.tmp 57), some (55, false)⟩, ⟨some 59, .faddr 1 (.tmp 58), some (55, false)⟩, ⟨some 60, .load false 1 (.tmp 59), some (55, false)⟩, ⟨some 61, .mv (.tmp 0), some (55, false)⟩, ⟨some 62, .nilck (.tmp 61), some (55, false)⟩, ⟨some 63, .faddr 407 (.tmp 62), some (55, false)⟩, ⟨some 64, .load false 1 (.tmp 63), some (55, false)⟩, ⟨some 65, .mv (.tmp 1), some (55, false)⟩, ⟨some 66, .iaddr 1 (.tmp 64) (.tmp 65), some (55, false)⟩, ⟨some 67, .load false 1 (.tmp 66), some (55, false)⟩, ⟨some 68, .mv (.tmp 7), some (55, false)⟩, ⟨some 69, .iaddr 2 (.tmp 67) (.tmp 68), some (55, false)⟩, ⟨some 70, .faddr 1 (.tmp 69), some (55, false)⟩, ⟨some 71, .load false 1 (.tmp 70), some (55, false)⟩, ⟨some 72, .bin .lss .plain (.tmp 60) (.tmp 71), some (55, false)⟩, ⟨some 73, .pick (.tmp 55) (.con (.bool true)) (.tmp 72), none⟩, ⟨some 74, .mv (.tmp 73), none⟩, ⟨some 75, .mv (.tmp 5), some (74, false)⟩, ⟨some 76, .mv (.tmp 6), some (74, false)⟩, ⟨some 77, .iaddr 2 (.tmp 75) (.tmp 76), some (74, false)⟩, ⟨some 78, .faddr 1 (.tmp 77), some (74, false)⟩, ⟨some 79, .load false 1 (.tmp 78), some (74, false)⟩, ⟨some 80, .mv (.tmp 0), some (74, false)⟩, ⟨some 81, .nilck (.tmp 80), some (74, false)⟩, ⟨some 82, .faddr 1 (.tmp 81), some (74, false)⟩, ⟨some 83, .load false 1 (.tmp 82), some (74, false)⟩, ⟨some 84, .mv (.tmp 1), some (74, false)⟩, ⟨some 85, .iaddr 1 (.tmp 83) (.tmp 84), some (74, false)⟩, ⟨some 86, .load false 1 (.tmp 85), some (74, false)⟩, ⟨some 87, .call 21 [.tmp 86], some (74, false)⟩, ⟨some 88, .bin .gtr .plain (.tmp 79) (.tmp 87), some (74, false)⟩, ⟨some 89, .pick (.tmp 74) (.con (.bool true)) (.tmp 88), none⟩] [34] [0, 1, 3, 7, 7, 31, 63, 127, 7, 263, 775, 1799, 7, 7943, 16135, 7, 65287, 130823, 261895, 524287, 1048575, 2097151, 4194303, 4194303, 16777215, 33554431, 67108863, 4194303, 138412031, 406847487, 943718399, 4194303, 4164943871, 8459911167, 17049845759, 34359738367, 68719476735] [])
 (.cond (.tmp 89)
 (.seq (.reg [⟨some 4, .mv (.con (.bool false)), none⟩])
 .ret)
 .skip))
 (.seq (.dreg [⟨some 90, .mv (.tmp 0), none⟩, ⟨some 91, .nilck (.tmp 90), none⟩, ⟨some 92, .faddr 407 (.tmp 91), none⟩, ⟨some 93, .load false 1 (.tmp 92), none⟩, ⟨some 94, .mv (.tmp 1), none⟩, ⟨some 95, .bslice 2 0 [.int .i64 0, .int .i64 0] [], none⟩, ⟨some 96, .mv (.tmp 0), none⟩, ⟨some 97, .nilck (.tmp 96), none⟩, ⟨some 98, .faddr 407 (.tmp 97), none⟩, ⟨some 99, .load false 1 (.tmp 98), none⟩, ⟨some 100, .mv (.tmp 1), none⟩, ⟨some 101, .iaddr 1 (.tmp 99) (.tmp 100), none⟩, ⟨some 102, .load false 1 (.tmp 101), none⟩, ⟨some 103, .mv (.tmp 7), none⟩, ⟨some 104, .bin .add .plain (.tmp 103) (.con (.int .i64 1)), none⟩, ⟨some 105, .slSl 2 (.tmp 102) (some (.tmp 104)) none none, none⟩, ⟨some 106, .append 2 16 (.tmp 95) (.tmp 105), none⟩, ⟨some 107, .iaddr 1 (.tmp 93) (.tmp 94), none⟩, ⟨none, .store 1 (.tmp 107) (.tmp 106), none⟩] [5, 16, 18] [0, 1, 3, 7, 0, 0, 0, 64, 192, 448, 0, 1984, 4032, 0, 8192, 32704, 65504, 131071, 262143] [])
 (.reg [⟨some 108, .mv (.tmp 0), none⟩, ⟨some 109, .nilck (.tmp 108), none⟩, ⟨some 110, .faddr 409 (.tmp 109), none⟩, ⟨some 111, .load false 1 (.tmp 110), none⟩, ⟨some 112, .bin .add .plain (.tmp 111) (.con (.int .i64 1)), none⟩, ⟨some 113, .nilck (.tmp 108), none⟩, ⟨some 114, .faddr 409 (.tmp 113), none⟩, ⟨none, .store 1 (.tmp 114) (.tmp 112), none⟩]))))))
 (.reg [⟨some 21, .mv (.tmp 6), none⟩, ⟨some 22, .bin .add .plain (.tmp 21) (.con (.int .i64 1)), none⟩, ⟨some 6, .mv (.tmp 22), none⟩]))))))
 (.seq (.reg [⟨some 4, .mv (.con (.bool true)), none⟩])
 .ret))))
def ac47 : AFun := ⟨2, 115, ab47, [(.tmp 4)]⟩
theorem cf47 : compF Try.prog Try.f47 = some ac47 := by kernel_rfl
theorem cl47 : callable Try.prog 47 = true := by kernel_rfl
theorem fn47 : Try.prog.funcs[47]? = some Try.f47 := by kernel_rfl
/- slices.Clone[[]int,int] -/
def ab48 : ACode := (.seq (.reg [⟨some 2, .mv (.con .nils), none⟩])
 (.seq (.seq (.reg [⟨some 3, .mv (.tmp 0), none⟩, ⟨some 4, .bin .eql .slice (.tmp 3) (.con .nils), none⟩])
 (.cond (.tmp 4)
 (.seq (.reg [⟨some 2, .mv (.con .nils), none⟩])
 .ret)
 .skip))
 (.seq (.reg [⟨some 5, .bslice 1 0 [.int .i64 0] [], none⟩, ⟨some 6, .mv (.tmp 0), none⟩, ⟨some 7, .append 1 8 (.tmp 5) (.tmp 6), none⟩, ⟨some 2, .mv (.tmp 7), none⟩])
 .ret)))
def ac48 : AFun := ⟨1, 8, ab48, [(.tmp 2)]⟩
theorem cf48 : compF Try.prog Try.f48 = some ac48 := by kernel_rfl
theorem cl48 : callable Try.prog 48 = true := by kernel_rfl
theorem fn48 : Try.prog.funcs[48]? = some Try.f48 := by kernel_rfl
/- (*chancel/raft.Core).wait -/
def ab49 : ACode := (.reg [⟨some 4, .mv (.tmp 0), none⟩, ⟨some 5, .mv (.tmp 1), none⟩, ⟨some 6, .bin .rem .plain (.tmp 5) (.con (.int .i64 10)), none⟩, ⟨some 7, .bin .add .plain (.tmp 6) (.con (.int .i64 10)), none⟩, ⟨some 8, .bin .rem .plain (.tmp 7) (.con (.int .i64 10)), none⟩, ⟨some 9, .bin .add .plain (.con (.int .i64 10)) (.tmp 8), none⟩, ⟨some 10, .nilck (.tmp 4), none⟩, ⟨some 11, .faddr 49 (.tmp 10), none⟩, ⟨none, .store 1 (.tmp 11) (.tmp 9), none⟩])
def ac49 : AFun := ⟨2, 12, ab49, []⟩
theorem cf49 : compF Try.prog Try.f49 = some ac49 := by kernel_rfl
theorem cl49 : callable Try.prog 49 = true := by kernel_rfl
theorem fn49 : Try.prog.funcs[49]? = some Try.f49 := by kernel_rfl
/- (*chancel/raft.Core).tell -/
def ab50 : ACode := (.seq (.reg [⟨some 3, .mv (.con (.int .i64 0)), none⟩])
 (.block 0
 (.loop (.seq (.reg [⟨some 4, .bin .lss .plain (.tmp 3) (.con (.int .i64 7)), none⟩])
 (.seq (.cond (.tmp 4)
 .skip
 (.exit 0))
 (.seq (.block 1
 (.seq (.reg [⟨some 5, .mv (.tmp 3), none⟩, ⟨some 2, .mv (.tmp 5), none⟩])
 (.seq (.reg [⟨some 6, .mv (.tmp 2), none⟩, ⟨some 7, .mv (.tmp 0), none⟩, ⟨some 8, .nilck (.tmp 7), none⟩, ⟨some 9, .faddr 5 (.tmp 8), none⟩, ⟨some 10, .load false 1 (.tmp 9), none⟩, ⟨some 11, .bin .neq .plain (.tmp 6) (.tmp 10), none⟩])
 (.cond (.tmp 11)
 (.reg [⟨some 12, .mv (.tmp 0), none⟩, ⟨some 13, .mv (.tmp 2), none⟩, ⟨some 14, .call 67 [.tmp 12, .tmp 13], none⟩])
 .skip))))
 (.reg [⟨some 15, .bin .add .plain (.tmp 3) (.con (.int .i64 1)), none⟩, ⟨some 3, .mv (.tmp 15), none⟩])))))))
def ac50 : AFun := ⟨1, 16, ab50, []⟩
theorem cf50 : compF Try.prog Try.f50 = some ac50 := by kernel_rfl
theorem cl50 : callable Try.prog 50 = true := by kernel_rfl
theorem fn50 : Try.prog.funcs[50]? = some Try.f50 := by kernel_rfl
/- (*chancel/raft.Core).confirm -/
def ab51 : ACode := (.seq (.reg [⟨some 1, .box (.tmp 0), none⟩])
 (.block 0
 (.loop (.seq (.seq (.reg [⟨some 3, .load false 1 (.tmp 1), none⟩, ⟨some 4, .nilck (.tmp 3), none⟩, ⟨some 5, .faddr 47 (.tmp 4), none⟩, ⟨some 6, .load false 1 (.tmp 5), none⟩, ⟨some 7, .lenL (.tmp 6), none⟩, ⟨some 8, .bin .gtr .plain (.tmp 7) (.con (.int .i64 0)), none⟩, ⟨some 9, .mv (.tmp 8), none⟩, ⟨some 10, .load false 1 (.tmp 1), some (9, true)⟩, ⟨some 11, .nilck (.tmp 10), some (9, true)⟩, ⟨some 12, .faddr 9 (.tmp 11), some (9, true)⟩, ⟨some 13, .load false 1 (.tmp 12), some (9, true)⟩, ⟨some 14, .bin .eql .plain (.tmp 13) (.con (.int .i64 2)), some (9, true)⟩, ⟨some 15, .pick (.tmp 9) (.tmp 14) (.con (.bool false)), none⟩])
 (.cond (.tmp 15)
 .skip
 (.exit 0)))
 (.block 1
 (.seq (.reg [⟨some 16, .load false 1 (.tmp 1), none⟩, ⟨some 17, .nilck (.tmp 16), none⟩, ⟨some 18, .faddr 47 (.tmp 17), none⟩, ⟨some 19, .load false 1 (.tmp 18), none⟩, ⟨some 20, .iaddr 3 (.tmp 19) (.con (.int .i64 0)), none⟩, ⟨some 21, .load true 3 (.tmp 20), none⟩, ⟨some 2, .alloc [.int .i64 0, .int .i64 0, .int .i64 0], none⟩, ⟨none, .store 3 (.tmp 2) (.tmp 21), none⟩])
 (.seq (.seq (.reg [⟨some 22, .load false 1 (.tmp 1), none⟩, ⟨some 23, .mkfn 69 [.tmp 1, .tmp 2], none⟩, ⟨some 24, .call 68 [.tmp 22, .tmp 23], none⟩, ⟨some 25, .un .not (.tmp 24), none⟩])
 (.cond (.tmp 25)
 .ret
 .skip))
 (.seq (.dreg [⟨some 26, .load false 1 (.tmp 1), none⟩, ⟨some 27, .load false 1 (.tmp 1), none⟩, ⟨some 28, .nilck (.tmp 27), none⟩, ⟨some 29, .faddr 48 (.tmp 28), none⟩, ⟨some 30, .load false 1 (.tmp 29), none⟩, ⟨some 31, .faddr 0 (.tmp 2), none⟩, ⟨some 32, .load true 2 (.tmp 31), none⟩, ⟨some 33, .bslice 2 1 [.int .i64 0, .int .i64 0] [(0, 2, .tmp 32)], none⟩, ⟨some 34, .append 2 16 (.tmp 30) (.tmp 33), none⟩, ⟨some 35, .nilck (.tmp 26), none⟩, ⟨some 36, .faddr 48 (.tmp 35), none⟩, ⟨none, .store 1 (.tmp 36) (.tmp 34), none⟩] [7, 8, 11] [0, 0, 2, 6, 14, 0, 32, 96, 254, 511, 1023, 2047] [])
 (.dreg [⟨some 37, .load false 1 (.tmp 1), none⟩, ⟨some 38, .load false 1 (.tmp 1), none⟩, ⟨some 39, .nilck (.tmp 38), none⟩, ⟨some 40, .faddr 47 (.tmp 39), none⟩, ⟨some 41, .load false 1 (.tmp 40), none⟩, ⟨some 42, .slSl 3 (.tmp 41) (some (.con (.int .i64 1))) none none, none⟩, ⟨some 43, .nilck (.tmp 37), none⟩, ⟨some 44, .faddr 47 (.tmp 43), none⟩, ⟨none, .store 1 (.tmp 44) (.tmp 42), none⟩] [8] [0, 0, 2, 6, 14, 30, 63, 127, 255] [])))))))))
def ac51 : AFun := ⟨1, 45, ab51, []⟩
theorem cf51 : compF Try.prog Try.f51 = some ac51 := by kernel_rfl
theorem cl51 : callable Try.prog 51 = true := by kernel_rfl
theorem fn51 : Try.prog.funcs[51]? = some Try.f51 := by kernel_rfl
/- (*chancel/raft.Core).Tick -/
def ab53 : ACode := (.seq (.reg [⟨some 4, .mv (.tmp 0), none⟩, ⟨some 5, .mv (.tmp 1), none⟩, ⟨some 6, .nilck (.tmp 4), none⟩, ⟨some 7, .faddr 50 (.tmp 6), none⟩, ⟨none, .store 1 (.tmp 7) (.tmp 5), none⟩])
 (.seq (.seq (.reg [⟨some 8, .mv (.tmp 0), none⟩, ⟨some 9, .nilck (.tmp 8), none⟩, ⟨some 10, .faddr 9 (.tmp 9), none⟩, ⟨some 11, .load false 1 (.tmp 10), none⟩, ⟨some 12, .bin .eql .plain (.tmp 11) (.con (.int .i64 2)), none⟩])
 (.cond (.tmp 12)
 (.seq (.reg [⟨some 13, .mv (.tmp 0), none⟩, ⟨some 14, .nilck (.tmp 13), none⟩, ⟨some 15, .faddr 51 (.tmp 14), none⟩, ⟨some 16, .load false 1 (.tmp 15), none⟩, ⟨some 17, .bin .add .plain (.tmp 16) (.con (.int .i64 1)), none⟩, ⟨some 18, .nilck (.tmp 13), none⟩, ⟨some 19, .faddr 51 (.tmp 18), none⟩, ⟨none, .store 1 (.tmp 19) (.tmp 17), none⟩])
 (.seq (.seq (.reg [⟨some 20, .mv (.tmp 0), none⟩, ⟨some 21, .nilck (.tmp 20), none⟩, ⟨some 22, .faddr 51 (.tmp 21), none⟩, ⟨some 23, .load false 1 (.tmp 22), none⟩, ⟨some 24, .bin .rem .plain (.tmp 23) (.con (.int .i64 3)), none⟩, ⟨some 25, .bin .eql .plain (.tmp 24) (.con (.int .i64 0)), none⟩])
 (.cond (.tmp 25)
 (.reg [⟨some 26, .mv (.tmp 0), none⟩, ⟨some 27, .call 50 [.tmp 26], none⟩])
 .skip))
 .ret))
 .skip))
 (.seq (.reg [⟨some 28, .mv (.tmp 0), none⟩, ⟨some 29, .nilck (.tmp 28), none⟩, ⟨some 30, .faddr 49 (.tmp 29), none⟩, ⟨some 31, .load false 1 (.tmp 30), none⟩, ⟨some 32, .bin .sub .plain (.tmp 31) (.con (.int .i64 1)), none⟩, ⟨some 33, .nilck (.tmp 28), none⟩, ⟨some 34, .faddr 49 (.tmp 33), none⟩, ⟨none, .store 1 (.tmp 34) (.tmp 32), none⟩])
 (.seq (.reg [⟨some 35, .mv (.tmp 0), none⟩, ⟨some 36, .nilck (.tmp 35), none⟩, ⟨some 37, .faddr 49 (.tmp 36), none⟩, ⟨some 38, .load false 1 (.tmp 37), none⟩, ⟨some 39, .bin .leq .plain (.tmp 38) (.con (.int .i64 0)), none⟩])
 (.cond (.tmp 39)
 (.seq (.reg [⟨some 40, .mv (.tmp 0), none⟩, ⟨some 41, .mv (.tmp 1), none⟩, ⟨some 42, .call 49 [.tmp 40, .tmp 41], none⟩])
 (.reg [⟨some 43, .mv (.tmp 0), none⟩, ⟨some 44, .call 71 [.tmp 43], none⟩]))
 .skip)))))
def ac53 : AFun := ⟨2, 45, ab53, []⟩
theorem cf53 : compF Try.prog Try.f53 = some ac53 := by kernel_rfl
theorem cl53 : callable Try.prog 53 = true := by kernel_rfl
theorem fn53 : Try.prog.funcs[53]? = some Try.f53 := by kernel_rfl
/- (*chancel/chancellaw19.Group).step -/
def ab54 : ACode := (.seq (.reg [⟨some 4, .mv (.con (.bool false)), none⟩])
 (.seq (.reg [⟨some 6, .mv (.tmp 0), none⟩, ⟨some 7, .nilck (.tmp 6), none⟩, ⟨some 8, .faddr 3 (.tmp 7), none⟩, ⟨some 9, .load false 1 (.tmp 8), none⟩, ⟨some 10, .mv (.tmp 1), none⟩, ⟨some 11, .iaddr 14 (.tmp 9) (.tmp 10), none⟩, ⟨some 12, .load true 14 (.tmp 11), none⟩, ⟨some 5, .alloc [.int .i64 0, .int .i64 0, .int .i64 0, .int .i64 0, .int .i64 0, .int .i64 0, .int .i64 0, .int .i64 0, .bool false, .nils, .nils, .nils, .nils, .nils], none⟩, ⟨none, .store 14 (.tmp 5) (.tmp 12), none⟩])
 (.seq (.dreg [⟨some 13, .mv (.tmp 0), none⟩, ⟨some 14, .bslice 14 0 [.int .i64 0, .int .i64 0, .int .i64 0, .int .i64 0, .int .i64 0, .int .i64 0, .int .i64 0, .int .i64 0, .bool false, .nils, .nils, .nils, .nils, .nils] [], none⟩, ⟨some 15, .mv (.tmp 0), none⟩, ⟨some 16, .nilck (.tmp 15), none⟩, ⟨some 17, .faddr 3 (.tmp 16), none⟩, ⟨some 18, .load false 1 (.tmp 17), none⟩, ⟨some 19, .mv (.tmp 1), none⟩, ⟨some 20, .slSl 14 (.tmp 18) none (some (.tmp 19)) none, none⟩, ⟨some 21, .append 14 192 (.tmp 14) (.tmp 20), none⟩, ⟨some 22, .mv (.tmp 0), none⟩, ⟨some 23, .nilck (.tmp 22), none⟩, ⟨some 24, .faddr 3 (.tmp 23), none⟩, ⟨some 25, .load false 1 (.tmp 24), none⟩, ⟨some 26, .mv (.tmp 1), none⟩, ⟨some 27, .bin .add .plain (.tmp 26) (.con (.int .i64 1)), none⟩, ⟨some 28, .slSl 14 (.tmp 25) (some (.tmp 27)) none none, none⟩, ⟨some 29, .append 14 192 (.tmp 21) (.tmp 28), none⟩, ⟨some 30, .nilck (.tmp 13), none⟩, ⟨some 31, .faddr 3 (.tmp 30), none⟩, ⟨none, .store 1 (.tmp 31) (.tmp 29), none⟩] [1, 8, 16, 19] [0, 0, 0, 4, 12, 28, 0, 124, 254, 0, 512, 1536, 3584, 0, 8192, 32256, 65534, 131071, 262143, 524287] [])
 (.seq (.seq (.dreg [⟨some 32, .faddr 1 (.tmp 5), none⟩, ⟨some 33, .load false 1 (.tmp 32), none⟩, ⟨some 34, .mv (.tmp 0), none⟩, ⟨some 35, .nilck (.tmp 34), none⟩, ⟨some 36, .faddr 0 (.tmp 35), none⟩, ⟨some 37, .load false 1 (.tmp 36), none⟩, ⟨some 38, .bin .geq .plain (.tmp 33) (.tmp 37), none⟩] [] [0, 1, 0, 4, 12, 28, 63] [])
 (.cond (.tmp 38)
 (.seq (.reg [⟨some 4, .mv (.con (.bool true)), none⟩])
 .ret)
 .skip))
 (.seq (.dreg [⟨some 39, .mv (.tmp 0), none⟩, ⟨some 40, .nilck (.tmp 39), none⟩, ⟨some 41, .faddr 1 (.tmp 40), none⟩, ⟨some 42, .load false 1 (.tmp 41), none⟩, ⟨some 43, .faddr 1 (.tmp 5), none⟩, ⟨some 44, .load false 1 (.tmp 43), none⟩, ⟨some 45, .iaddr 1 (.tmp 42) (.tmp 44), none⟩, ⟨some 46, .load false 1 (.tmp 45), none⟩, ⟨some 47, .load true 14 (.tmp 5), none⟩, ⟨some 48, .call 72 [.tmp 46, .tmp 47], none⟩] [9] [0, 1, 3, 7, 0, 16, 63, 127, 0, 511] [])
 (.seq (.reg [⟨some 49, .mv (.tmp 0), none⟩, ⟨some 50, .faddr 1 (.tmp 5), none⟩, ⟨some 51, .load false 1 (.tmp 50), none⟩, ⟨some 52, .call 19 [.tmp 49, .tmp 51], none⟩, ⟨some 4, .mv (.tmp 52), none⟩])
 .ret))))))
def ac54 : AFun := ⟨2, 53, ab54, [(.tmp 4)]⟩
theorem cf54 : compF Try.prog Try.f54 = some ac54 := by kernel_rfl
theorem cl54 : callable Try.prog 54 = true := by kernel_rfl
theorem fn54 : Try.prog.funcs[54]? = some Try.f54 := by kernel_rfl
/- chancel/raft.put -/
def ab58 : ACode := (.seq (.reg [⟨some 4, .mv (.con .nils), none⟩])
 (.seq (.seq (.reg [⟨some 8, .mv (.tmp 1), none⟩, ⟨some 9, .lenL (.tmp 8), none⟩, ⟨some 10, .mv (.con (.int .i64 0)), none⟩])
 (.block 0
 (.loop (.seq (.reg [⟨some 11, .bin .lss .plain (.tmp 10) (.tmp 9), none⟩])
 (.seq (.cond (.tmp 11)
 .skip
 (.exit 0))
 (.seq (.block 1
 (.seq (.reg [⟨some 12, .iaddr 1 (.tmp 8) (.tmp 10), none⟩, ⟨some 13, .load false 1 (.tmp 12), none⟩, ⟨some 6, .mv (.tmp 13), none⟩])
 (.seq (.reg [⟨some 7, .mv (.con (.int .i64 7)), none⟩])
 (.block 2
 (.loop (.seq (.seq (.reg [⟨some 14, .mv (.tmp 7), none⟩, ⟨some 15, .bin .geq .plain (.tmp 14) (.con (.int .i64 0)), none⟩])
 (.cond (.tmp 15)
 .skip
 (.exit 2)))
 (.seq (.block 3
 (.reg [⟨some 18, .mv (.tmp 0), none⟩, ⟨some 19, .mv (.tmp 6), none⟩, ⟨some 20, .mv (.tmp 7), none⟩, ⟨some 21, .bin .mul .plain (.con (.int .i64 8)) (.tmp 20), none⟩, ⟨some 22, .bin .shr .plain (.tmp 19) (.tmp 21), none⟩, ⟨some 23, .cvInt .u8 (.tmp 22), none⟩, ⟨some 24, .bslice 1 1 [.int .u8 0] [(0, 1, .tmp 23)], none⟩, ⟨some 25, .append 1 1 (.tmp 18) (.tmp 24), none⟩, ⟨some 0, .mv (.tmp 25), none⟩]))
 (.reg [⟨some 16, .mv (.tmp 7), none⟩, ⟨some 17, .bin .sub .plain (.tmp 16) (.con (.int .i64 1)), none⟩, ⟨some 7, .mv (.tmp 17), none⟩]))))))))
 (.reg [⟨some 26, .bin .add .plain (.tmp 10) (.con (.int .i64 1)), none⟩, ⟨some 10, .mv (.tmp 26), none⟩])))))))
 (.seq (.reg [⟨some 27, .mv (.tmp 0), none⟩, ⟨some 4, .mv (.tmp 27), none⟩])
 .ret)))
def ac58 : AFun := ⟨2, 28, ab58, [(.tmp 4)]⟩
theorem cf58 : compF Try.prog Try.f58 = some ac58 := by kernel_rfl
theorem cl58 : callable Try.prog 58 = true := by kernel_rfl
theorem fn58 : Try.prog.funcs[58]? = some Try.f58 := by kernel_rfl
/- chancel/raft.lay -/
def ab59 : ACode := (.seq (.reg [⟨some 4, .mv (.con .nils), none⟩])
 (.seq (.reg [⟨some 5, .mv (.tmp 0), none⟩, ⟨some 6, .mv (.tmp 1), none⟩, ⟨some 7, .lenL (.tmp 6), none⟩, ⟨some 8, .bslice 1 1 [.int .i64 0] [(0, 1, .tmp 7)], none⟩, ⟨some 9, .call 58 [.tmp 5, .tmp 8], none⟩, ⟨some 10, .mv (.tmp 1), none⟩, ⟨some 11, .append 1 1 (.tmp 9) (.tmp 10), none⟩, ⟨some 4, .mv (.tmp 11), none⟩])
 .ret))
def ac59 : AFun := ⟨2, 12, ab59, [(.tmp 4)]⟩
theorem cf59 : compF Try.prog Try.f59 = some ac59 := by kernel_rfl
theorem cl59 : callable Try.prog 59 = true := by kernel_rfl
theorem fn59 : Try.prog.funcs[59]? = some Try.f59 := by kernel_rfl
/- chancel/raft.ids -/
def ab60 : ACode := (.seq (.reg [⟨some 2, .mv (.con .nils), none⟩])
 (.seq (.reg [⟨some 3, .mv (.con .nils), none⟩])
 (.seq (.seq (.reg [⟨some 6, .mv (.tmp 0), none⟩, ⟨some 7, .lenL (.tmp 6), none⟩, ⟨some 8, .mv (.con (.int .i64 0)), none⟩])
 (.block 0
 (.loop (.seq (.reg [⟨some 9, .bin .lss .plain (.tmp 8) (.tmp 7), none⟩])
 (.seq (.cond (.tmp 9)
 .skip
 (.exit 0))
 (.seq (.block 1
 (.seq (.reg [⟨some 10, .iaddr 1 (.tmp 6) (.tmp 8), none⟩, ⟨some 11, .load false 1 (.tmp 10), none⟩, ⟨some 5, .mv (.tmp 11), none⟩])
 (.reg [⟨some 12, .mv (.tmp 3), none⟩, ⟨some 13, .mv (.tmp 5), none⟩, ⟨some 14, .cvInt .u8 (.tmp 13), none⟩, ⟨some 15, .bslice 1 1 [.int .u8 0] [(0, 1, .tmp 14)], none⟩, ⟨some 16, .append 1 1 (.tmp 12) (.tmp 15), none⟩, ⟨some 3, .mv (.tmp 16), none⟩])))
 (.reg [⟨some 17, .bin .add .plain (.tmp 8) (.con (.int .i64 1)), none⟩, ⟨some 8, .mv (.tmp 17), none⟩])))))))
 (.seq (.reg [⟨some 18, .mv (.tmp 3), none⟩, ⟨some 2, .mv (.tmp 18), none⟩])
 .ret))))
def ac60 : AFun := ⟨1, 19, ab60, [(.tmp 2)]⟩
theorem cf60 : compF Try.prog Try.f60 = some ac60 := by kernel_rfl
theorem cl60 : callable Try.prog 60 = true := by kernel_rfl
theorem fn60 : Try.prog.funcs[60]? = some Try.f60 := by kernel_rfl
/- slices.Contains[[]int,int] -/
def ab61 : ACode := (.seq (.reg [⟨some 4, .mv (.con (.bool false)), none⟩])
 (.seq (.reg [⟨some 5, .mv (.tmp 0), none⟩, ⟨some 6, .mv (.tmp 1), none⟩, ⟨some 7, .call 76 [.tmp 5, .tmp 6], none⟩, ⟨some 8, .bin .geq .plain (.tmp 7) (.con (.int .i64 0)), none⟩, ⟨some 4, .mv (.tmp 8), none⟩])
 .ret))
def ac61 : AFun := ⟨2, 9, ab61, [(.tmp 4)]⟩
theorem cf61 : compF Try.prog Try.f61 = some ac61 := by kernel_rfl
theorem cl61 : callable Try.prog 61 = true := by kernel_rfl
theorem fn61 : Try.prog.funcs[61]? = some Try.f61 := by kernel_rfl
/- (*chancel/raft.log).add -/
def ab62 : ACode := (.seq (.reg [⟨some 3, .box (.tmp 1), none⟩])
 (.dreg [⟨some 4, .mv (.tmp 0), none⟩, ⟨some 5, .mv (.tmp 0), none⟩, ⟨some 6, .nilck (.tmp 5), none⟩, ⟨some 7, .faddr 4 (.tmp 6), none⟩, ⟨some 8, .load false 1 (.tmp 7), none⟩, ⟨some 9, .load true 4 (.tmp 3), none⟩, ⟨some 10, .call 33 [.tmp 9], none⟩, ⟨some 11, .bslice 4 1 [.int .i64 0, .int .i64 0, .nils, .nils] [(0, 4, .tmp 10)], none⟩, ⟨some 12, .append 4 64 (.tmp 8) (.tmp 11), none⟩, ⟨some 13, .nilck (.tmp 4), none⟩, ⟨some 14, .faddr 4 (.tmp 13), none⟩, ⟨none, .store 1 (.tmp 14) (.tmp 12), none⟩] [6, 7, 8, 11] [0, 0, 2, 6, 14, 0, 32, 96, 254, 511, 1023, 2047] []))
def ac62 : AFun := ⟨2, 15, ab62, []⟩
theorem cf62 : compF Try.prog Try.f62 = some ac62 := by kernel_rfl
theorem cl62 : callable Try.prog 62 = true := by kernel_rfl
theorem fn62 : Try.prog.funcs[62]? = some Try.f62 := by kernel_rfl
/- (*chancel/raft.Core).advance -/
def ab63 : ACode := (.seq (.reg [⟨some 1, .box (.tmp 0), none⟩])
 (.seq (.reg [⟨some 3, .load false 1 (.tmp 1), none⟩, ⟨some 4, .nilck (.tmp 3), none⟩, ⟨some 5, .faddr 0 (.tmp 4), none⟩, ⟨some 6, .call 13 [.tmp 5], none⟩, ⟨some 2, .alloc [.int .i64 0], none⟩, ⟨none, .store 1 (.tmp 2) (.tmp 6), none⟩])
 (.block 0
 (.loop (.seq (.seq (.dreg [⟨some 7, .load false 1 (.tmp 2), none⟩, ⟨some 8, .load false 1 (.tmp 1), none⟩, ⟨some 9, .nilck (.tmp 8), none⟩, ⟨some 10, .faddr 8 (.tmp 9), none⟩, ⟨some 11, .load false 1 (.tmp 10), none⟩, ⟨some 12, .bin .gtr .plain (.tmp 7) (.tmp 11), none⟩, ⟨some 13, .mv (.tmp 12), none⟩, ⟨some 14, .load false 1 (.tmp 1), some (13, true)⟩, ⟨some 15, .nilck (.tmp 14), some (13, true)⟩, ⟨some 16, .faddr 9 (.tmp 15), some (13, true)⟩, ⟨some 17, .load false 1 (.tmp 16), some (13, true)⟩, ⟨some 18, .bin .eql .plain (.tmp 17) (.con (.int .i64 2)), some (13, true)⟩, ⟨some 19, .pick (.tmp 13) (.tmp 18) (.con (.bool false)), none⟩, ⟨some 20, .mv (.tmp 19), none⟩, ⟨some 21, .load false 1 (.tmp 1), some (20, true)⟩, ⟨some 22, .nilck (.tmp 21), some (20, true)⟩, ⟨some 23, .faddr 0 (.tmp 22), some (20, true)⟩, ⟨some 24, .load false 1 (.tmp 2), some (20, true)⟩, ⟨some 25, .call 39 [.tmp 23, .tmp 24], some (20, true)⟩, ⟨some 26, .load false 1 (.tmp 1), some (20, true)⟩, ⟨some 27, .nilck (.tmp 26), some (20, true)⟩, ⟨some 28, .faddr 6 (.tmp 27), some (20, true)⟩, ⟨some 29, .load false 1 (.tmp 28), some (20, true)⟩, ⟨some 30, .bin .eql .plain (.tmp 25) (.tmp 29), some (20, true)⟩, ⟨some 31, .pick (.tmp 20) (.tmp 30) (.con (.bool false)), none⟩] [18] [0, 0, 2, 6, 14, 31, 63, 127, 255, 511, 1023, 2047, 4095, 8191, 16383, 32767, 65535, 16383, 262143, 16383, 540671, 1589247, 3686399, 8388607, 16777215] [])
 (.cond (.tmp 31)
 .skip
 (.exit 0)))
 (.seq (.block 1
 (.seq (.reg [⟨some 34, .load false 1 (.tmp 1), none⟩, ⟨some 35, .mkfn 77 [.tmp 1, .tmp 2], none⟩, ⟨some 36, .call 68 [.tmp 34, .tmp 35], none⟩])
 (.cond (.tmp 36)
 (.seq (.reg [⟨some 37, .load false 1 (.tmp 1), none⟩, ⟨some 38, .load false 1 (.tmp 2), none⟩, ⟨some 39, .nilck (.tmp 37), none⟩, ⟨some 40, .faddr 8 (.tmp 39), none⟩, ⟨none, .store 1 (.tmp 40) (.tmp 38), none⟩])
 (.seq (.reg [⟨some 41, .load false 1 (.tmp 1), none⟩, ⟨some 42, .call 50 [.tmp 41], none⟩])
 (.seq (.reg [⟨some 43, .load false 1 (.tmp 1), none⟩, ⟨some 44, .call 78 [.tmp 43], none⟩])
 .ret)))
 .skip)))
 (.seq (.seq (.reg [⟨some 45, .load false 1 (.tmp 2), none⟩])
 (.reg [⟨some 2, .alloc [.int .i64 0], none⟩, ⟨none, .store 1 (.tmp 2) (.tmp 45), none⟩]))
 (.reg [⟨some 32, .load false 1 (.tmp 2), none⟩, ⟨some 33, .bin .sub .plain (.tmp 32) (.con (.int .i64 1)), none⟩, ⟨none, .store 1 (.tmp 2) (.tmp 33), none⟩]))))))))
def ac63 : AFun := ⟨1, 46, ab63, []⟩
theorem cf63 : compF Try.prog Try.f63 = some ac63 := by kernel_rfl
theorem cl63 : callable Try.prog 63 = true := by kernel_rfl
theorem fn63 : Try.prog.funcs[63]? = some Try.f63 := by kernel_rfl
/- chancel/chancelref7.wrongMsg -/
def ab64 : ACode := (.seq (.reg [⟨some 1, .box (.tmp 0), none⟩, ⟨some 2, .mv (.con (.int .i64 0)), none⟩])
 (.seq (.block 0
 (.seq (.reg [⟨some 5, .faddr 2 (.tmp 1), none⟩, ⟨some 6, .load false 1 (.tmp 5), none⟩, ⟨some 7, .bin .lss .plain (.tmp 6) (.con (.int .i64 1)), none⟩, ⟨some 8, .mv (.tmp 7), none⟩, ⟨some 9, .faddr 2 (.tmp 1), some (8, false)⟩, ⟨some 10, .load false 1 (.tmp 9), some (8, false)⟩, ⟨some 11, .bin .gtr .plain (.tmp 10) (.con (.int .i64 15)), some (8, false)⟩, ⟨some 12, .pick (.tmp 8) (.con (.bool true)) (.tmp 11), none⟩, ⟨some 4, .mv (.tmp 12), none⟩])
 (.cond (.tmp 4)
 (.seq (.reg [⟨some 2, .mv (.con (.int .i64 3)), none⟩])
 .ret)
 (.seq (.reg [⟨some 14, .faddr 9 (.tmp 1), none⟩, ⟨some 15, .load false 1 (.tmp 14), none⟩, ⟨some 16, .lenL (.tmp 15), none⟩, ⟨some 17, .faddr 11 (.tmp 1), none⟩, ⟨some 18, .load false 1 (.tmp 17), none⟩, ⟨some 19, .lenL (.tmp 18), none⟩, ⟨some 20, .bin .neq .plain (.tmp 16) (.tmp 19), none⟩, ⟨some 21, .mv (.tmp 20), none⟩, ⟨some 22, .faddr 10 (.tmp 1), some (21, false)⟩, ⟨some 23, .load false 1 (.tmp 22), some (21, false)⟩, ⟨some 24, .lenL (.tmp 23), some (21, false)⟩, ⟨some 25, .faddr 11 (.tmp 1), some (21, false)⟩, ⟨some 26, .load false 1 (.tmp 25), some (21, false)⟩, ⟨some 27, .lenL (.tmp 26), some (21, false)⟩, ⟨some 28, .bin .neq .plain (.tmp 24) (.tmp 27), some (21, false)⟩, ⟨some 29, .pick (.tmp 21) (.con (.bool true)) (.tmp 28), none⟩, ⟨some 13, .mv (.tmp 29), none⟩])
 (.cond (.tmp 13)
 (.seq (.reg [⟨some 2, .mv (.con (.int .i64 1)), none⟩])
 .ret)
 (.seq (.reg [⟨some 31, .faddr 11 (.tmp 1), none⟩, ⟨some 32, .load false 1 (.tmp 31), none⟩, ⟨some 33, .lenL (.tmp 32), none⟩, ⟨some 34, .bin .gtr .plain (.tmp 33) (.con (.int .i64 64)), none⟩, ⟨some 35, .mv (.tmp 34), none⟩, ⟨some 36, .faddr 12 (.tmp 1), some (35, false)⟩, ⟨some 37, .load false 1 (.tmp 36), some (35, false)⟩, ⟨some 38, .lenL (.tmp 37), some (35, false)⟩, ⟨some 39, .bin .gtr .plain (.tmp 38) (.con (.int .i64 7)), some (35, false)⟩, ⟨some 40, .pick (.tmp 35) (.con (.bool true)) (.tmp 39), none⟩, ⟨some 30, .mv (.tmp 40), none⟩])
 (.cond (.tmp 30)
 (.seq (.reg [⟨some 2, .mv (.con (.int .i64 4)), none⟩])
 .ret)
 .skip)))))))
 (.seq (.seq (.reg [⟨some 3, .mv (.con (.int .i64 0)), none⟩])
 (.block 1
 (.loop (.seq (.seq (.reg [⟨some 41, .mv (.tmp 3), none⟩, ⟨some 42, .faddr 11 (.tmp 1), none⟩, ⟨some 43, .load false 1 (.tmp 42), none⟩, ⟨some 44, .lenL (.tmp 43), none⟩, ⟨some 45, .bin .lss .plain (.tmp 41) (.tmp 44), none⟩])
 (.cond (.tmp 45)
 .skip
 (.exit 1)))
 (.seq (.block 2
 (.seq (.reg [⟨some 48, .faddr 11 (.tmp 1), none⟩, ⟨some 49, .load false 1 (.tmp 48), none⟩, ⟨some 50, .mv (.tmp 3), none⟩, ⟨some 51, .iaddr 1 (.tmp 49) (.tmp 50), none⟩, ⟨some 52, .load false 1 (.tmp 51), none⟩, ⟨some 53, .lenL (.tmp 52), none⟩, ⟨some 54, .bin .gtr .plain (.tmp 53) (.con (.int .i64 700)), none⟩])
 (.cond (.tmp 54)
 (.seq (.reg [⟨some 2, .mv (.con (.int .i64 5)), none⟩])
 .ret)
 .skip)))
 (.reg [⟨some 46, .mv (.tmp 3), none⟩, ⟨some 47, .bin .add .plain (.tmp 46) (.con (.int .i64 1)), none⟩, ⟨some 3, .mv (.tmp 47), none⟩]))))))
 (.seq (.seq (.reg [⟨some 55, .faddr 13 (.tmp 1), none⟩, ⟨some 56, .load false 1 (.tmp 55), none⟩, ⟨some 57, .lenL (.tmp 56), none⟩, ⟨some 58, .bin .gtr .plain (.tmp 57) (.con (.int .i64 60000)), none⟩])
 (.cond (.tmp 58)
 (.seq (.reg [⟨some 2, .mv (.con (.int .i64 5)), none⟩])
 .ret)
 .skip))
 (.seq (.reg [⟨some 2, .mv (.con (.int .i64 0)), none⟩])
 .ret)))))
def ac64 : AFun := ⟨1, 59, ab64, [(.tmp 2)]⟩
theorem cf64 : compF Try.prog Try.f64 = some ac64 := by kernel_rfl
theorem cl64 : callable Try.prog 64 = true := by kernel_rfl
theorem fn64 : Try.prog.funcs[64]? = some Try.f64 := by kernel_rfl
/- chancel/chancelref7.num -/
def ab65 : ACode := (.seq (.reg [⟨some 4, .mv (.con .nils), none⟩])
 (.seq (.seq (.reg [⟨some 5, .mv (.con (.int .i64 7)), none⟩])
 (.block 0
 (.loop (.seq (.seq (.reg [⟨some 6, .mv (.tmp 5), none⟩, ⟨some 7, .bin .geq .plain (.tmp 6) (.con (.int .i64 0)), none⟩])
 (.cond (.tmp 7)
 .skip
 (.exit 0)))
 (.seq (.block 1
 (.reg [⟨some 10, .mv (.tmp 0), none⟩, ⟨some 11, .mv (.tmp 1), none⟩, ⟨some 12, .cvInt .u64 (.tmp 11), none⟩, ⟨some 13, .mv (.tmp 5), none⟩, ⟨some 14, .bin .mul .plain (.con (.int .i64 8)) (.tmp 13), none⟩, ⟨some 15, .bin .shr .plain (.tmp 12) (.tmp 14), none⟩, ⟨some 16, .cvInt .u8 (.tmp 15), none⟩, ⟨some 17, .bslice 1 1 [.int .u8 0] [(0, 1, .tmp 16)], none⟩, ⟨some 18, .append 1 1 (.tmp 10) (.tmp 17), none⟩, ⟨some 0, .mv (.tmp 18), none⟩]))
 (.reg [⟨some 8, .mv (.tmp 5), none⟩, ⟨some 9, .bin .sub .plain (.tmp 8) (.con (.int .i64 1)), none⟩, ⟨some 5, .mv (.tmp 9), none⟩]))))))
 (.seq (.reg [⟨some 19, .mv (.tmp 0), none⟩, ⟨some 4, .mv (.tmp 19), none⟩])
 .ret)))
def ac65 : AFun := ⟨2, 20, ab65, [(.tmp 4)]⟩
theorem cf65 : compF Try.prog Try.f65 = some ac65 := by kernel_rfl
theorem cl65 : callable Try.prog 65 = true := by kernel_rfl
theorem fn65 : Try.prog.funcs[65]? = some Try.f65 := by kernel_rfl
/- chancel/chancelref7.bytes -/
def ab66 : ACode := (.seq (.reg [⟨some 4, .mv (.con .nils), none⟩])
 (.seq (.reg [⟨some 5, .mv (.tmp 0), none⟩, ⟨some 6, .mv (.tmp 1), none⟩, ⟨some 7, .lenL (.tmp 6), none⟩, ⟨some 8, .bin .shr .plain (.tmp 7) (.con (.int .u64 8)), none⟩, ⟨some 9, .cvInt .u8 (.tmp 8), none⟩, ⟨some 10, .mv (.tmp 1), none⟩, ⟨some 11, .lenL (.tmp 10), none⟩, ⟨some 12, .cvInt .u8 (.tmp 11), none⟩, ⟨some 13, .bslice 1 2 [.int .u8 0] [(0, 1, .tmp 9), (1, 1, .tmp 12)], none⟩, ⟨some 14, .append 1 1 (.tmp 5) (.tmp 13), none⟩, ⟨some 15, .mv (.tmp 1), none⟩, ⟨some 16, .append 1 1 (.tmp 14) (.tmp 15), none⟩, ⟨some 4, .mv (.tmp 16), none⟩])
 .ret))
def ac66 : AFun := ⟨2, 17, ab66, [(.tmp 4)]⟩
theorem cf66 : compF Try.prog Try.f66 = some ac66 := by kernel_rfl
theorem cl66 : callable Try.prog 66 = true := by kernel_rfl
theorem fn66 : Try.prog.funcs[66]? = some Try.f66 := by kernel_rfl
/- (*chancel/raft.Core).send -/
def ab67 : ACode := (.seq (.reg [⟨some 8, .mv (.tmp 0), none⟩, ⟨some 9, .mv (.tmp 1), none⟩, ⟨some 10, .nilck (.tmp 8), none⟩, ⟨some 11, .faddr 11 (.tmp 10), none⟩, ⟨some 12, .iaddrA 7 5 (.tmp 11) (.tmp 9), none⟩, ⟨some 4, .mv (.tmp 12), none⟩])
 (.seq (.dreg [⟨some 13, .mv (.tmp 0), none⟩, ⟨some 14, .nilck (.tmp 13), none⟩, ⟨some 15, .faddr 0 (.tmp 14), none⟩, ⟨some 16, .call 13 [.tmp 15], none⟩, ⟨some 17, .mv (.tmp 0), none⟩, ⟨some 18, .nilck (.tmp 17), none⟩, ⟨some 19, .faddr 0 (.tmp 18), none⟩, ⟨some 20, .mv (.tmp 0), none⟩, ⟨some 21, .nilck (.tmp 20), none⟩, ⟨some 22, .faddr 0 (.tmp 21), none⟩, ⟨some 23, .call 13 [.tmp 22], none⟩, ⟨some 24, .call 39 [.tmp 19, .tmp 23], none⟩, ⟨some 25, .mv (.tmp 0), none⟩, ⟨some 26, .nilck (.tmp 25), none⟩, ⟨some 27, .faddr 8 (.tmp 26), none⟩, ⟨some 28, .load false 1 (.tmp 27), none⟩, ⟨some 29, .mv (.tmp 0), none⟩, ⟨some 30, .nilck (.tmp 29), none⟩, ⟨some 31, .faddr 46 (.tmp 30), none⟩, ⟨some 32, .load false 1 (.tmp 31), none⟩, ⟨some 33, .build [.int .i64 0, .int .i64 0, .int .i64 0, .int .i64 0, .int .i64 0, .int .i64 0, .int .i64 0, .int .i64 0, .bool false, .nils, .nils, .nils, .nils, .nils] [(2, 1, .con (.int .i64 3)), (4, 1, .tmp 16), (5, 1, .tmp 24), (6, 1, .tmp 28), (7, 1, .tmp 32)], none⟩, ⟨some 5, .alloc [.int .i64 0, .int .i64 0, .int .i64 0, .int .i64 0, .int .i64 0, .int .i64 0, .int .i64 0, .int .i64 0, .bool false, .nils, .nils, .nils, .nils, .nils], none⟩, ⟨none, .store 14 (.tmp 5) (.tmp 33), none⟩] [3, 10, 11, 22] [0, 1, 3, 7, 0, 16, 48, 0, 128, 384, 911, 2047, 0, 4096, 12288, 28672, 0, 65536, 196608, 458752, 1048575, 0, 4194303] [21])
 (.seq (.block 0
 (.seq (.reg [⟨some 108, .mv (.tmp 4), none⟩, ⟨some 109, .nilck (.tmp 108), none⟩, ⟨some 110, .faddr 3 (.tmp 109), none⟩, ⟨some 111, .load false 1 (.tmp 110), none⟩, ⟨some 112, .un .not (.tmp 111), none⟩, ⟨some 113, .mv (.tmp 112), none⟩, ⟨some 114, .mv (.tmp 4), some (113, false)⟩, ⟨some 115, .nilck (.tmp 114), some (113, false)⟩, ⟨some 116, .faddr 2 (.tmp 115), some (113, false)⟩, ⟨some 117, .load false 1 (.tmp 116), some (113, false)⟩, ⟨some 118, .bin .geq .plain (.tmp 117) (.con (.int .i64 3)), some (113, false)⟩, ⟨some 119, .pick (.tmp 113) (.con (.bool true)) (.tmp 118), none⟩, ⟨some 107, .mv (.tmp 119), none⟩])
 (.cond (.tmp 107)
 .skip
 (.seq (.dreg [⟨some 121, .mv (.tmp 4), none⟩, ⟨some 122, .nilck (.tmp 121), none⟩, ⟨some 123, .faddr 0 (.tmp 122), none⟩, ⟨some 124, .load false 1 (.tmp 123), none⟩, ⟨some 125, .mv (.tmp 0), none⟩, ⟨some 126, .nilck (.tmp 125), none⟩, ⟨some 127, .faddr 0 (.tmp 126), none⟩, ⟨some 128, .faddr 0 (.tmp 127), none⟩, ⟨some 129, .faddr 0 (.tmp 128), none⟩, ⟨some 130, .load false 1 (.tmp 129), none⟩, ⟨some 131, .bin .leq .plain (.tmp 124) (.tmp 130), none⟩, ⟨some 120, .mv (.tmp 131), none⟩] [] [0, 1, 3, 7, 0, 16, 48, 112, 240, 496, 1023, 2047] [])
 (.cond (.tmp 120)
 (.seq (.dreg [⟨some 132, .mv (.tmp 0), none⟩, ⟨some 133, .nilck (.tmp 132), none⟩, ⟨some 134, .faddr 0 (.tmp 133), none⟩, ⟨some 135, .faddr 0 (.tmp 134), none⟩, ⟨some 136, .faddr 0 (.tmp 135), none⟩, ⟨some 137, .load false 1 (.tmp 136), none⟩, ⟨some 138, .mv (.tmp 0), none⟩, ⟨some 139, .nilck (.tmp 138), none⟩, ⟨some 140, .faddr 0 (.tmp 139), none⟩, ⟨some 141, .faddr 0 (.tmp 140), none⟩, ⟨some 142, .faddr 1 (.tmp 141), none⟩, ⟨some 143, .load false 1 (.tmp 142), none⟩, ⟨some 144, .faddr 2 (.tmp 5), none⟩, ⟨none, .store 1 (.tmp 144) (.con (.int .i64 5)), none⟩, ⟨some 145, .faddr 4 (.tmp 5), none⟩, ⟨none, .store 1 (.tmp 145) (.tmp 137), none⟩, ⟨some 146, .faddr 5 (.tmp 5), none⟩, ⟨none, .store 1 (.tmp 146) (.tmp 143), none⟩] [13, 15, 17] [0, 1, 3, 7, 15, 31, 0, 64, 192, 448, 960, 1984, 0, 4096, 12351, 28735, 65535, 131071] [])
 (.seq (.dreg [⟨some 147, .mv (.tmp 0), none⟩, ⟨some 148, .nilck (.tmp 147), none⟩, ⟨some 149, .faddr 0 (.tmp 148), none⟩, ⟨some 150, .faddr 0 (.tmp 149), none⟩, ⟨some 151, .faddr 2 (.tmp 150), none⟩, ⟨some 152, .load false 1 (.tmp 151), none⟩, ⟨some 153, .call 48 [.tmp 152], none⟩, ⟨some 154, .mv (.tmp 0), none⟩, ⟨some 155, .nilck (.tmp 154), none⟩, ⟨some 156, .faddr 0 (.tmp 155), none⟩, ⟨some 157, .faddr 0 (.tmp 156), none⟩, ⟨some 158, .faddr 3 (.tmp 157), none⟩, ⟨some 159, .load false 1 (.tmp 158), none⟩, ⟨some 160, .call 35 [.tmp 159], none⟩, ⟨some 161, .faddr 12 (.tmp 5), none⟩, ⟨none, .store 1 (.tmp 161) (.tmp 153), none⟩, ⟨some 162, .faddr 13 (.tmp 5), none⟩, ⟨none, .store 1 (.tmp 162) (.tmp 160), none⟩] [6, 13, 15, 17] [0, 1, 3, 7, 15, 31, 63, 0, 128, 384, 896, 1920, 3968, 8191, 127, 32767, 65535, 131071] [])
 (.reg [⟨some 163, .mv (.tmp 4), none⟩, ⟨some 164, .nilck (.tmp 163), none⟩, ⟨some 165, .faddr 2 (.tmp 164), none⟩, ⟨some 166, .load false 1 (.tmp 165), none⟩, ⟨some 167, .bin .add .plain (.tmp 166) (.con (.int .i64 1)), none⟩, ⟨some 168, .nilck (.tmp 163), none⟩, ⟨some 169, .faddr 2 (.tmp 168), none⟩, ⟨none, .store 1 (.tmp 169) (.tmp 167), none⟩])))
 (.seq (.dreg [⟨some 34, .mv (.tmp 4), none⟩, ⟨some 35, .nilck (.tmp 34), none⟩, ⟨some 36, .faddr 0 (.tmp 35), none⟩, ⟨some 37, .load false 1 (.tmp 36), none⟩, ⟨some 38, .bin .sub .plain (.tmp 37) (.con (.int .i64 1)), none⟩, ⟨some 39, .mv (.tmp 0), none⟩, ⟨some 40, .nilck (.tmp 39), none⟩, ⟨some 41, .faddr 0 (.tmp 40), none⟩, ⟨some 42, .mv (.tmp 4), none⟩, ⟨some 43, .nilck (.tmp 42), none⟩, ⟨some 44, .faddr 0 (.tmp 43), none⟩, ⟨some 45, .load false 1 (.tmp 44), none⟩, ⟨some 46, .bin .sub .plain (.tmp 45) (.con (.int .i64 1)), none⟩, ⟨some 47, .call 39 [.tmp 41, .tmp 46], none⟩, ⟨some 48, .faddr 4 (.tmp 5), none⟩, ⟨none, .store 1 (.tmp 48) (.tmp 38), none⟩, ⟨some 49, .faddr 5 (.tmp 5), none⟩, ⟨none, .store 1 (.tmp 49) (.tmp 47), none⟩] [13, 15, 17] [0, 1, 3, 7, 15, 0, 32, 96, 0, 256, 768, 1792, 3840, 8160, 31, 32767, 65535, 131071] [])
 (.seq (.seq (.reg [⟨some 50, .mv (.tmp 4), none⟩, ⟨some 51, .nilck (.tmp 50), none⟩, ⟨some 52, .faddr 0 (.tmp 51), none⟩, ⟨some 53, .load false 1 (.tmp 52), none⟩, ⟨some 6, .mv (.tmp 53), none⟩])
 (.block 1
 (.loop (.seq (.seq (.reg [⟨some 54, .mv (.tmp 6), none⟩, ⟨some 55, .mv (.tmp 0), none⟩, ⟨some 56, .nilck (.tmp 55), none⟩, ⟨some 57, .faddr 0 (.tmp 56), none⟩, ⟨some 58, .call 13 [.tmp 57], none⟩, ⟨some 59, .bin .leq .plain (.tmp 54) (.tmp 58), none⟩])
 (.cond (.tmp 59)
 .skip
 (.exit 1)))
 (.seq (.block 2
 (.seq (.reg [⟨some 62, .mv (.tmp 0), none⟩, ⟨some 63, .nilck (.tmp 62), none⟩, ⟨some 64, .faddr 0 (.tmp 63), none⟩, ⟨some 65, .mv (.tmp 6), none⟩, ⟨some 66, .call 34 [.tmp 64, .tmp 65], none⟩, ⟨some 67, .call 33 [.tmp 66], none⟩, ⟨some 7, .alloc [.int .i64 0, .int .i64 0, .nils, .nils], none⟩, ⟨none, .store 4 (.tmp 7) (.tmp 67), none⟩])
 (.seq (.seq (.reg [⟨some 68, .faddr 1 (.tmp 7), none⟩, ⟨some 69, .load false 1 (.tmp 68), none⟩, ⟨some 70, .bin .eql .plain (.tmp 69) (.con (.int .i64 2)), none⟩])
 (.cond (.tmp 70)
 (.reg [⟨some 71, .faddr 3 (.tmp 7), none⟩, ⟨some 72, .load false 1 (.tmp 71), none⟩, ⟨some 73, .call 60 [.tmp 72], none⟩, ⟨some 74, .faddr 2 (.tmp 7), none⟩, ⟨none, .store 1 (.tmp 74) (.tmp 73), none⟩])
 .skip))
 (.dreg [⟨some 75, .faddr 9 (.tmp 5), none⟩, ⟨some 76, .load false 1 (.tmp 75), none⟩, ⟨some 77, .faddr 0 (.tmp 7), none⟩, ⟨some 78, .load false 1 (.tmp 77), none⟩, ⟨some 79, .bslice 1 1 [.int .i64 0] [(0, 1, .tmp 78)], none⟩, ⟨some 80, .append 1 8 (.tmp 76) (.tmp 79), none⟩, ⟨some 81, .faddr 10 (.tmp 5), none⟩, ⟨some 82, .load false 1 (.tmp 81), none⟩, ⟨some 83, .faddr 1 (.tmp 7), none⟩, ⟨some 84, .load false 1 (.tmp 83), none⟩, ⟨some 85, .bslice 1 1 [.int .i64 0] [(0, 1, .tmp 84)], none⟩, ⟨some 86, .append 1 8 (.tmp 82) (.tmp 85), none⟩, ⟨some 87, .faddr 11 (.tmp 5), none⟩, ⟨some 88, .load false 1 (.tmp 87), none⟩, ⟨some 89, .faddr 2 (.tmp 7), none⟩, ⟨some 90, .load false 1 (.tmp 89), none⟩, ⟨some 91, .bslice 1 1 [.nils] [(0, 1, .tmp 90)], none⟩, ⟨some 92, .append 1 24 (.tmp 88) (.tmp 91), none⟩, ⟨some 93, .faddr 9 (.tmp 5), none⟩, ⟨none, .store 1 (.tmp 93) (.tmp 80), none⟩, ⟨some 94, .faddr 10 (.tmp 5), none⟩, ⟨none, .store 1 (.tmp 94) (.tmp 86), none⟩, ⟨some 95, .faddr 11 (.tmp 5), none⟩, ⟨none, .store 1 (.tmp 95) (.tmp 92), none⟩] [5, 11, 17, 19, 21, 23] [0, 1, 0, 4, 12, 31, 0, 64, 0, 256, 768, 2047, 0, 4096, 0, 16384, 49152, 131071, 12543, 524287, 1048575, 2097151, 4194303, 8388607] [4, 10, 16]))))
 (.reg [⟨some 60, .mv (.tmp 6), none⟩, ⟨some 61, .bin .add .plain (.tmp 60) (.con (.int .i64 1)), none⟩, ⟨some 6, .mv (.tmp 61), none⟩]))))))
 (.seq (.reg [⟨some 96, .faddr 11 (.tmp 5), none⟩, ⟨some 97, .load false 1 (.tmp 96), none⟩, ⟨some 98, .lenL (.tmp 97), none⟩, ⟨some 99, .bin .gtr .plain (.tmp 98) (.con (.int .i64 0)), none⟩])
 (.cond (.tmp 99)
 (.reg [⟨some 100, .mv (.tmp 4), none⟩, ⟨some 101, .nilck (.tmp 100), none⟩, ⟨some 102, .faddr 2 (.tmp 101), none⟩, ⟨some 103, .load false 1 (.tmp 102), none⟩, ⟨some 104, .bin .add .plain (.tmp 103) (.con (.int .i64 1)), none⟩, ⟨some 105, .nilck (.tmp 100), none⟩, ⟨some 106, .faddr 2 (.tmp 105), none⟩, ⟨none, .store 1 (.tmp 106) (.tmp 104), none⟩])
 .skip)))))))))
 (.reg [⟨some 170, .mv (.tmp 0), none⟩, ⟨some 171, .mv (.tmp 1), none⟩, ⟨some 172, .load true 14 (.tmp 5), none⟩, ⟨some 173, .call 79 [.tmp 170, .tmp 171, .tmp 172], none⟩]))))
def ac67 : AFun := ⟨2, 174, ab67, []⟩
theorem cf67 : compF Try.prog Try.f67 = some ac67 := by kernel_rfl
theorem cl67 : callable Try.prog 67 = true := by kernel_rfl
theorem fn67 : Try.prog.funcs[67]? = some Try.f67 := by kernel_rfl
/- (*chancel/raft.Core).quorum -/
def ab68 : ACode := (.seq (.reg [⟨some 4, .mv (.con (.bool false)), none⟩])
 (.seq (.dreg [⟨some 11, .mv (.tmp 0), none⟩, ⟨some 12, .nilck (.tmp 11), none⟩, ⟨some 13, .faddr 0 (.tmp 12), none⟩, ⟨some 14, .mv (.tmp 0), none⟩, ⟨some 15, .nilck (.tmp 14), none⟩, ⟨some 16, .faddr 0 (.tmp 15), none⟩, ⟨some 17, .call 13 [.tmp 16], none⟩, ⟨some 18, .call 36 [.tmp 13, .tmp 17], none⟩, ⟨some 10, .mv (.tmp 18), none⟩, ⟨some 19, .ext (.tmp 10) 0, none⟩, ⟨some 20, .ext (.tmp 10) 1, none⟩, ⟨some 5, .mv (.tmp 19), none⟩, ⟨some 6, .mv (.tmp 20), none⟩] [6, 7] [0, 1, 3, 0, 8, 24, 56, 127, 255, 511, 511, 1023, 4095] [])
 (.seq (.reg [⟨some 7, .mv (.con (.int .i64 0)), none⟩])
 (.seq (.seq (.reg [⟨some 21, .mv (.tmp 5), none⟩, ⟨some 22, .lenL (.tmp 21), none⟩, ⟨some 23, .mv (.con (.int .i64 0)), none⟩])
 (.block 0
 (.loop (.seq (.reg [⟨some 24, .bin .lss .plain (.tmp 23) (.tmp 22), none⟩])
 (.seq (.cond (.tmp 24)
 .skip
 (.exit 0))
 (.seq (.block 1
 (.seq (.reg [⟨some 25, .iaddr 1 (.tmp 21) (.tmp 23), none⟩, ⟨some 26, .load false 1 (.tmp 25), none⟩, ⟨some 9, .mv (.tmp 26), none⟩])
 (.seq (.reg [⟨some 27, .mv (.tmp 1), none⟩, ⟨some 28, .mv (.tmp 9), none⟩, ⟨some 29, .callv (.tmp 27) [.tmp 28], none⟩])
 (.cond (.tmp 29)
 (.reg [⟨some 30, .mv (.tmp 7), none⟩, ⟨some 31, .bin .add .plain (.tmp 30) (.con (.int .i64 1)), none⟩, ⟨some 7, .mv (.tmp 31), none⟩])
 .skip))))
 (.reg [⟨some 32, .bin .add .plain (.tmp 23) (.con (.int .i64 1)), none⟩, ⟨some 23, .mv (.tmp 32), none⟩])))))))
 (.seq (.reg [⟨some 33, .mv (.tmp 7), none⟩, ⟨some 34, .bin .mul .plain (.con (.int .i64 2)) (.tmp 33), none⟩, ⟨some 35, .mv (.tmp 5), none⟩, ⟨some 36, .lenL (.tmp 35), none⟩, ⟨some 37, .bin .gtr .plain (.tmp 34) (.tmp 36), none⟩, ⟨some 4, .mv (.tmp 37), none⟩])
 .ret)))))
def ac68 : AFun := ⟨2, 38, ab68, [(.tmp 4)]⟩
theorem cf68 : compF Try.prog Try.f68 = some ac68 := by kernel_rfl
theorem cl68 : callable Try.prog 68 = true := by kernel_rfl
theorem fn68 : Try.prog.funcs[68]? = some Try.f68 := by kernel_rfl
/- (*chancel/raft.Core).confirm$1 -/
def ab69 : ACode := (.seq (.reg [⟨some 4, .mv (.con (.bool false)), none⟩])
 (.seq (.dreg [⟨some 5, .mv (.tmp 0), none⟩, ⟨some 6, .load false 1 (.tmp 1), none⟩, ⟨some 7, .nilck (.tmp 6), none⟩, ⟨some 8, .faddr 5 (.tmp 7), none⟩, ⟨some 9, .load false 1 (.tmp 8), none⟩, ⟨some 10, .bin .eql .plain (.tmp 5) (.tmp 9), none⟩, ⟨some 11, .mv (.tmp 10), none⟩, ⟨some 12, .load false 1 (.tmp 1), some (11, false)⟩, ⟨some 13, .mv (.tmp 0), some (11, false)⟩, ⟨some 14, .nilck (.tmp 12), some (11, false)⟩, ⟨some 15, .faddr 11 (.tmp 14), some (11, false)⟩, ⟨some 16, .iaddrA 7 5 (.tmp 15) (.tmp 13), some (11, false)⟩, ⟨some 17, .faddr 4 (.tmp 16), some (11, false)⟩, ⟨some 18, .load false 1 (.tmp 17), some (11, false)⟩, ⟨some 19, .faddr 2 (.tmp 2), some (11, false)⟩, ⟨some 20, .load false 1 (.tmp 19), some (11, false)⟩, ⟨some 21, .bin .geq .plain (.tmp 18) (.tmp 20), some (11, false)⟩, ⟨some 22, .pick (.tmp 11) (.con (.bool true)) (.tmp 21), none⟩, ⟨some 4, .mv (.tmp 22), none⟩] [] [0, 0, 2, 6, 14, 31, 63, 127, 127, 255, 767, 2047, 4095, 8191, 127, 16511, 65535, 131071, 262143] [])
 .ret))
def ac69 : AFun := ⟨3, 23, ab69, [(.tmp 4)]⟩
theorem cf69 : compF Try.prog Try.f69 = some ac69 := by kernel_rfl
theorem cl69 : callable Try.prog 69 = true := by kernel_rfl
theorem fn69 : Try.prog.funcs[69]? = some Try.f69 := by kernel_rfl
/- slices.Clone[[]chancel/raft.one,chancel/raft.one] -/
def ab70 : ACode := (.seq (.reg [⟨some 2, .mv (.con .nils), none⟩])
 (.seq (.seq (.reg [⟨some 3, .mv (.tmp 0), none⟩, ⟨some 4, .bin .eql .slice (.tmp 3) (.con .nils), none⟩])
 (.cond (.tmp 4)
 (.seq (.reg [⟨some 2, .mv (.con .nils), none⟩])
 .ret)
 .skip))
 (.seq (.reg [⟨some 5, .bslice 4 0 [.int .i64 0, .int .i64 0, .nils, .nils] [], none⟩, ⟨some 6, .mv (.tmp 0), none⟩, ⟨some 7, .append 4 64 (.tmp 5) (.tmp 6), none⟩, ⟨some 2, .mv (.tmp 7), none⟩])
 .ret)))
def ac70 : AFun := ⟨1, 8, ab70, [(.tmp 2)]⟩
theorem cf70 : compF Try.prog Try.f70 = some ac70 := by kernel_rfl
theorem cl70 : callable Try.prog 70 = true := by kernel_rfl
theorem fn70 : Try.prog.funcs[70]? = some Try.f70 := by kernel_rfl
/- (*chancel/raft.Core).stand -/
def ab71 : ACode := (.seq (.seq (.reg [⟨some 4, .mv (.tmp 0), none⟩, ⟨some 5, .call 80 [.tmp 4], none⟩, ⟨some 6, .un .not (.tmp 5), none⟩])
 (.cond (.tmp 6)
 .ret
 .skip))
 (.seq (.reg [⟨some 7, .mv (.tmp 0), none⟩, ⟨some 8, .nilck (.tmp 7), none⟩, ⟨some 9, .faddr 6 (.tmp 8), none⟩, ⟨some 10, .load false 1 (.tmp 9), none⟩, ⟨some 11, .bin .add .plain (.tmp 10) (.con (.int .i64 1)), none⟩, ⟨some 12, .nilck (.tmp 7), none⟩, ⟨some 13, .faddr 6 (.tmp 12), none⟩, ⟨none, .store 1 (.tmp 13) (.tmp 11), none⟩])
 (.seq (.dreg [⟨some 14, .mv (.tmp 0), none⟩, ⟨some 15, .mv (.tmp 0), none⟩, ⟨some 16, .mv (.tmp 0), none⟩, ⟨some 17, .mv (.tmp 0), none⟩, ⟨some 18, .nilck (.tmp 17), none⟩, ⟨some 19, .faddr 5 (.tmp 18), none⟩, ⟨some 20, .load false 1 (.tmp 19), none⟩, ⟨some 21, .mv (.tmp 0), none⟩, ⟨some 22, .nilck (.tmp 21), none⟩, ⟨some 23, .faddr 5 (.tmp 22), none⟩, ⟨some 24, .load false 1 (.tmp 23), none⟩, ⟨some 25, .bslice 1 1 [.int .i64 0] [(0, 1, .tmp 24)], none⟩, ⟨some 26, .nilck (.tmp 14), none⟩, ⟨some 27, .faddr 7 (.tmp 26), none⟩, ⟨none, .store 1 (.tmp 27) (.tmp 20), none⟩, ⟨some 28, .nilck (.tmp 15), none⟩, ⟨some 29, .faddr 9 (.tmp 28), none⟩, ⟨none, .store 1 (.tmp 29) (.con (.int .i64 1)), none⟩, ⟨some 30, .nilck (.tmp 16), none⟩, ⟨some 31, .faddr 10 (.tmp 30), none⟩, ⟨none, .store 1 (.tmp 31) (.tmp 25), none⟩] [14, 17, 20] [0, 0, 0, 0, 8, 24, 56, 0, 128, 384, 896, 1920, 2041, 6137, 14329, 30715, 63483, 129019, 262143, 524287, 1048575] [11])
 (.seq (.seq (.reg [⟨some 32, .mv (.tmp 0), none⟩, ⟨some 33, .call 20 [.tmp 32], none⟩, ⟨some 34, .lenL (.tmp 33), none⟩, ⟨some 35, .mv (.con (.int .i64 0)), none⟩])
 (.block 0
 (.loop (.seq (.reg [⟨some 36, .bin .lss .plain (.tmp 35) (.tmp 34), none⟩])
 (.seq (.cond (.tmp 36)
 .skip
 (.exit 0))
 (.seq (.block 1
 (.seq (.reg [⟨some 37, .iaddr 1 (.tmp 33) (.tmp 35), none⟩, ⟨some 38, .load false 1 (.tmp 37), none⟩, ⟨some 3, .mv (.tmp 38), none⟩])
 (.seq (.reg [⟨some 39, .mv (.tmp 3), none⟩, ⟨some 40, .mv (.tmp 0), none⟩, ⟨some 41, .nilck (.tmp 40), none⟩, ⟨some 42, .faddr 5 (.tmp 41), none⟩, ⟨some 43, .load false 1 (.tmp 42), none⟩, ⟨some 44, .bin .neq .plain (.tmp 39) (.tmp 43), none⟩])
 (.cond (.tmp 44)
 (.dreg [⟨some 45, .mv (.tmp 0), none⟩, ⟨some 46, .mv (.tmp 3), none⟩, ⟨some 47, .mv (.tmp 0), none⟩, ⟨some 48, .nilck (.tmp 47), none⟩, ⟨some 49, .faddr 0 (.tmp 48), none⟩, ⟨some 50, .call 13 [.tmp 49], none⟩, ⟨some 51, .mv (.tmp 0), none⟩, ⟨some 52, .nilck (.tmp 51), none⟩, ⟨some 53, .faddr 0 (.tmp 52), none⟩, ⟨some 54, .mv (.tmp 0), none⟩, ⟨some 55, .nilck (.tmp 54), none⟩, ⟨some 56, .faddr 0 (.tmp 55), none⟩, ⟨some 57, .call 13 [.tmp 56], none⟩, ⟨some 58, .call 39 [.tmp 53, .tmp 57], none⟩, ⟨some 59, .build [.int .i64 0, .int .i64 0, .int .i64 0, .int .i64 0, .int .i64 0, .int .i64 0, .int .i64 0, .int .i64 0, .bool false, .nils, .nils, .nils, .nils, .nils] [(2, 1, .con (.int .i64 1)), (4, 1, .tmp 50), (5, 1, .tmp 58)], none⟩, ⟨some 60, .call 79 [.tmp 45, .tmp 46, .tmp 59], none⟩] [5, 12, 13, 15] [0, 0, 0, 4, 12, 28, 0, 64, 192, 0, 512, 1536, 3644, 8188, 16380, 32767] [])
 .skip))))
 (.reg [⟨some 61, .bin .add .plain (.tmp 35) (.con (.int .i64 1)), none⟩, ⟨some 35, .mv (.tmp 61), none⟩])))))))
 (.reg [⟨some 62, .mv (.tmp 0), none⟩, ⟨some 63, .call 81 [.tmp 62], none⟩])))))
def ac71 : AFun := ⟨1, 64, ab71, []⟩
theorem cf71 : compF Try.prog Try.f71 = some ac71 := by kernel_rfl
theorem cl71 : callable Try.prog 71 = true := by kernel_rfl
theorem fn71 : Try.prog.funcs[71]? = some Try.f71 := by kernel_rfl
/- (*chancel/raft.Core).Step -/
def ab72 : ACode := (.seq (.reg [⟨some 3, .box (.tmp 1), none⟩])
 (.seq (.seq (.dreg [⟨some 4, .faddr 1 (.tmp 3), none⟩, ⟨some 5, .load false 1 (.tmp 4), none⟩, ⟨some 6, .mv (.tmp 0), none⟩, ⟨some 7, .nilck (.tmp 6), none⟩, ⟨some 8, .faddr 5 (.tmp 7), none⟩, ⟨some 9, .load false 1 (.tmp 8), none⟩, ⟨some 10, .bin .neq .plain (.tmp 5) (.tmp 9), none⟩, ⟨some 11, .mv (.tmp 10), none⟩, ⟨some 12, .faddr 0 (.tmp 3), some (11, false)⟩, ⟨some 13, .load false 1 (.tmp 12), some (11, false)⟩, ⟨some 14, .mv (.tmp 0), some (11, false)⟩, ⟨some 15, .nilck (.tmp 14), some (11, false)⟩, ⟨some 16, .faddr 5 (.tmp 15), some (11, false)⟩, ⟨some 17, .load false 1 (.tmp 16), some (11, false)⟩, ⟨some 18, .bin .eql .plain (.tmp 13) (.tmp 17), some (11, false)⟩, ⟨some 19, .pick (.tmp 11) (.con (.bool true)) (.tmp 18), none⟩, ⟨some 20, .mv (.tmp 19), none⟩, ⟨some 21, .faddr 0 (.tmp 3), some (20, false)⟩, ⟨some 22, .load false 1 (.tmp 21), some (20, false)⟩, ⟨some 23, .bin .lss .plain (.tmp 22) (.con (.int .i64 0)), some (20, false)⟩, ⟨some 24, .pick (.tmp 20) (.con (.bool true)) (.tmp 23), none⟩, ⟨some 25, .mv (.tmp 24), none⟩, ⟨some 26, .faddr 0 (.tmp 3), some (25, false)⟩, ⟨some 27, .load false 1 (.tmp 26), some (25, false)⟩, ⟨some 28, .bin .geq .plain (.tmp 27) (.con (.int .i64 7)), some (25, false)⟩, ⟨some 29, .pick (.tmp 25) (.con (.bool true)) (.tmp 28), none⟩] [] [0, 1, 0, 4, 12, 28, 63, 127, 255, 511, 255, 1279, 3327, 7423, 16383, 32767, 65535, 131071, 262143, 524287, 1048575, 2097151, 4194303, 8388607, 16777215, 33554431] [])
 (.cond (.tmp 29)
 .ret
 .skip))
 (.seq (.seq (.dreg [⟨some 30, .faddr 3 (.tmp 3), none⟩, ⟨some 31, .load false 1 (.tmp 30), none⟩, ⟨some 32, .mv (.tmp 0), none⟩, ⟨some 33, .nilck (.tmp 32), none⟩, ⟨some 34, .faddr 6 (.tmp 33), none⟩, ⟨some 35, .load false 1 (.tmp 34), none⟩, ⟨some 36, .bin .gtr .plain (.tmp 31) (.tmp 35), none⟩] [] [0, 1, 0, 4, 12, 28, 63] [])
 (.cond (.tmp 36)
 (.reg [⟨some 37, .mv (.tmp 0), none⟩, ⟨some 38, .faddr 3 (.tmp 3), none⟩, ⟨some 39, .load false 1 (.tmp 38), none⟩, ⟨some 40, .call 82 [.tmp 37, .tmp 39], none⟩])
 .skip))
 (.seq (.reg [⟨some 41, .faddr 2 (.tmp 3), none⟩, ⟨some 42, .load false 1 (.tmp 41), none⟩])
 (.block 0
 (.seq (.block 5
 (.seq (.block 4
 (.seq (.block 3
 (.seq (.block 2
 (.seq (.block 1
 (.seq (.seq (.seq (.reg [⟨some 44, .bin .eql .plain (.tmp 42) (.con (.int .i64 1)), none⟩, ⟨some 43, .mv (.tmp 44), none⟩])
 (.cond (.tmp 43)
 (.exit 1)
 .skip))
 (.seq (.seq (.reg [⟨some 46, .bin .eql .plain (.tmp 42) (.con (.int .i64 2)), none⟩, ⟨some 45, .mv (.tmp 46), none⟩])
 (.cond (.tmp 45)
 (.exit 2)
 .skip))
 (.seq (.seq (.seq (.reg [⟨some 48, .bin .eql .plain (.tmp 42) (.con (.int .i64 3)), none⟩, ⟨some 47, .mv (.tmp 48), none⟩])
 (.cond (.tmp 47)
 .skip
 (.reg [⟨some 49, .bin .eql .plain (.tmp 42) (.con (.int .i64 5)), none⟩, ⟨some 47, .mv (.tmp 49), none⟩])))
 (.cond (.tmp 47)
 (.exit 3)
 .skip))
 (.seq (.reg [⟨some 51, .bin .eql .plain (.tmp 42) (.con (.int .i64 4)), none⟩, ⟨some 50, .mv (.tmp 51), none⟩])
 (.cond (.tmp 50)
 (.exit 4)
 .skip)))))
 (.exit 5)))
 (.seq (.reg [⟨some 52, .mv (.tmp 0), none⟩, ⟨some 53, .load true 14 (.tmp 3), none⟩, ⟨some 54, .call 83 [.tmp 52, .tmp 53], none⟩])
 (.exit 0))))
 (.seq (.seq (.dreg [⟨some 55, .mv (.tmp 0), none⟩, ⟨some 56, .nilck (.tmp 55), none⟩, ⟨some 57, .faddr 9 (.tmp 56), none⟩, ⟨some 58, .load false 1 (.tmp 57), none⟩, ⟨some 59, .bin .eql .plain (.tmp 58) (.con (.int .i64 1)), none⟩, ⟨some 60, .mv (.tmp 59), none⟩, ⟨some 61, .faddr 3 (.tmp 3), some (60, true)⟩, ⟨some 62, .load false 1 (.tmp 61), some (60, true)⟩, ⟨some 63, .mv (.tmp 0), some (60, true)⟩, ⟨some 64, .nilck (.tmp 63), some (60, true)⟩, ⟨some 65, .faddr 6 (.tmp 64), some (60, true)⟩, ⟨some 66, .load false 1 (.tmp 65), some (60, true)⟩, ⟨some 67, .bin .eql .plain (.tmp 62) (.tmp 66), some (60, true)⟩, ⟨some 68, .pick (.tmp 60) (.tmp 67) (.con (.bool false)), none⟩, ⟨some 69, .mv (.tmp 68), none⟩, ⟨some 70, .faddr 8 (.tmp 3), some (69, true)⟩, ⟨some 71, .load false 1 (.tmp 70), some (69, true)⟩, ⟨some 72, .pick (.tmp 69) (.tmp 71) (.con (.bool false)), none⟩] [] [0, 1, 3, 7, 15, 31, 63, 127, 63, 319, 831, 1855, 4095, 8191, 16383, 32767, 65535, 131071] [])
 (.cond (.tmp 72)
 (.seq (.dreg [⟨some 73, .mv (.tmp 0), none⟩, ⟨some 74, .mv (.tmp 0), none⟩, ⟨some 75, .nilck (.tmp 74), none⟩, ⟨some 76, .faddr 10 (.tmp 75), none⟩, ⟨some 77, .load false 1 (.tmp 76), none⟩, ⟨some 78, .faddr 0 (.tmp 3), none⟩, ⟨some 79, .load false 1 (.tmp 78), none⟩, ⟨some 80, .bslice 1 1 [.int .i64 0] [(0, 1, .tmp 79)], none⟩, ⟨some 81, .append 1 8 (.tmp 77) (.tmp 80), none⟩, ⟨some 82, .nilck (.tmp 73), none⟩, ⟨some 83, .faddr 10 (.tmp 82), none⟩, ⟨none, .store 1 (.tmp 83) (.tmp 81), none⟩] [7, 8, 11] [0, 0, 2, 6, 14, 0, 32, 96, 254, 511, 1023, 2047] [])
 (.reg [⟨some 84, .mv (.tmp 0), none⟩, ⟨some 85, .call 81 [.tmp 84], none⟩]))
 .skip))
 (.exit 0))))
 (.seq (.reg [⟨some 86, .mv (.tmp 0), none⟩, ⟨some 87, .load true 14 (.tmp 3), none⟩, ⟨some 88, .call 84 [.tmp 86, .tmp 87], none⟩])
 (.exit 0))))
 (.seq (.dreg [⟨some 89, .mv (.tmp 0), none⟩, ⟨some 90, .nilck (.tmp 89), none⟩, ⟨some 91, .faddr 9 (.tmp 90), none⟩, ⟨some 92, .load false 1 (.tmp 91), none⟩, ⟨some 93, .bin .eql .plain (.tmp 92) (.con (.int .i64 2)), none⟩, ⟨some 94, .mv (.tmp 93), none⟩, ⟨some 95, .faddr 3 (.tmp 3), some (94, true)⟩, ⟨some 96, .load false 1 (.tmp 95), some (94, true)⟩, ⟨some 97, .mv (.tmp 0), some (94, true)⟩, ⟨some 98, .nilck (.tmp 97), some (94, true)⟩, ⟨some 99, .faddr 6 (.tmp 98), some (94, true)⟩, ⟨some 100, .load false 1 (.tmp 99), some (94, true)⟩, ⟨some 101, .bin .eql .plain (.tmp 96) (.tmp 100), some (94, true)⟩, ⟨some 102, .pick (.tmp 94) (.tmp 101) (.con (.bool false)), none⟩] [] [0, 1, 3, 7, 15, 31, 63, 127, 63, 319, 831, 1855, 4095, 8191] [])
 (.cond (.tmp 102)
 (.reg [⟨some 103, .mv (.tmp 0), none⟩, ⟨some 104, .load true 14 (.tmp 3), none⟩, ⟨some 105, .call 85 [.tmp 103, .tmp 104], none⟩])
 .skip))))
 (.exit 0)))))))
def ac72 : AFun := ⟨2, 106, ab72, []⟩
theorem cf72 : compF Try.prog Try.f72 = some ac72 := by kernel_rfl
theorem cl72 : callable Try.prog 72 = true := by kernel_rfl
theorem fn72 : Try.prog.funcs[72]? = some Try.f72 := by kernel_rfl
/- chancel/raft.members -/
def ab74 : ACode := (.seq (.reg [⟨some 2, .mv (.con .nils), none⟩])
 (.seq (.reg [⟨some 3, .mv (.con .nils), none⟩])
 (.seq (.seq (.reg [⟨some 6, .mv (.tmp 0), none⟩, ⟨some 7, .lenL (.tmp 6), none⟩, ⟨some 8, .mv (.con (.int .i64 0)), none⟩])
 (.block 0
 (.loop (.seq (.reg [⟨some 9, .bin .lss .plain (.tmp 8) (.tmp 7), none⟩])
 (.seq (.cond (.tmp 9)
 .skip
 (.exit 0))
 (.seq (.block 1
 (.seq (.reg [⟨some 10, .iaddr 1 (.tmp 6) (.tmp 8), none⟩, ⟨some 11, .load false 1 (.tmp 10), none⟩, ⟨some 5, .mv (.tmp 11), none⟩])
 (.reg [⟨some 12, .mv (.tmp 3), none⟩, ⟨some 13, .mv (.tmp 5), none⟩, ⟨some 14, .cvInt .i64 (.tmp 13), none⟩, ⟨some 15, .bslice 1 1 [.int .i64 0] [(0, 1, .tmp 14)], none⟩, ⟨some 16, .append 1 8 (.tmp 12) (.tmp 15), none⟩, ⟨some 3, .mv (.tmp 16), none⟩])))
 (.reg [⟨some 17, .bin .add .plain (.tmp 8) (.con (.int .i64 1)), none⟩, ⟨some 8, .mv (.tmp 17), none⟩])))))))
 (.seq (.reg [⟨some 18, .mv (.tmp 3), none⟩, ⟨some 2, .mv (.tmp 18), none⟩])
 .ret))))
def ac74 : AFun := ⟨1, 19, ab74, [(.tmp 2)]⟩
theorem cf74 : compF Try.prog Try.f74 = some ac74 := by kernel_rfl
theorem cl74 : callable Try.prog 74 = true := by kernel_rfl
theorem fn74 : Try.prog.funcs[74]? = some Try.f74 := by kernel_rfl
/- slices.Index[[]int,int] -/
def ab76 : ACode := (.seq (.reg [⟨some 4, .mv (.con (.int .i64 0)), none⟩])
 (.seq (.seq (.reg [⟨some 6, .mv (.tmp 0), none⟩, ⟨some 7, .lenL (.tmp 6), none⟩, ⟨some 8, .mv (.con (.int .i64 0)), none⟩])
 (.block 0
 (.loop (.seq (.reg [⟨some 9, .bin .lss .plain (.tmp 8) (.tmp 7), none⟩])
 (.seq (.cond (.tmp 9)
 .skip
 (.exit 0))
 (.seq (.block 1
 (.seq (.reg [⟨some 10, .mv (.tmp 8), none⟩, ⟨some 5, .mv (.tmp 10), none⟩])
 (.seq (.reg [⟨some 11, .mv (.tmp 1), none⟩, ⟨some 12, .mv (.tmp 0), none⟩, ⟨some 13, .mv (.tmp 5), none⟩, ⟨some 14, .iaddr 1 (.tmp 12) (.tmp 13), none⟩, ⟨some 15, .load false 1 (.tmp 14), none⟩, ⟨some 16, .bin .eql .plain (.tmp 11) (.tmp 15), none⟩])
 (.cond (.tmp 16)
 (.seq (.reg [⟨some 17, .mv (.tmp 5), none⟩, ⟨some 4, .mv (.tmp 17), none⟩])
 .ret)
 .skip))))
 (.reg [⟨some 18, .bin .add .plain (.tmp 8) (.con (.int .i64 1)), none⟩, ⟨some 8, .mv (.tmp 18), none⟩])))))))
 (.seq (.reg [⟨some 4, .mv (.con (.int .i64 (-1))), none⟩])
 .ret)))
def ac76 : AFun := ⟨2, 19, ab76, [(.tmp 4)]⟩
theorem cf76 : compF Try.prog Try.f76 = some ac76 := by kernel_rfl
theorem cl76 : callable Try.prog 76 = true := by kernel_rfl
theorem fn76 : Try.prog.funcs[76]? = some Try.f76 := by kernel_rfl
/- (*chancel/raft.Core).advance$1 -/
def ab77 : ACode := (.seq (.reg [⟨some 4, .mv (.con (.bool false)), none⟩])
 (.seq (.dreg [⟨some 5, .mv (.tmp 0), none⟩, ⟨some 6, .load false 1 (.tmp 1), none⟩, ⟨some 7, .nilck (.tmp 6), none⟩, ⟨some 8, .faddr 5 (.tmp 7), none⟩, ⟨some 9, .load false 1 (.tmp 8), none⟩, ⟨some 10, .bin .eql .plain (.tmp 5) (.tmp 9), none⟩, ⟨some 11, .mv (.tmp 10), none⟩, ⟨some 12, .load false 1 (.tmp 1), some (11, false)⟩, ⟨some 13, .mv (.tmp 0), some (11, false)⟩, ⟨some 14, .nilck (.tmp 12), some (11, false)⟩, ⟨some 15, .faddr 11 (.tmp 14), some (11, false)⟩, ⟨some 16, .iaddrA 7 5 (.tmp 15) (.tmp 13), some (11, false)⟩, ⟨some 17, .faddr 1 (.tmp 16), some (11, false)⟩, ⟨some 18, .load false 1 (.tmp 17), some (11, false)⟩, ⟨some 19, .load false 1 (.tmp 2), some (11, false)⟩, ⟨some 20, .bin .geq .plain (.tmp 18) (.tmp 19), some (11, false)⟩, ⟨some 21, .pick (.tmp 11) (.con (.bool true)) (.tmp 20), none⟩, ⟨some 4, .mv (.tmp 21), none⟩] [] [0, 0, 2, 6, 14, 31, 63, 127, 127, 255, 767, 2047, 4095, 8191, 127, 32767, 65535, 131071] [])
 .ret))
def ac77 : AFun := ⟨3, 22, ab77, [(.tmp 4)]⟩
theorem cf77 : compF Try.prog Try.f77 = some ac77 := by kernel_rfl
theorem cl77 : callable Try.prog 77 = true := by kernel_rfl
theorem fn77 : Try.prog.funcs[77]? = some Try.f77 := by kernel_rfl
/- (*chancel/raft.Core).leave -/
def ab78 : ACode := (.seq (.dreg [⟨some 5, .mv (.tmp 0), none⟩, ⟨some 6, .nilck (.tmp 5), none⟩, ⟨some 7, .faddr 0 (.tmp 6), none⟩, ⟨some 8, .mv (.tmp 0), none⟩, ⟨some 9, .nilck (.tmp 8), none⟩, ⟨some 10, .faddr 0 (.tmp 9), none⟩, ⟨some 11, .call 13 [.tmp 10], none⟩, ⟨some 12, .call 36 [.tmp 7, .tmp 11], none⟩, ⟨some 4, .mv (.tmp 12), none⟩, ⟨some 13, .ext (.tmp 4) 0, none⟩, ⟨some 14, .ext (.tmp 4) 1, none⟩, ⟨some 2, .mv (.tmp 13), none⟩, ⟨some 3, .mv (.tmp 14), none⟩] [6, 7] [0, 1, 3, 0, 8, 24, 56, 127, 255, 511, 511, 1023, 4095] [])
 (.seq (.reg [⟨some 15, .mv (.tmp 3), none⟩, ⟨some 16, .mv (.tmp 0), none⟩, ⟨some 17, .nilck (.tmp 16), none⟩, ⟨some 18, .faddr 8 (.tmp 17), none⟩, ⟨some 19, .load false 1 (.tmp 18), none⟩, ⟨some 20, .bin .leq .plain (.tmp 15) (.tmp 19), none⟩, ⟨some 21, .mv (.tmp 20), none⟩, ⟨some 22, .mv (.tmp 2), some (21, true)⟩, ⟨some 23, .mv (.tmp 0), some (21, true)⟩, ⟨some 24, .nilck (.tmp 23), some (21, true)⟩, ⟨some 25, .faddr 5 (.tmp 24), some (21, true)⟩, ⟨some 26, .load false 1 (.tmp 25), some (21, true)⟩, ⟨some 27, .call 61 [.tmp 22, .tmp 26], some (21, true)⟩, ⟨some 28, .un .not (.tmp 27), some (21, true)⟩, ⟨some 29, .pick (.tmp 21) (.tmp 28) (.con (.bool false)), none⟩])
 (.cond (.tmp 29)
 (.reg [⟨some 30, .mv (.tmp 0), none⟩, ⟨some 31, .mv (.tmp 0), none⟩, ⟨some 32, .nilck (.tmp 31), none⟩, ⟨some 33, .faddr 6 (.tmp 32), none⟩, ⟨some 34, .load false 1 (.tmp 33), none⟩, ⟨some 35, .call 82 [.tmp 30, .tmp 34], none⟩])
 .skip)))
def ac78 : AFun := ⟨1, 36, ab78, []⟩
theorem cf78 : compF Try.prog Try.f78 = some ac78 := by kernel_rfl
theorem cl78 : callable Try.prog 78 = true := by kernel_rfl
theorem fn78 : Try.prog.funcs[78]? = some Try.f78 := by kernel_rfl
/- (*chancel/raft.Core).say -/
def ab79 : ACode := (.seq (.reg [⟨some 5, .box (.tmp 2), none⟩])
 (.seq (.dreg [⟨some 6, .mv (.tmp 0), none⟩, ⟨some 7, .nilck (.tmp 6), none⟩, ⟨some 8, .faddr 5 (.tmp 7), none⟩, ⟨some 9, .load false 1 (.tmp 8), none⟩, ⟨some 10, .mv (.tmp 1), none⟩, ⟨some 11, .mv (.tmp 0), none⟩, ⟨some 12, .nilck (.tmp 11), none⟩, ⟨some 13, .faddr 6 (.tmp 12), none⟩, ⟨some 14, .load false 1 (.tmp 13), none⟩, ⟨some 15, .faddr 0 (.tmp 5), none⟩, ⟨none, .store 1 (.tmp 15) (.tmp 9), none⟩, ⟨some 16, .faddr 1 (.tmp 5), none⟩, ⟨none, .store 1 (.tmp 16) (.tmp 10), none⟩, ⟨some 17, .faddr 3 (.tmp 5), none⟩, ⟨none, .store 1 (.tmp 17) (.tmp 14), none⟩] [10, 12, 14] [0, 1, 3, 7, 0, 0, 32, 96, 224, 15, 527, 1567, 3615, 8191, 16383] [])
 (.dreg [⟨some 18, .mv (.tmp 0), none⟩, ⟨some 19, .mv (.tmp 0), none⟩, ⟨some 20, .nilck (.tmp 19), none⟩, ⟨some 21, .faddr 52 (.tmp 20), none⟩, ⟨some 22, .load false 1 (.tmp 21), none⟩, ⟨some 23, .load true 14 (.tmp 5), none⟩, ⟨some 24, .bslice 14 1 [.int .i64 0, .int .i64 0, .int .i64 0, .int .i64 0, .int .i64 0, .int .i64 0, .int .i64 0, .int .i64 0, .bool false, .nils, .nils, .nils, .nils, .nils] [(0, 14, .tmp 23)], none⟩, ⟨some 25, .append 14 192 (.tmp 22) (.tmp 24), none⟩, ⟨some 26, .nilck (.tmp 18), none⟩, ⟨some 27, .faddr 52 (.tmp 26), none⟩, ⟨none, .store 1 (.tmp 27) (.tmp 25), none⟩] [6, 7, 10] [0, 0, 2, 6, 14, 0, 32, 126, 255, 511, 1023] [])))
def ac79 : AFun := ⟨3, 28, ab79, []⟩
theorem cf79 : compF Try.prog Try.f79 = some ac79 := by kernel_rfl
theorem cl79 : callable Try.prog 79 = true := by kernel_rfl
theorem fn79 : Try.prog.funcs[79]? = some Try.f79 := by kernel_rfl
/- (*chancel/raft.Core).counts -/
def ab80 : ACode := (.seq (.reg [⟨some 2, .mv (.con (.bool false)), none⟩])
 (.seq (.seq (.reg [⟨some 6, .mv (.tmp 0), none⟩, ⟨some 7, .nilck (.tmp 6), none⟩, ⟨some 8, .faddr 8 (.tmp 7), none⟩, ⟨some 9, .load false 1 (.tmp 8), none⟩, ⟨some 3, .mv (.tmp 9), none⟩])
 (.block 0
 (.loop (.seq (.seq (.reg [⟨some 10, .mv (.tmp 3), none⟩, ⟨some 11, .mv (.tmp 0), none⟩, ⟨some 12, .nilck (.tmp 11), none⟩, ⟨some 13, .faddr 0 (.tmp 12), none⟩, ⟨some 14, .call 13 [.tmp 13], none⟩, ⟨some 15, .bin .leq .plain (.tmp 10) (.tmp 14), none⟩])
 (.cond (.tmp 15)
 .skip
 (.exit 0)))
 (.seq (.block 1
 (.seq (.reg [⟨some 19, .mv (.tmp 0), none⟩, ⟨some 20, .nilck (.tmp 19), none⟩, ⟨some 21, .faddr 0 (.tmp 20), none⟩, ⟨some 22, .mv (.tmp 3), none⟩, ⟨some 23, .call 36 [.tmp 21, .tmp 22], none⟩, ⟨some 18, .mv (.tmp 23), none⟩, ⟨some 24, .ext (.tmp 18) 0, none⟩, ⟨some 25, .ext (.tmp 18) 1, none⟩, ⟨some 4, .mv (.tmp 24), none⟩, ⟨some 5, .mv (.tmp 25), none⟩])
 (.seq (.reg [⟨some 26, .mv (.tmp 4), none⟩, ⟨some 27, .mv (.tmp 0), none⟩, ⟨some 28, .nilck (.tmp 27), none⟩, ⟨some 29, .faddr 5 (.tmp 28), none⟩, ⟨some 30, .load false 1 (.tmp 29), none⟩, ⟨some 31, .call 61 [.tmp 26, .tmp 30], none⟩])
 (.cond (.tmp 31)
 (.seq (.reg [⟨some 2, .mv (.con (.bool true)), none⟩])
 .ret)
 .skip))))
 (.reg [⟨some 16, .mv (.tmp 3), none⟩, ⟨some 17, .bin .add .plain (.tmp 16) (.con (.int .i64 1)), none⟩, ⟨some 3, .mv (.tmp 17), none⟩]))))))
 (.seq (.reg [⟨some 2, .mv (.con (.bool false)), none⟩])
 .ret)))
def ac80 : AFun := ⟨1, 32, ab80, [(.tmp 2)]⟩
theorem cf80 : compF Try.prog Try.f80 = some ac80 := by kernel_rfl
theorem cl80 : callable Try.prog 80 = true := by kernel_rfl
theorem fn80 : Try.prog.funcs[80]? = some Try.f80 := by kernel_rfl
/- (*chancel/raft.Core).win -/
def ab81 : ACode := (.seq (.reg [⟨some 1, .box (.tmp 0), none⟩])
 (.seq (.seq (.reg [⟨some 3, .load false 1 (.tmp 1), none⟩, ⟨some 4, .mkfn 86 [.tmp 1], none⟩, ⟨some 5, .call 68 [.tmp 3, .tmp 4], none⟩, ⟨some 6, .un .not (.tmp 5), none⟩])
 (.cond (.tmp 6)
 .ret
 .skip))
 (.seq (.dreg [⟨some 7, .load false 1 (.tmp 1), none⟩, ⟨some 8, .load false 1 (.tmp 1), none⟩, ⟨some 9, .load false 1 (.tmp 1), none⟩, ⟨some 10, .nilck (.tmp 7), none⟩, ⟨some 11, .faddr 9 (.tmp 10), none⟩, ⟨none, .store 1 (.tmp 11) (.con (.int .i64 2)), none⟩, ⟨some 12, .nilck (.tmp 8), none⟩, ⟨some 13, .faddr 51 (.tmp 12), none⟩, ⟨none, .store 1 (.tmp 13) (.con (.int .i64 0)), none⟩, ⟨some 14, .nilck (.tmp 9), none⟩, ⟨some 15, .faddr 47 (.tmp 14), none⟩, ⟨none, .store 1 (.tmp 15) (.con .nils), none⟩] [5, 8, 11] [0, 0, 0, 1, 9, 25, 59, 123, 251, 511, 1023, 2047] [])
 (.seq (.seq (.reg [⟨some 16, .mv (.con (.int .i64 0)), none⟩])
 (.block 0
 (.loop (.seq (.reg [⟨some 17, .bin .lss .plain (.tmp 16) (.con (.int .i64 7)), none⟩])
 (.seq (.cond (.tmp 17)
 .skip
 (.exit 0))
 (.seq (.block 1
 (.seq (.reg [⟨some 18, .mv (.tmp 16), none⟩, ⟨some 2, .mv (.tmp 18), none⟩])
 (.dreg [⟨some 19, .load false 1 (.tmp 1), none⟩, ⟨some 20, .mv (.tmp 2), none⟩, ⟨some 21, .load false 1 (.tmp 1), none⟩, ⟨some 22, .nilck (.tmp 21), none⟩, ⟨some 23, .faddr 0 (.tmp 22), none⟩, ⟨some 24, .call 13 [.tmp 23], none⟩, ⟨some 25, .bin .add .plain (.tmp 24) (.con (.int .i64 1)), none⟩, ⟨some 26, .build [.int .i64 0, .int .i64 0, .int .i64 0, .bool false, .int .i64 0] [(0, 1, .tmp 25)], none⟩, ⟨some 27, .nilck (.tmp 19), none⟩, ⟨some 28, .faddr 11 (.tmp 27), none⟩, ⟨some 29, .iaddrA 7 5 (.tmp 28) (.tmp 20), none⟩, ⟨none, .store 5 (.tmp 29) (.tmp 26), none⟩] [5, 11] [0, 0, 0, 4, 12, 28, 60, 124, 1, 257, 1023, 2047] [])))
 (.reg [⟨some 30, .bin .add .plain (.tmp 16) (.con (.int .i64 1)), none⟩, ⟨some 16, .mv (.tmp 30), none⟩])))))))
 (.seq (.seq (.reg [⟨some 31, .load false 1 (.tmp 1), none⟩, ⟨some 32, .nilck (.tmp 31), none⟩, ⟨some 33, .faddr 0 (.tmp 32), none⟩, ⟨some 34, .faddr 4 (.tmp 33), none⟩, ⟨some 35, .load false 1 (.tmp 34), none⟩, ⟨some 36, .lenL (.tmp 35), none⟩, ⟨some 37, .bin .lss .plain (.tmp 36) (.con (.int .i64 64)), none⟩])
 (.cond (.tmp 37)
 (.dreg [⟨some 38, .load false 1 (.tmp 1), none⟩, ⟨some 39, .nilck (.tmp 38), none⟩, ⟨some 40, .faddr 0 (.tmp 39), none⟩, ⟨some 41, .load false 1 (.tmp 1), none⟩, ⟨some 42, .nilck (.tmp 41), none⟩, ⟨some 43, .faddr 6 (.tmp 42), none⟩, ⟨some 44, .load false 1 (.tmp 43), none⟩, ⟨some 45, .build [.int .i64 0, .int .i64 0, .nils, .nils] [(0, 1, .tmp 44), (1, 1, .con (.int .i64 0))], none⟩, ⟨some 46, .call 62 [.tmp 40, .tmp 45], none⟩] [8] [0, 1, 3, 0, 8, 24, 56, 120, 255] [])
 .skip))
 (.seq (.reg [⟨some 47, .load false 1 (.tmp 1), none⟩, ⟨some 48, .call 50 [.tmp 47], none⟩])
 (.reg [⟨some 49, .load false 1 (.tmp 1), none⟩, ⟨some 50, .call 63 [.tmp 49], none⟩])))))))
def ac81 : AFun := ⟨1, 51, ab81, []⟩
theorem cf81 : compF Try.prog Try.f81 = some ac81 := by kernel_rfl
theorem cl81 : callable Try.prog 81 = true := by kernel_rfl
theorem fn81 : Try.prog.funcs[81]? = some Try.f81 := by kernel_rfl
/- (*chancel/raft.Core).follow -/
def ab82 : ACode := (.seq (.seq (.reg [⟨some 4, .mv (.tmp 1), none⟩, ⟨some 5, .mv (.tmp 0), none⟩, ⟨some 6, .nilck (.tmp 5), none⟩, ⟨some 7, .faddr 6 (.tmp 6), none⟩, ⟨some 8, .load false 1 (.tmp 7), none⟩, ⟨some 9, .bin .gtr .plain (.tmp 4) (.tmp 8), none⟩])
 (.cond (.tmp 9)
 (.reg [⟨some 10, .mv (.tmp 0), none⟩, ⟨some 11, .mv (.tmp 0), none⟩, ⟨some 12, .mv (.tmp 1), none⟩, ⟨some 13, .nilck (.tmp 10), none⟩, ⟨some 14, .faddr 6 (.tmp 13), none⟩, ⟨none, .store 1 (.tmp 14) (.tmp 12), none⟩, ⟨some 15, .nilck (.tmp 11), none⟩, ⟨some 16, .faddr 7 (.tmp 15), none⟩, ⟨none, .store 1 (.tmp 16) (.con (.int .i64 (-1))), none⟩])
 .skip))
 (.seq (.seq (.reg [⟨some 17, .mv (.tmp 0), none⟩, ⟨some 18, .nilck (.tmp 17), none⟩, ⟨some 19, .faddr 9 (.tmp 18), none⟩, ⟨some 20, .load false 1 (.tmp 19), none⟩, ⟨some 21, .bin .eql .plain (.tmp 20) (.con (.int .i64 2)), none⟩])
 (.cond (.tmp 21)
 (.reg [⟨some 22, .mv (.tmp 0), none⟩, ⟨some 23, .mv (.tmp 0), none⟩, ⟨some 24, .nilck (.tmp 23), none⟩, ⟨some 25, .faddr 50 (.tmp 24), none⟩, ⟨some 26, .load false 1 (.tmp 25), none⟩, ⟨some 27, .call 49 [.tmp 22, .tmp 26], none⟩])
 .skip))
 (.reg [⟨some 28, .mv (.tmp 0), none⟩, ⟨some 29, .mv (.tmp 0), none⟩, ⟨some 30, .nilck (.tmp 28), none⟩, ⟨some 31, .faddr 9 (.tmp 30), none⟩, ⟨none, .store 1 (.tmp 31) (.con (.int .i64 0)), none⟩, ⟨some 32, .nilck (.tmp 29), none⟩, ⟨some 33, .faddr 47 (.tmp 32), none⟩, ⟨none, .store 1 (.tmp 33) (.con .nils), none⟩])))
def ac82 : AFun := ⟨2, 34, ab82, []⟩
theorem cf82 : compF Try.prog Try.f82 = some ac82 := by kernel_rfl
theorem cl82 : callable Try.prog 82 = true := by kernel_rfl
theorem fn82 : Try.prog.funcs[82]? = some Try.f82 := by kernel_rfl
/- (*chancel/raft.Core).vouch -/
def ab83 : ACode := (.seq (.reg [⟨some 3, .box (.tmp 1), none⟩])
 (.seq (.dreg [⟨some 7, .mv (.tmp 0), none⟩, ⟨some 8, .nilck (.tmp 7), none⟩, ⟨some 9, .faddr 0 (.tmp 8), none⟩, ⟨some 10, .mv (.tmp 0), none⟩, ⟨some 11, .nilck (.tmp 10), none⟩, ⟨some 12, .faddr 0 (.tmp 11), none⟩, ⟨some 13, .call 13 [.tmp 12], none⟩, ⟨some 14, .call 39 [.tmp 9, .tmp 13], none⟩, ⟨some 4, .mv (.tmp 14), none⟩] [6, 7] [0, 1, 3, 0, 8, 24, 56, 127, 255] [])
 (.seq (.dreg [⟨some 15, .faddr 5 (.tmp 3), none⟩, ⟨some 16, .load false 1 (.tmp 15), none⟩, ⟨some 17, .mv (.tmp 4), none⟩, ⟨some 18, .bin .gtr .plain (.tmp 16) (.tmp 17), none⟩, ⟨some 19, .mv (.tmp 18), none⟩, ⟨some 20, .faddr 5 (.tmp 3), some (19, false)⟩, ⟨some 21, .load false 1 (.tmp 20), some (19, false)⟩, ⟨some 22, .mv (.tmp 4), some (19, false)⟩, ⟨some 23, .bin .eql .plain (.tmp 21) (.tmp 22), some (19, false)⟩, ⟨some 24, .mv (.tmp 23), some (19, false)⟩, ⟨some 25, .faddr 4 (.tmp 3), some (24, true)⟩, ⟨some 26, .load false 1 (.tmp 25), some (24, true)⟩, ⟨some 27, .mv (.tmp 0), some (24, true)⟩, ⟨some 28, .nilck (.tmp 27), some (24, true)⟩, ⟨some 29, .faddr 0 (.tmp 28), some (24, true)⟩, ⟨some 30, .call 13 [.tmp 29], some (24, true)⟩, ⟨some 31, .bin .geq .plain (.tmp 26) (.tmp 30), some (24, true)⟩, ⟨some 32, .pick (.tmp 24) (.tmp 31) (.con (.bool false)), some (19, false)⟩, ⟨some 33, .pick (.tmp 19) (.con (.bool true)) (.tmp 32), none⟩, ⟨some 5, .mv (.tmp 33), none⟩] [15] [0, 1, 0, 7, 15, 31, 63, 31, 255, 511, 1023, 2047, 1023, 5119, 13311, 29695, 65535, 131071, 262143, 524287] [])
 (.seq (.dreg [⟨some 34, .faddr 3 (.tmp 3), none⟩, ⟨some 35, .load false 1 (.tmp 34), none⟩, ⟨some 36, .mv (.tmp 0), none⟩, ⟨some 37, .nilck (.tmp 36), none⟩, ⟨some 38, .faddr 6 (.tmp 37), none⟩, ⟨some 39, .load false 1 (.tmp 38), none⟩, ⟨some 40, .bin .eql .plain (.tmp 35) (.tmp 39), none⟩, ⟨some 41, .mv (.tmp 40), none⟩, ⟨some 42, .mv (.tmp 0), some (41, true)⟩, ⟨some 43, .nilck (.tmp 42), some (41, true)⟩, ⟨some 44, .faddr 7 (.tmp 43), some (41, true)⟩, ⟨some 45, .load false 1 (.tmp 44), some (41, true)⟩, ⟨some 46, .bin .eql .plain (.tmp 45) (.con (.int .i64 (-1))), some (41, true)⟩, ⟨some 47, .mv (.tmp 46), some (41, true)⟩, ⟨some 48, .mv (.tmp 0), some (47, false)⟩, ⟨some 49, .nilck (.tmp 48), some (47, false)⟩, ⟨some 50, .faddr 7 (.tmp 49), some (47, false)⟩, ⟨some 51, .load false 1 (.tmp 50), some (47, false)⟩, ⟨some 52, .faddr 0 (.tmp 3), some (47, false)⟩, ⟨some 53, .load false 1 (.tmp 52), some (47, false)⟩, ⟨some 54, .bin .eql .plain (.tmp 51) (.tmp 53), some (47, false)⟩, ⟨some 55, .pick (.tmp 47) (.con (.bool true)) (.tmp 54), some (41, true)⟩, ⟨some 56, .pick (.tmp 41) (.tmp 55) (.con (.bool false)), none⟩, ⟨some 57, .mv (.tmp 56), none⟩, ⟨some 58, .mv (.tmp 5), some (57, true)⟩, ⟨some 59, .pick (.tmp 57) (.tmp 58) (.con (.bool false)), none⟩, ⟨some 6, .mv (.tmp 59), none⟩] [] [0, 1, 0, 4, 12, 28, 63, 127, 255, 511, 1023, 2047, 4095, 8191, 16383, 32767, 65535, 131071, 16383, 278527, 1048575, 2097151, 4194303, 8388607, 16777215, 33554431, 67108863] [])
 (.seq (.seq (.reg [⟨some 60, .mv (.tmp 6), none⟩])
 (.cond (.tmp 60)
 (.seq (.reg [⟨some 61, .mv (.tmp 0), none⟩, ⟨some 62, .faddr 0 (.tmp 3), none⟩, ⟨some 63, .load false 1 (.tmp 62), none⟩, ⟨some 64, .nilck (.tmp 61), none⟩, ⟨some 65, .faddr 7 (.tmp 64), none⟩, ⟨none, .store 1 (.tmp 65) (.tmp 63), none⟩])
 (.reg [⟨some 66, .mv (.tmp 0), none⟩, ⟨some 67, .mv (.tmp 0), none⟩, ⟨some 68, .nilck (.tmp 67), none⟩, ⟨some 69, .faddr 50 (.tmp 68), none⟩, ⟨some 70, .load false 1 (.tmp 69), none⟩, ⟨some 71, .call 49 [.tmp 66, .tmp 70], none⟩]))
 .skip))
 (.reg [⟨some 72, .mv (.tmp 0), none⟩, ⟨some 73, .faddr 0 (.tmp 3), none⟩, ⟨some 74, .load false 1 (.tmp 73), none⟩, ⟨some 75, .mv (.tmp 6), none⟩, ⟨some 76, .build [.int .i64 0, .int .i64 0, .int .i64 0, .int .i64 0, .int .i64 0, .int .i64 0, .int .i64 0, .int .i64 0, .bool false, .nils, .nils, .nils, .nils, .nils] [(2, 1, .con (.int .i64 2)), (8, 1, .tmp 75)], none⟩, ⟨some 77, .call 79 [.tmp 72, .tmp 74, .tmp 76], none⟩]))))))
def ac83 : AFun := ⟨2, 78, ab83, []⟩
theorem cf83 : compF Try.prog Try.f83 = some ac83 := by kernel_rfl
theorem cl83 : callable Try.prog 83 = true := by kernel_rfl
theorem fn83 : Try.prog.funcs[83]? = some Try.f83 := by kernel_rfl
/- (*chancel/raft.Core).take -/
def ab84 : ACode := (.seq (.reg [⟨some 3, .box (.tmp 1), none⟩])
 (.seq (.seq (.dreg [⟨some 6, .faddr 3 (.tmp 3), none⟩, ⟨some 7, .load false 1 (.tmp 6), none⟩, ⟨some 8, .mv (.tmp 0), none⟩, ⟨some 9, .nilck (.tmp 8), none⟩, ⟨some 10, .faddr 6 (.tmp 9), none⟩, ⟨some 11, .load false 1 (.tmp 10), none⟩, ⟨some 12, .bin .lss .plain (.tmp 7) (.tmp 11), none⟩] [] [0, 1, 0, 4, 12, 28, 63] [])
 (.cond (.tmp 12)
 (.seq (.dreg [⟨some 13, .mv (.tmp 0), none⟩, ⟨some 14, .faddr 0 (.tmp 3), none⟩, ⟨some 15, .load false 1 (.tmp 14), none⟩, ⟨some 16, .mv (.tmp 0), none⟩, ⟨some 17, .nilck (.tmp 16), none⟩, ⟨some 18, .faddr 0 (.tmp 17), none⟩, ⟨some 19, .call 13 [.tmp 18], none⟩, ⟨some 20, .build [.int .i64 0, .int .i64 0, .int .i64 0, .int .i64 0, .int .i64 0, .int .i64 0, .int .i64 0, .int .i64 0, .bool false, .nils, .nils, .nils, .nils, .nils] [(2, 1, .con (.int .i64 4)), (4, 1, .tmp 19)], none⟩, ⟨some 21, .call 79 [.tmp 13, .tmp 15, .tmp 20], none⟩] [6, 8] [0, 0, 2, 0, 8, 24, 56, 120, 255] [])
 .ret)
 .skip))
 (.seq (.reg [⟨some 22, .mv (.tmp 0), none⟩, ⟨some 23, .nilck (.tmp 22), none⟩, ⟨some 24, .faddr 9 (.tmp 23), none⟩, ⟨none, .store 1 (.tmp 24) (.con (.int .i64 0)), none⟩])
 (.seq (.reg [⟨some 25, .mv (.tmp 0), none⟩, ⟨some 26, .mv (.tmp 0), none⟩, ⟨some 27, .nilck (.tmp 26), none⟩, ⟨some 28, .faddr 50 (.tmp 27), none⟩, ⟨some 29, .load false 1 (.tmp 28), none⟩, ⟨some 30, .call 49 [.tmp 25, .tmp 29], none⟩])
 (.seq (.reg [⟨some 4, .mv (.con (.int .i64 0)), none⟩, ⟨some 5, .mv (.con (.bool true)), none⟩])
 (.seq (.seq (.reg [⟨some 31, .faddr 2 (.tmp 3), none⟩, ⟨some 32, .load false 1 (.tmp 31), none⟩, ⟨some 33, .bin .eql .plain (.tmp 32) (.con (.int .i64 5)), none⟩])
 (.cond (.tmp 33)
 (.reg [⟨some 34, .mv (.tmp 0), none⟩, ⟨some 35, .load true 14 (.tmp 3), none⟩, ⟨some 36, .call 87 [.tmp 34, .tmp 35], none⟩, ⟨some 4, .mv (.tmp 36), none⟩])
 (.reg [⟨some 38, .mv (.tmp 0), none⟩, ⟨some 39, .load true 14 (.tmp 3), none⟩, ⟨some 40, .call 88 [.tmp 38, .tmp 39], none⟩, ⟨some 37, .mv (.tmp 40), none⟩, ⟨some 41, .ext (.tmp 37) 0, none⟩, ⟨some 42, .ext (.tmp 37) 1, none⟩, ⟨some 4, .mv (.tmp 41), none⟩, ⟨some 5, .mv (.tmp 42), none⟩])))
 (.seq (.seq (.reg [⟨some 43, .mv (.tmp 5), none⟩])
 (.cond (.tmp 43)
 (.dreg [⟨some 44, .mv (.tmp 0), none⟩, ⟨some 45, .mv (.tmp 0), none⟩, ⟨some 46, .nilck (.tmp 45), none⟩, ⟨some 47, .faddr 8 (.tmp 46), none⟩, ⟨some 48, .load false 1 (.tmp 47), none⟩, ⟨some 49, .faddr 6 (.tmp 3), none⟩, ⟨some 50, .load false 1 (.tmp 49), none⟩, ⟨some 51, .mv (.tmp 4), none⟩, ⟨some 52, .mn [.tmp 50, .tmp 51], none⟩, ⟨some 53, .mx [.tmp 48, .tmp 52], none⟩, ⟨some 54, .nilck (.tmp 44), none⟩, ⟨some 55, .faddr 8 (.tmp 54), none⟩, ⟨none, .store 1 (.tmp 55) (.tmp 53), none⟩] [12] [0, 0, 2, 6, 14, 0, 32, 0, 224, 510, 1023, 2047, 4095] [])
 .skip))
 (.reg [⟨some 56, .mv (.tmp 0), none⟩, ⟨some 57, .faddr 0 (.tmp 3), none⟩, ⟨some 58, .load false 1 (.tmp 57), none⟩, ⟨some 59, .mv (.tmp 5), none⟩, ⟨some 60, .mv (.tmp 4), none⟩, ⟨some 61, .faddr 7 (.tmp 3), none⟩, ⟨some 62, .load false 1 (.tmp 61), none⟩, ⟨some 63, .build [.int .i64 0, .int .i64 0, .int .i64 0, .int .i64 0, .int .i64 0, .int .i64 0, .int .i64 0, .int .i64 0, .bool false, .nils, .nils, .nils, .nils, .nils] [(2, 1, .con (.int .i64 4)), (8, 1, .tmp 59), (4, 1, .tmp 60), (7, 1, .tmp 62)], none⟩, ⟨some 64, .call 79 [.tmp 56, .tmp 58, .tmp 63], none⟩]))))))))
def ac84 : AFun := ⟨2, 65, ab84, []⟩
theorem cf84 : compF Try.prog Try.f84 = some ac84 := by kernel_rfl
theorem cl84 : callable Try.prog 84 = true := by kernel_rfl
theorem fn84 : Try.prog.funcs[84]? = some Try.f84 := by kernel_rfl
/- (*chancel/raft.Core).hear -/
def ab85 : ACode := (.seq (.reg [⟨some 3, .box (.tmp 1), none⟩])
 (.seq (.dreg [⟨some 6, .mv (.tmp 0), none⟩, ⟨some 7, .faddr 0 (.tmp 3), none⟩, ⟨some 8, .load false 1 (.tmp 7), none⟩, ⟨some 9, .nilck (.tmp 6), none⟩, ⟨some 10, .faddr 11 (.tmp 9), none⟩, ⟨some 11, .iaddrA 7 5 (.tmp 10) (.tmp 8), none⟩, ⟨some 4, .mv (.tmp 11), none⟩] [] [0, 0, 2, 1, 9, 31, 63] [])
 (.seq (.reg [⟨some 12, .mv (.tmp 4), none⟩, ⟨some 13, .mv (.tmp 4), none⟩, ⟨some 14, .nilck (.tmp 12), none⟩, ⟨some 15, .faddr 3 (.tmp 14), none⟩, ⟨none, .store 1 (.tmp 15) (.con (.bool true)), none⟩, ⟨some 16, .nilck (.tmp 13), none⟩, ⟨some 17, .faddr 2 (.tmp 16), none⟩, ⟨none, .store 1 (.tmp 17) (.con (.int .i64 0)), none⟩])
 (.seq (.dreg [⟨some 18, .mv (.tmp 4), none⟩, ⟨some 19, .mv (.tmp 4), none⟩, ⟨some 20, .nilck (.tmp 19), none⟩, ⟨some 21, .faddr 4 (.tmp 20), none⟩, ⟨some 22, .load false 1 (.tmp 21), none⟩, ⟨some 23, .faddr 7 (.tmp 3), none⟩, ⟨some 24, .load false 1 (.tmp 23), none⟩, ⟨some 25, .mx [.tmp 22, .tmp 24], none⟩, ⟨some 26, .nilck (.tmp 18), none⟩, ⟨some 27, .faddr 4 (.tmp 26), none⟩, ⟨none, .store 1 (.tmp 27) (.tmp 25), none⟩] [10] [0, 0, 2, 6, 14, 0, 32, 126, 255, 511, 1023] [])
 (.seq (.seq (.reg [⟨some 28, .faddr 8 (.tmp 3), none⟩, ⟨some 29, .load false 1 (.tmp 28), none⟩, ⟨some 30, .un .not (.tmp 29), none⟩])
 (.cond (.tmp 30)
 (.seq (.dreg [⟨some 31, .mv (.tmp 4), none⟩, ⟨some 32, .mv (.tmp 4), none⟩, ⟨some 33, .nilck (.tmp 32), none⟩, ⟨some 34, .faddr 0 (.tmp 33), none⟩, ⟨some 35, .load false 1 (.tmp 34), none⟩, ⟨some 36, .bin .sub .plain (.tmp 35) (.con (.int .i64 1)), none⟩, ⟨some 37, .faddr 4 (.tmp 3), none⟩, ⟨some 38, .load false 1 (.tmp 37), none⟩, ⟨some 39, .bin .add .plain (.tmp 38) (.con (.int .i64 1)), none⟩, ⟨some 40, .mn [.tmp 36, .tmp 39], none⟩, ⟨some 41, .mx [.con (.int .i64 1), .tmp 40], none⟩, ⟨some 42, .nilck (.tmp 31), none⟩, ⟨some 43, .faddr 0 (.tmp 42), none⟩, ⟨none, .store 1 (.tmp 43) (.tmp 41), none⟩] [13] [0, 0, 2, 6, 14, 30, 0, 64, 192, 510, 1022, 2047, 4095, 8191] [])
 (.seq (.reg [⟨some 44, .mv (.tmp 0), none⟩, ⟨some 45, .faddr 0 (.tmp 3), none⟩, ⟨some 46, .load false 1 (.tmp 45), none⟩, ⟨some 47, .call 67 [.tmp 44, .tmp 46], none⟩])
 (.seq (.reg [⟨some 48, .mv (.tmp 0), none⟩, ⟨some 49, .call 51 [.tmp 48], none⟩])
 .ret)))
 .skip))
 (.seq (.reg [⟨some 50, .mv (.tmp 4), none⟩, ⟨some 51, .nilck (.tmp 50), none⟩, ⟨some 52, .faddr 1 (.tmp 51), none⟩, ⟨some 53, .load false 1 (.tmp 52), none⟩, ⟨some 5, .mv (.tmp 53), none⟩])
 (.seq (.dreg [⟨some 54, .mv (.tmp 4), none⟩, ⟨some 55, .mv (.tmp 4), none⟩, ⟨some 56, .nilck (.tmp 55), none⟩, ⟨some 57, .faddr 1 (.tmp 56), none⟩, ⟨some 58, .load false 1 (.tmp 57), none⟩, ⟨some 59, .faddr 4 (.tmp 3), none⟩, ⟨some 60, .load false 1 (.tmp 59), none⟩, ⟨some 61, .mv (.tmp 0), none⟩, ⟨some 62, .nilck (.tmp 61), none⟩, ⟨some 63, .faddr 0 (.tmp 62), none⟩, ⟨some 64, .call 13 [.tmp 63], none⟩, ⟨some 65, .mn [.tmp 60, .tmp 64], none⟩, ⟨some 66, .mx [.tmp 58, .tmp 65], none⟩, ⟨some 67, .nilck (.tmp 54), none⟩, ⟨some 68, .faddr 1 (.tmp 67), none⟩, ⟨none, .store 1 (.tmp 68) (.tmp 66), none⟩] [10, 15] [0, 0, 2, 6, 14, 0, 32, 0, 128, 384, 896, 2016, 4094, 8191, 16383, 32767] [])
 (.seq (.reg [⟨some 69, .mv (.tmp 4), none⟩, ⟨some 70, .mv (.tmp 4), none⟩, ⟨some 71, .nilck (.tmp 70), none⟩, ⟨some 72, .faddr 1 (.tmp 71), none⟩, ⟨some 73, .load false 1 (.tmp 72), none⟩, ⟨some 74, .bin .add .plain (.tmp 73) (.con (.int .i64 1)), none⟩, ⟨some 75, .nilck (.tmp 69), none⟩, ⟨some 76, .faddr 0 (.tmp 75), none⟩, ⟨none, .store 1 (.tmp 76) (.tmp 74), none⟩])
 (.seq (.reg [⟨some 77, .mv (.tmp 0), none⟩, ⟨some 78, .call 63 [.tmp 77], none⟩])
 (.seq (.reg [⟨some 79, .mv (.tmp 0), none⟩, ⟨some 80, .call 51 [.tmp 79], none⟩])
 (.seq (.dreg [⟨some 81, .mv (.tmp 0), none⟩, ⟨some 82, .nilck (.tmp 81), none⟩, ⟨some 83, .faddr 9 (.tmp 82), none⟩, ⟨some 84, .load false 1 (.tmp 83), none⟩, ⟨some 85, .bin .eql .plain (.tmp 84) (.con (.int .i64 2)), none⟩, ⟨some 86, .mv (.tmp 85), none⟩, ⟨some 87, .mv (.tmp 4), some (86, true)⟩, ⟨some 88, .nilck (.tmp 87), some (86, true)⟩, ⟨some 89, .faddr 1 (.tmp 88), some (86, true)⟩, ⟨some 90, .load false 1 (.tmp 89), some (86, true)⟩, ⟨some 91, .mv (.tmp 5), some (86, true)⟩, ⟨some 92, .bin .gtr .plain (.tmp 90) (.tmp 91), some (86, true)⟩, ⟨some 93, .pick (.tmp 86) (.tmp 92) (.con (.bool false)), none⟩, ⟨some 94, .mv (.tmp 93), none⟩, ⟨some 95, .mv (.tmp 4), some (94, true)⟩, ⟨some 96, .nilck (.tmp 95), some (94, true)⟩, ⟨some 97, .faddr 0 (.tmp 96), some (94, true)⟩, ⟨some 98, .load false 1 (.tmp 97), some (94, true)⟩, ⟨some 99, .mv (.tmp 0), some (94, true)⟩, ⟨some 100, .nilck (.tmp 99), some (94, true)⟩, ⟨some 101, .faddr 0 (.tmp 100), some (94, true)⟩, ⟨some 102, .call 13 [.tmp 101], some (94, true)⟩, ⟨some 103, .bin .leq .plain (.tmp 98) (.tmp 102), some (94, true)⟩, ⟨some 104, .pick (.tmp 94) (.tmp 103) (.con (.bool false)), none⟩] [21] [0, 1, 3, 7, 15, 31, 63, 127, 255, 511, 63, 2047, 4095, 8191, 16383, 32767, 65535, 131071, 16383, 278527, 802815, 1851391, 4194303, 8388607] [])
 (.cond (.tmp 104)
 (.reg [⟨some 105, .mv (.tmp 0), none⟩, ⟨some 106, .faddr 0 (.tmp 3), none⟩, ⟨some 107, .load false 1 (.tmp 106), none⟩, ⟨some 108, .call 67 [.tmp 105, .tmp 107], none⟩])
 .skip))))))))))))
def ac85 : AFun := ⟨2, 109, ab85, []⟩
theorem cf85 : compF Try.prog Try.f85 = some ac85 := by kernel_rfl
theorem cl85 : callable Try.prog 85 = true := by kernel_rfl
theorem fn85 : Try.prog.funcs[85]? = some Try.f85 := by kernel_rfl
/- (*chancel/raft.Core).win$1 -/
def ab86 : ACode := (.seq (.reg [⟨some 3, .mv (.con (.bool false)), none⟩])
 (.seq (.reg [⟨some 4, .load false 1 (.tmp 1), none⟩, ⟨some 5, .nilck (.tmp 4), none⟩, ⟨some 6, .faddr 10 (.tmp 5), none⟩, ⟨some 7, .load false 1 (.tmp 6), none⟩, ⟨some 8, .mv (.tmp 0), none⟩, ⟨some 9, .call 61 [.tmp 7, .tmp 8], none⟩, ⟨some 3, .mv (.tmp 9), none⟩])
 .ret))
def ac86 : AFun := ⟨2, 10, ab86, [(.tmp 3)]⟩
theorem cf86 : compF Try.prog Try.f86 = some ac86 := by kernel_rfl
theorem cl86 : callable Try.prog 86 = true := by kernel_rfl
theorem fn86 : Try.prog.funcs[86]? = some Try.f86 := by kernel_rfl
/- (*chancel/raft.Core).put -/
def ab88 : ACode := (.seq (.reg [⟨some 3, .box (.tmp 1), none⟩, ⟨some 4, .mv (.con (.int .i64 0)), none⟩, ⟨some 5, .mv (.con (.bool false)), none⟩])
 (.seq (.reg [⟨some 10, .faddr 11 (.tmp 3), none⟩, ⟨some 11, .load false 1 (.tmp 10), none⟩, ⟨some 12, .lenL (.tmp 11), none⟩, ⟨some 13, .faddr 9 (.tmp 3), none⟩, ⟨some 14, .load false 1 (.tmp 13), none⟩, ⟨some 15, .lenL (.tmp 14), none⟩, ⟨some 16, .faddr 10 (.tmp 3), none⟩, ⟨some 17, .load false 1 (.tmp 16), none⟩, ⟨some 18, .lenL (.tmp 17), none⟩, ⟨some 19, .mn [.tmp 12, .tmp 15, .tmp 18], none⟩, ⟨some 6, .mv (.tmp 19), none⟩])
 (.seq (.block 0
 (.seq (.dreg [⟨some 21, .faddr 4 (.tmp 3), none⟩, ⟨some 22, .load false 1 (.tmp 21), none⟩, ⟨some 23, .mv (.tmp 0), none⟩, ⟨some 24, .nilck (.tmp 23), none⟩, ⟨some 25, .faddr 0 (.tmp 24), none⟩, ⟨some 26, .call 13 [.tmp 25], none⟩, ⟨some 27, .bin .gtr .plain (.tmp 22) (.tmp 26), none⟩, ⟨some 20, .mv (.tmp 27), none⟩] [5] [0, 1, 0, 4, 12, 28, 63, 127] [])
 (.cond (.tmp 20)
 (.seq (.reg [⟨some 28, .mv (.tmp 0), none⟩, ⟨some 29, .nilck (.tmp 28), none⟩, ⟨some 30, .faddr 0 (.tmp 29), none⟩, ⟨some 31, .call 13 [.tmp 30], none⟩, ⟨some 4, .mv (.tmp 31), none⟩, ⟨some 5, .mv (.con (.bool false)), none⟩])
 .ret)
 (.seq (.dreg [⟨some 33, .faddr 4 (.tmp 3), none⟩, ⟨some 34, .load false 1 (.tmp 33), none⟩, ⟨some 35, .mv (.tmp 0), none⟩, ⟨some 36, .nilck (.tmp 35), none⟩, ⟨some 37, .faddr 8 (.tmp 36), none⟩, ⟨some 38, .load false 1 (.tmp 37), none⟩, ⟨some 39, .bin .gtr .plain (.tmp 34) (.tmp 38), none⟩, ⟨some 40, .mv (.tmp 39), none⟩, ⟨some 41, .mv (.tmp 0), some (40, true)⟩, ⟨some 42, .nilck (.tmp 41), some (40, true)⟩, ⟨some 43, .faddr 0 (.tmp 42), some (40, true)⟩, ⟨some 44, .faddr 4 (.tmp 3), some (40, true)⟩, ⟨some 45, .load false 1 (.tmp 44), some (40, true)⟩, ⟨some 46, .call 39 [.tmp 43, .tmp 45], some (40, true)⟩, ⟨some 47, .faddr 5 (.tmp 3), some (40, true)⟩, ⟨some 48, .load false 1 (.tmp 47), some (40, true)⟩, ⟨some 49, .bin .neq .plain (.tmp 46) (.tmp 48), some (40, true)⟩, ⟨some 50, .pick (.tmp 40) (.tmp 49) (.con (.bool false)), none⟩, ⟨some 32, .mv (.tmp 50), none⟩] [13] [0, 1, 0, 4, 12, 28, 63, 127, 255, 511, 1023, 255, 2303, 8191, 255, 16639, 65535, 131071, 262143] [])
 (.cond (.tmp 32)
 (.seq (.reg [⟨some 51, .faddr 4 (.tmp 3), none⟩, ⟨some 52, .load false 1 (.tmp 51), none⟩, ⟨some 53, .bin .sub .plain (.tmp 52) (.con (.int .i64 1)), none⟩, ⟨some 4, .mv (.tmp 53), none⟩, ⟨some 5, .mv (.con (.bool false)), none⟩])
 .ret)
 .skip)))))
 (.seq (.seq (.reg [⟨some 54, .mv (.tmp 6), none⟩, ⟨some 55, .mv (.con (.int .i64 0)), none⟩])
 (.block 1
 (.loop (.seq (.reg [⟨some 56, .bin .lss .plain (.tmp 55) (.tmp 54), none⟩])
 (.seq (.cond (.tmp 56)
 .skip
 (.exit 1))
 (.seq (.block 2
 (.seq (.reg [⟨some 57, .mv (.tmp 55), none⟩, ⟨some 7, .mv (.tmp 57), none⟩])
 (.seq (.reg [⟨some 58, .faddr 4 (.tmp 3), none⟩, ⟨some 59, .load false 1 (.tmp 58), none⟩, ⟨some 60, .bin .add .plain (.tmp 59) (.con (.int .i64 1)), none⟩, ⟨some 61, .mv (.tmp 7), none⟩, ⟨some 62, .bin .add .plain (.tmp 60) (.tmp 61), none⟩, ⟨some 8, .mv (.tmp 62), none⟩])
 (.seq (.seq (.dreg [⟨some 63, .mv (.tmp 8), none⟩, ⟨some 64, .mv (.tmp 0), none⟩, ⟨some 65, .nilck (.tmp 64), none⟩, ⟨some 66, .faddr 8 (.tmp 65), none⟩, ⟨some 67, .load false 1 (.tmp 66), none⟩, ⟨some 68, .bin .leq .plain (.tmp 63) (.tmp 67), none⟩, ⟨some 69, .mv (.tmp 68), none⟩, ⟨some 70, .mv (.tmp 0), some (69, false)⟩, ⟨some 71, .nilck (.tmp 70), some (69, false)⟩, ⟨some 72, .faddr 0 (.tmp 71), some (69, false)⟩, ⟨some 73, .mv (.tmp 8), some (69, false)⟩, ⟨some 74, .call 32 [.tmp 72, .tmp 73], some (69, false)⟩, ⟨some 75, .mv (.tmp 74), some (69, false)⟩, ⟨some 76, .mv (.tmp 0), some (75, true)⟩, ⟨some 77, .nilck (.tmp 76), some (75, true)⟩, ⟨some 78, .faddr 0 (.tmp 77), some (75, true)⟩, ⟨some 79, .mv (.tmp 8), some (75, true)⟩, ⟨some 80, .call 39 [.tmp 78, .tmp 79], some (75, true)⟩, ⟨some 81, .faddr 9 (.tmp 3), some (75, true)⟩, ⟨some 82, .load false 1 (.tmp 81), some (75, true)⟩, ⟨some 83, .mv (.tmp 7), some (75, true)⟩, ⟨some 84, .iaddr 1 (.tmp 82) (.tmp 83), some (75, true)⟩, ⟨some 85, .load false 1 (.tmp 84), some (75, true)⟩, ⟨some 86, .bin .eql .plain (.tmp 80) (.tmp 85), some (75, true)⟩, ⟨some 87, .pick (.tmp 75) (.tmp 86) (.con (.bool false)), some (69, false)⟩, ⟨some 88, .pick (.tmp 69) (.con (.bool true)) (.tmp 87), none⟩] [11, 17] [0, 0, 2, 6, 14, 31, 63, 127, 255, 511, 127, 2047, 4095, 8191, 16383, 32767, 8191, 131071, 8191, 270335, 8191, 1843199, 3940351, 8388607, 16777215, 33554431] [])
 (.cond (.tmp 88)
 (.exit 2)
 .skip))
 (.seq (.dreg [⟨some 89, .faddr 9 (.tmp 3), none⟩, ⟨some 90, .load false 1 (.tmp 89), none⟩, ⟨some 91, .mv (.tmp 7), none⟩, ⟨some 92, .iaddr 1 (.tmp 90) (.tmp 91), none⟩, ⟨some 93, .load false 1 (.tmp 92), none⟩, ⟨some 94, .faddr 10 (.tmp 3), none⟩, ⟨some 95, .load false 1 (.tmp 94), none⟩, ⟨some 96, .mv (.tmp 7), none⟩, ⟨some 97, .iaddr 1 (.tmp 95) (.tmp 96), none⟩, ⟨some 98, .load false 1 (.tmp 97), none⟩, ⟨some 99, .faddr 11 (.tmp 3), none⟩, ⟨some 100, .load false 1 (.tmp 99), none⟩, ⟨some 101, .mv (.tmp 7), none⟩, ⟨some 102, .iaddr 1 (.tmp 100) (.tmp 101), none⟩, ⟨some 103, .load false 1 (.tmp 102), none⟩, ⟨some 104, .build [.int .i64 0, .int .i64 0, .nils, .nils] [(0, 1, .tmp 93), (1, 1, .tmp 98), (2, 1, .tmp 103)], none⟩, ⟨some 9, .alloc [.int .i64 0, .int .i64 0, .nils, .nils], none⟩, ⟨none, .store 4 (.tmp 9) (.tmp 104), none⟩] [16, 17] [0, 1, 0, 7, 15, 0, 32, 0, 224, 480, 0, 1024, 0, 7168, 15360, 32767, 0, 131071] [])
 (.seq (.seq (.reg [⟨some 105, .faddr 1 (.tmp 9), none⟩, ⟨some 106, .load false 1 (.tmp 105), none⟩, ⟨some 107, .bin .eql .plain (.tmp 106) (.con (.int .i64 2)), none⟩])
 (.cond (.tmp 107)
 (.seq (.reg [⟨some 108, .faddr 11 (.tmp 3), none⟩, ⟨some 109, .load false 1 (.tmp 108), none⟩, ⟨some 110, .mv (.tmp 7), none⟩, ⟨some 111, .iaddr 1 (.tmp 109) (.tmp 110), none⟩, ⟨some 112, .load false 1 (.tmp 111), none⟩, ⟨some 113, .call 74 [.tmp 112], none⟩, ⟨some 114, .faddr 3 (.tmp 9), none⟩, ⟨none, .store 1 (.tmp 114) (.tmp 113), none⟩, ⟨some 115, .faddr 2 (.tmp 9), none⟩, ⟨none, .store 1 (.tmp 115) (.con .nils), none⟩])
 (.seq (.reg [⟨some 116, .faddr 3 (.tmp 9), none⟩, ⟨some 117, .load false 1 (.tmp 116), none⟩, ⟨some 118, .call 37 [.tmp 117], none⟩, ⟨some 119, .un .not (.tmp 118), none⟩])
 (.cond (.tmp 119)
 (.seq (.reg [⟨some 120, .mv (.tmp 8), none⟩, ⟨some 121, .bin .sub .plain (.tmp 120) (.con (.int .i64 1)), none⟩, ⟨some 4, .mv (.tmp 121), none⟩, ⟨some 5, .mv (.con (.bool true)), none⟩])
 .ret)
 .skip)))
 .skip))
 (.seq (.seq (.reg [⟨some 122, .mv (.tmp 0), none⟩, ⟨some 123, .nilck (.tmp 122), none⟩, ⟨some 124, .faddr 0 (.tmp 123), none⟩, ⟨some 125, .mv (.tmp 8), none⟩, ⟨some 126, .call 32 [.tmp 124, .tmp 125], none⟩])
 (.cond (.tmp 126)
 (.reg [⟨some 127, .mv (.tmp 0), none⟩, ⟨some 128, .nilck (.tmp 127), none⟩, ⟨some 129, .faddr 0 (.tmp 128), none⟩, ⟨some 130, .mv (.tmp 8), none⟩, ⟨some 131, .call 90 [.tmp 129, .tmp 130], none⟩])
 .skip))
 (.seq (.seq (.reg [⟨some 132, .mv (.tmp 0), none⟩, ⟨some 133, .nilck (.tmp 132), none⟩, ⟨some 134, .faddr 0 (.tmp 133), none⟩, ⟨some 135, .faddr 4 (.tmp 134), none⟩, ⟨some 136, .load false 1 (.tmp 135), none⟩, ⟨some 137, .lenL (.tmp 136), none⟩, ⟨some 138, .bin .geq .plain (.tmp 137) (.con (.int .i64 64)), none⟩])
 (.cond (.tmp 138)
 (.seq (.reg [⟨some 139, .mv (.tmp 8), none⟩, ⟨some 140, .bin .sub .plain (.tmp 139) (.con (.int .i64 1)), none⟩, ⟨some 4, .mv (.tmp 140), none⟩, ⟨some 5, .mv (.con (.bool true)), none⟩])
 .ret)
 .skip))
 (.dreg [⟨some 141, .mv (.tmp 0), none⟩, ⟨some 142, .nilck (.tmp 141), none⟩, ⟨some 143, .faddr 0 (.tmp 142), none⟩, ⟨some 144, .load true 4 (.tmp 9), none⟩, ⟨some 145, .call 62 [.tmp 143, .tmp 144], none⟩] [4] [0, 1, 3, 0, 15] [])))))))))
 (.reg [⟨some 146, .bin .add .plain (.tmp 55) (.con (.int .i64 1)), none⟩, ⟨some 55, .mv (.tmp 146), none⟩])))))))
 (.seq (.dreg [⟨some 147, .faddr 4 (.tmp 3), none⟩, ⟨some 148, .load false 1 (.tmp 147), none⟩, ⟨some 149, .mv (.tmp 6), none⟩, ⟨some 150, .bin .add .plain (.tmp 148) (.tmp 149), none⟩, ⟨some 151, .mv (.tmp 0), none⟩, ⟨some 152, .nilck (.tmp 151), none⟩, ⟨some 153, .faddr 8 (.tmp 152), none⟩, ⟨some 154, .load false 1 (.tmp 153), none⟩, ⟨some 155, .mx [.tmp 150, .tmp 154], none⟩, ⟨some 4, .mv (.tmp 155), none⟩, ⟨some 5, .mv (.con (.bool true)), none⟩] [] [0, 1, 0, 7, 0, 16, 48, 112, 255, 511, 1023] [])
 .ret)))))
def ac88 : AFun := ⟨2, 156, ab88, [(.tmp 4), (.tmp 5)]⟩
theorem cf88 : compF Try.prog Try.f88 = some ac88 := by kernel_rfl
theorem cl88 : callable Try.prog 88 = true := by kernel_rfl
theorem fn88 : Try.prog.funcs[88]? = some Try.f88 := by kernel_rfl
end Go.Proofs.Ythojhpjjkfjeiaa.Va
