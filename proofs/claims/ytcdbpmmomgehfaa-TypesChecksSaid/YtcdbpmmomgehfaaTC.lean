/- Functions of the program as resolved code (printed by gen.py from the kernel's own value). Conditions: none. -/
import Derived.Test.YtcdbpmmomgehfaaProg
import Derived.Test.YtcdbpmmomgehfaaVaF
import Derived.KernelRfl
set_option maxRecDepth 100000
set_option maxHeartbeats 4000000
set_option linter.all false
namespace Go.Proofs.Ytcdbpmmomgehfaa.Va
open Go.Proofs
/- chancel/chancellaw11.TypesChecks -/
def ab9 : ACode := (.seq (.reg [⟨some 14, .mv (.con (.bool false)), none⟩])
 (.seq (.seq (.reg [⟨some 22, .call 11 [], none⟩, ⟨some 23, .un .not (.tmp 22), none⟩])
 (.cond (.tmp 23)
 (.seq (.reg [⟨some 14, .mv (.con (.bool false)), none⟩])
 .ret)
 .skip))
 (.seq (.seq (.reg [⟨some 24, .mv (.tmp 5), none⟩, ⟨some 25, .lenL (.tmp 24), none⟩, ⟨some 26, .bin .gtr .plain (.tmp 25) (.con (.int .i64 4)), none⟩, ⟨some 27, .mv (.tmp 26), none⟩, ⟨some 28, .mv (.tmp 6), some (27, false)⟩, ⟨some 29, .lenL (.tmp 28), some (27, false)⟩, ⟨some 30, .bin .gtr .plain (.tmp 29) (.con (.int .i64 4)), some (27, false)⟩, ⟨some 31, .pick (.tmp 27) (.con (.bool true)) (.tmp 30), none⟩])
 (.cond (.tmp 31)
 (.seq (.reg [⟨some 14, .mv (.con (.bool true)), none⟩])
 .ret)
 .skip))
 (.seq (.seq (.reg [⟨some 15, .mv (.con (.int .i64 0)), none⟩])
 (.block 0
 (.loop (.seq (.seq (.reg [⟨some 32, .mv (.tmp 15), none⟩, ⟨some 33, .mv (.tmp 5), none⟩, ⟨some 34, .lenL (.tmp 33), none⟩, ⟨some 35, .bin .lss .plain (.tmp 32) (.tmp 34), none⟩])
 (.cond (.tmp 35)
 .skip
 (.exit 0)))
 (.seq (.block 1
 (.seq (.reg [⟨some 38, .mv (.tmp 5), none⟩, ⟨some 39, .mv (.tmp 15), none⟩, ⟨some 40, .iaddr 4 (.tmp 38) (.tmp 39), none⟩, ⟨some 41, .load true 4 (.tmp 40), none⟩, ⟨some 42, .call 12 [.tmp 41, .con (.int .i64 60)], none⟩, ⟨some 43, .bin .eql .plain (.tmp 42) (.con (.int .i64 0)), none⟩])
 (.cond (.tmp 43)
 (.seq (.reg [⟨some 14, .mv (.con (.bool true)), none⟩])
 .ret)
 .skip)))
 (.reg [⟨some 36, .mv (.tmp 15), none⟩, ⟨some 37, .bin .add .plain (.tmp 36) (.con (.int .i64 1)), none⟩, ⟨some 15, .mv (.tmp 37), none⟩]))))))
 (.seq (.reg [⟨some 44, .mv (.tmp 0), none⟩, ⟨some 45, .mv (.tmp 1), none⟩, ⟨some 46, .call 13 [.tmp 44, .tmp 45], none⟩, ⟨some 16, .alloc [.nils, .nils], none⟩, ⟨none, .store 2 (.tmp 16) (.tmp 46), none⟩])
 (.seq (.reg [⟨some 47, .mv (.tmp 2), none⟩, ⟨some 48, .mv (.tmp 3), none⟩, ⟨some 49, .mv (.tmp 4), none⟩, ⟨some 50, .mv (.tmp 5), none⟩, ⟨some 51, .call 24 [.tmp 47, .tmp 48, .tmp 49, .tmp 50], none⟩, ⟨some 17, .alloc [.bool false, .int .i64 0, .str [], .str [], .int .i64 0, .str [], .str [], .int .i64 0, .str [], .str [], .nils], none⟩, ⟨none, .store 11 (.tmp 17) (.tmp 51), none⟩])
 (.seq (.seq (.reg [⟨some 18, .mv (.con (.int .i64 0)), none⟩])
 (.block 2
 (.loop (.seq (.seq (.reg [⟨some 52, .mv (.tmp 18), none⟩, ⟨some 53, .bin .lss .plain (.tmp 52) (.con (.int .i64 2)), none⟩])
 (.cond (.tmp 53)
 .skip
 (.exit 2)))
 (.seq (.block 3
 (.seq (.dreg [⟨some 56, .load true 2 (.tmp 16), none⟩, ⟨some 57, .load true 11 (.tmp 17), none⟩, ⟨some 58, .call 22 [.tmp 56, .tmp 57], none⟩, ⟨some 59, .load true 2 (.tmp 16), none⟩, ⟨some 60, .load true 11 (.tmp 17), none⟩, ⟨some 61, .call 25 [.tmp 59, .tmp 60], none⟩, ⟨some 19, .mv (.tmp 58), none⟩, ⟨some 20, .mv (.tmp 61), none⟩] [2, 5] [0, 0, 3, 0, 0, 31, 63, 127] [])
 (.seq (.seq (.dreg [⟨some 62, .mv (.tmp 19), none⟩, ⟨some 63, .lenL (.tmp 62), none⟩, ⟨some 64, .mv (.tmp 20), none⟩, ⟨some 65, .lenL (.tmp 64), none⟩, ⟨some 66, .bin .neq .plain (.tmp 63) (.tmp 65), none⟩, ⟨some 67, .mv (.tmp 66), none⟩, ⟨some 68, .load true 2 (.tmp 16), some (67, false)⟩, ⟨some 69, .load true 11 (.tmp 17), some (67, false)⟩, ⟨some 70, .call 26 [.tmp 68, .tmp 69], some (67, false)⟩, ⟨some 71, .load true 2 (.tmp 16), some (67, false)⟩, ⟨some 72, .load true 11 (.tmp 17), some (67, false)⟩, ⟨some 73, .call 27 [.tmp 71, .tmp 72], some (67, false)⟩, ⟨some 74, .bin .neq .plain (.tmp 70) (.tmp 73), some (67, false)⟩, ⟨some 75, .pick (.tmp 67) (.con (.bool true)) (.tmp 74), none⟩] [8, 11] [0, 1, 0, 4, 15, 31, 63, 63, 255, 63, 63, 2047, 4095, 8191] [])
 (.cond (.tmp 75)
 (.seq (.reg [⟨some 14, .mv (.con (.bool false)), none⟩])
 .ret)
 .skip))
 (.seq (.seq (.reg [⟨some 21, .mv (.con (.int .i64 0)), none⟩])
 (.block 4
 (.loop (.seq (.seq (.reg [⟨some 76, .mv (.tmp 21), none⟩, ⟨some 77, .mv (.tmp 19), none⟩, ⟨some 78, .lenL (.tmp 77), none⟩, ⟨some 79, .bin .lss .plain (.tmp 76) (.tmp 78), none⟩])
 (.cond (.tmp 79)
 .skip
 (.exit 4)))
 (.seq (.block 5
 (.seq (.dreg [⟨some 82, .mv (.tmp 19), none⟩, ⟨some 83, .mv (.tmp 21), none⟩, ⟨some 84, .iaddr 3 (.tmp 82) (.tmp 83), none⟩, ⟨some 85, .faddr 0 (.tmp 84), none⟩, ⟨some 86, .load false 1 (.tmp 85), none⟩, ⟨some 87, .mv (.tmp 20), none⟩, ⟨some 88, .mv (.tmp 21), none⟩, ⟨some 89, .iaddr 3 (.tmp 87) (.tmp 88), none⟩, ⟨some 90, .faddr 0 (.tmp 89), none⟩, ⟨some 91, .load false 1 (.tmp 90), none⟩, ⟨some 92, .bin .neq .plain (.tmp 86) (.tmp 91), none⟩, ⟨some 93, .mv (.tmp 92), none⟩, ⟨some 94, .mv (.tmp 19), some (93, false)⟩, ⟨some 95, .mv (.tmp 21), some (93, false)⟩, ⟨some 96, .iaddr 3 (.tmp 94) (.tmp 95), some (93, false)⟩, ⟨some 97, .faddr 1 (.tmp 96), some (93, false)⟩, ⟨some 98, .load false 1 (.tmp 97), some (93, false)⟩, ⟨some 99, .mv (.tmp 20), some (93, false)⟩, ⟨some 100, .mv (.tmp 21), some (93, false)⟩, ⟨some 101, .iaddr 3 (.tmp 99) (.tmp 100), some (93, false)⟩, ⟨some 102, .faddr 1 (.tmp 101), some (93, false)⟩, ⟨some 103, .load false 1 (.tmp 102), some (93, false)⟩, ⟨some 104, .bin .neq .plain (.tmp 98) (.tmp 103), some (93, false)⟩, ⟨some 105, .pick (.tmp 93) (.con (.bool true)) (.tmp 104), none⟩, ⟨some 106, .mv (.tmp 105), none⟩, ⟨some 107, .mv (.tmp 19), some (106, false)⟩, ⟨some 108, .mv (.tmp 21), some (106, false)⟩, ⟨some 109, .iaddr 3 (.tmp 107) (.tmp 108), some (106, false)⟩, ⟨some 110, .faddr 2 (.tmp 109), some (106, false)⟩, ⟨some 111, .load false 1 (.tmp 110), some (106, false)⟩, ⟨some 112, .mv (.tmp 20), some (106, false)⟩, ⟨some 113, .mv (.tmp 21), some (106, false)⟩, ⟨some 114, .iaddr 3 (.tmp 112) (.tmp 113), some (106, false)⟩, ⟨some 115, .faddr 2 (.tmp 114), some (106, false)⟩, ⟨some 116, .load false 1 (.tmp 115), some (106, false)⟩, ⟨some 117, .bin .neq .plain (.tmp 111) (.tmp 116), some (106, false)⟩, ⟨some 118, .pick (.tmp 106) (.con (.bool true)) (.tmp 117), none⟩] [] [0, 0, 3, 7, 15, 0, 0, 96, 224, 480, 1023, 2047, 4095, 4095, 16383, 32767, 65535, 4095, 4095, 397311, 921599, 1970175, 4194303, 8388607, 16777215, 33554431, 33554431, 134217727, 268435455, 536870911, 33554431, 33554431, 3254779903, 7549747199, 16139681791, 34359738367, 68719476735] [])
 (.cond (.tmp 118)
 (.seq (.reg [⟨some 14, .mv (.con (.bool false)), none⟩])
 .ret)
 .skip)))
 (.reg [⟨some 80, .mv (.tmp 21), none⟩, ⟨some 81, .bin .add .plain (.tmp 80) (.con (.int .i64 1)), none⟩, ⟨some 21, .mv (.tmp 81), none⟩]))))))
 (.reg [⟨some 119, .load true 2 (.tmp 16), none⟩, ⟨some 120, .mv (.tmp 2), none⟩, ⟨some 121, .mv (.tmp 3), none⟩, ⟨some 122, .mv (.tmp 6), none⟩, ⟨some 123, .call 28 [.tmp 119, .tmp 120, .tmp 121, .tmp 122], none⟩, ⟨none, .store 11 (.tmp 17) (.tmp 123), none⟩])))))
 (.reg [⟨some 54, .mv (.tmp 18), none⟩, ⟨some 55, .bin .add .plain (.tmp 54) (.con (.int .i64 1)), none⟩, ⟨some 18, .mv (.tmp 55), none⟩]))))))
 (.seq (.reg [⟨some 14, .mv (.con (.bool true)), none⟩])
 .ret))))))))
def ac9 : AFun := ⟨7, 124, ab9, [(.tmp 14)]⟩
theorem cf9 : compF Try.prog Try.f9 = some ac9 := by kernel_rfl
theorem cl9 : callable Try.prog 9 = true := by kernel_rfl
theorem fn9 : Try.prog.funcs[9]? = some Try.f9 := by kernel_rfl
/- chancel/chancellaw5.Policy -/
def ab24 : ACode := (.seq (.reg [⟨some 8, .alloc [.bool false, .int .i64 0, .str [], .str [], .int .i64 0, .str [], .str [], .int .i64 0, .str [], .str [], .nils], none⟩])
 (.seq (.reg [⟨some 13, .mv (.tmp 0), none⟩, ⟨some 14, .bin .rem .plain (.tmp 13) (.con (.int .i64 2)), none⟩, ⟨some 15, .bin .eql .plain (.tmp 14) (.con (.int .i64 1)), none⟩, ⟨some 16, .build [.bool false, .int .i64 0, .str [], .str [], .int .i64 0, .str [], .str [], .int .i64 0, .str [], .str [], .nils] [(0, 1, .tmp 15)], none⟩, ⟨some 9, .alloc [.bool false, .int .i64 0, .str [], .str [], .int .i64 0, .str [], .str [], .int .i64 0, .str [], .str [], .nils], none⟩, ⟨none, .store 11 (.tmp 9) (.tmp 16), none⟩])
 (.seq (.reg [⟨some 17, .faddr 1 (.tmp 9), none⟩, ⟨some 18, .faddr 4 (.tmp 9), none⟩, ⟨some 19, .faddr 7 (.tmp 9), none⟩, ⟨some 20, .bslice 1 3 [.nilp] [(0, 1, .tmp 17), (1, 1, .tmp 18), (2, 1, .tmp 19)], none⟩, ⟨some 10, .mv (.tmp 20), none⟩])
 (.seq (.seq (.reg [⟨some 11, .mv (.con (.int .i64 0)), none⟩])
 (.block 0
 (.loop (.seq (.seq (.reg [⟨some 21, .mv (.tmp 11), none⟩, ⟨some 22, .bin .lss .plain (.tmp 21) (.con (.int .i64 3)), none⟩, ⟨some 23, .mv (.tmp 22), none⟩, ⟨some 24, .mv (.tmp 11), some (23, true)⟩, ⟨some 25, .mv (.tmp 1), some (23, true)⟩, ⟨some 26, .lenL (.tmp 25), some (23, true)⟩, ⟨some 27, .bin .lss .plain (.tmp 24) (.tmp 26), some (23, true)⟩, ⟨some 28, .pick (.tmp 23) (.tmp 27) (.con (.bool false)), none⟩])
 (.cond (.tmp 28)
 .skip
 (.exit 0)))
 (.seq (.block 1
 (.seq (.dreg [⟨some 31, .mv (.tmp 10), none⟩, ⟨some 32, .mv (.tmp 11), none⟩, ⟨some 33, .iaddr 1 (.tmp 31) (.tmp 32), none⟩, ⟨some 34, .load false 1 (.tmp 33), none⟩, ⟨some 35, .mv (.tmp 1), none⟩, ⟨some 36, .mv (.tmp 11), none⟩, ⟨some 37, .iaddr 1 (.tmp 35) (.tmp 36), none⟩, ⟨some 38, .load false 1 (.tmp 37), none⟩, ⟨some 39, .call 33 [.tmp 38, .con (.int .i64 3)], none⟩, ⟨some 40, .nilck (.tmp 34), none⟩, ⟨some 41, .faddr 0 (.tmp 40), none⟩, ⟨none, .store 1 (.tmp 41) (.tmp 39), none⟩] [8, 11] [0, 0, 3, 7, 0, 0, 48, 112, 240, 511, 1023, 2047] [])
 (.seq (.reg [⟨some 42, .mv (.tmp 10), none⟩, ⟨some 43, .mv (.tmp 11), none⟩, ⟨some 44, .iaddr 1 (.tmp 42) (.tmp 43), none⟩, ⟨some 45, .load false 1 (.tmp 44), none⟩, ⟨some 46, .nilck (.tmp 45), none⟩, ⟨some 47, .faddr 0 (.tmp 46), none⟩, ⟨some 48, .load false 1 (.tmp 47), none⟩, ⟨some 49, .bin .neq .plain (.tmp 48) (.con (.int .i64 0)), none⟩])
 (.cond (.tmp 49)
 (.dreg [⟨some 50, .mv (.tmp 10), none⟩, ⟨some 51, .mv (.tmp 11), none⟩, ⟨some 52, .iaddr 1 (.tmp 50) (.tmp 51), none⟩, ⟨some 53, .load false 1 (.tmp 52), none⟩, ⟨some 54, .mv (.tmp 1), none⟩, ⟨some 55, .mv (.tmp 11), none⟩, ⟨some 56, .iaddr 1 (.tmp 54) (.tmp 55), none⟩, ⟨some 57, .load false 1 (.tmp 56), none⟩, ⟨some 58, .bin .quo .plain (.tmp 57) (.con (.int .i64 3)), none⟩, ⟨some 59, .mv (.tmp 2), none⟩, ⟨some 60, .call 23 [.tmp 58, .tmp 59], none⟩, ⟨some 61, .nilck (.tmp 53), none⟩, ⟨some 62, .faddr 1 (.tmp 61), none⟩, ⟨none, .store 2 (.tmp 62) (.tmp 60), none⟩] [10, 13] [0, 0, 3, 7, 0, 0, 48, 112, 240, 0, 1008, 2047, 4095, 8191] [])
 .skip))))
 (.reg [⟨some 29, .mv (.tmp 11), none⟩, ⟨some 30, .bin .add .plain (.tmp 29) (.con (.int .i64 1)), none⟩, ⟨some 11, .mv (.tmp 30), none⟩]))))))
 (.seq (.seq (.reg [⟨some 12, .mv (.con (.int .i64 0)), none⟩])
 (.block 2
 (.loop (.seq (.seq (.reg [⟨some 63, .mv (.tmp 12), none⟩, ⟨some 64, .mv (.tmp 3), none⟩, ⟨some 65, .lenL (.tmp 64), none⟩, ⟨some 66, .bin .lss .plain (.tmp 63) (.tmp 65), none⟩, ⟨some 67, .mv (.tmp 66), none⟩, ⟨some 68, .mv (.tmp 12), some (67, true)⟩, ⟨some 69, .bin .lss .plain (.tmp 68) (.con (.int .i64 4)), some (67, true)⟩, ⟨some 70, .pick (.tmp 67) (.tmp 69) (.con (.bool false)), none⟩])
 (.cond (.tmp 70)
 .skip
 (.exit 2)))
 (.seq (.block 3
 (.dreg [⟨some 73, .faddr 10 (.tmp 9), none⟩, ⟨some 74, .load false 1 (.tmp 73), none⟩, ⟨some 75, .mv (.tmp 0), none⟩, ⟨some 76, .mv (.tmp 12), none⟩, ⟨some 77, .bin .shr .plain (.tmp 75) (.tmp 76), none⟩, ⟨some 78, .call 33 [.tmp 77, .con (.int .i64 2)], none⟩, ⟨some 79, .bin .eql .plain (.tmp 78) (.con (.int .i64 1)), none⟩, ⟨some 80, .mv (.tmp 3), none⟩, ⟨some 81, .mv (.tmp 12), none⟩, ⟨some 82, .iaddr 4 (.tmp 80) (.tmp 81), none⟩, ⟨some 83, .load true 4 (.tmp 82), none⟩, ⟨some 84, .call 14 [.tmp 83, .con (.int .i64 10)], none⟩, ⟨some 85, .build [.bool false, .int .i64 0, .bool false, .int .i64 0, .str [], .str [], .str [], .nils] [(0, 1, .tmp 79), (1, 7, .tmp 84)], none⟩, ⟨some 86, .bslice 8 1 [.bool false, .int .i64 0, .bool false, .int .i64 0, .str [], .str [], .str [], .nils] [(0, 8, .tmp 85)], none⟩, ⟨some 87, .append 8 104 (.tmp 74) (.tmp 86), none⟩, ⟨some 88, .faddr 10 (.tmp 9), none⟩, ⟨none, .store 1 (.tmp 88) (.tmp 87), none⟩] [5, 11, 13, 14, 16] [0, 1, 0, 0, 12, 28, 60, 0, 0, 384, 896, 1980, 4092, 8188, 16383, 32767, 65535] []))
 (.reg [⟨some 71, .mv (.tmp 12), none⟩, ⟨some 72, .bin .add .plain (.tmp 71) (.con (.int .i64 1)), none⟩, ⟨some 12, .mv (.tmp 72), none⟩]))))))
 (.seq (.reg [⟨some 89, .load true 11 (.tmp 9), none⟩, ⟨none, .store 11 (.tmp 8) (.tmp 89), none⟩])
 .ret))))))
def ac24 : AFun := ⟨4, 90, ab24, [(.cell 8 true 11)]⟩
theorem cf24 : compF Try.prog Try.f24 = some ac24 := by kernel_rfl
theorem cl24 : callable Try.prog 24 = true := by kernel_rfl
theorem fn24 : Try.prog.funcs[24]? = some Try.f24 := by kernel_rfl
/- chancel/types.Check -/
def ab26 : ACode := (.seq (.reg [⟨some 2, .box (.tmp 0), none⟩, ⟨some 3, .box (.tmp 1), none⟩, ⟨some 4, .mv (.con (.int .i64 0)), none⟩])
 (.seq (.seq (.reg [⟨some 14, .faddr 1 (.tmp 3), none⟩, ⟨some 15, .load true 3 (.tmp 14), none⟩, ⟨some 16, .faddr 4 (.tmp 3), none⟩, ⟨some 17, .load true 3 (.tmp 16), none⟩, ⟨some 18, .faddr 7 (.tmp 3), none⟩, ⟨some 19, .load true 3 (.tmp 18), none⟩, ⟨some 20, .bslice 3 3 [.int .i64 0, .str [], .str []] [(0, 3, .tmp 15), (3, 3, .tmp 17), (6, 3, .tmp 19)], none⟩, ⟨some 21, .lenL (.tmp 20), none⟩, ⟨some 22, .mv (.con (.int .i64 0)), none⟩])
 (.block 0
 (.loop (.seq (.reg [⟨some 23, .bin .lss .plain (.tmp 22) (.tmp 21), none⟩])
 (.seq (.cond (.tmp 23)
 .skip
 (.exit 0))
 (.seq (.block 1
 (.seq (.reg [⟨some 24, .iaddr 3 (.tmp 20) (.tmp 22), none⟩, ⟨some 25, .load true 3 (.tmp 24), none⟩, ⟨some 6, .alloc [.int .i64 0, .str [], .str []], none⟩, ⟨none, .store 3 (.tmp 6) (.tmp 25), none⟩])
 (.seq (.reg [⟨some 26, .faddr 0 (.tmp 6), none⟩, ⟨some 27, .load false 1 (.tmp 26), none⟩, ⟨some 28, .bin .neq .plain (.tmp 27) (.con (.int .i64 0)), none⟩, ⟨some 29, .mv (.tmp 28), none⟩, ⟨some 30, .load true 2 (.tmp 2), some (29, true)⟩, ⟨some 31, .faddr 1 (.tmp 6), some (29, true)⟩, ⟨some 32, .load true 2 (.tmp 31), some (29, true)⟩, ⟨some 33, .call 42 [.tmp 30, .tmp 32], some (29, true)⟩, ⟨some 34, .un .not (.tmp 33), some (29, true)⟩, ⟨some 35, .pick (.tmp 29) (.tmp 34) (.con (.bool false)), none⟩])
 (.cond (.tmp 35)
 (.seq (.reg [⟨some 4, .mv (.con (.int .i64 15)), none⟩])
 .ret)
 .skip))))
 (.reg [⟨some 36, .bin .add .plain (.tmp 22) (.con (.int .i64 1)), none⟩, ⟨some 22, .mv (.tmp 36), none⟩])))))))
 (.seq (.reg [⟨some 37, .load true 2 (.tmp 2), none⟩, ⟨some 38, .load true 11 (.tmp 3), none⟩, ⟨some 39, .call 22 [.tmp 37, .tmp 38], none⟩, ⟨some 7, .mv (.tmp 39), none⟩])
 (.seq (.seq (.reg [⟨some 40, .mv (.tmp 7), none⟩, ⟨some 41, .lenL (.tmp 40), none⟩, ⟨some 42, .bin .eql .plain (.tmp 41) (.con (.int .i64 0)), none⟩])
 (.cond (.tmp 42)
 (.seq (.reg [⟨some 4, .mv (.con (.int .i64 2)), none⟩])
 .ret)
 .skip))
 (.seq (.seq (.reg [⟨some 43, .mv (.tmp 7), none⟩, ⟨some 44, .lenL (.tmp 43), none⟩, ⟨some 45, .mv (.con (.int .i64 0)), none⟩])
 (.block 2
 (.loop (.seq (.reg [⟨some 46, .bin .lss .plain (.tmp 45) (.tmp 44), none⟩])
 (.seq (.cond (.tmp 46)
 .skip
 (.exit 2))
 (.seq (.block 3
 (.seq (.reg [⟨some 47, .iaddr 3 (.tmp 43) (.tmp 45), none⟩, ⟨some 48, .load true 3 (.tmp 47), none⟩, ⟨some 9, .alloc [.str [], .str [], .str []], none⟩, ⟨none, .store 3 (.tmp 9) (.tmp 48), none⟩])
 (.seq (.reg [⟨some 49, .faddr 10 (.tmp 3), none⟩, ⟨some 50, .load false 1 (.tmp 49), none⟩, ⟨some 51, .lenL (.tmp 50), none⟩, ⟨some 52, .mv (.con (.int .i64 0)), none⟩])
 (.block 4
 (.loop (.seq (.reg [⟨some 53, .bin .lss .plain (.tmp 52) (.tmp 51), none⟩])
 (.seq (.cond (.tmp 53)
 .skip
 (.exit 4))
 (.seq (.block 5
 (.seq (.reg [⟨some 54, .iaddr 8 (.tmp 50) (.tmp 52), none⟩, ⟨some 55, .load true 8 (.tmp 54), none⟩, ⟨some 11, .alloc [.bool false, .int .i64 0, .bool false, .int .i64 0, .str [], .str [], .str [], .nils], none⟩, ⟨none, .store 8 (.tmp 11) (.tmp 55), none⟩])
 (.seq (.reg [⟨some 57, .load true 2 (.tmp 2), none⟩, ⟨some 58, .load true 3 (.tmp 9), none⟩, ⟨some 59, .faddr 1 (.tmp 11), none⟩, ⟨some 60, .load true 7 (.tmp 59), none⟩, ⟨some 61, .call 20 [.tmp 57, .tmp 58, .tmp 60], none⟩, ⟨some 56, .mv (.tmp 61), none⟩, ⟨some 62, .ext (.tmp 56) 0, none⟩, ⟨some 63, .ext (.tmp 56) 1, none⟩, ⟨some 12, .alloc [.int .i64 0, .int .i64 0, .str []], none⟩, ⟨none, .store 3 (.tmp 12) (.tmp 62), none⟩, ⟨some 13, .mv (.tmp 63), none⟩])
 (.seq (.seq (.reg [⟨some 64, .mv (.tmp 13), none⟩, ⟨some 65, .bin .neq .plain (.tmp 64) (.con (.int .i64 0)), none⟩])
 (.cond (.tmp 65)
 (.seq (.reg [⟨some 66, .mv (.tmp 13), none⟩, ⟨some 4, .mv (.tmp 66), none⟩])
 .ret)
 .skip))
 (.seq (.reg [⟨some 67, .faddr 0 (.tmp 12), none⟩, ⟨some 68, .load false 1 (.tmp 67), none⟩, ⟨some 69, .bin .neq .plain (.tmp 68) (.con (.int .i64 1)), none⟩])
 (.cond (.tmp 69)
 (.seq (.reg [⟨some 4, .mv (.con (.int .i64 16)), none⟩])
 .ret)
 .skip))))))
 (.reg [⟨some 70, .bin .add .plain (.tmp 52) (.con (.int .i64 1)), none⟩, ⟨some 52, .mv (.tmp 70), none⟩])))))))))
 (.reg [⟨some 71, .bin .add .plain (.tmp 45) (.con (.int .i64 1)), none⟩, ⟨some 45, .mv (.tmp 71), none⟩])))))))
 (.seq (.reg [⟨some 4, .mv (.con (.int .i64 0)), none⟩])
 .ret))))))
def ac26 : AFun := ⟨2, 72, ab26, [(.tmp 4)]⟩
theorem cf26 : compF Try.prog Try.f26 = some ac26 := by kernel_rfl
theorem cl26 : callable Try.prog 26 = true := by kernel_rfl
theorem fn26 : Try.prog.funcs[26]? = some Try.f26 := by kernel_rfl
/- chancel/chancelref11.Check -/
def ab27 : ACode := (.seq (.reg [⟨some 2, .box (.tmp 0), none⟩, ⟨some 3, .box (.tmp 1), none⟩, ⟨some 4, .mv (.con (.int .i64 0)), none⟩])
 (.seq (.reg [⟨some 12, .faddr 1 (.tmp 3), none⟩, ⟨some 13, .load true 3 (.tmp 12), none⟩, ⟨some 14, .faddr 4 (.tmp 3), none⟩, ⟨some 15, .load true 3 (.tmp 14), none⟩, ⟨some 16, .faddr 7 (.tmp 3), none⟩, ⟨some 17, .load true 3 (.tmp 16), none⟩, ⟨some 18, .bslice 3 3 [.int .i64 0, .str [], .str []] [(0, 3, .tmp 13), (3, 3, .tmp 15), (6, 3, .tmp 17)], none⟩, ⟨some 5, .mv (.tmp 18), none⟩])
 (.seq (.seq (.reg [⟨some 6, .mv (.con (.int .i64 0)), none⟩])
 (.block 0
 (.loop (.seq (.seq (.reg [⟨some 19, .mv (.tmp 6), none⟩, ⟨some 20, .bin .lss .plain (.tmp 19) (.con (.int .i64 3)), none⟩])
 (.cond (.tmp 20)
 .skip
 (.exit 0)))
 (.seq (.block 1
 (.seq (.dreg [⟨some 23, .mv (.tmp 5), none⟩, ⟨some 24, .mv (.tmp 6), none⟩, ⟨some 25, .iaddr 3 (.tmp 23) (.tmp 24), none⟩, ⟨some 26, .faddr 0 (.tmp 25), none⟩, ⟨some 27, .load false 1 (.tmp 26), none⟩, ⟨some 28, .bin .neq .plain (.tmp 27) (.con (.int .i64 0)), none⟩, ⟨some 29, .mv (.tmp 28), none⟩, ⟨some 30, .load true 2 (.tmp 2), some (29, true)⟩, ⟨some 31, .mv (.tmp 5), some (29, true)⟩, ⟨some 32, .mv (.tmp 6), some (29, true)⟩, ⟨some 33, .iaddr 3 (.tmp 31) (.tmp 32), some (29, true)⟩, ⟨some 34, .faddr 1 (.tmp 33), some (29, true)⟩, ⟨some 35, .load true 2 (.tmp 34), some (29, true)⟩, ⟨some 36, .call 43 [.tmp 30, .tmp 35], some (29, true)⟩, ⟨some 37, .un .not (.tmp 36), some (29, true)⟩, ⟨some 38, .pick (.tmp 29) (.tmp 37) (.con (.bool false)), none⟩] [13] [0, 0, 3, 7, 15, 31, 63, 127, 127, 127, 895, 1919, 3967, 8191, 16383, 32767] [])
 (.cond (.tmp 38)
 (.seq (.reg [⟨some 4, .mv (.con (.int .i64 15)), none⟩])
 .ret)
 .skip)))
 (.reg [⟨some 21, .mv (.tmp 6), none⟩, ⟨some 22, .bin .add .plain (.tmp 21) (.con (.int .i64 1)), none⟩, ⟨some 6, .mv (.tmp 22), none⟩]))))))
 (.seq (.reg [⟨some 39, .load true 2 (.tmp 2), none⟩, ⟨some 40, .load true 11 (.tmp 3), none⟩, ⟨some 41, .call 25 [.tmp 39, .tmp 40], none⟩, ⟨some 7, .mv (.tmp 41), none⟩])
 (.seq (.seq (.reg [⟨some 42, .mv (.tmp 7), none⟩, ⟨some 43, .lenL (.tmp 42), none⟩, ⟨some 44, .bin .eql .plain (.tmp 43) (.con (.int .i64 0)), none⟩])
 (.cond (.tmp 44)
 (.seq (.reg [⟨some 4, .mv (.con (.int .i64 2)), none⟩])
 .ret)
 .skip))
 (.seq (.seq (.reg [⟨some 8, .mv (.con (.int .i64 0)), none⟩])
 (.block 2
 (.loop (.seq (.seq (.reg [⟨some 45, .mv (.tmp 8), none⟩, ⟨some 46, .mv (.tmp 7), none⟩, ⟨some 47, .lenL (.tmp 46), none⟩, ⟨some 48, .bin .lss .plain (.tmp 45) (.tmp 47), none⟩])
 (.cond (.tmp 48)
 .skip
 (.exit 2)))
 (.seq (.block 3
 (.seq (.reg [⟨some 9, .mv (.con (.int .i64 0)), none⟩])
 (.block 4
 (.loop (.seq (.seq (.reg [⟨some 51, .mv (.tmp 9), none⟩, ⟨some 52, .faddr 10 (.tmp 3), none⟩, ⟨some 53, .load false 1 (.tmp 52), none⟩, ⟨some 54, .lenL (.tmp 53), none⟩, ⟨some 55, .bin .lss .plain (.tmp 51) (.tmp 54), none⟩])
 (.cond (.tmp 55)
 .skip
 (.exit 4)))
 (.seq (.block 5
 (.seq (.dreg [⟨some 59, .load true 2 (.tmp 2), none⟩, ⟨some 60, .mv (.tmp 7), none⟩, ⟨some 61, .mv (.tmp 8), none⟩, ⟨some 62, .iaddr 3 (.tmp 60) (.tmp 61), none⟩, ⟨some 63, .load true 3 (.tmp 62), none⟩, ⟨some 64, .faddr 10 (.tmp 3), none⟩, ⟨some 65, .load false 1 (.tmp 64), none⟩, ⟨some 66, .mv (.tmp 9), none⟩, ⟨some 67, .iaddr 8 (.tmp 65) (.tmp 66), none⟩, ⟨some 68, .faddr 1 (.tmp 67), none⟩, ⟨some 69, .load true 7 (.tmp 68), none⟩, ⟨some 70, .call 36 [.tmp 59, .tmp 63, .tmp 69], none⟩, ⟨some 58, .mv (.tmp 70), none⟩, ⟨some 71, .ext (.tmp 58) 0, none⟩, ⟨some 72, .ext (.tmp 58) 1, none⟩, ⟨some 10, .alloc [.int .i64 0, .int .i64 0, .str []], none⟩, ⟨none, .store 3 (.tmp 10) (.tmp 71), none⟩, ⟨some 11, .mv (.tmp 72), none⟩] [11, 16] [0, 0, 0, 6, 14, 0, 32, 0, 224, 480, 992, 2047, 4095, 8191, 8191, 0, 49151, 131071] [15])
 (.seq (.seq (.reg [⟨some 73, .mv (.tmp 11), none⟩, ⟨some 74, .bin .neq .plain (.tmp 73) (.con (.int .i64 0)), none⟩])
 (.cond (.tmp 74)
 (.seq (.reg [⟨some 75, .mv (.tmp 11), none⟩, ⟨some 4, .mv (.tmp 75), none⟩])
 .ret)
 .skip))
 (.seq (.reg [⟨some 76, .faddr 0 (.tmp 10), none⟩, ⟨some 77, .load false 1 (.tmp 76), none⟩, ⟨some 78, .bin .neq .plain (.tmp 77) (.con (.int .i64 1)), none⟩])
 (.cond (.tmp 78)
 (.seq (.reg [⟨some 4, .mv (.con (.int .i64 16)), none⟩])
 .ret)
 .skip)))))
 (.reg [⟨some 56, .mv (.tmp 9), none⟩, ⟨some 57, .bin .add .plain (.tmp 56) (.con (.int .i64 1)), none⟩, ⟨some 9, .mv (.tmp 57), none⟩])))))))
 (.reg [⟨some 49, .mv (.tmp 8), none⟩, ⟨some 50, .bin .add .plain (.tmp 49) (.con (.int .i64 1)), none⟩, ⟨some 8, .mv (.tmp 50), none⟩]))))))
 (.seq (.reg [⟨some 4, .mv (.con (.int .i64 0)), none⟩])
 .ret)))))))
def ac27 : AFun := ⟨2, 79, ab27, [(.tmp 4)]⟩
theorem cf27 : compF Try.prog Try.f27 = some ac27 := by kernel_rfl
theorem cl27 : callable Try.prog 27 = true := by kernel_rfl
theorem fn27 : Try.prog.funcs[27]? = some Try.f27 := by kernel_rfl
/- chancel/chancellaw11.Policy -/
def ab28 : ACode := (.seq (.reg [⟨some 4, .box (.tmp 0), none⟩, ⟨some 8, .alloc [.bool false, .int .i64 0, .str [], .str [], .int .i64 0, .str [], .str [], .int .i64 0, .str [], .str [], .nils], none⟩])
 (.seq (.reg [⟨some 13, .mv (.tmp 1), none⟩, ⟨some 14, .bin .rem .plain (.tmp 13) (.con (.int .i64 2)), none⟩, ⟨some 15, .bin .eql .plain (.tmp 14) (.con (.int .i64 1)), none⟩, ⟨some 16, .build [.bool false, .int .i64 0, .str [], .str [], .int .i64 0, .str [], .str [], .int .i64 0, .str [], .str [], .nils] [(0, 1, .tmp 15)], none⟩, ⟨some 9, .alloc [.bool false, .int .i64 0, .str [], .str [], .int .i64 0, .str [], .str [], .int .i64 0, .str [], .str [], .nils], none⟩, ⟨none, .store 11 (.tmp 9) (.tmp 16), none⟩])
 (.seq (.reg [⟨some 18, .load true 2 (.tmp 4), none⟩, ⟨some 19, .mv (.tmp 1), none⟩, ⟨some 20, .bin .quo .plain (.tmp 19) (.con (.int .i64 2)), none⟩, ⟨some 21, .call 15 [.tmp 18, .tmp 20], none⟩, ⟨some 17, .mv (.tmp 21), none⟩, ⟨some 22, .ext (.tmp 17) 0, none⟩, ⟨some 23, .ext (.tmp 17) 1, none⟩, ⟨some 10, .alloc [.str [], .str [], .str []], none⟩, ⟨none, .store 3 (.tmp 10) (.tmp 22), none⟩, ⟨some 11, .mv (.tmp 23), none⟩])
 (.seq (.seq (.reg [⟨some 24, .mv (.tmp 11), none⟩, ⟨some 25, .un .not (.tmp 24), none⟩])
 (.cond (.tmp 25)
 (.seq (.reg [⟨some 26, .load true 11 (.tmp 9), none⟩, ⟨none, .store 11 (.tmp 8) (.tmp 26), none⟩])
 .ret)
 .skip))
 (.seq (.seq (.reg [⟨some 27, .mv (.tmp 2), none⟩, ⟨some 28, .lenL (.tmp 27), none⟩, ⟨some 29, .bin .gtr .plain (.tmp 28) (.con (.int .i64 0)), none⟩, ⟨some 30, .mv (.tmp 29), none⟩, ⟨some 31, .mv (.tmp 2), some (30, true)⟩, ⟨some 32, .iaddr 1 (.tmp 31) (.con (.int .i64 0)), some (30, true)⟩, ⟨some 33, .load false 1 (.tmp 32), some (30, true)⟩, ⟨some 34, .bin .rem .plain (.tmp 33) (.con (.int .i64 3)), some (30, true)⟩, ⟨some 35, .bin .gtr .plain (.tmp 34) (.con (.int .i64 0)), some (30, true)⟩, ⟨some 36, .pick (.tmp 30) (.tmp 35) (.con (.bool false)), none⟩])
 (.cond (.tmp 36)
 (.reg [⟨some 37, .faddr 1 (.tmp 10), none⟩, ⟨some 38, .load false 1 (.tmp 37), none⟩, ⟨some 39, .build [.str [], .str []] [(0, 1, .con (.str [65, 99, 116, 105, 111, 110])), (1, 1, .tmp 38)], none⟩, ⟨some 40, .build [.int .i64 0, .str [], .str []] [(0, 1, .con (.int .i64 1)), (1, 2, .tmp 39)], none⟩, ⟨some 41, .faddr 4 (.tmp 9), none⟩, ⟨none, .store 3 (.tmp 41) (.tmp 40), none⟩])
 .skip))
 (.seq (.seq (.reg [⟨some 42, .mv (.tmp 2), none⟩, ⟨some 43, .lenL (.tmp 42), none⟩, ⟨some 44, .bin .gtr .plain (.tmp 43) (.con (.int .i64 1)), none⟩, ⟨some 45, .mv (.tmp 44), none⟩, ⟨some 46, .mv (.tmp 2), some (45, true)⟩, ⟨some 47, .iaddr 1 (.tmp 46) (.con (.int .i64 1)), some (45, true)⟩, ⟨some 48, .load false 1 (.tmp 47), some (45, true)⟩, ⟨some 49, .bin .rem .plain (.tmp 48) (.con (.int .i64 3)), some (45, true)⟩, ⟨some 50, .bin .gtr .plain (.tmp 49) (.con (.int .i64 0)), some (45, true)⟩, ⟨some 51, .pick (.tmp 45) (.tmp 50) (.con (.bool false)), none⟩])
 (.cond (.tmp 51)
 (.dreg [⟨some 52, .mv (.tmp 2), none⟩, ⟨some 53, .iaddr 1 (.tmp 52) (.con (.int .i64 1)), none⟩, ⟨some 54, .load false 1 (.tmp 53), none⟩, ⟨some 55, .bin .rem .plain (.tmp 54) (.con (.int .i64 3)), none⟩, ⟨some 56, .faddr 0 (.tmp 10), none⟩, ⟨some 57, .load false 1 (.tmp 56), none⟩, ⟨some 58, .mv (.tmp 2), none⟩, ⟨some 59, .iaddr 1 (.tmp 58) (.con (.int .i64 1)), none⟩, ⟨some 60, .load false 1 (.tmp 59), none⟩, ⟨some 61, .bin .quo .plain (.tmp 60) (.con (.int .i64 3)), none⟩, ⟨some 62, .call 21 [.tmp 61, .con (.int .i64 5)], none⟩, ⟨some 63, .bin .add .plain (.con (.int .i64 97)) (.tmp 62), none⟩, ⟨some 64, .cvInt .u8 (.tmp 63), none⟩, ⟨some 65, .bslice 1 1 [.int .u8 0] [(0, 1, .tmp 64)], none⟩, ⟨some 66, .cvBS (.tmp 65), none⟩, ⟨some 67, .build [.str [], .str []] [(0, 1, .tmp 57), (1, 1, .tmp 66)], none⟩, ⟨some 68, .build [.int .i64 0, .str [], .str []] [(0, 1, .tmp 55), (1, 2, .tmp 67)], none⟩, ⟨some 69, .faddr 1 (.tmp 9), none⟩, ⟨none, .store 3 (.tmp 69) (.tmp 68), none⟩] [10, 13, 18] [0, 1, 3, 7, 0, 16, 0, 64, 192, 448, 960, 1984, 4032, 8128, 16320, 32752, 65535, 131071, 262143] [])
 .skip))
 (.seq (.seq (.reg [⟨some 70, .mv (.tmp 2), none⟩, ⟨some 71, .lenL (.tmp 70), none⟩, ⟨some 72, .bin .gtr .plain (.tmp 71) (.con (.int .i64 2)), none⟩, ⟨some 73, .mv (.tmp 72), none⟩, ⟨some 74, .mv (.tmp 2), some (73, true)⟩, ⟨some 75, .iaddr 1 (.tmp 74) (.con (.int .i64 2)), some (73, true)⟩, ⟨some 76, .load false 1 (.tmp 75), some (73, true)⟩, ⟨some 77, .bin .rem .plain (.tmp 76) (.con (.int .i64 3)), some (73, true)⟩, ⟨some 78, .bin .gtr .plain (.tmp 77) (.con (.int .i64 0)), some (73, true)⟩, ⟨some 79, .pick (.tmp 73) (.tmp 78) (.con (.bool false)), none⟩])
 (.cond (.tmp 79)
 (.dreg [⟨some 80, .mv (.tmp 2), none⟩, ⟨some 81, .iaddr 1 (.tmp 80) (.con (.int .i64 2)), none⟩, ⟨some 82, .load false 1 (.tmp 81), none⟩, ⟨some 83, .bin .rem .plain (.tmp 82) (.con (.int .i64 3)), none⟩, ⟨some 84, .faddr 2 (.tmp 10), none⟩, ⟨some 85, .load false 1 (.tmp 84), none⟩, ⟨some 86, .mv (.tmp 2), none⟩, ⟨some 87, .iaddr 1 (.tmp 86) (.con (.int .i64 2)), none⟩, ⟨some 88, .load false 1 (.tmp 87), none⟩, ⟨some 89, .bin .quo .plain (.tmp 88) (.con (.int .i64 3)), none⟩, ⟨some 90, .call 21 [.tmp 89, .con (.int .i64 5)], none⟩, ⟨some 91, .bin .add .plain (.con (.int .i64 97)) (.tmp 90), none⟩, ⟨some 92, .cvInt .u8 (.tmp 91), none⟩, ⟨some 93, .bslice 1 1 [.int .u8 0] [(0, 1, .tmp 92)], none⟩, ⟨some 94, .cvBS (.tmp 93), none⟩, ⟨some 95, .build [.str [], .str []] [(0, 1, .tmp 85), (1, 1, .tmp 94)], none⟩, ⟨some 96, .build [.int .i64 0, .str [], .str []] [(0, 1, .tmp 83), (1, 2, .tmp 95)], none⟩, ⟨some 97, .faddr 7 (.tmp 9), none⟩, ⟨none, .store 3 (.tmp 97) (.tmp 96), none⟩] [10, 13, 18] [0, 1, 3, 7, 0, 16, 0, 64, 192, 448, 960, 1984, 4032, 8128, 16320, 32752, 65535, 131071, 262143] [])
 .skip))
 (.seq (.seq (.reg [⟨some 12, .mv (.con (.int .i64 0)), none⟩])
 (.block 0
 (.loop (.seq (.seq (.reg [⟨some 98, .mv (.tmp 12), none⟩, ⟨some 99, .mv (.tmp 3), none⟩, ⟨some 100, .lenL (.tmp 99), none⟩, ⟨some 101, .bin .lss .plain (.tmp 98) (.tmp 100), none⟩, ⟨some 102, .mv (.tmp 101), none⟩, ⟨some 103, .mv (.tmp 12), some (102, true)⟩, ⟨some 104, .bin .lss .plain (.tmp 103) (.con (.int .i64 3)), some (102, true)⟩, ⟨some 105, .pick (.tmp 102) (.tmp 104) (.con (.bool false)), none⟩])
 (.cond (.tmp 105)
 .skip
 (.exit 0)))
 (.seq (.block 1
 (.seq (.reg [⟨some 108, .mv (.tmp 3), none⟩, ⟨some 109, .mv (.tmp 12), none⟩, ⟨some 110, .iaddr 4 (.tmp 108) (.tmp 109), none⟩, ⟨some 111, .load true 4 (.tmp 110), none⟩, ⟨some 112, .call 17 [.tmp 111, .con (.int .i64 60)], none⟩, ⟨some 113, .bin .gtr .plain (.tmp 112) (.con (.int .i64 0)), none⟩])
 (.cond (.tmp 113)
 (.dreg [⟨some 114, .faddr 10 (.tmp 9), none⟩, ⟨some 115, .load false 1 (.tmp 114), none⟩, ⟨some 116, .mv (.tmp 1), none⟩, ⟨some 117, .mv (.tmp 12), none⟩, ⟨some 118, .bin .shr .plain (.tmp 116) (.tmp 117), none⟩, ⟨some 119, .call 21 [.tmp 118, .con (.int .i64 2)], none⟩, ⟨some 120, .bin .eql .plain (.tmp 119) (.con (.int .i64 1)), none⟩, ⟨some 121, .load true 2 (.tmp 4), none⟩, ⟨some 122, .load true 3 (.tmp 10), none⟩, ⟨some 123, .build [.int .i64 0, .int .i64 0, .str []] [(0, 1, .con (.int .i64 1))], none⟩, ⟨some 124, .mv (.tmp 3), none⟩, ⟨some 125, .mv (.tmp 12), none⟩, ⟨some 126, .iaddr 4 (.tmp 124) (.tmp 125), none⟩, ⟨some 127, .load true 4 (.tmp 126), none⟩, ⟨some 128, .call 37 [.tmp 121, .tmp 122, .tmp 123, .tmp 127, .con (.int .i64 5)], none⟩, ⟨some 129, .build [.bool false, .int .i64 0, .bool false, .int .i64 0, .str [], .str [], .str [], .nils] [(0, 1, .tmp 120), (1, 7, .tmp 128)], none⟩, ⟨some 130, .bslice 8 1 [.bool false, .int .i64 0, .bool false, .int .i64 0, .str [], .str [], .str [], .nils] [(0, 8, .tmp 129)], none⟩, ⟨some 131, .append 8 104 (.tmp 115) (.tmp 130), none⟩, ⟨some 132, .faddr 10 (.tmp 9), none⟩, ⟨none, .store 1 (.tmp 132) (.tmp 131), none⟩] [5, 14, 16, 17, 19] [0, 1, 0, 0, 12, 28, 60, 0, 0, 0, 0, 0, 3072, 7168, 16316, 32764, 65532, 131071, 262143, 524287] [])
 .skip)))
 (.reg [⟨some 106, .mv (.tmp 12), none⟩, ⟨some 107, .bin .add .plain (.tmp 106) (.con (.int .i64 1)), none⟩, ⟨some 12, .mv (.tmp 107), none⟩]))))))
 (.seq (.reg [⟨some 133, .load true 11 (.tmp 9), none⟩, ⟨none, .store 11 (.tmp 8) (.tmp 133), none⟩])
 .ret)))))))))
def ac28 : AFun := ⟨4, 134, ab28, [(.cell 8 true 11)]⟩
theorem cf28 : compF Try.prog Try.f28 = some ac28 := by kernel_rfl
theorem cl28 : callable Try.prog 28 = true := by kernel_rfl
theorem fn28 : Try.prog.funcs[28]? = some Try.f28 := by kernel_rfl
end Go.Proofs.Ytcdbpmmomgehfaa.Va
