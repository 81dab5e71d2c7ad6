/- Functions of the program as resolved code (printed by gen.py from the kernel's own value). Conditions: none. -/
import Derived.Test.YtcdbpmmomgehfaaProg
import Derived.Test.YtcdbpmmomgehfaaVaF
import Derived.KernelRfl
set_option maxRecDepth 100000
set_option maxHeartbeats 4000000
set_option linter.all false
namespace Go.Proofs.Ytcdbpmmomgehfaa.Va
open Go.Proofs
/- chancel/chancellaw11.Few -/
def ab17 : ACode := (.seq (.reg [⟨some 2, .box (.tmp 0), none⟩, ⟨some 4, .mv (.con (.int .i64 0)), none⟩])
 (.seq (.seq (.reg [⟨some 6, .mv (.tmp 1), none⟩, ⟨some 7, .bin .leq .plain (.tmp 6) (.con (.int .i64 0)), none⟩, ⟨some 8, .mv (.tmp 7), none⟩, ⟨some 9, .faddr 3 (.tmp 2), some (8, false)⟩, ⟨some 10, .load false 1 (.tmp 9), some (8, false)⟩, ⟨some 11, .lenL (.tmp 10), some (8, false)⟩, ⟨some 12, .bin .gtr .plain (.tmp 11) (.con (.int .i64 10)), some (8, false)⟩, ⟨some 13, .pick (.tmp 8) (.con (.bool true)) (.tmp 12), none⟩, ⟨some 14, .mv (.tmp 13), none⟩, ⟨some 15, .faddr 2 (.tmp 2), some (14, false)⟩, ⟨some 16, .load false 1 (.tmp 15), some (14, false)⟩, ⟨some 17, .lenL (.tmp 16), some (14, false)⟩, ⟨some 18, .bin .gtr .plain (.tmp 17) (.con (.int .i64 60)), some (14, false)⟩, ⟨some 19, .pick (.tmp 14) (.con (.bool true)) (.tmp 18), none⟩])
 (.cond (.tmp 19)
 (.seq (.reg [⟨some 4, .mv (.con (.int .i64 0)), none⟩])
 .ret)
 .skip))
 (.seq (.reg [⟨some 20, .mv (.tmp 1), none⟩, ⟨some 21, .bin .sub .plain (.tmp 20) (.con (.int .i64 1)), none⟩, ⟨some 1, .mv (.tmp 21), none⟩])
 (.seq (.seq (.reg [⟨some 5, .mv (.con (.int .i64 0)), none⟩])
 (.block 0
 (.loop (.seq (.seq (.reg [⟨some 22, .mv (.tmp 5), none⟩, ⟨some 23, .faddr 3 (.tmp 2), none⟩, ⟨some 24, .load false 1 (.tmp 23), none⟩, ⟨some 25, .lenL (.tmp 24), none⟩, ⟨some 26, .bin .lss .plain (.tmp 22) (.tmp 25), none⟩, ⟨some 27, .mv (.tmp 26), none⟩, ⟨some 28, .mv (.tmp 1), some (27, true)⟩, ⟨some 29, .bin .gtr .plain (.tmp 28) (.con (.int .i64 0)), some (27, true)⟩, ⟨some 30, .pick (.tmp 27) (.tmp 29) (.con (.bool false)), none⟩])
 (.cond (.tmp 30)
 .skip
 (.exit 0)))
 (.seq (.block 1
 (.reg [⟨some 33, .faddr 3 (.tmp 2), none⟩, ⟨some 34, .load false 1 (.tmp 33), none⟩, ⟨some 35, .mv (.tmp 5), none⟩, ⟨some 36, .iaddr 4 (.tmp 34) (.tmp 35), none⟩, ⟨some 37, .load true 4 (.tmp 36), none⟩, ⟨some 38, .mv (.tmp 1), none⟩, ⟨some 39, .call 17 [.tmp 37, .tmp 38], none⟩, ⟨some 1, .mv (.tmp 39), none⟩]))
 (.reg [⟨some 31, .mv (.tmp 5), none⟩, ⟨some 32, .bin .add .plain (.tmp 31) (.con (.int .i64 1)), none⟩, ⟨some 5, .mv (.tmp 32), none⟩]))))))
 (.seq (.reg [⟨some 40, .mv (.tmp 1), none⟩, ⟨some 4, .mv (.tmp 40), none⟩])
 .ret)))))
def ac17 : AFun := ⟨2, 41, ab17, [(.tmp 4)]⟩
theorem cf17 : compF Try.prog Try.f17 = some ac17 := by kernel_rfl
theorem cl17 : callable Try.prog 17 = true := by kernel_rfl
theorem fn17 : Try.prog.funcs[17]? = some Try.f17 := by kernel_rfl
/- (chancel/chancellaw11.maker).some -/
def ab18 : ACode := (.seq (.reg [⟨some 2, .box (.tmp 0), none⟩, ⟨some 4, .alloc [.int .i64 0, .int .i64 0, .str []], none⟩])
 (.seq (.seq (.reg [⟨some 5, .mv (.tmp 1), none⟩, ⟨some 6, .call 21 [.tmp 5, .con (.int .i64 5)], none⟩])
 (.block 0
 (.seq (.reg [⟨some 8, .bin .eql .plain (.tmp 6) (.con (.int .i64 0)), none⟩, ⟨some 7, .mv (.tmp 8), none⟩])
 (.cond (.tmp 7)
 (.seq (.reg [⟨some 9, .build [.int .i64 0, .int .i64 0, .str []] [(0, 1, .con (.int .i64 1))], none⟩, ⟨none, .store 3 (.tmp 4) (.tmp 9), none⟩])
 .ret)
 (.seq (.reg [⟨some 11, .bin .eql .plain (.tmp 6) (.con (.int .i64 1)), none⟩, ⟨some 10, .mv (.tmp 11), none⟩])
 (.cond (.tmp 10)
 (.seq (.reg [⟨some 12, .build [.int .i64 0, .int .i64 0, .str []] [(0, 1, .con (.int .i64 2))], none⟩, ⟨none, .store 3 (.tmp 4) (.tmp 12), none⟩])
 .ret)
 (.seq (.reg [⟨some 14, .bin .eql .plain (.tmp 6) (.con (.int .i64 2)), none⟩, ⟨some 13, .mv (.tmp 14), none⟩])
 (.cond (.tmp 13)
 (.seq (.reg [⟨some 15, .build [.int .i64 0, .int .i64 0, .str []] [(0, 1, .con (.int .i64 3))], none⟩, ⟨none, .store 3 (.tmp 4) (.tmp 15), none⟩])
 .ret)
 (.seq (.reg [⟨some 17, .bin .eql .plain (.tmp 6) (.con (.int .i64 3)), none⟩, ⟨some 16, .mv (.tmp 17), none⟩])
 (.cond (.tmp 16)
 (.seq (.reg [⟨some 18, .faddr 2 (.tmp 2), none⟩, ⟨some 19, .faddr 0 (.tmp 18), none⟩, ⟨some 20, .load false 1 (.tmp 19), none⟩, ⟨some 21, .build [.int .i64 0, .int .i64 0, .str []] [(0, 1, .con (.int .i64 4)), (2, 1, .tmp 20)], none⟩, ⟨none, .store 3 (.tmp 4) (.tmp 21), none⟩])
 .ret)
 .skip))))))))))
 (.seq (.reg [⟨some 22, .faddr 2 (.tmp 2), none⟩, ⟨some 23, .faddr 2 (.tmp 22), none⟩, ⟨some 24, .load false 1 (.tmp 23), none⟩, ⟨some 25, .build [.int .i64 0, .int .i64 0, .str []] [(0, 1, .con (.int .i64 4)), (2, 1, .tmp 24)], none⟩, ⟨none, .store 3 (.tmp 4) (.tmp 25), none⟩])
 .ret)))
def ac18 : AFun := ⟨2, 26, ab18, [(.cell 4 true 3)]⟩
theorem cf18 : compF Try.prog Try.f18 = some ac18 := by kernel_rfl
theorem cl18 : callable Try.prog 18 = true := by kernel_rfl
theorem fn18 : Try.prog.funcs[18]? = some Try.f18 := by kernel_rfl
/- (chancel/chancellaw11.maker).of -/
def ab19 : ACode := (.seq (.reg [⟨some 3, .box (.tmp 0), none⟩, ⟨some 4, .box (.tmp 1), none⟩, ⟨some 5, .box (.tmp 2), none⟩, ⟨some 6, .alloc [.int .i64 0, .bool false, .int .i64 0, .str [], .str [], .str [], .nils], none⟩])
 (.seq (.reg [⟨some 7, .faddr 0 (.tmp 3), none⟩, ⟨some 8, .load true 2 (.tmp 7), none⟩, ⟨some 9, .faddr 2 (.tmp 3), none⟩, ⟨some 10, .load true 3 (.tmp 9), none⟩, ⟨some 11, .load true 3 (.tmp 4), none⟩, ⟨some 12, .load true 4 (.tmp 5), none⟩, ⟨some 13, .faddr 5 (.tmp 3), none⟩, ⟨some 14, .load false 1 (.tmp 13), none⟩, ⟨some 15, .call 37 [.tmp 8, .tmp 10, .tmp 11, .tmp 12, .tmp 14], none⟩, ⟨none, .store 7 (.tmp 6) (.tmp 15), none⟩])
 .ret))
def ac19 : AFun := ⟨3, 16, ab19, [(.cell 6 true 7)]⟩
theorem cf19 : compF Try.prog Try.f19 = some ac19 := by kernel_rfl
theorem cl19 : callable Try.prog 19 = true := by kernel_rfl
theorem fn19 : Try.prog.funcs[19]? = some Try.f19 := by kernel_rfl
/- chancel/chancellaw11.Make -/
def ab37 : ACode := (.seq (.reg [⟨some 5, .box (.tmp 0), none⟩, ⟨some 6, .box (.tmp 1), none⟩, ⟨some 7, .box (.tmp 2), none⟩, ⟨some 8, .box (.tmp 3), none⟩, ⟨some 10, .alloc [.int .i64 0, .bool false, .int .i64 0, .str [], .str [], .str [], .nils], none⟩])
 (.seq (.seq (.reg [⟨some 12, .mv (.tmp 4), none⟩, ⟨some 13, .bin .leq .plain (.tmp 12) (.con (.int .i64 1)), none⟩])
 (.cond (.tmp 13)
 (.seq (.reg [⟨some 14, .load true 2 (.tmp 5), none⟩, ⟨some 15, .load true 3 (.tmp 6), none⟩, ⟨some 16, .load true 3 (.tmp 7), none⟩, ⟨some 17, .load true 4 (.tmp 8), none⟩, ⟨some 18, .call 49 [.tmp 14, .tmp 15, .tmp 16, .tmp 17], none⟩, ⟨none, .store 7 (.tmp 10) (.tmp 18), none⟩])
 .ret)
 .skip))
 (.seq (.reg [⟨some 19, .load true 2 (.tmp 5), none⟩, ⟨some 20, .load true 3 (.tmp 6), none⟩, ⟨some 21, .load true 3 (.tmp 7), none⟩, ⟨some 22, .load true 4 (.tmp 8), none⟩, ⟨some 23, .mv (.tmp 4), none⟩, ⟨some 24, .call 50 [.tmp 19, .tmp 20, .tmp 21, .tmp 22, .tmp 23], none⟩, ⟨some 11, .alloc [.int .i64 0, .bool false, .int .i64 0, .str [], .str [], .str [], .nils], none⟩, ⟨none, .store 7 (.tmp 11) (.tmp 24), none⟩])
 (.seq (.seq (.reg [⟨some 25, .faddr 0 (.tmp 11), none⟩, ⟨some 26, .load false 1 (.tmp 25), none⟩, ⟨some 27, .bin .neq .plain (.tmp 26) (.con (.int .i64 0)), none⟩])
 (.cond (.tmp 27)
 (.seq (.reg [⟨some 28, .load true 7 (.tmp 11), none⟩, ⟨none, .store 7 (.tmp 10) (.tmp 28), none⟩])
 .ret)
 .skip))
 (.seq (.reg [⟨some 29, .load true 2 (.tmp 5), none⟩, ⟨some 30, .load true 3 (.tmp 6), none⟩, ⟨some 31, .load true 3 (.tmp 7), none⟩, ⟨some 32, .load true 4 (.tmp 8), none⟩, ⟨some 33, .call 49 [.tmp 29, .tmp 30, .tmp 31, .tmp 32], none⟩, ⟨none, .store 7 (.tmp 10) (.tmp 33), none⟩])
 .ret)))))
def ac37 : AFun := ⟨5, 34, ab37, [(.cell 10 true 7)]⟩
theorem cf37 : compF Try.prog Try.f37 = some ac37 := by kernel_rfl
theorem cl37 : callable Try.prog 37 = true := by kernel_rfl
theorem fn37 : Try.prog.funcs[37]? = some Try.f37 := by kernel_rfl
/- chancel/chancellaw11.plain -/
def ab49 : ACode := (.seq (.reg [⟨some 4, .box (.tmp 0), none⟩, ⟨some 5, .box (.tmp 1), none⟩, ⟨some 6, .box (.tmp 2), none⟩, ⟨some 7, .box (.tmp 3), none⟩, ⟨some 8, .alloc [.int .i64 0, .bool false, .int .i64 0, .str [], .str [], .str [], .nils], none⟩])
 (.seq (.seq (.reg [⟨some 9, .faddr 0 (.tmp 6), none⟩, ⟨some 10, .load false 1 (.tmp 9), none⟩])
 (.block 0
 (.seq (.reg [⟨some 12, .bin .eql .plain (.tmp 10) (.con (.int .i64 1)), none⟩, ⟨some 11, .mv (.tmp 12), none⟩])
 (.cond (.tmp 11)
 (.seq (.reg [⟨some 13, .faddr 1 (.tmp 7), none⟩, ⟨some 14, .load false 1 (.tmp 13), none⟩, ⟨some 15, .bin .rem .plain (.tmp 14) (.con (.int .i64 2)), none⟩, ⟨some 16, .bin .eql .plain (.tmp 15) (.con (.int .i64 0)), none⟩, ⟨some 17, .build [.int .i64 0, .bool false, .int .i64 0, .str [], .str [], .str [], .nils] [(0, 1, .con (.int .i64 1)), (1, 1, .tmp 16)], none⟩, ⟨none, .store 7 (.tmp 8) (.tmp 17), none⟩])
 .ret)
 (.seq (.reg [⟨some 19, .bin .eql .plain (.tmp 10) (.con (.int .i64 2)), none⟩, ⟨some 18, .mv (.tmp 19), none⟩])
 (.cond (.tmp 18)
 (.seq (.reg [⟨some 20, .faddr 1 (.tmp 7), none⟩, ⟨some 21, .load false 1 (.tmp 20), none⟩, ⟨some 22, .call 21 [.tmp 21, .con (.int .i64 4611686018427387904)], none⟩, ⟨some 23, .build [.int .i64 0, .bool false, .int .i64 0, .str [], .str [], .str [], .nils] [(0, 1, .con (.int .i64 2)), (2, 1, .tmp 22)], none⟩, ⟨none, .store 7 (.tmp 8) (.tmp 23), none⟩])
 .ret)
 (.seq (.reg [⟨some 25, .bin .eql .plain (.tmp 10) (.con (.int .i64 3)), none⟩, ⟨some 24, .mv (.tmp 25), none⟩])
 (.cond (.tmp 24)
 (.seq (.reg [⟨some 26, .faddr 2 (.tmp 7), none⟩, ⟨some 27, .load false 1 (.tmp 26), none⟩, ⟨some 28, .call 23 [.con (.int .i64 0), .tmp 27], none⟩, ⟨some 29, .fld false 1 1 (.tmp 28), none⟩, ⟨some 30, .build [.int .i64 0, .bool false, .int .i64 0, .str [], .str [], .str [], .nils] [(0, 1, .con (.int .i64 3)), (3, 1, .tmp 29)], none⟩, ⟨none, .store 7 (.tmp 8) (.tmp 30), none⟩])
 .ret)
 (.seq (.reg [⟨some 32, .bin .eql .plain (.tmp 10) (.con (.int .i64 5)), none⟩, ⟨some 31, .mv (.tmp 32), none⟩])
 (.cond (.tmp 31)
 (.seq (.reg [⟨some 33, .load true 2 (.tmp 4), none⟩, ⟨some 34, .load true 3 (.tmp 5), none⟩, ⟨some 35, .faddr 1 (.tmp 6), none⟩, ⟨some 36, .load false 1 (.tmp 35), none⟩, ⟨some 37, .faddr 2 (.tmp 6), none⟩, ⟨some 38, .load false 1 (.tmp 37), none⟩, ⟨some 39, .build [.int .i64 0, .int .i64 0, .str []] [(0, 1, .tmp 36), (2, 1, .tmp 38)], none⟩, ⟨some 40, .load true 4 (.tmp 7), none⟩, ⟨some 41, .call 49 [.tmp 33, .tmp 34, .tmp 39, .tmp 40], none⟩, ⟨some 42, .bslice 7 1 [.int .i64 0, .bool false, .int .i64 0, .str [], .str [], .str [], .nils] [(0, 7, .tmp 41)], none⟩, ⟨some 43, .build [.int .i64 0, .bool false, .int .i64 0, .str [], .str [], .str [], .nils] [(0, 1, .con (.int .i64 6)), (6, 1, .tmp 42)], none⟩, ⟨none, .store 7 (.tmp 8) (.tmp 43), none⟩])
 .ret)
 .skip))))))))))
 (.seq (.seq (.reg [⟨some 44, .faddr 2 (.tmp 6), none⟩, ⟨some 45, .load false 1 (.tmp 44), none⟩, ⟨some 46, .faddr 0 (.tmp 5), none⟩, ⟨some 47, .load false 1 (.tmp 46), none⟩, ⟨some 48, .bin .eql .plain (.tmp 45) (.tmp 47), none⟩, ⟨some 49, .mv (.tmp 48), none⟩, ⟨some 50, .faddr 1 (.tmp 7), some (49, true)⟩, ⟨some 51, .load false 1 (.tmp 50), some (49, true)⟩, ⟨some 52, .bin .rem .plain (.tmp 51) (.con (.int .i64 3)), some (49, true)⟩, ⟨some 53, .bin .eql .plain (.tmp 52) (.con (.int .i64 0)), some (49, true)⟩, ⟨some 54, .pick (.tmp 49) (.tmp 53) (.con (.bool false)), none⟩])
 (.cond (.tmp 54)
 (.seq (.reg [⟨some 55, .build [.int .i64 0, .bool false, .int .i64 0, .str [], .str [], .str [], .nils] [(0, 1, .con (.int .i64 5)), (3, 1, .con (.str [112, 114, 105, 110, 99, 105, 112, 97, 108]))], none⟩, ⟨none, .store 7 (.tmp 8) (.tmp 55), none⟩])
 .ret)
 .skip))
 (.seq (.seq (.reg [⟨some 56, .faddr 2 (.tmp 6), none⟩, ⟨some 57, .load false 1 (.tmp 56), none⟩, ⟨some 58, .faddr 2 (.tmp 5), none⟩, ⟨some 59, .load false 1 (.tmp 58), none⟩, ⟨some 60, .bin .eql .plain (.tmp 57) (.tmp 59), none⟩, ⟨some 61, .mv (.tmp 60), none⟩, ⟨some 62, .faddr 1 (.tmp 7), some (61, true)⟩, ⟨some 63, .load false 1 (.tmp 62), some (61, true)⟩, ⟨some 64, .bin .rem .plain (.tmp 63) (.con (.int .i64 3)), some (61, true)⟩, ⟨some 65, .bin .eql .plain (.tmp 64) (.con (.int .i64 1)), some (61, true)⟩, ⟨some 66, .pick (.tmp 61) (.tmp 65) (.con (.bool false)), none⟩])
 (.cond (.tmp 66)
 (.seq (.reg [⟨some 67, .build [.int .i64 0, .bool false, .int .i64 0, .str [], .str [], .str [], .nils] [(0, 1, .con (.int .i64 5)), (3, 1, .con (.str [114, 101, 115, 111, 117, 114, 99, 101]))], none⟩, ⟨none, .store 7 (.tmp 8) (.tmp 67), none⟩])
 .ret)
 .skip))
 (.seq (.dreg [⟨some 68, .faddr 2 (.tmp 6), none⟩, ⟨some 69, .load false 1 (.tmp 68), none⟩, ⟨some 70, .faddr 1 (.tmp 7), none⟩, ⟨some 71, .load false 1 (.tmp 70), none⟩, ⟨some 72, .bin .quo .plain (.tmp 71) (.con (.int .i64 3)), none⟩, ⟨some 73, .call 21 [.tmp 72, .con (.int .i64 5)], none⟩, ⟨some 74, .bin .add .plain (.con (.int .i64 97)) (.tmp 73), none⟩, ⟨some 75, .cvInt .u8 (.tmp 74), none⟩, ⟨some 76, .bslice 1 1 [.int .u8 0] [(0, 1, .tmp 75)], none⟩, ⟨some 77, .cvBS (.tmp 76), none⟩, ⟨some 78, .build [.str [], .str []] [(0, 1, .tmp 69), (1, 1, .tmp 77)], none⟩, ⟨some 79, .build [.int .i64 0, .bool false, .int .i64 0, .str [], .str [], .str [], .nils] [(0, 1, .con (.int .i64 4)), (4, 2, .tmp 78)], none⟩, ⟨none, .store 7 (.tmp 8) (.tmp 79), none⟩] [5, 8, 12] [0, 1, 0, 4, 12, 28, 60, 124, 252, 508, 1023, 2047, 4095] [])
 .ret)))))
def ac49 : AFun := ⟨4, 80, ab49, [(.cell 8 true 7)]⟩
theorem cf49 : compF Try.prog Try.f49 = some ac49 := by kernel_rfl
theorem cl49 : callable Try.prog 49 = true := by kernel_rfl
theorem fn49 : Try.prog.funcs[49]? = some Try.f49 := by kernel_rfl
/- chancel/chancellaw11.build -/
def ab50 : ACode := (.seq (.reg [⟨some 5, .box (.tmp 0), none⟩, ⟨some 6, .box (.tmp 1), none⟩, ⟨some 7, .box (.tmp 2), none⟩, ⟨some 8, .box (.tmp 3), none⟩, ⟨some 10, .alloc [.int .i64 0, .bool false, .int .i64 0, .str [], .str [], .str [], .nils], none⟩])
 (.seq (.reg [⟨some 20, .load true 2 (.tmp 5), none⟩, ⟨some 21, .load true 3 (.tmp 6), none⟩, ⟨some 22, .mv (.tmp 4), none⟩, ⟨some 23, .bin .sub .plain (.tmp 22) (.con (.int .i64 1)), none⟩, ⟨some 24, .build [.nils, .nils, .str [], .str [], .str [], .int .i64 0] [(0, 2, .tmp 20), (2, 3, .tmp 21), (5, 1, .tmp 23)], none⟩, ⟨some 11, .alloc [.nils, .nils, .str [], .str [], .str [], .int .i64 0], none⟩, ⟨none, .store 6 (.tmp 11) (.tmp 24), none⟩])
 (.seq (.reg [⟨some 25, .build [.int .i64 0, .int .i64 0, .str []] [(0, 1, .con (.int .i64 2))], none⟩, ⟨some 26, .build [.int .i64 0, .int .i64 0, .str []] [(0, 1, .con (.int .i64 1))], none⟩, ⟨some 12, .alloc [.int .i64 0, .int .i64 0, .str []], none⟩, ⟨some 13, .alloc [.int .i64 0, .int .i64 0, .str []], none⟩, ⟨none, .store 3 (.tmp 12) (.tmp 25), none⟩, ⟨none, .store 3 (.tmp 13) (.tmp 26), none⟩])
 (.seq (.seq (.reg [⟨some 27, .faddr 0 (.tmp 8), none⟩, ⟨some 28, .load false 1 (.tmp 27), none⟩, ⟨some 29, .call 21 [.tmp 28, .con (.int .i64 12)], none⟩, ⟨some 14, .mv (.tmp 29), none⟩])
 (.block 0
 (.seq (.reg [⟨some 31, .mv (.tmp 14), none⟩, ⟨some 32, .bin .eql .plain (.tmp 31) (.con (.int .i64 0)), none⟩, ⟨some 30, .mv (.tmp 32), none⟩])
 (.cond (.tmp 30)
 (.seq (.dreg [⟨some 33, .load true 6 (.tmp 11), none⟩, ⟨some 34, .load true 3 (.tmp 13), none⟩, ⟨some 35, .load true 4 (.tmp 8), none⟩, ⟨some 36, .call 68 [.tmp 35, .con (.int .i64 0)], none⟩, ⟨some 37, .call 19 [.tmp 33, .tmp 34, .tmp 36], none⟩, ⟨some 38, .load true 6 (.tmp 11), none⟩, ⟨some 39, .load true 3 (.tmp 7), none⟩, ⟨some 40, .load true 4 (.tmp 8), none⟩, ⟨some 41, .call 68 [.tmp 40, .con (.int .i64 1)], none⟩, ⟨some 42, .call 19 [.tmp 38, .tmp 39, .tmp 41], none⟩, ⟨some 43, .load true 6 (.tmp 11), none⟩, ⟨some 44, .load true 3 (.tmp 7), none⟩, ⟨some 45, .load true 4 (.tmp 8), none⟩, ⟨some 46, .call 68 [.tmp 45, .con (.int .i64 2)], none⟩, ⟨some 47, .call 19 [.tmp 43, .tmp 44, .tmp 46], none⟩, ⟨some 48, .bslice 7 3 [.int .i64 0, .bool false, .int .i64 0, .str [], .str [], .str [], .nils] [(0, 7, .tmp 37), (7, 7, .tmp 42), (14, 7, .tmp 47)], none⟩, ⟨some 49, .build [.int .i64 0, .bool false, .int .i64 0, .str [], .str [], .str [], .nils] [(0, 1, .con (.int .i64 25)), (6, 1, .tmp 48)], none⟩, ⟨none, .store 7 (.tmp 10) (.tmp 49), none⟩] [3, 4, 8, 9, 13, 14, 15, 17] [0, 0, 0, 4, 15, 0, 0, 0, 159, 511, 0, 0, 0, 5119, 16383, 32767, 65535, 131071] [])
 .ret)
 (.seq (.reg [⟨some 51, .mv (.tmp 14), none⟩, ⟨some 52, .bin .leq .plain (.tmp 51) (.con (.int .i64 3)), none⟩, ⟨some 50, .mv (.tmp 52), none⟩])
 (.cond (.tmp 50)
 (.seq (.reg [⟨some 15, .mv (.con (.int .i64 0)), none⟩])
 (.block 1
 (.loop (.seq (.seq (.reg [⟨some 53, .mv (.tmp 15), none⟩, ⟨some 54, .faddr 0 (.tmp 5), none⟩, ⟨some 55, .load false 1 (.tmp 54), none⟩, ⟨some 56, .lenL (.tmp 55), none⟩, ⟨some 57, .bin .lss .plain (.tmp 53) (.tmp 56), none⟩])
 (.cond (.tmp 57)
 .skip
 (.exit 1)))
 (.seq (.block 2
 (.seq (.dreg [⟨some 60, .faddr 0 (.tmp 5), none⟩, ⟨some 61, .load false 1 (.tmp 60), none⟩, ⟨some 62, .faddr 1 (.tmp 8), none⟩, ⟨some 63, .load false 1 (.tmp 62), none⟩, ⟨some 64, .mv (.tmp 15), none⟩, ⟨some 65, .bin .add .plain (.tmp 63) (.tmp 64), none⟩, ⟨some 66, .faddr 0 (.tmp 5), none⟩, ⟨some 67, .load false 1 (.tmp 66), none⟩, ⟨some 68, .lenL (.tmp 67), none⟩, ⟨some 69, .call 21 [.tmp 65, .tmp 68], none⟩, ⟨some 70, .iaddr 3 (.tmp 61) (.tmp 69), none⟩, ⟨some 71, .load true 3 (.tmp 70), none⟩, ⟨some 16, .alloc [.str [], .nils, .nils], none⟩, ⟨none, .store 3 (.tmp 16) (.tmp 71), none⟩] [9, 13] [0, 1, 0, 4, 0, 28, 0, 64, 192, 508, 1023, 2047, 0, 8191] [12])
 (.seq (.reg [⟨some 17, .mv (.con (.int .i64 0)), none⟩])
 (.block 3
 (.loop (.seq (.seq (.reg [⟨some 72, .mv (.tmp 17), none⟩, ⟨some 73, .faddr 2 (.tmp 16), none⟩, ⟨some 74, .load false 1 (.tmp 73), none⟩, ⟨some 75, .lenL (.tmp 74), none⟩, ⟨some 76, .bin .lss .plain (.tmp 72) (.tmp 75), none⟩])
 (.cond (.tmp 76)
 .skip
 (.exit 3)))
 (.seq (.block 4
 (.seq (.dreg [⟨some 79, .faddr 2 (.tmp 16), none⟩, ⟨some 80, .load false 1 (.tmp 79), none⟩, ⟨some 81, .mv (.tmp 17), none⟩, ⟨some 82, .iaddr 4 (.tmp 80) (.tmp 81), none⟩, ⟨some 83, .faddr 1 (.tmp 82), none⟩, ⟨some 84, .load true 3 (.tmp 83), none⟩, ⟨some 85, .load true 3 (.tmp 7), none⟩, ⟨some 86, .bin .eql (.agg [.i, .i, .s]) (.tmp 84) (.tmp 85), none⟩] [] [0, 1, 0, 7, 15, 31, 0, 127] [])
 (.cond (.tmp 86)
 (.seq (.dreg [⟨some 87, .faddr 2 (.tmp 16), none⟩, ⟨some 88, .load false 1 (.tmp 87), none⟩, ⟨some 89, .mv (.tmp 17), none⟩, ⟨some 90, .iaddr 4 (.tmp 88) (.tmp 89), none⟩, ⟨some 91, .faddr 0 (.tmp 90), none⟩, ⟨some 92, .load false 1 (.tmp 91), none⟩, ⟨some 93, .load true 6 (.tmp 11), none⟩, ⟨some 94, .faddr 0 (.tmp 16), none⟩, ⟨some 95, .load false 1 (.tmp 94), none⟩, ⟨some 96, .build [.int .i64 0, .int .i64 0, .str []] [(0, 1, .con (.int .i64 4)), (2, 1, .tmp 95)], none⟩, ⟨some 97, .load true 4 (.tmp 8), none⟩, ⟨some 98, .call 68 [.tmp 97, .con (.int .i64 0)], none⟩, ⟨some 99, .call 19 [.tmp 93, .tmp 96, .tmp 98], none⟩, ⟨some 100, .bslice 7 1 [.int .i64 0, .bool false, .int .i64 0, .str [], .str [], .str [], .nils] [(0, 7, .tmp 99)], none⟩, ⟨some 101, .build [.int .i64 0, .bool false, .int .i64 0, .str [], .str [], .str [], .nils] [(0, 1, .con (.int .i64 7)), (3, 1, .tmp 92), (6, 1, .tmp 100)], none⟩, ⟨none, .store 7 (.tmp 10) (.tmp 101), none⟩] [11, 12, 13, 15] [0, 1, 0, 7, 15, 31, 0, 0, 128, 384, 0, 1024, 4032, 8128, 16383, 32767] [])
 .ret)
 .skip)))
 (.reg [⟨some 77, .mv (.tmp 17), none⟩, ⟨some 78, .bin .add .plain (.tmp 77) (.con (.int .i64 1)), none⟩, ⟨some 17, .mv (.tmp 78), none⟩]))))))))
 (.reg [⟨some 58, .mv (.tmp 15), none⟩, ⟨some 59, .bin .add .plain (.tmp 58) (.con (.int .i64 1)), none⟩, ⟨some 15, .mv (.tmp 59), none⟩]))))))
 (.seq (.reg [⟨some 103, .faddr 0 (.tmp 7), none⟩, ⟨some 104, .load false 1 (.tmp 103), none⟩, ⟨some 105, .bin .eql .plain (.tmp 104) (.con (.int .i64 2)), none⟩, ⟨some 106, .mv (.tmp 105), none⟩, ⟨some 107, .mv (.tmp 14), some (106, true)⟩, ⟨some 108, .bin .leq .plain (.tmp 107) (.con (.int .i64 8)), some (106, true)⟩, ⟨some 109, .pick (.tmp 106) (.tmp 108) (.con (.bool false)), none⟩, ⟨some 102, .mv (.tmp 109), none⟩])
 (.cond (.tmp 102)
 (.seq (.dreg [⟨some 110, .bslice 1 3 [.int .i64 0] [(0, 1, .con (.int .i64 14)), (1, 1, .con (.int .i64 15)), (2, 1, .con (.int .i64 13))], none⟩, ⟨some 111, .faddr 1 (.tmp 8), none⟩, ⟨some 112, .load false 1 (.tmp 111), none⟩, ⟨some 113, .call 21 [.tmp 112, .con (.int .i64 3)], none⟩, ⟨some 114, .iaddr 1 (.tmp 110) (.tmp 113), none⟩, ⟨some 115, .load false 1 (.tmp 114), none⟩, ⟨some 116, .load true 6 (.tmp 11), none⟩, ⟨some 117, .load true 3 (.tmp 12), none⟩, ⟨some 118, .load true 4 (.tmp 8), none⟩, ⟨some 119, .call 68 [.tmp 118, .con (.int .i64 0)], none⟩, ⟨some 120, .call 19 [.tmp 116, .tmp 117, .tmp 119], none⟩, ⟨some 121, .load true 6 (.tmp 11), none⟩, ⟨some 122, .load true 3 (.tmp 12), none⟩, ⟨some 123, .load true 4 (.tmp 8), none⟩, ⟨some 124, .call 68 [.tmp 123, .con (.int .i64 1)], none⟩, ⟨some 125, .call 19 [.tmp 121, .tmp 122, .tmp 124], none⟩, ⟨some 126, .bslice 7 2 [.int .i64 0, .bool false, .int .i64 0, .str [], .str [], .str [], .nils] [(0, 7, .tmp 120), (7, 7, .tmp 125)], none⟩, ⟨some 127, .build [.int .i64 0, .bool false, .int .i64 0, .str [], .str [], .str [], .nils] [(0, 1, .tmp 115), (6, 1, .tmp 126)], none⟩, ⟨none, .store 7 (.tmp 10) (.tmp 127), none⟩] [3, 9, 10, 14, 15, 18] [0, 0, 2, 6, 15, 31, 0, 0, 0, 270, 974, 0, 0, 0, 10190, 32718, 65486, 131071, 262143] [0, 16])
 .ret)
 (.seq (.reg [⟨some 129, .faddr 0 (.tmp 7), none⟩, ⟨some 130, .load false 1 (.tmp 129), none⟩, ⟨some 131, .bin .eql .plain (.tmp 130) (.con (.int .i64 2)), none⟩, ⟨some 132, .mv (.tmp 131), none⟩, ⟨some 133, .mv (.tmp 14), some (132, true)⟩, ⟨some 134, .bin .eql .plain (.tmp 133) (.con (.int .i64 9)), some (132, true)⟩, ⟨some 135, .pick (.tmp 132) (.tmp 134) (.con (.bool false)), none⟩, ⟨some 128, .mv (.tmp 135), none⟩])
 (.cond (.tmp 128)
 (.seq (.dreg [⟨some 136, .load true 6 (.tmp 11), none⟩, ⟨some 137, .load true 3 (.tmp 12), none⟩, ⟨some 138, .load true 4 (.tmp 8), none⟩, ⟨some 139, .call 68 [.tmp 138, .con (.int .i64 0)], none⟩, ⟨some 140, .call 19 [.tmp 136, .tmp 137, .tmp 139], none⟩, ⟨some 141, .bslice 7 1 [.int .i64 0, .bool false, .int .i64 0, .str [], .str [], .str [], .nils] [(0, 7, .tmp 140)], none⟩, ⟨some 142, .build [.int .i64 0, .bool false, .int .i64 0, .str [], .str [], .str [], .nils] [(0, 1, .con (.int .i64 12)), (6, 1, .tmp 141)], none⟩, ⟨none, .store 7 (.tmp 10) (.tmp 142), none⟩] [3, 4, 5, 7] [0, 0, 0, 4, 15, 31, 63, 127] [])
 .ret)
 (.seq (.reg [⟨some 144, .faddr 0 (.tmp 7), none⟩, ⟨some 145, .load false 1 (.tmp 144), none⟩, ⟨some 146, .bin .eql .plain (.tmp 145) (.con (.int .i64 1)), none⟩, ⟨some 143, .mv (.tmp 146), none⟩])
 (.cond (.tmp 143)
 (.seq (.reg [⟨some 147, .load true 6 (.tmp 11), none⟩, ⟨some 148, .load true 4 (.tmp 8), none⟩, ⟨some 149, .mv (.tmp 14), none⟩, ⟨some 150, .call 69 [.tmp 147, .tmp 148, .tmp 149], none⟩, ⟨none, .store 7 (.tmp 10) (.tmp 150), none⟩])
 .ret)
 (.seq (.reg [⟨some 152, .faddr 0 (.tmp 7), none⟩, ⟨some 153, .load false 1 (.tmp 152), none⟩, ⟨some 154, .bin .eql .plain (.tmp 153) (.con (.int .i64 5)), none⟩, ⟨some 151, .mv (.tmp 154), none⟩])
 (.cond (.tmp 151)
 (.seq (.reg [⟨some 155, .build [.int .i64 0, .bool false, .int .i64 0, .str [], .str [], .str [], .nils] [(0, 1, .con (.int .i64 6))], none⟩, ⟨some 18, .alloc [.int .i64 0, .bool false, .int .i64 0, .str [], .str [], .str [], .nils], none⟩, ⟨none, .store 7 (.tmp 18) (.tmp 155), none⟩])
 (.seq (.seq (.reg [⟨some 19, .mv (.con (.int .i64 0)), none⟩])
 (.block 5
 (.loop (.seq (.seq (.reg [⟨some 156, .mv (.tmp 19), none⟩, ⟨some 157, .faddr 1 (.tmp 8), none⟩, ⟨some 158, .load false 1 (.tmp 157), none⟩, ⟨some 159, .call 21 [.tmp 158, .con (.int .i64 3)], none⟩, ⟨some 160, .bin .add .plain (.con (.int .i64 1)) (.tmp 159), none⟩, ⟨some 161, .bin .lss .plain (.tmp 156) (.tmp 160), none⟩])
 (.cond (.tmp 161)
 .skip
 (.exit 5)))
 (.seq (.block 6
 (.dreg [⟨some 164, .faddr 6 (.tmp 18), none⟩, ⟨some 165, .load false 1 (.tmp 164), none⟩, ⟨some 166, .load true 6 (.tmp 11), none⟩, ⟨some 167, .faddr 1 (.tmp 7), none⟩, ⟨some 168, .load false 1 (.tmp 167), none⟩, ⟨some 169, .faddr 2 (.tmp 7), none⟩, ⟨some 170, .load false 1 (.tmp 169), none⟩, ⟨some 171, .build [.int .i64 0, .int .i64 0, .str []] [(0, 1, .tmp 168), (2, 1, .tmp 170)], none⟩, ⟨some 172, .load true 4 (.tmp 8), none⟩, ⟨some 173, .mv (.tmp 19), none⟩, ⟨some 174, .call 68 [.tmp 172, .tmp 173], none⟩, ⟨some 175, .call 19 [.tmp 166, .tmp 171, .tmp 174], none⟩, ⟨some 176, .bslice 7 1 [.int .i64 0, .bool false, .int .i64 0, .str [], .str [], .str [], .nils] [(0, 7, .tmp 175)], none⟩, ⟨some 177, .append 7 96 (.tmp 165) (.tmp 176), none⟩, ⟨some 178, .faddr 6 (.tmp 18), none⟩, ⟨none, .store 1 (.tmp 178) (.tmp 177), none⟩] [10, 11, 12, 13, 15] [0, 1, 0, 0, 8, 0, 32, 120, 0, 0, 768, 2044, 4092, 8191, 16383, 32767] []))
 (.reg [⟨some 162, .mv (.tmp 19), none⟩, ⟨some 163, .bin .add .plain (.tmp 162) (.con (.int .i64 1)), none⟩, ⟨some 19, .mv (.tmp 163), none⟩]))))))
 (.seq (.reg [⟨some 179, .load true 7 (.tmp 18), none⟩, ⟨none, .store 7 (.tmp 10) (.tmp 179), none⟩])
 .ret)))
 .skip))))))))))))))
 (.seq (.reg [⟨some 180, .build [.int .i64 0, .bool false, .int .i64 0, .str [], .str [], .str [], .nils] [], none⟩, ⟨none, .store 7 (.tmp 10) (.tmp 180), none⟩])
 .ret)))))
def ac50 : AFun := ⟨5, 181, ab50, [(.cell 10 true 7)]⟩
theorem cf50 : compF Try.prog Try.f50 = some ac50 := by kernel_rfl
theorem cl50 : callable Try.prog 50 = true := by kernel_rfl
theorem fn50 : Try.prog.funcs[50]? = some Try.f50 := by kernel_rfl
/- (chancel/chancellaw11.Typed).kid -/
def ab68 : ACode := (.seq (.reg [⟨some 2, .box (.tmp 0), none⟩, ⟨some 4, .alloc [.int .i64 0, .int .i64 0, .nils, .nils], none⟩])
 (.seq (.seq (.reg [⟨some 5, .faddr 3 (.tmp 2), none⟩, ⟨some 6, .load false 1 (.tmp 5), none⟩, ⟨some 7, .lenL (.tmp 6), none⟩, ⟨some 8, .bin .eql .plain (.tmp 7) (.con (.int .i64 0)), none⟩])
 (.cond (.tmp 8)
 (.seq (.reg [⟨some 9, .faddr 0 (.tmp 2), none⟩, ⟨some 10, .load false 1 (.tmp 9), none⟩, ⟨some 11, .mv (.tmp 1), none⟩, ⟨some 12, .bin .mul .plain (.con (.int .i64 7)) (.tmp 11), none⟩, ⟨some 13, .bin .add .plain (.tmp 10) (.tmp 12), none⟩, ⟨some 14, .bin .add .plain (.tmp 13) (.con (.int .i64 1)), none⟩, ⟨some 15, .faddr 1 (.tmp 2), none⟩, ⟨some 16, .load false 1 (.tmp 15), none⟩, ⟨some 17, .mv (.tmp 1), none⟩, ⟨some 18, .bin .add .plain (.tmp 16) (.tmp 17), none⟩, ⟨some 19, .faddr 2 (.tmp 2), none⟩, ⟨some 20, .load false 1 (.tmp 19), none⟩, ⟨some 21, .build [.int .i64 0, .int .i64 0, .nils, .nils] [(0, 1, .tmp 14), (1, 1, .tmp 18), (2, 1, .tmp 20)], none⟩, ⟨none, .store 4 (.tmp 4) (.tmp 21), none⟩])
 .ret)
 .skip))
 (.seq (.dreg [⟨some 22, .faddr 3 (.tmp 2), none⟩, ⟨some 23, .load false 1 (.tmp 22), none⟩, ⟨some 24, .mv (.tmp 1), none⟩, ⟨some 25, .faddr 3 (.tmp 2), none⟩, ⟨some 26, .load false 1 (.tmp 25), none⟩, ⟨some 27, .lenL (.tmp 26), none⟩, ⟨some 28, .bin .rem .plain (.tmp 24) (.tmp 27), none⟩, ⟨some 29, .iaddr 4 (.tmp 23) (.tmp 28), none⟩, ⟨some 30, .load true 4 (.tmp 29), none⟩, ⟨none, .store 4 (.tmp 4) (.tmp 30), none⟩] [9] [0, 1, 0, 0, 8, 24, 60, 127, 255, 511] [])
 .ret)))
def ac68 : AFun := ⟨2, 31, ab68, [(.cell 4 true 4)]⟩
theorem cf68 : compF Try.prog Try.f68 = some ac68 := by kernel_rfl
theorem cl68 : callable Try.prog 68 = true := by kernel_rfl
theorem fn68 : Try.prog.funcs[68]? = some Try.f68 := by kernel_rfl
/- (chancel/chancellaw11.maker).truth -/
def ab69 : ACode := (.seq (.reg [⟨some 3, .box (.tmp 0), none⟩, ⟨some 4, .box (.tmp 1), none⟩, ⟨some 6, .alloc [.int .i64 0, .bool false, .int .i64 0, .str [], .str [], .str [], .nils], none⟩])
 (.seq (.reg [⟨some 9, .faddr 2 (.tmp 3), none⟩, ⟨some 10, .faddr 0 (.tmp 9), none⟩, ⟨some 11, .load false 1 (.tmp 10), none⟩, ⟨some 12, .build [.int .i64 0, .int .i64 0, .str []] [(0, 1, .con (.int .i64 4)), (2, 1, .tmp 11)], none⟩, ⟨some 7, .alloc [.int .i64 0, .int .i64 0, .str []], none⟩, ⟨none, .store 3 (.tmp 7) (.tmp 12), none⟩])
 (.seq (.reg [⟨some 13, .load true 6 (.tmp 3), none⟩, ⟨some 14, .faddr 1 (.tmp 4), none⟩, ⟨some 15, .load false 1 (.tmp 14), none⟩, ⟨some 16, .call 18 [.tmp 13, .tmp 15], none⟩, ⟨some 8, .alloc [.int .i64 0, .int .i64 0, .str []], none⟩, ⟨none, .store 3 (.tmp 8) (.tmp 16), none⟩])
 (.seq (.seq (.reg [⟨some 17, .mv (.tmp 2), none⟩])
 (.block 0
 (.seq (.reg [⟨some 19, .bin .eql .plain (.tmp 17) (.con (.int .i64 4)), none⟩, ⟨some 18, .mv (.tmp 19), none⟩])
 (.cond (.tmp 18)
 (.seq (.dreg [⟨some 20, .load true 6 (.tmp 3), none⟩, ⟨some 21, .build [.int .i64 0, .int .i64 0, .str []] [(0, 1, .con (.int .i64 1))], none⟩, ⟨some 22, .load true 4 (.tmp 4), none⟩, ⟨some 23, .call 68 [.tmp 22, .con (.int .i64 0)], none⟩, ⟨some 24, .call 19 [.tmp 20, .tmp 21, .tmp 23], none⟩, ⟨some 25, .bslice 7 1 [.int .i64 0, .bool false, .int .i64 0, .str [], .str [], .str [], .nils] [(0, 7, .tmp 24)], none⟩, ⟨some 26, .build [.int .i64 0, .bool false, .int .i64 0, .str [], .str [], .str [], .nils] [(0, 1, .con (.int .i64 11)), (6, 1, .tmp 25)], none⟩, ⟨none, .store 7 (.tmp 6) (.tmp 26), none⟩] [3, 4, 5, 7] [0, 0, 0, 4, 15, 31, 63, 127] [])
 .ret)
 (.seq (.reg [⟨some 28, .bin .eql .plain (.tmp 17) (.con (.int .i64 5)), none⟩, ⟨some 27, .mv (.tmp 28), none⟩])
 (.cond (.tmp 27)
 (.seq (.dreg [⟨some 29, .bslice 1 2 [.int .i64 0] [(0, 1, .con (.int .i64 23)), (1, 1, .con (.int .i64 24))], none⟩, ⟨some 30, .faddr 1 (.tmp 4), none⟩, ⟨some 31, .load false 1 (.tmp 30), none⟩, ⟨some 32, .call 21 [.tmp 31, .con (.int .i64 2)], none⟩, ⟨some 33, .iaddr 1 (.tmp 29) (.tmp 32), none⟩, ⟨some 34, .load false 1 (.tmp 33), none⟩, ⟨some 35, .load true 6 (.tmp 3), none⟩, ⟨some 36, .build [.int .i64 0, .int .i64 0, .str []] [(0, 1, .con (.int .i64 1))], none⟩, ⟨some 37, .load true 4 (.tmp 4), none⟩, ⟨some 38, .call 68 [.tmp 37, .con (.int .i64 0)], none⟩, ⟨some 39, .call 19 [.tmp 35, .tmp 36, .tmp 38], none⟩, ⟨some 40, .load true 6 (.tmp 3), none⟩, ⟨some 41, .build [.int .i64 0, .int .i64 0, .str []] [(0, 1, .con (.int .i64 1))], none⟩, ⟨some 42, .load true 4 (.tmp 4), none⟩, ⟨some 43, .call 68 [.tmp 42, .con (.int .i64 1)], none⟩, ⟨some 44, .call 19 [.tmp 40, .tmp 41, .tmp 43], none⟩, ⟨some 45, .bslice 7 2 [.int .i64 0, .bool false, .int .i64 0, .str [], .str [], .str [], .nils] [(0, 7, .tmp 39), (7, 7, .tmp 44)], none⟩, ⟨some 46, .build [.int .i64 0, .bool false, .int .i64 0, .str [], .str [], .str [], .nils] [(0, 1, .tmp 34), (6, 1, .tmp 45)], none⟩, ⟨none, .store 7 (.tmp 6) (.tmp 46), none⟩] [3, 9, 10, 14, 15, 18] [0, 0, 2, 6, 15, 31, 0, 0, 0, 270, 974, 0, 0, 0, 10190, 32718, 65486, 131071, 262143] [0, 16])
 .ret)
 (.seq (.reg [⟨some 48, .bin .eql .plain (.tmp 17) (.con (.int .i64 6)), none⟩, ⟨some 47, .mv (.tmp 48), none⟩])
 (.cond (.tmp 47)
 (.seq (.dreg [⟨some 49, .faddr 1 (.tmp 4), none⟩, ⟨some 50, .load false 1 (.tmp 49), none⟩, ⟨some 51, .call 21 [.tmp 50, .con (.int .i64 4)], none⟩, ⟨some 52, .bin .add .plain (.con (.int .i64 16)) (.tmp 51), none⟩, ⟨some 53, .load true 6 (.tmp 3), none⟩, ⟨some 54, .build [.int .i64 0, .int .i64 0, .str []] [(0, 1, .con (.int .i64 2))], none⟩, ⟨some 55, .load true 4 (.tmp 4), none⟩, ⟨some 56, .call 68 [.tmp 55, .con (.int .i64 0)], none⟩, ⟨some 57, .call 19 [.tmp 53, .tmp 54, .tmp 56], none⟩, ⟨some 58, .load true 6 (.tmp 3), none⟩, ⟨some 59, .build [.int .i64 0, .int .i64 0, .str []] [(0, 1, .con (.int .i64 2))], none⟩, ⟨some 60, .load true 4 (.tmp 4), none⟩, ⟨some 61, .call 68 [.tmp 60, .con (.int .i64 1)], none⟩, ⟨some 62, .call 19 [.tmp 58, .tmp 59, .tmp 61], none⟩, ⟨some 63, .bslice 7 2 [.int .i64 0, .bool false, .int .i64 0, .str [], .str [], .str [], .nils] [(0, 7, .tmp 57), (7, 7, .tmp 62)], none⟩, ⟨some 64, .build [.int .i64 0, .bool false, .int .i64 0, .str [], .str [], .str [], .nils] [(0, 1, .tmp 52), (6, 1, .tmp 63)], none⟩, ⟨none, .store 7 (.tmp 6) (.tmp 64), none⟩] [2, 7, 8, 12, 13, 14, 16] [0, 1, 3, 7, 0, 0, 0, 71, 247, 0, 0, 0, 2551, 8183, 16375, 32767, 65535] [])
 .ret)
 (.seq (.reg [⟨some 66, .bin .eql .plain (.tmp 17) (.con (.int .i64 7)), none⟩, ⟨some 65, .mv (.tmp 66), none⟩])
 (.cond (.tmp 65)
 (.seq (.dreg [⟨some 67, .faddr 1 (.tmp 4), none⟩, ⟨some 68, .load false 1 (.tmp 67), none⟩, ⟨some 69, .call 21 [.tmp 68, .con (.int .i64 2)], none⟩, ⟨some 70, .bin .add .plain (.con (.int .i64 20)) (.tmp 69), none⟩, ⟨some 71, .load true 6 (.tmp 3), none⟩, ⟨some 72, .load true 3 (.tmp 8), none⟩, ⟨some 73, .load true 4 (.tmp 4), none⟩, ⟨some 74, .call 68 [.tmp 73, .con (.int .i64 0)], none⟩, ⟨some 75, .call 19 [.tmp 71, .tmp 72, .tmp 74], none⟩, ⟨some 76, .load true 6 (.tmp 3), none⟩, ⟨some 77, .load true 3 (.tmp 8), none⟩, ⟨some 78, .load true 4 (.tmp 4), none⟩, ⟨some 79, .call 68 [.tmp 78, .con (.int .i64 1)], none⟩, ⟨some 80, .call 19 [.tmp 76, .tmp 77, .tmp 79], none⟩, ⟨some 81, .bslice 7 2 [.int .i64 0, .bool false, .int .i64 0, .str [], .str [], .str [], .nils] [(0, 7, .tmp 75), (7, 7, .tmp 80)], none⟩, ⟨some 82, .build [.int .i64 0, .bool false, .int .i64 0, .str [], .str [], .str [], .nils] [(0, 1, .tmp 70), (6, 1, .tmp 81)], none⟩, ⟨none, .store 7 (.tmp 6) (.tmp 82), none⟩] [2, 7, 8, 12, 13, 14, 16] [0, 1, 3, 7, 0, 0, 0, 71, 247, 0, 0, 0, 2551, 8183, 16375, 32767, 65535] [])
 .ret)
 (.seq (.reg [⟨some 84, .bin .eql .plain (.tmp 17) (.con (.int .i64 8)), none⟩, ⟨some 83, .mv (.tmp 84), none⟩])
 (.cond (.tmp 83)
 (.seq (.dreg [⟨some 85, .load true 6 (.tmp 3), none⟩, ⟨some 86, .load true 3 (.tmp 7), none⟩, ⟨some 87, .load true 4 (.tmp 4), none⟩, ⟨some 88, .call 68 [.tmp 87, .con (.int .i64 0)], none⟩, ⟨some 89, .call 19 [.tmp 85, .tmp 86, .tmp 88], none⟩, ⟨some 90, .load true 6 (.tmp 3), none⟩, ⟨some 91, .faddr 2 (.tmp 3), none⟩, ⟨some 92, .faddr 2 (.tmp 91), none⟩, ⟨some 93, .load false 1 (.tmp 92), none⟩, ⟨some 94, .build [.int .i64 0, .int .i64 0, .str []] [(0, 1, .con (.int .i64 4)), (2, 1, .tmp 93)], none⟩, ⟨some 95, .load true 4 (.tmp 4), none⟩, ⟨some 96, .call 68 [.tmp 95, .con (.int .i64 1)], none⟩, ⟨some 97, .call 19 [.tmp 90, .tmp 94, .tmp 96], none⟩, ⟨some 98, .bslice 7 2 [.int .i64 0, .bool false, .int .i64 0, .str [], .str [], .str [], .nils] [(0, 7, .tmp 89), (7, 7, .tmp 97)], none⟩, ⟨some 99, .build [.int .i64 0, .bool false, .int .i64 0, .str [], .str [], .str [], .nils] [(0, 1, .con (.int .i64 22)), (6, 1, .tmp 98)], none⟩, ⟨none, .store 7 (.tmp 6) (.tmp 99), none⟩] [3, 4, 11, 12, 13, 15] [0, 0, 0, 4, 15, 0, 0, 64, 192, 448, 0, 1055, 4095, 8191, 16383, 32767] [])
 .ret)
 (.seq (.reg [⟨some 101, .bin .eql .plain (.tmp 17) (.con (.int .i64 9)), none⟩, ⟨some 100, .mv (.tmp 101), none⟩])
 (.cond (.tmp 100)
 (.seq (.dreg [⟨some 102, .load true 6 (.tmp 3), none⟩, ⟨some 103, .load true 3 (.tmp 7), none⟩, ⟨some 104, .load true 4 (.tmp 4), none⟩, ⟨some 105, .call 68 [.tmp 104, .con (.int .i64 0)], none⟩, ⟨some 106, .call 19 [.tmp 102, .tmp 103, .tmp 105], none⟩, ⟨some 107, .load true 6 (.tmp 3), none⟩, ⟨some 108, .faddr 2 (.tmp 3), none⟩, ⟨some 109, .faddr 2 (.tmp 108), none⟩, ⟨some 110, .load false 1 (.tmp 109), none⟩, ⟨some 111, .build [.int .i64 0, .int .i64 0, .str []] [(0, 1, .con (.int .i64 5)), (1, 1, .con (.int .i64 4)), (2, 1, .tmp 110)], none⟩, ⟨some 112, .load true 4 (.tmp 4), none⟩, ⟨some 113, .call 68 [.tmp 112, .con (.int .i64 1)], none⟩, ⟨some 114, .call 19 [.tmp 107, .tmp 111, .tmp 113], none⟩, ⟨some 115, .bslice 7 2 [.int .i64 0, .bool false, .int .i64 0, .str [], .str [], .str [], .nils] [(0, 7, .tmp 106), (7, 7, .tmp 114)], none⟩, ⟨some 116, .build [.int .i64 0, .bool false, .int .i64 0, .str [], .str [], .str [], .nils] [(0, 1, .con (.int .i64 22)), (6, 1, .tmp 115)], none⟩, ⟨none, .store 7 (.tmp 6) (.tmp 116), none⟩] [3, 4, 11, 12, 13, 15] [0, 0, 0, 4, 15, 0, 0, 64, 192, 448, 0, 1055, 4095, 8191, 16383, 32767] [])
 .ret)
 (.seq (.reg [⟨some 118, .bin .eql .plain (.tmp 17) (.con (.int .i64 10)), none⟩, ⟨some 117, .mv (.tmp 118), none⟩])
 (.cond (.tmp 117)
 (.seq (.dreg [⟨some 119, .load true 6 (.tmp 3), none⟩, ⟨some 120, .faddr 0 (.tmp 8), none⟩, ⟨some 121, .load false 1 (.tmp 120), none⟩, ⟨some 122, .faddr 2 (.tmp 8), none⟩, ⟨some 123, .load false 1 (.tmp 122), none⟩, ⟨some 124, .build [.int .i64 0, .int .i64 0, .str []] [(0, 1, .con (.int .i64 5)), (1, 1, .tmp 121), (2, 1, .tmp 123)], none⟩, ⟨some 125, .load true 4 (.tmp 4), none⟩, ⟨some 126, .call 68 [.tmp 125, .con (.int .i64 0)], none⟩, ⟨some 127, .call 19 [.tmp 119, .tmp 124, .tmp 126], none⟩, ⟨some 128, .load true 6 (.tmp 3), none⟩, ⟨some 129, .load true 3 (.tmp 8), none⟩, ⟨some 130, .load true 4 (.tmp 4), none⟩, ⟨some 131, .call 68 [.tmp 130, .con (.int .i64 1)], none⟩, ⟨some 132, .call 19 [.tmp 128, .tmp 129, .tmp 131], none⟩, ⟨some 133, .bslice 7 2 [.int .i64 0, .bool false, .int .i64 0, .str [], .str [], .str [], .nils] [(0, 7, .tmp 127), (7, 7, .tmp 132)], none⟩, ⟨some 134, .build [.int .i64 0, .bool false, .int .i64 0, .str [], .str [], .str [], .nils] [(0, 1, .con (.int .i64 9)), (6, 1, .tmp 133)], none⟩, ⟨none, .store 7 (.tmp 6) (.tmp 134), none⟩] [7, 8, 12, 13, 14, 16] [0, 0, 2, 0, 8, 30, 0, 64, 255, 0, 0, 0, 2559, 8191, 16383, 32767, 65535] [])
 .ret)
 .skip))))))))))))))))
 (.seq (.seq (.reg [⟨some 135, .faddr 1 (.tmp 4), none⟩, ⟨some 136, .load false 1 (.tmp 135), none⟩, ⟨some 137, .bin .rem .plain (.tmp 136) (.con (.int .i64 2)), none⟩, ⟨some 138, .bin .eql .plain (.tmp 137) (.con (.int .i64 0)), none⟩])
 (.cond (.tmp 138)
 (.seq (.dreg [⟨some 139, .load true 6 (.tmp 3), none⟩, ⟨some 140, .build [.int .i64 0, .int .i64 0, .str []] [(0, 1, .con (.int .i64 3))], none⟩, ⟨some 141, .load true 4 (.tmp 4), none⟩, ⟨some 142, .call 68 [.tmp 141, .con (.int .i64 0)], none⟩, ⟨some 143, .call 19 [.tmp 139, .tmp 140, .tmp 142], none⟩, ⟨some 144, .bslice 7 1 [.int .i64 0, .bool false, .int .i64 0, .str [], .str [], .str [], .nils] [(0, 7, .tmp 143)], none⟩, ⟨some 145, .build [.int .i64 0, .bool false, .int .i64 0, .str [], .str [], .str [], .nils] [(0, 1, .con (.int .i64 10)), (3, 1, .con (.str [97, 42])), (6, 1, .tmp 144)], none⟩, ⟨none, .store 7 (.tmp 6) (.tmp 145), none⟩] [3, 4, 5, 7] [0, 0, 0, 4, 15, 31, 63, 127] [])
 .ret)
 .skip))
 (.seq (.dreg [⟨some 146, .load true 6 (.tmp 3), none⟩, ⟨some 147, .load true 3 (.tmp 7), none⟩, ⟨some 148, .load true 4 (.tmp 4), none⟩, ⟨some 149, .call 68 [.tmp 148, .con (.int .i64 0)], none⟩, ⟨some 150, .call 19 [.tmp 146, .tmp 147, .tmp 149], none⟩, ⟨some 151, .bslice 7 1 [.int .i64 0, .bool false, .int .i64 0, .str [], .str [], .str [], .nils] [(0, 7, .tmp 150)], none⟩, ⟨some 152, .build [.int .i64 0, .bool false, .int .i64 0, .str [], .str [], .str [], .nils] [(0, 1, .con (.int .i64 8)), (3, 1, .con (.str [97, 103, 101])), (6, 1, .tmp 151)], none⟩, ⟨none, .store 7 (.tmp 6) (.tmp 152), none⟩] [3, 4, 5, 7] [0, 0, 0, 4, 15, 31, 63, 127] [])
 .ret))))))
def ac69 : AFun := ⟨3, 153, ab69, [(.cell 6 true 7)]⟩
theorem cf69 : compF Try.prog Try.f69 = some ac69 := by kernel_rfl
theorem cl69 : callable Try.prog 69 = true := by kernel_rfl
theorem fn69 : Try.prog.funcs[69]? = some Try.f69 := by kernel_rfl
end Go.Proofs.Ytcdbpmmomgehfaa.Va
