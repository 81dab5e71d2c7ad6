/- Functions of the program as resolved code (printed by gen.py from the kernel's own value). Conditions: none. -/
import Derived.Test.YtcdbpmmomgehfaaProg
import Derived.Test.YtcdbpmmomgehfaaVaF
import Derived.KernelRfl
set_option maxRecDepth 100000
set_option maxHeartbeats 4000000
set_option linter.all false
namespace Go.Proofs.Ytcdbpmmomgehfaa.Va
open Go.Proofs
/- chancel/chancellaw5.Few -/
def ab12 : ACode := (.seq (.reg [⟨some 2, .box (.tmp 0), none⟩, ⟨some 4, .mv (.con (.int .i64 0)), none⟩])
 (.seq (.seq (.reg [⟨some 6, .mv (.tmp 1), none⟩, ⟨some 7, .bin .leq .plain (.tmp 6) (.con (.int .i64 0)), none⟩, ⟨some 8, .mv (.tmp 7), none⟩, ⟨some 9, .faddr 3 (.tmp 2), some (8, false)⟩, ⟨some 10, .load false 1 (.tmp 9), some (8, false)⟩, ⟨some 11, .lenL (.tmp 10), some (8, false)⟩, ⟨some 12, .bin .gtr .plain (.tmp 11) (.con (.int .i64 12)), some (8, false)⟩, ⟨some 13, .pick (.tmp 8) (.con (.bool true)) (.tmp 12), none⟩, ⟨some 14, .mv (.tmp 13), none⟩, ⟨some 15, .faddr 2 (.tmp 2), some (14, false)⟩, ⟨some 16, .load false 1 (.tmp 15), some (14, false)⟩, ⟨some 17, .lenL (.tmp 16), some (14, false)⟩, ⟨some 18, .bin .gtr .plain (.tmp 17) (.con (.int .i64 60)), some (14, false)⟩, ⟨some 19, .pick (.tmp 14) (.con (.bool true)) (.tmp 18), none⟩])
 (.cond (.tmp 19)
 (.seq (.reg [⟨some 4, .mv (.con (.int .i64 0)), none⟩])
 .ret)
 .skip))
 (.seq (.reg [⟨some 20, .mv (.tmp 1), none⟩, ⟨some 21, .bin .sub .plain (.tmp 20) (.con (.int .i64 1)), none⟩, ⟨some 1, .mv (.tmp 21), none⟩])
 (.seq (.seq (.reg [⟨some 5, .mv (.con (.int .i64 0)), none⟩])
 (.block 0
 (.loop (.seq (.seq (.reg [⟨some 22, .mv (.tmp 5), none⟩, ⟨some 23, .faddr 3 (.tmp 2), none⟩, ⟨some 24, .load false 1 (.tmp 23), none⟩, ⟨some 25, .lenL (.tmp 24), none⟩, ⟨some 26, .bin .lss .plain (.tmp 22) (.tmp 25), none⟩, ⟨some 27, .mv (.tmp 26), none⟩, ⟨some 28, .mv (.tmp 1), some (27, true)⟩, ⟨some 29, .bin .gtr .plain (.tmp 28) (.con (.int .i64 0)), some (27, true)⟩, ⟨some 30, .pick (.tmp 27) (.tmp 29) (.con (.bool false)), none⟩])
 (.cond (.tmp 30)
 .skip
 (.exit 0)))
 (.seq (.block 1
 (.reg [⟨some 33, .faddr 3 (.tmp 2), none⟩, ⟨some 34, .load false 1 (.tmp 33), none⟩, ⟨some 35, .mv (.tmp 5), none⟩, ⟨some 36, .iaddr 4 (.tmp 34) (.tmp 35), none⟩, ⟨some 37, .load true 4 (.tmp 36), none⟩, ⟨some 38, .mv (.tmp 1), none⟩, ⟨some 39, .call 12 [.tmp 37, .tmp 38], none⟩, ⟨some 1, .mv (.tmp 39), none⟩]))
 (.reg [⟨some 31, .mv (.tmp 5), none⟩, ⟨some 32, .bin .add .plain (.tmp 31) (.con (.int .i64 1)), none⟩, ⟨some 5, .mv (.tmp 32), none⟩]))))))
 (.seq (.reg [⟨some 40, .mv (.tmp 1), none⟩, ⟨some 4, .mv (.tmp 40), none⟩])
 .ret)))))
def ac12 : AFun := ⟨2, 41, ab12, [(.tmp 4)]⟩
theorem cf12 : compF Try.prog Try.f12 = some ac12 := by kernel_rfl
theorem cl12 : callable Try.prog 12 = true := by kernel_rfl
theorem fn12 : Try.prog.funcs[12]? = some Try.f12 := by kernel_rfl
/- chancel/chancellaw5.Tree -/
def ab14 : ACode := (.seq (.reg [⟨some 2, .box (.tmp 0), none⟩, ⟨some 4, .alloc [.int .i64 0, .bool false, .int .i64 0, .str [], .str [], .str [], .nils], none⟩])
 (.seq (.seq (.reg [⟨some 8, .mv (.tmp 1), none⟩, ⟨some 9, .bin .leq .plain (.tmp 8) (.con (.int .i64 1)), none⟩, ⟨some 10, .mv (.tmp 9), none⟩, ⟨some 11, .faddr 3 (.tmp 2), some (10, false)⟩, ⟨some 12, .load false 1 (.tmp 11), some (10, false)⟩, ⟨some 13, .lenL (.tmp 12), some (10, false)⟩, ⟨some 14, .bin .eql .plain (.tmp 13) (.con (.int .i64 0)), some (10, false)⟩, ⟨some 15, .pick (.tmp 10) (.con (.bool true)) (.tmp 14), none⟩])
 (.cond (.tmp 15)
 (.seq (.reg [⟨some 16, .load true 4 (.tmp 2), none⟩, ⟨some 17, .call 32 [.tmp 16], none⟩, ⟨none, .store 7 (.tmp 4) (.tmp 17), none⟩])
 .ret)
 .skip))
 (.seq (.reg [⟨some 18, .faddr 0 (.tmp 2), none⟩, ⟨some 19, .load false 1 (.tmp 18), none⟩, ⟨some 20, .call 33 [.tmp 19, .con (.int .i64 20)], none⟩, ⟨some 21, .bin .add .plain (.con (.int .i64 6)) (.tmp 20), none⟩, ⟨some 22, .build [.int .i64 0, .bool false, .int .i64 0, .str [], .str [], .str [], .nils] [(0, 1, .tmp 21)], none⟩, ⟨some 5, .alloc [.int .i64 0, .bool false, .int .i64 0, .str [], .str [], .str [], .nils], none⟩, ⟨none, .store 7 (.tmp 5) (.tmp 22), none⟩])
 (.seq (.reg [⟨some 6, .mv (.con (.int .i64 2)), none⟩])
 (.seq (.seq (.reg [⟨some 23, .faddr 0 (.tmp 5), none⟩, ⟨some 24, .load false 1 (.tmp 23), none⟩])
 (.block 0
 (.seq (.reg [⟨some 26, .bin .eql .plain (.tmp 24) (.con (.int .i64 6)), none⟩, ⟨some 25, .mv (.tmp 26), none⟩])
 (.cond (.tmp 25)
 (.reg [⟨some 27, .faddr 3 (.tmp 2), none⟩, ⟨some 28, .load false 1 (.tmp 27), none⟩, ⟨some 29, .lenL (.tmp 28), none⟩, ⟨some 30, .mn [.tmp 29, .con (.int .i64 8)], none⟩, ⟨some 6, .mv (.tmp 30), none⟩])
 (.seq (.seq (.reg [⟨some 32, .bin .eql .plain (.tmp 24) (.con (.int .i64 7)), none⟩, ⟨some 31, .mv (.tmp 32), none⟩])
 (.cond (.tmp 31)
 .skip
 (.reg [⟨some 33, .bin .eql .plain (.tmp 24) (.con (.int .i64 8)), none⟩, ⟨some 31, .mv (.tmp 33), none⟩])))
 (.cond (.tmp 31)
 (.reg [⟨some 34, .faddr 1 (.tmp 2), none⟩, ⟨some 35, .load false 1 (.tmp 34), none⟩, ⟨some 36, .call 34 [.tmp 35], none⟩, ⟨some 6, .mv (.con (.int .i64 1)), none⟩, ⟨some 37, .faddr 3 (.tmp 5), none⟩, ⟨none, .store 1 (.tmp 37) (.tmp 36), none⟩])
 (.seq (.reg [⟨some 39, .bin .eql .plain (.tmp 24) (.con (.int .i64 10)), none⟩, ⟨some 38, .mv (.tmp 39), none⟩])
 (.cond (.tmp 38)
 (.reg [⟨some 40, .faddr 2 (.tmp 2), none⟩, ⟨some 41, .load false 1 (.tmp 40), none⟩, ⟨some 42, .call 35 [.tmp 41], none⟩, ⟨some 6, .mv (.con (.int .i64 1)), none⟩, ⟨some 43, .faddr 3 (.tmp 5), none⟩, ⟨none, .store 1 (.tmp 43) (.tmp 42), none⟩])
 (.seq (.seq (.reg [⟨some 45, .bin .eql .plain (.tmp 24) (.con (.int .i64 11)), none⟩, ⟨some 44, .mv (.tmp 45), none⟩])
 (.cond (.tmp 44)
 .skip
 (.reg [⟨some 46, .bin .eql .plain (.tmp 24) (.con (.int .i64 12)), none⟩, ⟨some 44, .mv (.tmp 46), none⟩])))
 (.cond (.tmp 44)
 (.reg [⟨some 6, .mv (.con (.int .i64 1)), none⟩])
 (.seq (.reg [⟨some 48, .bin .eql .plain (.tmp 24) (.con (.int .i64 25)), none⟩, ⟨some 47, .mv (.tmp 48), none⟩])
 (.cond (.tmp 47)
 (.reg [⟨some 6, .mv (.con (.int .i64 3)), none⟩])
 .skip))))))))))))
 (.seq (.seq (.reg [⟨some 7, .mv (.con (.int .i64 0)), none⟩])
 (.block 1
 (.loop (.seq (.seq (.reg [⟨some 49, .mv (.tmp 7), none⟩, ⟨some 50, .mv (.tmp 6), none⟩, ⟨some 51, .bin .lss .plain (.tmp 49) (.tmp 50), none⟩])
 (.cond (.tmp 51)
 .skip
 (.exit 1)))
 (.seq (.block 2
 (.dreg [⟨some 54, .faddr 6 (.tmp 5), none⟩, ⟨some 55, .load false 1 (.tmp 54), none⟩, ⟨some 56, .faddr 3 (.tmp 2), none⟩, ⟨some 57, .load false 1 (.tmp 56), none⟩, ⟨some 58, .mv (.tmp 7), none⟩, ⟨some 59, .faddr 3 (.tmp 2), none⟩, ⟨some 60, .load false 1 (.tmp 59), none⟩, ⟨some 61, .lenL (.tmp 60), none⟩, ⟨some 62, .bin .rem .plain (.tmp 58) (.tmp 61), none⟩, ⟨some 63, .iaddr 4 (.tmp 57) (.tmp 62), none⟩, ⟨some 64, .load true 4 (.tmp 63), none⟩, ⟨some 65, .mv (.tmp 1), none⟩, ⟨some 66, .bin .sub .plain (.tmp 65) (.con (.int .i64 1)), none⟩, ⟨some 67, .call 14 [.tmp 64, .tmp 66], none⟩, ⟨some 68, .bslice 7 1 [.int .i64 0, .bool false, .int .i64 0, .str [], .str [], .str [], .nils] [(0, 7, .tmp 67)], none⟩, ⟨some 69, .append 7 96 (.tmp 55) (.tmp 68), none⟩, ⟨some 70, .faddr 6 (.tmp 5), none⟩, ⟨none, .store 1 (.tmp 70) (.tmp 69), none⟩] [13, 14, 15, 17] [0, 1, 0, 4, 0, 0, 32, 96, 240, 508, 1020, 0, 2048, 8188, 16380, 32767, 65535, 131071] []))
 (.reg [⟨some 52, .mv (.tmp 7), none⟩, ⟨some 53, .bin .add .plain (.tmp 52) (.con (.int .i64 1)), none⟩, ⟨some 7, .mv (.tmp 53), none⟩]))))))
 (.seq (.reg [⟨some 71, .load true 7 (.tmp 5), none⟩, ⟨none, .store 7 (.tmp 4) (.tmp 71), none⟩])
 .ret)))))))
def ac14 : AFun := ⟨2, 72, ab14, [(.cell 4 true 7)]⟩
theorem cf14 : compF Try.prog Try.f14 = some ac14 := by kernel_rfl
theorem cl14 : callable Try.prog 14 = true := by kernel_rfl
theorem fn14 : Try.prog.funcs[14]? = some Try.f14 := by kernel_rfl
/- chancel/chancellaw5.leaf -/
def ab32 : ACode := (.seq (.reg [⟨some 1, .box (.tmp 0), none⟩, ⟨some 2, .alloc [.int .i64 0, .bool false, .int .i64 0, .str [], .str [], .str [], .nils], none⟩])
 (.seq (.seq (.reg [⟨some 3, .faddr 0 (.tmp 1), none⟩, ⟨some 4, .load false 1 (.tmp 3), none⟩, ⟨some 5, .call 33 [.tmp 4, .con (.int .i64 6)], none⟩])
 (.block 0
 (.seq (.reg [⟨some 7, .bin .eql .plain (.tmp 5) (.con (.int .i64 0)), none⟩, ⟨some 6, .mv (.tmp 7), none⟩])
 (.cond (.tmp 6)
 (.seq (.reg [⟨some 8, .faddr 1 (.tmp 1), none⟩, ⟨some 9, .load false 1 (.tmp 8), none⟩, ⟨some 10, .bin .rem .plain (.tmp 9) (.con (.int .i64 2)), none⟩, ⟨some 11, .bin .eql .plain (.tmp 10) (.con (.int .i64 0)), none⟩, ⟨some 12, .build [.int .i64 0, .bool false, .int .i64 0, .str [], .str [], .str [], .nils] [(0, 1, .con (.int .i64 1)), (1, 1, .tmp 11)], none⟩, ⟨none, .store 7 (.tmp 2) (.tmp 12), none⟩])
 .ret)
 (.seq (.reg [⟨some 14, .bin .eql .plain (.tmp 5) (.con (.int .i64 1)), none⟩, ⟨some 13, .mv (.tmp 14), none⟩])
 (.cond (.tmp 13)
 (.seq (.reg [⟨some 15, .faddr 1 (.tmp 1), none⟩, ⟨some 16, .load false 1 (.tmp 15), none⟩, ⟨some 17, .call 33 [.tmp 16, .con (.int .i64 4611686018427387904)], none⟩, ⟨some 18, .build [.int .i64 0, .bool false, .int .i64 0, .str [], .str [], .str [], .nils] [(0, 1, .con (.int .i64 2)), (2, 1, .tmp 17)], none⟩, ⟨none, .store 7 (.tmp 2) (.tmp 18), none⟩])
 .ret)
 (.seq (.reg [⟨some 20, .bin .eql .plain (.tmp 5) (.con (.int .i64 2)), none⟩, ⟨some 19, .mv (.tmp 20), none⟩])
 (.cond (.tmp 19)
 (.seq (.reg [⟨some 21, .faddr 2 (.tmp 1), none⟩, ⟨some 22, .load false 1 (.tmp 21), none⟩, ⟨some 23, .call 35 [.tmp 22], none⟩, ⟨some 24, .build [.int .i64 0, .bool false, .int .i64 0, .str [], .str [], .str [], .nils] [(0, 1, .con (.int .i64 3)), (3, 1, .tmp 23)], none⟩, ⟨none, .store 7 (.tmp 2) (.tmp 24), none⟩])
 .ret)
 (.seq (.reg [⟨some 26, .bin .eql .plain (.tmp 5) (.con (.int .i64 3)), none⟩, ⟨some 25, .mv (.tmp 26), none⟩])
 (.cond (.tmp 25)
 (.seq (.reg [⟨some 27, .faddr 1 (.tmp 1), none⟩, ⟨some 28, .load false 1 (.tmp 27), none⟩, ⟨some 29, .faddr 2 (.tmp 1), none⟩, ⟨some 30, .load false 1 (.tmp 29), none⟩, ⟨some 31, .call 23 [.tmp 28, .tmp 30], none⟩, ⟨some 32, .build [.int .i64 0, .bool false, .int .i64 0, .str [], .str [], .str [], .nils] [(0, 1, .con (.int .i64 4)), (4, 2, .tmp 31)], none⟩, ⟨none, .store 7 (.tmp 2) (.tmp 32), none⟩])
 .ret)
 (.seq (.reg [⟨some 34, .bin .eql .plain (.tmp 5) (.con (.int .i64 4)), none⟩, ⟨some 33, .mv (.tmp 34), none⟩])
 (.cond (.tmp 33)
 (.seq (.reg [⟨some 35, .bslice 1 3 [.str []] [(0, 1, .con (.str [112, 114, 105, 110, 99, 105, 112, 97, 108])), (1, 1, .con (.str [97, 99, 116, 105, 111, 110])), (2, 1, .con (.str [114, 101, 115, 111, 117, 114, 99, 101]))], none⟩, ⟨some 36, .faddr 1 (.tmp 1), none⟩, ⟨some 37, .load false 1 (.tmp 36), none⟩, ⟨some 38, .call 33 [.tmp 37, .con (.int .i64 3)], none⟩, ⟨some 39, .iaddr 1 (.tmp 35) (.tmp 38), none⟩, ⟨some 40, .load false 1 (.tmp 39), none⟩, ⟨some 41, .build [.int .i64 0, .bool false, .int .i64 0, .str [], .str [], .str [], .nils] [(0, 1, .con (.int .i64 5)), (3, 1, .tmp 40)], none⟩, ⟨none, .store 7 (.tmp 2) (.tmp 41), none⟩])
 .ret)
 .skip))))))))))))
 (.seq (.reg [⟨some 42, .build [.int .i64 0, .bool false, .int .i64 0, .str [], .str [], .str [], .nils] [(0, 1, .con (.int .i64 6))], none⟩, ⟨none, .store 7 (.tmp 2) (.tmp 42), none⟩])
 .ret)))
def ac32 : AFun := ⟨1, 43, ab32, [(.cell 2 true 7)]⟩
theorem cf32 : compF Try.prog Try.f32 = some ac32 := by kernel_rfl
theorem cl32 : callable Try.prog 32 = true := by kernel_rfl
theorem fn32 : Try.prog.funcs[32]? = some Try.f32 := by kernel_rfl
end Go.Proofs.Ytcdbpmmomgehfaa.Va
