/- Functions of the program as resolved code (printed by gen.py from the kernel's own value). Conditions: none. -/
import Derived.Test.YtcdbpmmomgehfaaProg
import Derived.Test.YtcdbpmmomgehfaaVaF
import Derived.KernelRfl
set_option maxRecDepth 100000
set_option maxHeartbeats 4000000
set_option linter.all false
namespace Go.Proofs.Ytcdbpmmomgehfaa.Va
open Go.Proofs
/- chancel/types.Envs -/
def ab22 : ACode := (.seq (.reg [⟨some 2, .box (.tmp 0), none⟩, ⟨some 3, .box (.tmp 1), none⟩, ⟨some 4, .mv (.con .nils), none⟩])
 (.seq (.reg [⟨some 5, .mv (.con .nils), none⟩])
 (.seq (.seq (.reg [⟨some 12, .faddr 1 (.tmp 2), none⟩, ⟨some 13, .load false 1 (.tmp 12), none⟩, ⟨some 14, .lenL (.tmp 13), none⟩, ⟨some 15, .mv (.con (.int .i64 0)), none⟩])
 (.block 0
 (.loop (.seq (.reg [⟨some 16, .bin .lss .plain (.tmp 15) (.tmp 14), none⟩])
 (.seq (.cond (.tmp 16)
 .skip
 (.exit 0))
 (.seq (.block 1
 (.seq (.reg [⟨some 17, .iaddr 3 (.tmp 13) (.tmp 15), none⟩, ⟨some 18, .load true 3 (.tmp 17), none⟩, ⟨some 7, .alloc [.str [], .nils, .nils], none⟩, ⟨none, .store 3 (.tmp 7) (.tmp 18), none⟩])
 (.seq (.seq (.reg [⟨some 19, .faddr 4 (.tmp 3), none⟩, ⟨some 20, .faddr 0 (.tmp 19), none⟩, ⟨some 21, .load false 1 (.tmp 20), none⟩, ⟨some 22, .bin .neq .plain (.tmp 21) (.con (.int .i64 0)), none⟩, ⟨some 23, .mv (.tmp 22), none⟩, ⟨some 24, .faddr 4 (.tmp 3), some (23, true)⟩, ⟨some 25, .faddr 1 (.tmp 24), some (23, true)⟩, ⟨some 26, .load true 2 (.tmp 25), some (23, true)⟩, ⟨some 27, .faddr 0 (.tmp 7), some (23, true)⟩, ⟨some 28, .load false 1 (.tmp 27), some (23, true)⟩, ⟨some 29, .build [.str [], .str []] [(0, 1, .con (.str [65, 99, 116, 105, 111, 110])), (1, 1, .tmp 28)], some (23, true)⟩, ⟨some 30, .bin .neq (.agg [.s, .s]) (.tmp 26) (.tmp 29), some (23, true)⟩, ⟨some 31, .pick (.tmp 23) (.tmp 30) (.con (.bool false)), none⟩])
 (.cond (.tmp 31)
 (.exit 1)
 .skip))
 (.seq (.reg [⟨some 32, .faddr 1 (.tmp 7), none⟩, ⟨some 33, .load false 1 (.tmp 32), none⟩, ⟨some 34, .lenL (.tmp 33), none⟩, ⟨some 35, .mv (.con (.int .i64 0)), none⟩])
 (.block 2
 (.loop (.seq (.reg [⟨some 36, .bin .lss .plain (.tmp 35) (.tmp 34), none⟩])
 (.seq (.cond (.tmp 36)
 .skip
 (.exit 2))
 (.seq (.block 3
 (.seq (.reg [⟨some 37, .iaddr 1 (.tmp 33) (.tmp 35), none⟩, ⟨some 38, .load false 1 (.tmp 37), none⟩, ⟨some 9, .mv (.tmp 38), none⟩])
 (.seq (.reg [⟨some 39, .faddr 2 (.tmp 7), none⟩, ⟨some 40, .load false 1 (.tmp 39), none⟩, ⟨some 41, .lenL (.tmp 40), none⟩, ⟨some 42, .mv (.con (.int .i64 0)), none⟩])
 (.block 4
 (.loop (.seq (.reg [⟨some 43, .bin .lss .plain (.tmp 42) (.tmp 41), none⟩])
 (.seq (.cond (.tmp 43)
 .skip
 (.exit 4))
 (.seq (.block 5
 (.seq (.reg [⟨some 44, .iaddr 1 (.tmp 40) (.tmp 42), none⟩, ⟨some 45, .load false 1 (.tmp 44), none⟩, ⟨some 11, .mv (.tmp 45), none⟩])
 (.seq (.reg [⟨some 46, .faddr 1 (.tmp 3), none⟩, ⟨some 47, .load true 3 (.tmp 46), none⟩, ⟨some 48, .mv (.tmp 9), none⟩, ⟨some 49, .call 41 [.tmp 47, .tmp 48], none⟩, ⟨some 50, .mv (.tmp 49), none⟩, ⟨some 51, .faddr 7 (.tmp 3), some (50, true)⟩, ⟨some 52, .load true 3 (.tmp 51), some (50, true)⟩, ⟨some 53, .mv (.tmp 11), some (50, true)⟩, ⟨some 54, .call 41 [.tmp 52, .tmp 53], some (50, true)⟩, ⟨some 55, .pick (.tmp 50) (.tmp 54) (.con (.bool false)), none⟩])
 (.cond (.tmp 55)
 (.reg [⟨some 56, .mv (.tmp 5), none⟩, ⟨some 57, .mv (.tmp 9), none⟩, ⟨some 58, .faddr 0 (.tmp 7), none⟩, ⟨some 59, .load false 1 (.tmp 58), none⟩, ⟨some 60, .mv (.tmp 11), none⟩, ⟨some 61, .build [.str [], .str [], .str []] [(0, 1, .tmp 57), (1, 1, .tmp 59), (2, 1, .tmp 60)], none⟩, ⟨some 62, .bslice 3 1 [.str [], .str [], .str []] [(0, 3, .tmp 61)], none⟩, ⟨some 63, .append 3 48 (.tmp 56) (.tmp 62), none⟩, ⟨some 5, .mv (.tmp 63), none⟩])
 .skip))))
 (.reg [⟨some 64, .bin .add .plain (.tmp 42) (.con (.int .i64 1)), none⟩, ⟨some 42, .mv (.tmp 64), none⟩])))))))))
 (.reg [⟨some 65, .bin .add .plain (.tmp 35) (.con (.int .i64 1)), none⟩, ⟨some 35, .mv (.tmp 65), none⟩]))))))))))
 (.reg [⟨some 66, .bin .add .plain (.tmp 15) (.con (.int .i64 1)), none⟩, ⟨some 15, .mv (.tmp 66), none⟩])))))))
 (.seq (.reg [⟨some 67, .mv (.tmp 5), none⟩, ⟨some 4, .mv (.tmp 67), none⟩])
 .ret))))
def ac22 : AFun := ⟨2, 68, ab22, [(.tmp 4)]⟩
theorem cf22 : compF Try.prog Try.f22 = some ac22 := by kernel_rfl
theorem cl22 : callable Try.prog 22 = true := by kernel_rfl
theorem fn22 : Try.prog.funcs[22]? = some Try.f22 := by kernel_rfl
/- chancel/types.allows -/
def ab41 : ACode := (.seq (.reg [⟨some 2, .box (.tmp 0), none⟩, ⟨some 4, .mv (.con (.bool false)), none⟩])
 (.seq (.reg [⟨some 5, .faddr 0 (.tmp 2), none⟩, ⟨some 6, .load false 1 (.tmp 5), none⟩, ⟨some 7, .bin .neq .plain (.tmp 6) (.con (.int .i64 1)), none⟩, ⟨some 8, .mv (.tmp 7), none⟩, ⟨some 9, .faddr 1 (.tmp 2), some (8, false)⟩, ⟨some 10, .faddr 0 (.tmp 9), some (8, false)⟩, ⟨some 11, .load false 1 (.tmp 10), some (8, false)⟩, ⟨some 12, .mv (.tmp 1), some (8, false)⟩, ⟨some 13, .bin .eql .plain (.tmp 11) (.tmp 12), some (8, false)⟩, ⟨some 14, .pick (.tmp 8) (.con (.bool true)) (.tmp 13), none⟩, ⟨some 4, .mv (.tmp 14), none⟩])
 .ret))
def ac41 : AFun := ⟨2, 15, ab41, [(.tmp 4)]⟩
theorem cf41 : compF Try.prog Try.f41 = some ac41 := by kernel_rfl
theorem cl41 : callable Try.prog 41 = true := by kernel_rfl
theorem fn41 : Try.prog.funcs[41]? = some Try.f41 := by kernel_rfl
end Go.Proofs.Ytcdbpmmomgehfaa.Va
