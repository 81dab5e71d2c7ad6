/- Functions of the program as resolved code (printed by gen.py from the kernel's own value). Conditions: none. -/
import Derived.Test.YtaokfpjjaejjgaaProg
import Derived.Test.YtaokfpjjaejjgaaVaF
import Derived.KernelRfl
set_option maxRecDepth 100000
set_option maxHeartbeats 4000000
set_option linter.all false
namespace Go.Proofs.Ytaokfpjjaejjgaa.Va
open Go.Proofs
/- chancel/chancelref10.Fits -/
def ab25 : ACode := (.seq (.reg [⟨(some 2), (.box (.tmp 0)), none⟩, ⟨(some 3), (.box (.tmp 1)), none⟩, ⟨(some 4), (.mv (.con (.int .i64 0))), none⟩])
 (.seq (.reg [⟨(some 8), (.load true 2 (.tmp 2)), none⟩, ⟨(some 9), (.faddr 2 (.tmp 3)), none⟩, ⟨(some 10), (.faddr 1 (.tmp 9)), none⟩, ⟨(some 11), (.load false 1 (.tmp 10)), none⟩, ⟨(some 12), (.call 16 [(.tmp 8), (.tmp 11)]), none⟩, ⟨(some 7), (.mv (.tmp 12)), none⟩, ⟨(some 13), (.ext (.tmp 7) 0), none⟩, ⟨(some 14), (.ext (.tmp 7) 1), none⟩, ⟨(some 5), (.alloc [(.str []), .nils, .nils]), none⟩, ⟨none, (.store 3 (.tmp 5) (.tmp 13)), none⟩, ⟨(some 6), (.mv (.tmp 14)), none⟩])
 (.seq (.seq (.reg [⟨(some 15), (.faddr 2 (.tmp 3)), none⟩, ⟨(some 16), (.faddr 0 (.tmp 15)), none⟩, ⟨(some 17), (.load false 1 (.tmp 16)), none⟩, ⟨(some 18), (.bin .neq .plain (.tmp 17) (.con (.str [65, 99, 116, 105, 111, 110]))), none⟩, ⟨(some 19), (.mv (.tmp 18)), none⟩, ⟨(some 20), (.mv (.tmp 6)), (some (19, false))⟩, ⟨(some 21), (.un .not (.tmp 20)), (some (19, false))⟩, ⟨(some 22), (.pick (.tmp 19) (.con (.bool true)) (.tmp 21)), none⟩])
 (.cond (.tmp 22)
 (.seq (.reg [⟨(some 4), (.mv (.con (.int .i64 15))), none⟩])
 .ret)
 .skip))
 (.seq (.seq (.reg [⟨(some 23), (.faddr 1 (.tmp 5)), none⟩, ⟨(some 24), (.load false 1 (.tmp 23)), none⟩, ⟨(some 25), (.faddr 0 (.tmp 3)), none⟩, ⟨(some 26), (.faddr 0 (.tmp 25)), none⟩, ⟨(some 27), (.load false 1 (.tmp 26)), none⟩, ⟨(some 28), (.call 47 [(.tmp 24), (.tmp 27)]), none⟩, ⟨(some 29), (.un .not (.tmp 28)), none⟩, ⟨(some 30), (.mv (.tmp 29)), none⟩, ⟨(some 31), (.faddr 2 (.tmp 5)), (some (30, false))⟩, ⟨(some 32), (.load false 1 (.tmp 31)), (some (30, false))⟩, ⟨(some 33), (.faddr 4 (.tmp 3)), (some (30, false))⟩, ⟨(some 34), (.faddr 0 (.tmp 33)), (some (30, false))⟩, ⟨(some 35), (.load false 1 (.tmp 34)), (some (30, false))⟩, ⟨(some 36), (.call 47 [(.tmp 32), (.tmp 35)]), (some (30, false))⟩, ⟨(some 37), (.un .not (.tmp 36)), (some (30, false))⟩, ⟨(some 38), (.pick (.tmp 30) (.con (.bool true)) (.tmp 37)), none⟩])
 (.cond (.tmp 38)
 (.seq (.reg [⟨(some 4), (.mv (.con (.int .i64 16))), none⟩])
 .ret)
 .skip))
 (.seq (.reg [⟨(some 4), (.mv (.con (.int .i64 0))), none⟩])
 .ret)))))
def ac25 : AFun := ⟨2, 39, ab25, [(.tmp 4)]⟩
theorem cf25 : compF Try.prog Try.f25 = some ac25 := by kernel_rfl
theorem cl25 : callable Try.prog 25 = true := by kernel_rfl
theorem fn25 : Try.prog.funcs[25]? = some Try.f25 := by kernel_rfl
/- chancel/chancellaw5.kind -/
def ab26 : ACode := (.seq (.reg [⟨(some 2), (.mv (.con (.str []))), none⟩])
 (.seq (.reg [⟨(some 3), (.bslice 1 4 [(.str [])] [(0, 1, (.con (.str [85, 115, 101, 114]))), (1, 1, (.con (.str [71, 114, 111, 117, 112]))), (2, 1, (.con (.str [68, 111, 99]))), (3, 1, (.con (.str [84, 101, 97, 109])))]), none⟩, ⟨(some 4), (.mv (.tmp 0)), none⟩, ⟨(some 5), (.call 27 [(.tmp 4), (.con (.int .i64 4))]), none⟩, ⟨(some 6), (.iaddr 1 (.tmp 3) (.tmp 5)), none⟩, ⟨(some 7), (.load false 1 (.tmp 6)), none⟩, ⟨(some 2), (.mv (.tmp 7)), none⟩])
 .ret))
def ac26 : AFun := ⟨1, 8, ab26, [(.tmp 2)]⟩
theorem cf26 : compF Try.prog Try.f26 = some ac26 := by kernel_rfl
theorem cl26 : callable Try.prog 26 = true := by kernel_rfl
theorem fn26 : Try.prog.funcs[26]? = some Try.f26 := by kernel_rfl
/- chancel/chancellaw5.within -/
def ab27 : ACode := (.seq (.reg [⟨(some 4), (.mv (.con (.int .i64 0))), none⟩])
 (.seq (.reg [⟨(some 6), (.mv (.tmp 0)), none⟩, ⟨(some 7), (.mv (.tmp 1)), none⟩, ⟨(some 8), (.bin .rem .plain (.tmp 6) (.tmp 7)), none⟩, ⟨(some 5), (.mv (.tmp 8)), none⟩])
 (.seq (.seq (.reg [⟨(some 9), (.mv (.tmp 5)), none⟩, ⟨(some 10), (.bin .lss .plain (.tmp 9) (.con (.int .i64 0))), none⟩])
 (.cond (.tmp 10)
 (.reg [⟨(some 11), (.mv (.tmp 5)), none⟩, ⟨(some 12), (.mv (.tmp 1)), none⟩, ⟨(some 13), (.bin .add .plain (.tmp 11) (.tmp 12)), none⟩, ⟨(some 5), (.mv (.tmp 13)), none⟩])
 .skip))
 (.seq (.reg [⟨(some 14), (.mv (.tmp 5)), none⟩, ⟨(some 4), (.mv (.tmp 14)), none⟩])
 .ret))))
def ac27 : AFun := ⟨2, 15, ab27, [(.tmp 4)]⟩
theorem cf27 : compF Try.prog Try.f27 = some ac27 := by kernel_rfl
theorem cl27 : callable Try.prog 27 = true := by kernel_rfl
theorem fn27 : Try.prog.funcs[27]? = some Try.f27 := by kernel_rfl
/- chancel/chancellaw5.name -/
def ab28 : ACode := (.seq (.reg [⟨(some 2), (.mv (.con (.str []))), none⟩])
 (.seq (.reg [⟨(some 3), (.bslice 1 7 [(.str [])] [(0, 1, (.con (.str [97]))), (1, 1, (.con (.str [97, 103, 101]))), (2, 1, (.con (.str [105, 102]))), (3, 1, (.con (.str [99, 111, 110, 116, 97, 105, 110, 115]))), (4, 1, (.con (.str [112, 114, 105, 110, 99, 105, 112, 97, 108]))), (5, 1, (.con (.str [95, 120]))), (6, 1, (.con (.str [110, 97, 109, 101])))]), none⟩, ⟨(some 4), (.mv (.tmp 0)), none⟩, ⟨(some 5), (.call 27 [(.tmp 4), (.con (.int .i64 7))]), none⟩, ⟨(some 6), (.iaddr 1 (.tmp 3) (.tmp 5)), none⟩, ⟨(some 7), (.load false 1 (.tmp 6)), none⟩, ⟨(some 2), (.mv (.tmp 7)), none⟩])
 .ret))
def ac28 : AFun := ⟨1, 8, ab28, [(.tmp 2)]⟩
theorem cf28 : compF Try.prog Try.f28 = some ac28 := by kernel_rfl
theorem cl28 : callable Try.prog 28 = true := by kernel_rfl
theorem fn28 : Try.prog.funcs[28]? = some Try.f28 := by kernel_rfl
/- chancel/chancellaw10.kind -/
def ab29 : ACode := (.seq (.reg [⟨(some 2), (.box (.tmp 0)), none⟩, ⟨(some 3), (.box (.tmp 1)), none⟩, ⟨(some 4), (.alloc [(.str []), .nils, .nils]), none⟩])
 (.seq (.reg [⟨(some 10), (.load true 2 (.tmp 2)), none⟩, ⟨(some 11), (.faddr 1 (.tmp 3)), none⟩, ⟨(some 12), (.load false 1 (.tmp 11)), none⟩, ⟨(some 13), (.call 30 [(.tmp 10), (.tmp 12)]), none⟩, ⟨(some 14), (.faddr 1 (.tmp 3)), none⟩, ⟨none, (.store 1 (.tmp 14) (.tmp 13)), none⟩])
 (.seq (.reg [⟨(some 5), (.mv (.con .nils)), none⟩])
 (.seq (.seq (.reg [⟨(some 6), (.mv (.con (.int .i64 0))), none⟩])
 (.block 0
 (.loop (.seq (.seq (.reg [⟨(some 15), (.mv (.tmp 6)), none⟩, ⟨(some 16), (.faddr 2 (.tmp 3)), none⟩, ⟨(some 17), (.load false 1 (.tmp 16)), none⟩, ⟨(some 18), (.lenL (.tmp 17)), none⟩, ⟨(some 19), (.bin .lss .plain (.tmp 15) (.tmp 18)), none⟩])
 (.cond (.tmp 19)
 .skip
 (.exit 0)))
 (.seq (.block 1
 (.seq (.reg [⟨(some 22), (.faddr 2 (.tmp 3)), none⟩, ⟨(some 23), (.load false 1 (.tmp 22)), none⟩, ⟨(some 24), (.mv (.tmp 6)), none⟩, ⟨(some 25), (.iaddr 4 (.tmp 23) (.tmp 24)), none⟩, ⟨(some 26), (.load true 4 (.tmp 25)), none⟩, ⟨(some 7), (.alloc [(.str []), (.int .i64 0), (.int .i64 0), (.str [])]), none⟩, ⟨none, (.store 4 (.tmp 7) (.tmp 26)), none⟩])
 (.seq (.seq (.reg [⟨(some 27), (.faddr 1 (.tmp 7)), none⟩, ⟨(some 28), (.faddr 2 (.tmp 27)), none⟩, ⟨(some 29), (.load false 1 (.tmp 28)), none⟩, ⟨(some 30), (.bin .neq .plain (.tmp 29) (.con (.str []))), none⟩])
 (.cond (.tmp 30)
 (.seq (.reg [⟨(some 32), (.load true 2 (.tmp 2)), none⟩, ⟨(some 33), (.faddr 1 (.tmp 7)), none⟩, ⟨(some 34), (.faddr 2 (.tmp 33)), none⟩, ⟨(some 35), (.load false 1 (.tmp 34)), none⟩, ⟨(some 36), (.call 21 [(.tmp 32), (.tmp 35)]), none⟩, ⟨(some 31), (.mv (.tmp 36)), none⟩, ⟨(some 37), (.ext (.tmp 31) 0), none⟩, ⟨(some 38), (.ext (.tmp 31) 1), none⟩, ⟨(some 8), (.alloc [(.str []), .nils, .nils]), none⟩, ⟨none, (.store 3 (.tmp 8) (.tmp 37)), none⟩, ⟨(some 9), (.mv (.tmp 38)), none⟩])
 (.seq (.reg [⟨(some 39), (.mv (.tmp 9)), none⟩, ⟨(some 40), (.un .not (.tmp 39)), none⟩])
 (.cond (.tmp 40)
 (.reg [⟨(some 41), (.faddr 0 (.tmp 3)), none⟩, ⟨(some 42), (.load false 1 (.tmp 41)), none⟩, ⟨(some 43), (.faddr 1 (.tmp 7)), none⟩, ⟨(some 44), (.faddr 2 (.tmp 43)), none⟩, ⟨none, (.store 1 (.tmp 44) (.tmp 42)), none⟩])
 .skip)))
 .skip))
 (.seq (.dreg [⟨(some 45), (.mv (.tmp 5)), none⟩, ⟨(some 46), (.lenL (.tmp 45)), none⟩, ⟨(some 47), (.bin .eql .plain (.tmp 46) (.con (.int .i64 0))), none⟩, ⟨(some 48), (.mv (.tmp 47)), none⟩, ⟨(some 49), (.mv (.tmp 5)), (some (48, false))⟩, ⟨(some 50), (.mv (.tmp 5)), (some (48, false))⟩, ⟨(some 51), (.lenL (.tmp 50)), (some (48, false))⟩, ⟨(some 52), (.bin .sub .plain (.tmp 51) (.con (.int .i64 1))), (some (48, false))⟩, ⟨(some 53), (.iaddr 4 (.tmp 49) (.tmp 52)), (some (48, false))⟩, ⟨(some 54), (.faddr 0 (.tmp 53)), (some (48, false))⟩, ⟨(some 55), (.load false 1 (.tmp 54)), (some (48, false))⟩, ⟨(some 56), (.faddr 0 (.tmp 7)), (some (48, false))⟩, ⟨(some 57), (.load false 1 (.tmp 56)), (some (48, false))⟩, ⟨(some 58), (.bin .lss .plain (.tmp 55) (.tmp 57)), (some (48, false))⟩, ⟨(some 59), (.pick (.tmp 48) (.con (.bool true)) (.tmp 58)), none⟩] [] [0, 1, 3, 7, 15, 15, 47, 111, 255, 511, 1023, 15, 2063, 8191, 16383] [])
 (.cond (.tmp 59)
 (.reg [⟨(some 60), (.mv (.tmp 5)), none⟩, ⟨(some 61), (.load true 4 (.tmp 7)), none⟩, ⟨(some 62), (.bslice 4 1 [(.str []), (.int .i64 0), (.int .i64 0), (.str [])] [(0, 4, (.tmp 61))]), none⟩, ⟨(some 63), (.append 4 48 (.tmp 60) (.tmp 62)), none⟩, ⟨(some 5), (.mv (.tmp 63)), none⟩])
 .skip)))))
 (.reg [⟨(some 20), (.mv (.tmp 6)), none⟩, ⟨(some 21), (.bin .add .plain (.tmp 20) (.con (.int .i64 1))), none⟩, ⟨(some 6), (.mv (.tmp 21)), none⟩]))))))
 (.seq (.reg [⟨(some 64), (.mv (.tmp 5)), none⟩, ⟨(some 65), (.faddr 2 (.tmp 3)), none⟩, ⟨none, (.store 1 (.tmp 65) (.tmp 64)), none⟩])
 (.seq (.reg [⟨(some 66), (.load true 3 (.tmp 3)), none⟩, ⟨none, (.store 3 (.tmp 4) (.tmp 66)), none⟩])
 .ret))))))
def ac29 : AFun := ⟨2, 67, ab29, [(.cell 4 true 3)]⟩
theorem cf29 : compF Try.prog Try.f29 = some ac29 := by kernel_rfl
theorem cl29 : callable Try.prog 29 = true := by kernel_rfl
theorem fn29 : Try.prog.funcs[29]? = some Try.f29 := by kernel_rfl
/- chancel/chancellaw10.those -/
def ab30 : ACode := (.seq (.reg [⟨(some 2), (.box (.tmp 0)), none⟩, ⟨(some 4), (.mv (.con .nils)), none⟩])
 (.seq (.reg [⟨(some 5), (.mv (.con .nils)), none⟩])
 (.seq (.seq (.reg [⟨(some 6), (.mv (.con (.int .i64 0))), none⟩])
 (.block 0
 (.loop (.seq (.seq (.reg [⟨(some 9), (.mv (.tmp 6)), none⟩, ⟨(some 10), (.mv (.tmp 1)), none⟩, ⟨(some 11), (.lenL (.tmp 10)), none⟩, ⟨(some 12), (.bin .lss .plain (.tmp 9) (.tmp 11)), none⟩])
 (.cond (.tmp 12)
 .skip
 (.exit 0)))
 (.seq (.block 1
 (.seq (.dreg [⟨(some 16), (.load true 2 (.tmp 2)), none⟩, ⟨(some 17), (.mv (.tmp 1)), none⟩, ⟨(some 18), (.mv (.tmp 6)), none⟩, ⟨(some 19), (.iaddr 1 (.tmp 17) (.tmp 18)), none⟩, ⟨(some 20), (.load false 1 (.tmp 19)), none⟩, ⟨(some 21), (.call 21 [(.tmp 16), (.tmp 20)]), none⟩, ⟨(some 15), (.mv (.tmp 21)), none⟩, ⟨(some 22), (.ext (.tmp 15) 0), none⟩, ⟨(some 23), (.ext (.tmp 15) 1), none⟩, ⟨(some 7), (.alloc [(.str []), .nils, .nils]), none⟩, ⟨none, (.store 3 (.tmp 7) (.tmp 22)), none⟩, ⟨(some 8), (.mv (.tmp 23)), none⟩] [5, 10] [0, 0, 0, 6, 14, 31, 63, 127, 127, 0, 767, 2047] [9])
 (.seq (.reg [⟨(some 24), (.mv (.tmp 8)), none⟩])
 (.cond (.tmp 24)
 (.reg [⟨(some 25), (.mv (.tmp 5)), none⟩, ⟨(some 26), (.mv (.tmp 1)), none⟩, ⟨(some 27), (.mv (.tmp 6)), none⟩, ⟨(some 28), (.iaddr 1 (.tmp 26) (.tmp 27)), none⟩, ⟨(some 29), (.load false 1 (.tmp 28)), none⟩, ⟨(some 30), (.bslice 1 1 [(.str [])] [(0, 1, (.tmp 29))]), none⟩, ⟨(some 31), (.append 1 16 (.tmp 25) (.tmp 30)), none⟩, ⟨(some 5), (.mv (.tmp 31)), none⟩])
 .skip))))
 (.reg [⟨(some 13), (.mv (.tmp 6)), none⟩, ⟨(some 14), (.bin .add .plain (.tmp 13) (.con (.int .i64 1))), none⟩, ⟨(some 6), (.mv (.tmp 14)), none⟩]))))))
 (.seq (.reg [⟨(some 32), (.mv (.tmp 5)), none⟩, ⟨(some 4), (.mv (.tmp 32)), none⟩])
 .ret))))
def ac30 : AFun := ⟨2, 33, ab30, [(.tmp 4)]⟩
theorem cf30 : compF Try.prog Try.f30 = some ac30 := by kernel_rfl
theorem cl30 : callable Try.prog 30 = true := by kernel_rfl
theorem fn30 : Try.prog.funcs[30]? = some Try.f30 := by kernel_rfl
/- chancel/schema.kind -/
def ab31 : ACode := (.seq (.reg [⟨(some 3), (.box (.tmp 0)), none⟩, ⟨(some 4), (.box (.tmp 1)), none⟩, ⟨(some 6), (.mv (.con (.int .i64 0))), none⟩])
 (.seq (.block 0
 (.seq (.reg [⟨(some 13), (.faddr 0 (.tmp 4)), none⟩, ⟨(some 14), (.load false 1 (.tmp 13)), none⟩, ⟨(some 15), (.call 48 [(.tmp 14)]), none⟩, ⟨(some 16), (.un .not (.tmp 15)), none⟩, ⟨(some 17), (.mv (.tmp 16)), none⟩, ⟨(some 18), (.faddr 0 (.tmp 4)), (some (17, false))⟩, ⟨(some 19), (.load false 1 (.tmp 18)), (some (17, false))⟩, ⟨(some 20), (.call 49 [(.tmp 19)]), (some (17, false))⟩, ⟨(some 21), (.pick (.tmp 17) (.con (.bool true)) (.tmp 20)), none⟩, ⟨(some 12), (.mv (.tmp 21)), none⟩])
 (.cond (.tmp 12)
 (.seq (.reg [⟨(some 6), (.mv (.con (.int .i64 15))), none⟩])
 .ret)
 (.seq (.reg [⟨(some 23), (.faddr 0 (.tmp 4)), none⟩, ⟨(some 24), (.load false 1 (.tmp 23)), none⟩, ⟨(some 25), (.mv (.tmp 2)), none⟩, ⟨(some 26), (.bin .leq .plain (.tmp 24) (.tmp 25)), none⟩, ⟨(some 22), (.mv (.tmp 26)), none⟩])
 (.cond (.tmp 22)
 (.seq (.reg [⟨(some 6), (.mv (.con (.int .i64 7))), none⟩])
 .ret)
 (.seq (.reg [⟨(some 28), (.faddr 2 (.tmp 4)), none⟩, ⟨(some 29), (.load false 1 (.tmp 28)), none⟩, ⟨(some 30), (.lenL (.tmp 29)), none⟩, ⟨(some 31), (.bin .gtr .plain (.tmp 30) (.con (.int .i64 5))), none⟩, ⟨(some 32), (.mv (.tmp 31)), none⟩, ⟨(some 33), (.faddr 1 (.tmp 4)), (some (32, false))⟩, ⟨(some 34), (.load false 1 (.tmp 33)), (some (32, false))⟩, ⟨(some 35), (.lenL (.tmp 34)), (some (32, false))⟩, ⟨(some 36), (.bin .gtr .plain (.tmp 35) (.con (.int .i64 4))), (some (32, false))⟩, ⟨(some 37), (.pick (.tmp 32) (.con (.bool true)) (.tmp 36)), none⟩, ⟨(some 27), (.mv (.tmp 37)), none⟩])
 (.cond (.tmp 27)
 (.seq (.reg [⟨(some 6), (.mv (.con (.int .i64 4))), none⟩])
 .ret)
 .skip)))))))
 (.seq (.seq (.reg [⟨(some 38), (.faddr 1 (.tmp 4)), none⟩, ⟨(some 39), (.load false 1 (.tmp 38)), none⟩, ⟨(some 40), (.lenL (.tmp 39)), none⟩, ⟨(some 41), (.mv (.con (.int .i64 0))), none⟩])
 (.block 1
 (.loop (.seq (.reg [⟨(some 42), (.bin .lss .plain (.tmp 41) (.tmp 40)), none⟩])
 (.seq (.cond (.tmp 42)
 .skip
 (.exit 1))
 (.seq (.block 2
 (.seq (.reg [⟨(some 43), (.iaddr 1 (.tmp 39) (.tmp 41)), none⟩, ⟨(some 44), (.load false 1 (.tmp 43)), none⟩, ⟨(some 8), (.mv (.tmp 44)), none⟩])
 (.seq (.reg [⟨(some 45), (.load true 2 (.tmp 3)), none⟩, ⟨(some 46), (.mv (.tmp 8)), none⟩, ⟨(some 47), (.call 50 [(.tmp 45), (.tmp 46)]), none⟩, ⟨(some 48), (.un .not (.tmp 47)), none⟩])
 (.cond (.tmp 48)
 (.seq (.reg [⟨(some 6), (.mv (.con (.int .i64 2))), none⟩])
 .ret)
 .skip))))
 (.reg [⟨(some 49), (.bin .add .plain (.tmp 41) (.con (.int .i64 1))), none⟩, ⟨(some 41), (.mv (.tmp 49)), none⟩])))))))
 (.seq (.reg [⟨(some 2), (.mv (.con (.str []))), none⟩])
 (.seq (.seq (.reg [⟨(some 50), (.faddr 2 (.tmp 4)), none⟩, ⟨(some 51), (.load false 1 (.tmp 50)), none⟩, ⟨(some 52), (.lenL (.tmp 51)), none⟩, ⟨(some 53), (.mv (.con (.int .i64 0))), none⟩])
 (.block 3
 (.loop (.seq (.reg [⟨(some 54), (.bin .lss .plain (.tmp 53) (.tmp 52)), none⟩])
 (.seq (.cond (.tmp 54)
 .skip
 (.exit 3))
 (.seq (.block 4
 (.seq (.reg [⟨(some 55), (.iaddr 4 (.tmp 51) (.tmp 53)), none⟩, ⟨(some 56), (.load true 4 (.tmp 55)), none⟩, ⟨(some 10), (.alloc [(.str []), (.int .i64 0), (.int .i64 0), (.str [])]), none⟩, ⟨none, (.store 4 (.tmp 10) (.tmp 56)), none⟩])
 (.seq (.seq (.reg [⟨(some 57), (.faddr 0 (.tmp 10)), none⟩, ⟨(some 58), (.load false 1 (.tmp 57)), none⟩, ⟨(some 59), (.call 48 [(.tmp 58)]), none⟩, ⟨(some 60), (.un .not (.tmp 59)), none⟩])
 (.cond (.tmp 60)
 (.seq (.reg [⟨(some 6), (.mv (.con (.int .i64 15))), none⟩])
 .ret)
 .skip))
 (.seq (.seq (.reg [⟨(some 61), (.faddr 0 (.tmp 10)), none⟩, ⟨(some 62), (.load false 1 (.tmp 61)), none⟩, ⟨(some 63), (.mv (.tmp 2)), none⟩, ⟨(some 64), (.bin .leq .plain (.tmp 62) (.tmp 63)), none⟩])
 (.cond (.tmp 64)
 (.seq (.reg [⟨(some 6), (.mv (.con (.int .i64 7))), none⟩])
 .ret)
 .skip))
 (.seq (.seq (.reg [⟨(some 65), (.load true 2 (.tmp 3)), none⟩, ⟨(some 66), (.faddr 1 (.tmp 10)), none⟩, ⟨(some 67), (.load true 3 (.tmp 66)), none⟩, ⟨(some 68), (.call 51 [(.tmp 65), (.tmp 67)]), none⟩, ⟨(some 11), (.mv (.tmp 68)), none⟩])
 (.seq (.reg [⟨(some 69), (.mv (.tmp 11)), none⟩, ⟨(some 70), (.bin .neq .plain (.tmp 69) (.con (.int .i64 0))), none⟩])
 (.cond (.tmp 70)
 (.seq (.reg [⟨(some 71), (.mv (.tmp 11)), none⟩, ⟨(some 6), (.mv (.tmp 71)), none⟩])
 .ret)
 .skip)))
 (.reg [⟨(some 72), (.faddr 0 (.tmp 10)), none⟩, ⟨(some 73), (.load false 1 (.tmp 72)), none⟩, ⟨(some 2), (.mv (.tmp 73)), none⟩]))))))
 (.reg [⟨(some 74), (.bin .add .plain (.tmp 53) (.con (.int .i64 1))), none⟩, ⟨(some 53), (.mv (.tmp 74)), none⟩])))))))
 (.seq (.reg [⟨(some 6), (.mv (.con (.int .i64 0))), none⟩])
 .ret))))))
def ac31 : AFun := ⟨3, 75, ab31, [(.tmp 6)]⟩
theorem cf31 : compF Try.prog Try.f31 = some ac31 := by kernel_rfl
theorem cl31 : callable Try.prog 31 = true := by kernel_rfl
theorem fn31 : Try.prog.funcs[31]? = some Try.f31 := by kernel_rfl
/- chancel/schema.act -/
def ab32 : ACode := (.seq (.reg [⟨(some 3), (.box (.tmp 0)), none⟩, ⟨(some 4), (.box (.tmp 1)), none⟩, ⟨(some 6), (.mv (.con (.int .i64 0))), none⟩])
 (.seq (.block 0
 (.seq (.reg [⟨(some 10), (.faddr 0 (.tmp 4)), none⟩, ⟨(some 11), (.load false 1 (.tmp 10)), none⟩, ⟨(some 12), (.call 48 [(.tmp 11)]), none⟩, ⟨(some 13), (.un .not (.tmp 12)), none⟩, ⟨(some 9), (.mv (.tmp 13)), none⟩])
 (.cond (.tmp 9)
 (.seq (.reg [⟨(some 6), (.mv (.con (.int .i64 15))), none⟩])
 .ret)
 (.seq (.reg [⟨(some 15), (.faddr 0 (.tmp 4)), none⟩, ⟨(some 16), (.load false 1 (.tmp 15)), none⟩, ⟨(some 17), (.mv (.tmp 2)), none⟩, ⟨(some 18), (.bin .leq .plain (.tmp 16) (.tmp 17)), none⟩, ⟨(some 14), (.mv (.tmp 18)), none⟩])
 (.cond (.tmp 14)
 (.seq (.reg [⟨(some 6), (.mv (.con (.int .i64 7))), none⟩])
 .ret)
 (.seq (.reg [⟨(some 20), (.faddr 1 (.tmp 4)), none⟩, ⟨(some 21), (.load false 1 (.tmp 20)), none⟩, ⟨(some 22), (.lenL (.tmp 21)), none⟩, ⟨(some 23), (.bin .eql .plain (.tmp 22) (.con (.int .i64 0))), none⟩, ⟨(some 24), (.mv (.tmp 23)), none⟩, ⟨(some 25), (.faddr 2 (.tmp 4)), (some (24, false))⟩, ⟨(some 26), (.load false 1 (.tmp 25)), (some (24, false))⟩, ⟨(some 27), (.lenL (.tmp 26)), (some (24, false))⟩, ⟨(some 28), (.bin .eql .plain (.tmp 27) (.con (.int .i64 0))), (some (24, false))⟩, ⟨(some 29), (.pick (.tmp 24) (.con (.bool true)) (.tmp 28)), none⟩, ⟨(some 19), (.mv (.tmp 29)), none⟩])
 (.cond (.tmp 19)
 (.seq (.reg [⟨(some 6), (.mv (.con (.int .i64 13))), none⟩])
 .ret)
 (.seq (.reg [⟨(some 31), (.faddr 1 (.tmp 4)), none⟩, ⟨(some 32), (.load false 1 (.tmp 31)), none⟩, ⟨(some 33), (.lenL (.tmp 32)), none⟩, ⟨(some 34), (.bin .gtr .plain (.tmp 33) (.con (.int .i64 6))), none⟩, ⟨(some 35), (.mv (.tmp 34)), none⟩, ⟨(some 36), (.faddr 2 (.tmp 4)), (some (35, false))⟩, ⟨(some 37), (.load false 1 (.tmp 36)), (some (35, false))⟩, ⟨(some 38), (.lenL (.tmp 37)), (some (35, false))⟩, ⟨(some 39), (.bin .gtr .plain (.tmp 38) (.con (.int .i64 6))), (some (35, false))⟩, ⟨(some 40), (.pick (.tmp 35) (.con (.bool true)) (.tmp 39)), none⟩, ⟨(some 30), (.mv (.tmp 40)), none⟩])
 (.cond (.tmp 30)
 (.seq (.reg [⟨(some 6), (.mv (.con (.int .i64 4))), none⟩])
 .ret)
 .skip)))))))))
 (.seq (.seq (.reg [⟨(some 41), (.faddr 1 (.tmp 4)), none⟩, ⟨(some 42), (.load false 1 (.tmp 41)), none⟩, ⟨(some 43), (.faddr 2 (.tmp 4)), none⟩, ⟨(some 44), (.load false 1 (.tmp 43)), none⟩, ⟨(some 45), (.bslice 1 2 [.nils] [(0, 1, (.tmp 42)), (1, 1, (.tmp 44))]), none⟩, ⟨(some 46), (.call 52 [(.tmp 45)]), none⟩, ⟨(some 47), (.lenL (.tmp 46)), none⟩, ⟨(some 48), (.mv (.con (.int .i64 0))), none⟩])
 (.block 1
 (.loop (.seq (.reg [⟨(some 49), (.bin .lss .plain (.tmp 48) (.tmp 47)), none⟩])
 (.seq (.cond (.tmp 49)
 .skip
 (.exit 1))
 (.seq (.block 2
 (.seq (.reg [⟨(some 50), (.iaddr 1 (.tmp 46) (.tmp 48)), none⟩, ⟨(some 51), (.load false 1 (.tmp 50)), none⟩, ⟨(some 8), (.mv (.tmp 51)), none⟩])
 (.seq (.reg [⟨(some 52), (.load true 2 (.tmp 3)), none⟩, ⟨(some 53), (.mv (.tmp 8)), none⟩, ⟨(some 54), (.call 50 [(.tmp 52), (.tmp 53)]), none⟩, ⟨(some 55), (.un .not (.tmp 54)), none⟩])
 (.cond (.tmp 55)
 (.seq (.reg [⟨(some 6), (.mv (.con (.int .i64 2))), none⟩])
 .ret)
 .skip))))
 (.reg [⟨(some 56), (.bin .add .plain (.tmp 48) (.con (.int .i64 1))), none⟩, ⟨(some 48), (.mv (.tmp 56)), none⟩])))))))
 (.seq (.reg [⟨(some 6), (.mv (.con (.int .i64 0))), none⟩])
 .ret))))
def ac32 : AFun := ⟨3, 57, ab32, [(.tmp 6)]⟩
theorem cf32 : compF Try.prog Try.f32 = some ac32 := by kernel_rfl
theorem cl32 : callable Try.prog 32 = true := by kernel_rfl
theorem fn32 : Try.prog.funcs[32]? = some Try.f32 := by kernel_rfl
/- chancel/chancelref3.Ident -/
def ab33 : ACode := (.seq (.reg [⟨(some 2), (.mv (.con (.bool false))), none⟩])
 (.seq (.seq (.reg [⟨(some 3), (.mv (.con (.int .i64 0))), none⟩])
 (.block 0
 (.loop (.seq (.seq (.reg [⟨(some 5), (.mv (.tmp 3)), none⟩, ⟨(some 6), (.mv (.tmp 0)), none⟩, ⟨(some 7), (.lenS (.tmp 6)), none⟩, ⟨(some 8), (.bin .lss .plain (.tmp 5) (.tmp 7)), none⟩])
 (.cond (.tmp 8)
 .skip
 (.exit 0)))
 (.seq (.block 1
 (.seq (.reg [⟨(some 11), (.mv (.tmp 0)), none⟩, ⟨(some 12), (.mv (.tmp 3)), none⟩, ⟨(some 13), (.istr (.tmp 11) (.tmp 12)), none⟩, ⟨(some 14), (.bin .geq .plain (.tmp 13) (.con (.int .u8 97))), none⟩, ⟨(some 15), (.mv (.tmp 14)), none⟩, ⟨(some 16), (.mv (.tmp 0)), (some (15, true))⟩, ⟨(some 17), (.mv (.tmp 3)), (some (15, true))⟩, ⟨(some 18), (.istr (.tmp 16) (.tmp 17)), (some (15, true))⟩, ⟨(some 19), (.bin .leq .plain (.tmp 18) (.con (.int .u8 122))), (some (15, true))⟩, ⟨(some 20), (.pick (.tmp 15) (.tmp 19) (.con (.bool false))), none⟩, ⟨(some 21), (.mv (.tmp 20)), none⟩, ⟨(some 22), (.mv (.tmp 0)), (some (21, false))⟩, ⟨(some 23), (.mv (.tmp 3)), (some (21, false))⟩, ⟨(some 24), (.istr (.tmp 22) (.tmp 23)), (some (21, false))⟩, ⟨(some 25), (.bin .geq .plain (.tmp 24) (.con (.int .u8 65))), (some (21, false))⟩, ⟨(some 26), (.mv (.tmp 25)), (some (21, false))⟩, ⟨(some 27), (.mv (.tmp 0)), (some (26, true))⟩, ⟨(some 28), (.mv (.tmp 3)), (some (26, true))⟩, ⟨(some 29), (.istr (.tmp 27) (.tmp 28)), (some (26, true))⟩, ⟨(some 30), (.bin .leq .plain (.tmp 29) (.con (.int .u8 90))), (some (26, true))⟩, ⟨(some 31), (.pick (.tmp 26) (.tmp 30) (.con (.bool false))), (some (21, false))⟩, ⟨(some 32), (.pick (.tmp 21) (.con (.bool true)) (.tmp 31)), none⟩, ⟨(some 33), (.mv (.tmp 32)), none⟩, ⟨(some 34), (.mv (.tmp 0)), (some (33, false))⟩, ⟨(some 35), (.mv (.tmp 3)), (some (33, false))⟩, ⟨(some 36), (.istr (.tmp 34) (.tmp 35)), (some (33, false))⟩, ⟨(some 37), (.bin .eql .plain (.tmp 36) (.con (.int .u8 95))), (some (33, false))⟩, ⟨(some 38), (.pick (.tmp 33) (.con (.bool true)) (.tmp 37)), none⟩, ⟨(some 4), (.mv (.tmp 38)), none⟩])
 (.seq (.reg [⟨(some 39), (.mv (.tmp 4)), none⟩, ⟨(some 40), (.un .not (.tmp 39)), none⟩, ⟨(some 41), (.mv (.tmp 40)), none⟩, ⟨(some 42), (.mv (.tmp 3)), (some (41, true))⟩, ⟨(some 43), (.bin .eql .plain (.tmp 42) (.con (.int .i64 0))), (some (41, true))⟩, ⟨(some 44), (.mv (.tmp 43)), (some (41, true))⟩, ⟨(some 45), (.mv (.tmp 0)), (some (44, false))⟩, ⟨(some 46), (.mv (.tmp 3)), (some (44, false))⟩, ⟨(some 47), (.istr (.tmp 45) (.tmp 46)), (some (44, false))⟩, ⟨(some 48), (.bin .lss .plain (.tmp 47) (.con (.int .u8 48))), (some (44, false))⟩, ⟨(some 49), (.pick (.tmp 44) (.con (.bool true)) (.tmp 48)), (some (41, true))⟩, ⟨(some 50), (.mv (.tmp 49)), (some (41, true))⟩, ⟨(some 51), (.mv (.tmp 0)), (some (50, false))⟩, ⟨(some 52), (.mv (.tmp 3)), (some (50, false))⟩, ⟨(some 53), (.istr (.tmp 51) (.tmp 52)), (some (50, false))⟩, ⟨(some 54), (.bin .gtr .plain (.tmp 53) (.con (.int .u8 57))), (some (50, false))⟩, ⟨(some 55), (.pick (.tmp 50) (.con (.bool true)) (.tmp 54)), (some (41, true))⟩, ⟨(some 56), (.pick (.tmp 41) (.tmp 55) (.con (.bool false))), none⟩])
 (.cond (.tmp 56)
 (.seq (.reg [⟨(some 2), (.mv (.con (.bool false))), none⟩])
 .ret)
 .skip))))
 (.reg [⟨(some 9), (.mv (.tmp 3)), none⟩, ⟨(some 10), (.bin .add .plain (.tmp 9) (.con (.int .i64 1))), none⟩, ⟨(some 3), (.mv (.tmp 10)), none⟩]))))))
 (.seq (.reg [⟨(some 57), (.mv (.tmp 0)), none⟩, ⟨(some 58), (.lenS (.tmp 57)), none⟩, ⟨(some 59), (.bin .geq .plain (.tmp 58) (.con (.int .i64 1))), none⟩, ⟨(some 60), (.mv (.tmp 59)), none⟩, ⟨(some 61), (.mv (.tmp 0)), (some (60, true))⟩, ⟨(some 62), (.lenS (.tmp 61)), (some (60, true))⟩, ⟨(some 63), (.bin .leq .plain (.tmp 62) (.con (.int .i64 12))), (some (60, true))⟩, ⟨(some 64), (.pick (.tmp 60) (.tmp 63) (.con (.bool false))), none⟩, ⟨(some 2), (.mv (.tmp 64)), none⟩])
 .ret)))
def ac33 : AFun := ⟨1, 65, ab33, [(.tmp 2)]⟩
theorem cf33 : compF Try.prog Try.f33 = some ac33 := by kernel_rfl
theorem cl33 : callable Try.prog 33 = true := by kernel_rfl
theorem fn33 : Try.prog.funcs[33]? = some Try.f33 := by kernel_rfl
/- chancel/chancelref10.kind -/
def ab34 : ACode := (.seq (.reg [⟨(some 2), (.box (.tmp 0)), none⟩, ⟨(some 3), (.box (.tmp 1)), none⟩, ⟨(some 4), (.mv (.con (.int .i64 0))), none⟩])
 (.seq (.seq (.reg [⟨(some 9), (.faddr 2 (.tmp 3)), none⟩, ⟨(some 10), (.load false 1 (.tmp 9)), none⟩, ⟨(some 11), (.lenL (.tmp 10)), none⟩, ⟨(some 12), (.bin .gtr .plain (.tmp 11) (.con (.int .i64 5))), none⟩, ⟨(some 13), (.mv (.tmp 12)), none⟩, ⟨(some 14), (.faddr 1 (.tmp 3)), (some (13, false))⟩, ⟨(some 15), (.load false 1 (.tmp 14)), (some (13, false))⟩, ⟨(some 16), (.lenL (.tmp 15)), (some (13, false))⟩, ⟨(some 17), (.bin .gtr .plain (.tmp 16) (.con (.int .i64 4))), (some (13, false))⟩, ⟨(some 18), (.pick (.tmp 13) (.con (.bool true)) (.tmp 17)), none⟩])
 (.cond (.tmp 18)
 (.seq (.reg [⟨(some 4), (.mv (.con (.int .i64 4))), none⟩])
 .ret)
 .skip))
 (.seq (.seq (.reg [⟨(some 5), (.mv (.con (.int .i64 0))), none⟩])
 (.block 0
 (.loop (.seq (.seq (.reg [⟨(some 19), (.mv (.tmp 5)), none⟩, ⟨(some 20), (.faddr 1 (.tmp 3)), none⟩, ⟨(some 21), (.load false 1 (.tmp 20)), none⟩, ⟨(some 22), (.lenL (.tmp 21)), none⟩, ⟨(some 23), (.bin .lss .plain (.tmp 19) (.tmp 22)), none⟩])
 (.cond (.tmp 23)
 .skip
 (.exit 0)))
 (.seq (.block 1
 (.seq (.dreg [⟨(some 27), (.load true 2 (.tmp 2)), none⟩, ⟨(some 28), (.faddr 1 (.tmp 3)), none⟩, ⟨(some 29), (.load false 1 (.tmp 28)), none⟩, ⟨(some 30), (.mv (.tmp 5)), none⟩, ⟨(some 31), (.iaddr 1 (.tmp 29) (.tmp 30)), none⟩, ⟨(some 32), (.load false 1 (.tmp 31)), none⟩, ⟨(some 33), (.call 21 [(.tmp 27), (.tmp 32)]), none⟩, ⟨(some 26), (.mv (.tmp 33)), none⟩, ⟨(some 34), (.ext (.tmp 26) 0), none⟩, ⟨(some 35), (.ext (.tmp 26) 1), none⟩, ⟨(some 6), (.alloc [(.str []), .nils, .nils]), none⟩, ⟨none, (.store 3 (.tmp 6) (.tmp 34)), none⟩, ⟨(some 7), (.mv (.tmp 35)), none⟩] [6, 11] [0, 0, 2, 0, 14, 30, 63, 127, 255, 255, 0, 1535, 4095] [10])
 (.seq (.reg [⟨(some 36), (.mv (.tmp 7)), none⟩, ⟨(some 37), (.un .not (.tmp 36)), none⟩])
 (.cond (.tmp 37)
 (.seq (.reg [⟨(some 4), (.mv (.con (.int .i64 2))), none⟩])
 .ret)
 .skip))))
 (.reg [⟨(some 24), (.mv (.tmp 5)), none⟩, ⟨(some 25), (.bin .add .plain (.tmp 24) (.con (.int .i64 1))), none⟩, ⟨(some 5), (.mv (.tmp 25)), none⟩]))))))
 (.seq (.seq (.reg [⟨(some 8), (.mv (.con (.int .i64 0))), none⟩])
 (.block 2
 (.loop (.seq (.seq (.reg [⟨(some 38), (.mv (.tmp 8)), none⟩, ⟨(some 39), (.faddr 2 (.tmp 3)), none⟩, ⟨(some 40), (.load false 1 (.tmp 39)), none⟩, ⟨(some 41), (.lenL (.tmp 40)), none⟩, ⟨(some 42), (.bin .lss .plain (.tmp 38) (.tmp 41)), none⟩])
 (.cond (.tmp 42)
 .skip
 (.exit 2)))
 (.seq (.block 3
 (.seq (.seq (.reg [⟨(some 45), (.faddr 2 (.tmp 3)), none⟩, ⟨(some 46), (.load false 1 (.tmp 45)), none⟩, ⟨(some 47), (.mv (.tmp 8)), none⟩, ⟨(some 48), (.iaddr 4 (.tmp 46) (.tmp 47)), none⟩, ⟨(some 49), (.faddr 0 (.tmp 48)), none⟩, ⟨(some 50), (.load false 1 (.tmp 49)), none⟩, ⟨(some 51), (.call 33 [(.tmp 50)]), none⟩, ⟨(some 52), (.un .not (.tmp 51)), none⟩])
 (.cond (.tmp 52)
 (.seq (.reg [⟨(some 4), (.mv (.con (.int .i64 15))), none⟩])
 .ret)
 .skip))
 (.seq (.seq (.dreg [⟨(some 53), (.mv (.tmp 8)), none⟩, ⟨(some 54), (.bin .gtr .plain (.tmp 53) (.con (.int .i64 0))), none⟩, ⟨(some 55), (.mv (.tmp 54)), none⟩, ⟨(some 56), (.faddr 2 (.tmp 3)), (some (55, true))⟩, ⟨(some 57), (.load false 1 (.tmp 56)), (some (55, true))⟩, ⟨(some 58), (.mv (.tmp 8)), (some (55, true))⟩, ⟨(some 59), (.iaddr 4 (.tmp 57) (.tmp 58)), (some (55, true))⟩, ⟨(some 60), (.faddr 0 (.tmp 59)), (some (55, true))⟩, ⟨(some 61), (.load false 1 (.tmp 60)), (some (55, true))⟩, ⟨(some 62), (.faddr 2 (.tmp 3)), (some (55, true))⟩, ⟨(some 63), (.load false 1 (.tmp 62)), (some (55, true))⟩, ⟨(some 64), (.mv (.tmp 8)), (some (55, true))⟩, ⟨(some 65), (.bin .sub .plain (.tmp 64) (.con (.int .i64 1))), (some (55, true))⟩, ⟨(some 66), (.iaddr 4 (.tmp 63) (.tmp 65)), (some (55, true))⟩, ⟨(some 67), (.faddr 0 (.tmp 66)), (some (55, true))⟩, ⟨(some 68), (.load false 1 (.tmp 67)), (some (55, true))⟩, ⟨(some 69), (.bin .leq .plain (.tmp 61) (.tmp 68)), (some (55, true))⟩, ⟨(some 70), (.pick (.tmp 55) (.tmp 69) (.con (.bool false))), none⟩] [] [0, 1, 3, 7, 15, 7, 63, 127, 255, 7, 519, 7, 2055, 7687, 15879, 32263, 65535, 131071] [])
 (.cond (.tmp 70)
 (.seq (.reg [⟨(some 4), (.mv (.con (.int .i64 7))), none⟩])
 .ret)
 .skip))
 (.seq (.dreg [⟨(some 71), (.load true 2 (.tmp 2)), none⟩, ⟨(some 72), (.faddr 2 (.tmp 3)), none⟩, ⟨(some 73), (.load false 1 (.tmp 72)), none⟩, ⟨(some 74), (.mv (.tmp 8)), none⟩, ⟨(some 75), (.iaddr 4 (.tmp 73) (.tmp 74)), none⟩, ⟨(some 76), (.faddr 1 (.tmp 75)), none⟩, ⟨(some 77), (.load true 3 (.tmp 76)), none⟩, ⟨(some 78), (.call 53 [(.tmp 71), (.tmp 77)]), none⟩, ⟨(some 79), (.bin .neq .plain (.tmp 78) (.con (.int .i64 0))), none⟩] [7] [0, 0, 2, 0, 14, 30, 62, 127, 255] [])
 (.cond (.tmp 79)
 (.seq (.dreg [⟨(some 80), (.load true 2 (.tmp 2)), none⟩, ⟨(some 81), (.faddr 2 (.tmp 3)), none⟩, ⟨(some 82), (.load false 1 (.tmp 81)), none⟩, ⟨(some 83), (.mv (.tmp 8)), none⟩, ⟨(some 84), (.iaddr 4 (.tmp 82) (.tmp 83)), none⟩, ⟨(some 85), (.faddr 1 (.tmp 84)), none⟩, ⟨(some 86), (.load true 3 (.tmp 85)), none⟩, ⟨(some 87), (.call 53 [(.tmp 80), (.tmp 86)]), none⟩, ⟨(some 4), (.mv (.tmp 87)), none⟩] [7] [0, 0, 2, 0, 14, 30, 62, 127, 255] [])
 .ret)
 .skip)))))
 (.reg [⟨(some 43), (.mv (.tmp 8)), none⟩, ⟨(some 44), (.bin .add .plain (.tmp 43) (.con (.int .i64 1))), none⟩, ⟨(some 8), (.mv (.tmp 44)), none⟩]))))))
 (.seq (.reg [⟨(some 4), (.mv (.con (.int .i64 0))), none⟩])
 .ret)))))
def ac34 : AFun := ⟨2, 88, ab34, [(.tmp 4)]⟩
theorem cf34 : compF Try.prog Try.f34 = some ac34 := by kernel_rfl
theorem cl34 : callable Try.prog 34 = true := by kernel_rfl
theorem fn34 : Try.prog.funcs[34]? = some Try.f34 := by kernel_rfl
/- chancel/chancelref10.all -/
def ab35 : ACode := (.seq (.reg [⟨(some 2), (.box (.tmp 0)), none⟩, ⟨(some 4), (.mv (.con (.bool false))), none⟩])
 (.seq (.seq (.reg [⟨(some 5), (.mv (.con (.int .i64 0))), none⟩])
 (.block 0
 (.loop (.seq (.seq (.reg [⟨(some 8), (.mv (.tmp 5)), none⟩, ⟨(some 9), (.mv (.tmp 1)), none⟩, ⟨(some 10), (.lenL (.tmp 9)), none⟩, ⟨(some 11), (.bin .lss .plain (.tmp 8) (.tmp 10)), none⟩])
 (.cond (.tmp 11)
 .skip
 (.exit 0)))
 (.seq (.block 1
 (.seq (.dreg [⟨(some 15), (.load true 2 (.tmp 2)), none⟩, ⟨(some 16), (.mv (.tmp 1)), none⟩, ⟨(some 17), (.mv (.tmp 5)), none⟩, ⟨(some 18), (.iaddr 1 (.tmp 16) (.tmp 17)), none⟩, ⟨(some 19), (.load false 1 (.tmp 18)), none⟩, ⟨(some 20), (.call 21 [(.tmp 15), (.tmp 19)]), none⟩, ⟨(some 14), (.mv (.tmp 20)), none⟩, ⟨(some 21), (.ext (.tmp 14) 0), none⟩, ⟨(some 22), (.ext (.tmp 14) 1), none⟩, ⟨(some 6), (.alloc [(.str []), .nils, .nils]), none⟩, ⟨none, (.store 3 (.tmp 6) (.tmp 21)), none⟩, ⟨(some 7), (.mv (.tmp 22)), none⟩] [5, 10] [0, 0, 0, 6, 14, 31, 63, 127, 127, 0, 767, 2047] [9])
 (.seq (.reg [⟨(some 23), (.mv (.tmp 7)), none⟩, ⟨(some 24), (.un .not (.tmp 23)), none⟩])
 (.cond (.tmp 24)
 (.seq (.reg [⟨(some 4), (.mv (.con (.bool false))), none⟩])
 .ret)
 .skip))))
 (.reg [⟨(some 12), (.mv (.tmp 5)), none⟩, ⟨(some 13), (.bin .add .plain (.tmp 12) (.con (.int .i64 1))), none⟩, ⟨(some 5), (.mv (.tmp 13)), none⟩]))))))
 (.seq (.reg [⟨(some 4), (.mv (.con (.bool true))), none⟩])
 .ret)))
def ac35 : AFun := ⟨2, 25, ab35, [(.tmp 4)]⟩
theorem cf35 : compF Try.prog Try.f35 = some ac35 := by kernel_rfl
theorem cl35 : callable Try.prog 35 = true := by kernel_rfl
theorem fn35 : Try.prog.funcs[35]? = some Try.f35 := by kernel_rfl
/- chancel/chancellaw5.id -/
def ab36 : ACode := (.seq (.reg [⟨(some 2), (.mv (.con (.str []))), none⟩])
 (.seq (.seq (.reg [⟨(some 3), (.mv (.tmp 0)), none⟩, ⟨(some 4), (.lenL (.tmp 3)), none⟩, ⟨(some 5), (.bin .gtr .plain (.tmp 4) (.con (.int .i64 8))), none⟩])
 (.cond (.tmp 5)
 (.reg [⟨(some 6), (.mv (.tmp 0)), none⟩, ⟨(some 7), (.slSl 1 (.tmp 6) none (some (.con (.int .i64 8))) none), none⟩, ⟨(some 0), (.mv (.tmp 7)), none⟩])
 .skip))
 (.seq (.reg [⟨(some 8), (.mv (.tmp 0)), none⟩, ⟨(some 9), (.call 54 [(.tmp 8)]), none⟩, ⟨(some 2), (.mv (.tmp 9)), none⟩])
 .ret)))
def ac36 : AFun := ⟨1, 10, ab36, [(.tmp 2)]⟩
theorem cf36 : compF Try.prog Try.f36 = some ac36 := by kernel_rfl
theorem cl36 : callable Try.prog 36 = true := by kernel_rfl
theorem fn36 : Try.prog.funcs[36]? = some Try.f36 := by kernel_rfl
/- slices.Contains[[]string,string] -/
def ab37 : ACode := (.seq (.reg [⟨(some 4), (.mv (.con (.bool false))), none⟩])
 (.seq (.reg [⟨(some 5), (.mv (.tmp 0)), none⟩, ⟨(some 6), (.mv (.tmp 1)), none⟩, ⟨(some 7), (.call 55 [(.tmp 5), (.tmp 6)]), none⟩, ⟨(some 8), (.bin .geq .plain (.tmp 7) (.con (.int .i64 0))), none⟩, ⟨(some 4), (.mv (.tmp 8)), none⟩])
 .ret))
def ac37 : AFun := ⟨2, 9, ab37, [(.tmp 4)]⟩
theorem cf37 : compF Try.prog Try.f37 = some ac37 := by kernel_rfl
theorem cl37 : callable Try.prog 37 = true := by kernel_rfl
theorem fn37 : Try.prog.funcs[37]? = some Try.f37 := by kernel_rfl
/- slices.EqualFunc[[]chancel/api.Kind,[]chancel/api.Kind,chancel/api.Kind,chancel/api.Kind] -/
def ab38 : ACode := (.seq (.reg [⟨(some 6), (.mv (.con (.bool false))), none⟩])
 (.seq (.seq (.reg [⟨(some 10), (.mv (.tmp 0)), none⟩, ⟨(some 11), (.lenL (.tmp 10)), none⟩, ⟨(some 12), (.mv (.tmp 1)), none⟩, ⟨(some 13), (.lenL (.tmp 12)), none⟩, ⟨(some 14), (.bin .neq .plain (.tmp 11) (.tmp 13)), none⟩])
 (.cond (.tmp 14)
 (.seq (.reg [⟨(some 6), (.mv (.con (.bool false))), none⟩])
 .ret)
 .skip))
 (.seq (.seq (.reg [⟨(some 15), (.mv (.tmp 0)), none⟩, ⟨(some 16), (.lenL (.tmp 15)), none⟩, ⟨(some 17), (.mv (.con (.int .i64 0))), none⟩])
 (.block 0
 (.loop (.seq (.reg [⟨(some 18), (.bin .lss .plain (.tmp 17) (.tmp 16)), none⟩])
 (.seq (.cond (.tmp 18)
 .skip
 (.exit 0))
 (.seq (.block 1
 (.seq (.reg [⟨(some 19), (.mv (.tmp 17)), none⟩, ⟨(some 20), (.iaddr 3 (.tmp 15) (.tmp 17)), none⟩, ⟨(some 21), (.load true 3 (.tmp 20)), none⟩, ⟨(some 8), (.alloc [(.str []), .nils, .nils]), none⟩, ⟨(some 7), (.mv (.tmp 19)), none⟩, ⟨none, (.store 3 (.tmp 8) (.tmp 21)), none⟩])
 (.seq (.reg [⟨(some 22), (.mv (.tmp 1)), none⟩, ⟨(some 23), (.mv (.tmp 7)), none⟩, ⟨(some 24), (.iaddr 3 (.tmp 22) (.tmp 23)), none⟩, ⟨(some 25), (.load true 3 (.tmp 24)), none⟩, ⟨(some 9), (.alloc [(.str []), .nils, .nils]), none⟩, ⟨none, (.store 3 (.tmp 9) (.tmp 25)), none⟩])
 (.seq (.reg [⟨(some 26), (.mv (.tmp 2)), none⟩, ⟨(some 27), (.load true 3 (.tmp 8)), none⟩, ⟨(some 28), (.load true 3 (.tmp 9)), none⟩, ⟨(some 29), (.callv (.tmp 26) [(.tmp 27), (.tmp 28)]), none⟩, ⟨(some 30), (.un .not (.tmp 29)), none⟩])
 (.cond (.tmp 30)
 (.seq (.reg [⟨(some 6), (.mv (.con (.bool false))), none⟩])
 .ret)
 .skip)))))
 (.reg [⟨(some 31), (.bin .add .plain (.tmp 17) (.con (.int .i64 1))), none⟩, ⟨(some 17), (.mv (.tmp 31)), none⟩])))))))
 (.seq (.reg [⟨(some 6), (.mv (.con (.bool true))), none⟩])
 .ret))))
def ac38 : AFun := ⟨3, 32, ab38, [(.tmp 6)]⟩
theorem cf38 : compF Try.prog Try.f38 = some ac38 := by kernel_rfl
theorem cl38 : callable Try.prog 38 = true := by kernel_rfl
theorem fn38 : Try.prog.funcs[38]? = some Try.f38 := by kernel_rfl
/- chancel/schema.Same$1 -/
def ab39 : ACode := (.seq (.reg [⟨(some 2), (.box (.tmp 0)), none⟩, ⟨(some 3), (.box (.tmp 1)), none⟩, ⟨(some 4), (.mv (.con (.bool false))), none⟩])
 (.seq (.reg [⟨(some 5), (.faddr 0 (.tmp 2)), none⟩, ⟨(some 6), (.load false 1 (.tmp 5)), none⟩, ⟨(some 7), (.faddr 0 (.tmp 3)), none⟩, ⟨(some 8), (.load false 1 (.tmp 7)), none⟩, ⟨(some 9), (.bin .eql .plain (.tmp 6) (.tmp 8)), none⟩, ⟨(some 10), (.mv (.tmp 9)), none⟩, ⟨(some 11), (.faddr 1 (.tmp 2)), (some (10, true))⟩, ⟨(some 12), (.load false 1 (.tmp 11)), (some (10, true))⟩, ⟨(some 13), (.faddr 1 (.tmp 3)), (some (10, true))⟩, ⟨(some 14), (.load false 1 (.tmp 13)), (some (10, true))⟩, ⟨(some 15), (.call 40 [(.tmp 12), (.tmp 14)]), (some (10, true))⟩, ⟨(some 16), (.pick (.tmp 10) (.tmp 15) (.con (.bool false))), none⟩, ⟨(some 17), (.mv (.tmp 16)), none⟩, ⟨(some 18), (.faddr 2 (.tmp 2)), (some (17, true))⟩, ⟨(some 19), (.load false 1 (.tmp 18)), (some (17, true))⟩, ⟨(some 20), (.faddr 2 (.tmp 3)), (some (17, true))⟩, ⟨(some 21), (.load false 1 (.tmp 20)), (some (17, true))⟩, ⟨(some 22), (.call 41 [(.tmp 19), (.tmp 21)]), (some (17, true))⟩, ⟨(some 23), (.pick (.tmp 17) (.tmp 22) (.con (.bool false))), none⟩, ⟨(some 4), (.mv (.tmp 23)), none⟩])
 .ret))
def ac39 : AFun := ⟨2, 24, ab39, [(.tmp 4)]⟩
theorem cf39 : compF Try.prog Try.f39 = some ac39 := by kernel_rfl
theorem cl39 : callable Try.prog 39 = true := by kernel_rfl
theorem fn39 : Try.prog.funcs[39]? = some Try.f39 := by kernel_rfl
/- slices.Equal[[]string,string] -/
def ab40 : ACode := (.seq (.reg [⟨(some 4), (.mv (.con (.bool false))), none⟩])
 (.seq (.seq (.reg [⟨(some 6), (.mv (.tmp 0)), none⟩, ⟨(some 7), (.lenL (.tmp 6)), none⟩, ⟨(some 8), (.mv (.tmp 1)), none⟩, ⟨(some 9), (.lenL (.tmp 8)), none⟩, ⟨(some 10), (.bin .neq .plain (.tmp 7) (.tmp 9)), none⟩])
 (.cond (.tmp 10)
 (.seq (.reg [⟨(some 4), (.mv (.con (.bool false))), none⟩])
 .ret)
 .skip))
 (.seq (.seq (.reg [⟨(some 11), (.mv (.tmp 0)), none⟩, ⟨(some 12), (.lenL (.tmp 11)), none⟩, ⟨(some 13), (.mv (.con (.int .i64 0))), none⟩])
 (.block 0
 (.loop (.seq (.reg [⟨(some 14), (.bin .lss .plain (.tmp 13) (.tmp 12)), none⟩])
 (.seq (.cond (.tmp 14)
 .skip
 (.exit 0))
 (.seq (.block 1
 (.seq (.reg [⟨(some 15), (.mv (.tmp 13)), none⟩, ⟨(some 5), (.mv (.tmp 15)), none⟩])
 (.seq (.dreg [⟨(some 16), (.mv (.tmp 0)), none⟩, ⟨(some 17), (.mv (.tmp 5)), none⟩, ⟨(some 18), (.iaddr 1 (.tmp 16) (.tmp 17)), none⟩, ⟨(some 19), (.load false 1 (.tmp 18)), none⟩, ⟨(some 20), (.mv (.tmp 1)), none⟩, ⟨(some 21), (.mv (.tmp 5)), none⟩, ⟨(some 22), (.iaddr 1 (.tmp 20) (.tmp 21)), none⟩, ⟨(some 23), (.load false 1 (.tmp 22)), none⟩, ⟨(some 24), (.bin .neq .plain (.tmp 19) (.tmp 23)), none⟩] [] [0, 0, 3, 7, 0, 0, 48, 112, 255] [])
 (.cond (.tmp 24)
 (.seq (.reg [⟨(some 4), (.mv (.con (.bool false))), none⟩])
 .ret)
 .skip))))
 (.reg [⟨(some 25), (.bin .add .plain (.tmp 13) (.con (.int .i64 1))), none⟩, ⟨(some 13), (.mv (.tmp 25)), none⟩])))))))
 (.seq (.reg [⟨(some 4), (.mv (.con (.bool true))), none⟩])
 .ret))))
def ac40 : AFun := ⟨2, 26, ab40, [(.tmp 4)]⟩
theorem cf40 : compF Try.prog Try.f40 = some ac40 := by kernel_rfl
theorem cl40 : callable Try.prog 40 = true := by kernel_rfl
theorem fn40 : Try.prog.funcs[40]? = some Try.f40 := by kernel_rfl
/- slices.Equal[[]chancel/api.Field,chancel/api.Field] -/
def ab41 : ACode := (.seq (.reg [⟨(some 4), (.mv (.con (.bool false))), none⟩])
 (.seq (.seq (.reg [⟨(some 6), (.mv (.tmp 0)), none⟩, ⟨(some 7), (.lenL (.tmp 6)), none⟩, ⟨(some 8), (.mv (.tmp 1)), none⟩, ⟨(some 9), (.lenL (.tmp 8)), none⟩, ⟨(some 10), (.bin .neq .plain (.tmp 7) (.tmp 9)), none⟩])
 (.cond (.tmp 10)
 (.seq (.reg [⟨(some 4), (.mv (.con (.bool false))), none⟩])
 .ret)
 .skip))
 (.seq (.seq (.reg [⟨(some 11), (.mv (.tmp 0)), none⟩, ⟨(some 12), (.lenL (.tmp 11)), none⟩, ⟨(some 13), (.mv (.con (.int .i64 0))), none⟩])
 (.block 0
 (.loop (.seq (.reg [⟨(some 14), (.bin .lss .plain (.tmp 13) (.tmp 12)), none⟩])
 (.seq (.cond (.tmp 14)
 .skip
 (.exit 0))
 (.seq (.block 1
 (.seq (.reg [⟨(some 15), (.mv (.tmp 13)), none⟩, ⟨(some 5), (.mv (.tmp 15)), none⟩])
 (.seq (.dreg [⟨(some 16), (.mv (.tmp 0)), none⟩, ⟨(some 17), (.mv (.tmp 5)), none⟩, ⟨(some 18), (.iaddr 4 (.tmp 16) (.tmp 17)), none⟩, ⟨(some 19), (.load true 4 (.tmp 18)), none⟩, ⟨(some 20), (.mv (.tmp 1)), none⟩, ⟨(some 21), (.mv (.tmp 5)), none⟩, ⟨(some 22), (.iaddr 4 (.tmp 20) (.tmp 21)), none⟩, ⟨(some 23), (.load true 4 (.tmp 22)), none⟩, ⟨(some 24), (.bin .neq (.agg [.s, .i, .i, .s]) (.tmp 19) (.tmp 23)), none⟩] [] [0, 0, 3, 7, 0, 0, 48, 112, 255] [])
 (.cond (.tmp 24)
 (.seq (.reg [⟨(some 4), (.mv (.con (.bool false))), none⟩])
 .ret)
 .skip))))
 (.reg [⟨(some 25), (.bin .add .plain (.tmp 13) (.con (.int .i64 1))), none⟩, ⟨(some 13), (.mv (.tmp 25)), none⟩])))))))
 (.seq (.reg [⟨(some 4), (.mv (.con (.bool true))), none⟩])
 .ret))))
def ac41 : AFun := ⟨2, 26, ab41, [(.tmp 4)]⟩
theorem cf41 : compF Try.prog Try.f41 = some ac41 := by kernel_rfl
theorem cl41 : callable Try.prog 41 = true := by kernel_rfl
theorem fn41 : Try.prog.funcs[41]? = some Try.f41 := by kernel_rfl
/- slices.EqualFunc[[]chancel/api.Action,[]chancel/api.Action,chancel/api.Action,chancel/api.Action] -/
def ab42 : ACode := (.seq (.reg [⟨(some 6), (.mv (.con (.bool false))), none⟩])
 (.seq (.seq (.reg [⟨(some 10), (.mv (.tmp 0)), none⟩, ⟨(some 11), (.lenL (.tmp 10)), none⟩, ⟨(some 12), (.mv (.tmp 1)), none⟩, ⟨(some 13), (.lenL (.tmp 12)), none⟩, ⟨(some 14), (.bin .neq .plain (.tmp 11) (.tmp 13)), none⟩])
 (.cond (.tmp 14)
 (.seq (.reg [⟨(some 6), (.mv (.con (.bool false))), none⟩])
 .ret)
 .skip))
 (.seq (.seq (.reg [⟨(some 15), (.mv (.tmp 0)), none⟩, ⟨(some 16), (.lenL (.tmp 15)), none⟩, ⟨(some 17), (.mv (.con (.int .i64 0))), none⟩])
 (.block 0
 (.loop (.seq (.reg [⟨(some 18), (.bin .lss .plain (.tmp 17) (.tmp 16)), none⟩])
 (.seq (.cond (.tmp 18)
 .skip
 (.exit 0))
 (.seq (.block 1
 (.seq (.reg [⟨(some 19), (.mv (.tmp 17)), none⟩, ⟨(some 20), (.iaddr 3 (.tmp 15) (.tmp 17)), none⟩, ⟨(some 21), (.load true 3 (.tmp 20)), none⟩, ⟨(some 8), (.alloc [(.str []), .nils, .nils]), none⟩, ⟨(some 7), (.mv (.tmp 19)), none⟩, ⟨none, (.store 3 (.tmp 8) (.tmp 21)), none⟩])
 (.seq (.reg [⟨(some 22), (.mv (.tmp 1)), none⟩, ⟨(some 23), (.mv (.tmp 7)), none⟩, ⟨(some 24), (.iaddr 3 (.tmp 22) (.tmp 23)), none⟩, ⟨(some 25), (.load true 3 (.tmp 24)), none⟩, ⟨(some 9), (.alloc [(.str []), .nils, .nils]), none⟩, ⟨none, (.store 3 (.tmp 9) (.tmp 25)), none⟩])
 (.seq (.reg [⟨(some 26), (.mv (.tmp 2)), none⟩, ⟨(some 27), (.load true 3 (.tmp 8)), none⟩, ⟨(some 28), (.load true 3 (.tmp 9)), none⟩, ⟨(some 29), (.callv (.tmp 26) [(.tmp 27), (.tmp 28)]), none⟩, ⟨(some 30), (.un .not (.tmp 29)), none⟩])
 (.cond (.tmp 30)
 (.seq (.reg [⟨(some 6), (.mv (.con (.bool false))), none⟩])
 .ret)
 .skip)))))
 (.reg [⟨(some 31), (.bin .add .plain (.tmp 17) (.con (.int .i64 1))), none⟩, ⟨(some 17), (.mv (.tmp 31)), none⟩])))))))
 (.seq (.reg [⟨(some 6), (.mv (.con (.bool true))), none⟩])
 .ret))))
def ac42 : AFun := ⟨3, 32, ab42, [(.tmp 6)]⟩
theorem cf42 : compF Try.prog Try.f42 = some ac42 := by kernel_rfl
theorem cl42 : callable Try.prog 42 = true := by kernel_rfl
theorem fn42 : Try.prog.funcs[42]? = some Try.f42 := by kernel_rfl
/- chancel/schema.Same$2 -/
def ab43 : ACode := (.seq (.reg [⟨(some 2), (.box (.tmp 0)), none⟩, ⟨(some 3), (.box (.tmp 1)), none⟩, ⟨(some 4), (.mv (.con (.bool false))), none⟩])
 (.seq (.reg [⟨(some 5), (.faddr 0 (.tmp 2)), none⟩, ⟨(some 6), (.load false 1 (.tmp 5)), none⟩, ⟨(some 7), (.faddr 0 (.tmp 3)), none⟩, ⟨(some 8), (.load false 1 (.tmp 7)), none⟩, ⟨(some 9), (.bin .eql .plain (.tmp 6) (.tmp 8)), none⟩, ⟨(some 10), (.mv (.tmp 9)), none⟩, ⟨(some 11), (.faddr 1 (.tmp 2)), (some (10, true))⟩, ⟨(some 12), (.load false 1 (.tmp 11)), (some (10, true))⟩, ⟨(some 13), (.faddr 1 (.tmp 3)), (some (10, true))⟩, ⟨(some 14), (.load false 1 (.tmp 13)), (some (10, true))⟩, ⟨(some 15), (.call 40 [(.tmp 12), (.tmp 14)]), (some (10, true))⟩, ⟨(some 16), (.pick (.tmp 10) (.tmp 15) (.con (.bool false))), none⟩, ⟨(some 17), (.mv (.tmp 16)), none⟩, ⟨(some 18), (.faddr 2 (.tmp 2)), (some (17, true))⟩, ⟨(some 19), (.load false 1 (.tmp 18)), (some (17, true))⟩, ⟨(some 20), (.faddr 2 (.tmp 3)), (some (17, true))⟩, ⟨(some 21), (.load false 1 (.tmp 20)), (some (17, true))⟩, ⟨(some 22), (.call 40 [(.tmp 19), (.tmp 21)]), (some (17, true))⟩, ⟨(some 23), (.pick (.tmp 17) (.tmp 22) (.con (.bool false))), none⟩, ⟨(some 4), (.mv (.tmp 23)), none⟩])
 .ret))
def ac43 : AFun := ⟨2, 24, ab43, [(.tmp 4)]⟩
theorem cf43 : compF Try.prog Try.f43 = some ac43 := by kernel_rfl
theorem cl43 : callable Try.prog 43 = true := by kernel_rfl
theorem fn43 : Try.prog.funcs[43]? = some Try.f43 := by kernel_rfl
/- chancel/chancelref10.texts -/
def ab44 : ACode := (.seq (.reg [⟨(some 4), (.mv (.con (.bool false))), none⟩])
 (.seq (.seq (.reg [⟨(some 6), (.mv (.tmp 0)), none⟩, ⟨(some 7), (.lenL (.tmp 6)), none⟩, ⟨(some 8), (.mv (.tmp 1)), none⟩, ⟨(some 9), (.lenL (.tmp 8)), none⟩, ⟨(some 10), (.bin .neq .plain (.tmp 7) (.tmp 9)), none⟩])
 (.cond (.tmp 10)
 (.seq (.reg [⟨(some 4), (.mv (.con (.bool false))), none⟩])
 .ret)
 .skip))
 (.seq (.seq (.reg [⟨(some 5), (.mv (.con (.int .i64 0))), none⟩])
 (.block 0
 (.loop (.seq (.seq (.reg [⟨(some 11), (.mv (.tmp 5)), none⟩, ⟨(some 12), (.mv (.tmp 0)), none⟩, ⟨(some 13), (.lenL (.tmp 12)), none⟩, ⟨(some 14), (.bin .lss .plain (.tmp 11) (.tmp 13)), none⟩])
 (.cond (.tmp 14)
 .skip
 (.exit 0)))
 (.seq (.block 1
 (.seq (.dreg [⟨(some 17), (.mv (.tmp 0)), none⟩, ⟨(some 18), (.mv (.tmp 5)), none⟩, ⟨(some 19), (.iaddr 1 (.tmp 17) (.tmp 18)), none⟩, ⟨(some 20), (.load false 1 (.tmp 19)), none⟩, ⟨(some 21), (.mv (.tmp 1)), none⟩, ⟨(some 22), (.mv (.tmp 5)), none⟩, ⟨(some 23), (.iaddr 1 (.tmp 21) (.tmp 22)), none⟩, ⟨(some 24), (.load false 1 (.tmp 23)), none⟩, ⟨(some 25), (.bin .neq .plain (.tmp 20) (.tmp 24)), none⟩] [] [0, 0, 3, 7, 0, 0, 48, 112, 255] [])
 (.cond (.tmp 25)
 (.seq (.reg [⟨(some 4), (.mv (.con (.bool false))), none⟩])
 .ret)
 .skip)))
 (.reg [⟨(some 15), (.mv (.tmp 5)), none⟩, ⟨(some 16), (.bin .add .plain (.tmp 15) (.con (.int .i64 1))), none⟩, ⟨(some 5), (.mv (.tmp 16)), none⟩]))))))
 (.seq (.reg [⟨(some 4), (.mv (.con (.bool true))), none⟩])
 .ret))))
def ac44 : AFun := ⟨2, 26, ab44, [(.tmp 4)]⟩
theorem cf44 : compF Try.prog Try.f44 = some ac44 := by kernel_rfl
theorem cl44 : callable Try.prog 44 = true := by kernel_rfl
theorem fn44 : Try.prog.funcs[44]? = some Try.f44 := by kernel_rfl
/- slices.Clone[[]string,string] -/
def ab45 : ACode := (.seq (.reg [⟨(some 2), (.mv (.con .nils)), none⟩])
 (.seq (.seq (.reg [⟨(some 3), (.mv (.tmp 0)), none⟩, ⟨(some 4), (.bin .eql .slice (.tmp 3) (.con .nils)), none⟩])
 (.cond (.tmp 4)
 (.seq (.reg [⟨(some 2), (.mv (.con .nils)), none⟩])
 .ret)
 .skip))
 (.seq (.reg [⟨(some 5), (.bslice 1 0 [(.str [])] []), none⟩, ⟨(some 6), (.mv (.tmp 0)), none⟩, ⟨(some 7), (.append 1 16 (.tmp 5) (.tmp 6)), none⟩, ⟨(some 2), (.mv (.tmp 7)), none⟩])
 .ret)))
def ac45 : AFun := ⟨1, 8, ab45, [(.tmp 2)]⟩
theorem cf45 : compF Try.prog Try.f45 = some ac45 := by kernel_rfl
theorem cl45 : callable Try.prog 45 = true := by kernel_rfl
theorem fn45 : Try.prog.funcs[45]? = some Try.f45 := by kernel_rfl
/- slices.Clone[[]chancel/api.Field,chancel/api.Field] -/
def ab46 : ACode := (.seq (.reg [⟨(some 2), (.mv (.con .nils)), none⟩])
 (.seq (.seq (.reg [⟨(some 3), (.mv (.tmp 0)), none⟩, ⟨(some 4), (.bin .eql .slice (.tmp 3) (.con .nils)), none⟩])
 (.cond (.tmp 4)
 (.seq (.reg [⟨(some 2), (.mv (.con .nils)), none⟩])
 .ret)
 .skip))
 (.seq (.reg [⟨(some 5), (.bslice 4 0 [(.str []), (.int .i64 0), (.int .i64 0), (.str [])] []), none⟩, ⟨(some 6), (.mv (.tmp 0)), none⟩, ⟨(some 7), (.append 4 48 (.tmp 5) (.tmp 6)), none⟩, ⟨(some 2), (.mv (.tmp 7)), none⟩])
 .ret)))
def ac46 : AFun := ⟨1, 8, ab46, [(.tmp 2)]⟩
theorem cf46 : compF Try.prog Try.f46 = some ac46 := by kernel_rfl
theorem cl46 : callable Try.prog 46 = true := by kernel_rfl
theorem fn46 : Try.prog.funcs[46]? = some Try.f46 := by kernel_rfl
/- chancel/chancelref10.in -/
def ab47 : ACode := (.seq (.reg [⟨(some 4), (.mv (.con (.bool false))), none⟩])
 (.seq (.seq (.reg [⟨(some 5), (.mv (.con (.int .i64 0))), none⟩])
 (.block 0
 (.loop (.seq (.seq (.reg [⟨(some 6), (.mv (.tmp 5)), none⟩, ⟨(some 7), (.mv (.tmp 0)), none⟩, ⟨(some 8), (.lenL (.tmp 7)), none⟩, ⟨(some 9), (.bin .lss .plain (.tmp 6) (.tmp 8)), none⟩])
 (.cond (.tmp 9)
 .skip
 (.exit 0)))
 (.seq (.block 1
 (.seq (.reg [⟨(some 12), (.mv (.tmp 0)), none⟩, ⟨(some 13), (.mv (.tmp 5)), none⟩, ⟨(some 14), (.iaddr 1 (.tmp 12) (.tmp 13)), none⟩, ⟨(some 15), (.load false 1 (.tmp 14)), none⟩, ⟨(some 16), (.mv (.tmp 1)), none⟩, ⟨(some 17), (.bin .eql .plain (.tmp 15) (.tmp 16)), none⟩])
 (.cond (.tmp 17)
 (.seq (.reg [⟨(some 4), (.mv (.con (.bool true))), none⟩])
 .ret)
 .skip)))
 (.reg [⟨(some 10), (.mv (.tmp 5)), none⟩, ⟨(some 11), (.bin .add .plain (.tmp 10) (.con (.int .i64 1))), none⟩, ⟨(some 5), (.mv (.tmp 11)), none⟩]))))))
 (.seq (.reg [⟨(some 4), (.mv (.con (.bool false))), none⟩])
 .ret)))
def ac47 : AFun := ⟨2, 18, ab47, [(.tmp 4)]⟩
theorem cf47 : compF Try.prog Try.f47 = some ac47 := by kernel_rfl
theorem cl47 : callable Try.prog 47 = true := by kernel_rfl
theorem fn47 : Try.prog.funcs[47]? = some Try.f47 := by kernel_rfl
/- chancel/lex.Ident -/
def ab48 : ACode := (.seq (.reg [⟨(some 2), (.mv (.con (.bool false))), none⟩])
 (.seq (.seq (.reg [⟨(some 5), (.mv (.tmp 0)), none⟩, ⟨(some 6), (.range (.tmp 5)), none⟩])
 (.block 0
 (.loop (.seq (.reg [⟨(some 7), (.next (.tmp 6)), none⟩, ⟨(some 8), (.ext (.tmp 7) 0), none⟩])
 (.seq (.cond (.tmp 8)
 .skip
 (.exit 0))
 (.block 1
 (.seq (.reg [⟨(some 9), (.ext (.tmp 7) 1), none⟩, ⟨(some 10), (.ext (.tmp 7) 2), none⟩, ⟨(some 3), (.mv (.tmp 9)), none⟩, ⟨(some 4), (.mv (.tmp 10)), none⟩])
 (.seq (.reg [⟨(some 11), (.mv (.tmp 4)), none⟩, ⟨(some 12), (.bin .gtr .plain (.tmp 11) (.con (.int .i32 127))), none⟩, ⟨(some 13), (.mv (.tmp 12)), none⟩, ⟨(some 14), (.mv (.tmp 4)), (some (13, false))⟩, ⟨(some 15), (.cvInt .u8 (.tmp 14)), (some (13, false))⟩, ⟨(some 16), (.call 56 [(.tmp 15)]), (some (13, false))⟩, ⟨(some 17), (.un .not (.tmp 16)), (some (13, false))⟩, ⟨(some 18), (.mv (.tmp 17)), (some (13, false))⟩, ⟨(some 19), (.mv (.tmp 3)), (some (18, true))⟩, ⟨(some 20), (.bin .eql .plain (.tmp 19) (.con (.int .i64 0))), (some (18, true))⟩, ⟨(some 21), (.mv (.tmp 20)), (some (18, true))⟩, ⟨(some 22), (.mv (.tmp 4)), (some (21, false))⟩, ⟨(some 23), (.cvInt .u8 (.tmp 22)), (some (21, false))⟩, ⟨(some 24), (.call 57 [(.tmp 23)]), (some (21, false))⟩, ⟨(some 25), (.un .not (.tmp 24)), (some (21, false))⟩, ⟨(some 26), (.pick (.tmp 21) (.con (.bool true)) (.tmp 25)), (some (18, true))⟩, ⟨(some 27), (.pick (.tmp 18) (.tmp 26) (.con (.bool false))), (some (13, false))⟩, ⟨(some 28), (.pick (.tmp 13) (.con (.bool true)) (.tmp 27)), none⟩])
 (.cond (.tmp 28)
 (.seq (.reg [⟨(some 2), (.mv (.con (.bool false))), none⟩])
 .ret)
 .skip)))))))))
 (.seq (.reg [⟨(some 29), (.mv (.tmp 0)), none⟩, ⟨(some 30), (.lenS (.tmp 29)), none⟩, ⟨(some 31), (.bin .geq .plain (.tmp 30) (.con (.int .i64 1))), none⟩, ⟨(some 32), (.mv (.tmp 31)), none⟩, ⟨(some 33), (.mv (.tmp 0)), (some (32, true))⟩, ⟨(some 34), (.lenS (.tmp 33)), (some (32, true))⟩, ⟨(some 35), (.bin .leq .plain (.tmp 34) (.con (.int .i64 12))), (some (32, true))⟩, ⟨(some 36), (.pick (.tmp 32) (.tmp 35) (.con (.bool false))), none⟩, ⟨(some 2), (.mv (.tmp 36)), none⟩])
 .ret)))
def ac48 : AFun := ⟨1, 37, ab48, [(.tmp 2)]⟩
theorem cf48 : compF Try.prog Try.f48 = some ac48 := by kernel_rfl
theorem cl48 : callable Try.prog 48 = true := by kernel_rfl
theorem fn48 : Try.prog.funcs[48]? = some Try.f48 := by kernel_rfl
/- chancel/schema.reserved -/
def ab49 : ACode := (.seq (.reg [⟨(some 2), (.mv (.con (.bool false))), none⟩])
 (.seq (.seq (.reg [⟨(some 3), (.mv (.tmp 0)), none⟩])
 (.block 0
 (.seq (.block 2
 (.block 1
 (.seq (.seq (.seq (.seq (.reg [⟨(some 5), (.bin .eql .plain (.tmp 3) (.con (.str [65, 99, 116, 105, 111, 110]))), none⟩, ⟨(some 4), (.mv (.tmp 5)), none⟩])
 (.cond (.tmp 4)
 .skip
 (.seq (.reg [⟨(some 6), (.bin .eql .plain (.tmp 3) (.con (.str [66, 111, 111, 108]))), none⟩, ⟨(some 4), (.mv (.tmp 6)), none⟩])
 (.cond (.tmp 4)
 .skip
 (.reg [⟨(some 7), (.bin .eql .plain (.tmp 3) (.con (.str [76, 111, 110, 103]))), none⟩, ⟨(some 4), (.mv (.tmp 7)), none⟩])))))
 (.cond (.tmp 4)
 (.exit 1)
 .skip))
 (.seq (.seq (.reg [⟨(some 9), (.bin .eql .plain (.tmp 3) (.con (.str [83, 116, 114, 105, 110, 103]))), none⟩, ⟨(some 8), (.mv (.tmp 9)), none⟩])
 (.cond (.tmp 8)
 .skip
 (.reg [⟨(some 10), (.bin .eql .plain (.tmp 3) (.con (.str [83, 101, 116]))), none⟩, ⟨(some 8), (.mv (.tmp 10)), none⟩])))
 (.cond (.tmp 8)
 (.exit 2)
 .skip)))
 (.exit 0))))
 (.seq (.seq (.reg [⟨(some 2), (.mv (.con (.bool true))), none⟩])
 .ret)
 (.exit 0)))))
 (.seq (.reg [⟨(some 2), (.mv (.con (.bool false))), none⟩])
 .ret)))
def ac49 : AFun := ⟨1, 11, ab49, [(.tmp 2)]⟩
theorem cf49 : compF Try.prog Try.f49 = some ac49 := by kernel_rfl
theorem cl49 : callable Try.prog 49 = true := by kernel_rfl
theorem fn49 : Try.prog.funcs[49]? = some Try.f49 := by kernel_rfl
/- chancel/schema.has -/
def ab50 : ACode := (.seq (.reg [⟨(some 2), (.box (.tmp 0)), none⟩, ⟨(some 3), (.box (.tmp 1)), none⟩, ⟨(some 4), (.mv (.con (.bool false))), none⟩])
 (.seq (.reg [⟨(some 5), (.faddr 0 (.tmp 2)), none⟩, ⟨(some 6), (.load false 1 (.tmp 5)), none⟩, ⟨(some 7), (.mkfn 59 [(.tmp 3)]), none⟩, ⟨(some 8), (.call 58 [(.tmp 6), (.tmp 7)]), none⟩, ⟨(some 4), (.mv (.tmp 8)), none⟩])
 .ret))
def ac50 : AFun := ⟨2, 9, ab50, [(.tmp 4)]⟩
theorem cf50 : compF Try.prog Try.f50 = some ac50 := by kernel_rfl
theorem cl50 : callable Try.prog 50 = true := by kernel_rfl
theorem fn50 : Try.prog.funcs[50]? = some Try.f50 := by kernel_rfl
/- chancel/schema.kindOf -/
def ab51 : ACode := (.seq (.reg [⟨(some 2), (.box (.tmp 0)), none⟩, ⟨(some 3), (.box (.tmp 1)), none⟩, ⟨(some 4), (.mv (.con (.int .i64 0))), none⟩])
 (.seq (.reg [⟨(some 6), (.faddr 0 (.tmp 3)), none⟩, ⟨(some 7), (.load false 1 (.tmp 6)), none⟩, ⟨(some 5), (.mv (.tmp 7)), none⟩])
 (.seq (.block 0
 (.seq (.reg [⟨(some 9), (.faddr 0 (.tmp 3)), none⟩, ⟨(some 10), (.load false 1 (.tmp 9)), none⟩, ⟨(some 11), (.bin .lss .plain (.tmp 10) (.con (.int .i64 1))), none⟩, ⟨(some 12), (.mv (.tmp 11)), none⟩, ⟨(some 13), (.faddr 0 (.tmp 3)), (some (12, false))⟩, ⟨(some 14), (.load false 1 (.tmp 13)), (some (12, false))⟩, ⟨(some 15), (.bin .gtr .plain (.tmp 14) (.con (.int .i64 5))), (some (12, false))⟩, ⟨(some 16), (.pick (.tmp 12) (.con (.bool true)) (.tmp 15)), none⟩, ⟨(some 8), (.mv (.tmp 16)), none⟩])
 (.cond (.tmp 8)
 (.seq (.reg [⟨(some 4), (.mv (.con (.int .i64 3))), none⟩])
 .ret)
 (.seq (.reg [⟨(some 18), (.faddr 0 (.tmp 3)), none⟩, ⟨(some 19), (.load false 1 (.tmp 18)), none⟩, ⟨(some 20), (.bin .eql .plain (.tmp 19) (.con (.int .i64 5))), none⟩, ⟨(some 17), (.mv (.tmp 20)), none⟩])
 (.cond (.tmp 17)
 (.seq (.reg [⟨(some 21), (.faddr 1 (.tmp 3)), none⟩, ⟨(some 22), (.load false 1 (.tmp 21)), none⟩, ⟨(some 5), (.mv (.tmp 22)), none⟩])
 (.seq (.reg [⟨(some 23), (.mv (.tmp 5)), none⟩, ⟨(some 24), (.bin .lss .plain (.tmp 23) (.con (.int .i64 1))), none⟩, ⟨(some 25), (.mv (.tmp 24)), none⟩, ⟨(some 26), (.mv (.tmp 5)), (some (25, false))⟩, ⟨(some 27), (.bin .gtr .plain (.tmp 26) (.con (.int .i64 4))), (some (25, false))⟩, ⟨(some 28), (.pick (.tmp 25) (.con (.bool true)) (.tmp 27)), none⟩])
 (.cond (.tmp 28)
 (.seq (.reg [⟨(some 4), (.mv (.con (.int .i64 3))), none⟩])
 .ret)
 .skip)))
 (.seq (.reg [⟨(some 30), (.faddr 1 (.tmp 3)), none⟩, ⟨(some 31), (.load false 1 (.tmp 30)), none⟩, ⟨(some 32), (.bin .neq .plain (.tmp 31) (.con (.int .i64 0))), none⟩, ⟨(some 29), (.mv (.tmp 32)), none⟩])
 (.cond (.tmp 29)
 (.seq (.reg [⟨(some 4), (.mv (.con (.int .i64 1))), none⟩])
 .ret)
 .skip)))))))
 (.seq (.block 1
 (.seq (.reg [⟨(some 34), (.mv (.tmp 5)), none⟩, ⟨(some 35), (.bin .neq .plain (.tmp 34) (.con (.int .i64 4))), none⟩, ⟨(some 36), (.mv (.tmp 35)), none⟩, ⟨(some 37), (.faddr 2 (.tmp 3)), (some (36, true))⟩, ⟨(some 38), (.load false 1 (.tmp 37)), (some (36, true))⟩, ⟨(some 39), (.bin .neq .plain (.tmp 38) (.con (.str []))), (some (36, true))⟩, ⟨(some 40), (.pick (.tmp 36) (.tmp 39) (.con (.bool false))), none⟩, ⟨(some 33), (.mv (.tmp 40)), none⟩])
 (.cond (.tmp 33)
 (.seq (.reg [⟨(some 4), (.mv (.con (.int .i64 1))), none⟩])
 .ret)
 (.seq (.reg [⟨(some 42), (.mv (.tmp 5)), none⟩, ⟨(some 43), (.bin .eql .plain (.tmp 42) (.con (.int .i64 4))), none⟩, ⟨(some 44), (.mv (.tmp 43)), none⟩, ⟨(some 45), (.load true 2 (.tmp 2)), (some (44, true))⟩, ⟨(some 46), (.faddr 2 (.tmp 3)), (some (44, true))⟩, ⟨(some 47), (.load false 1 (.tmp 46)), (some (44, true))⟩, ⟨(some 48), (.call 50 [(.tmp 45), (.tmp 47)]), (some (44, true))⟩, ⟨(some 49), (.un .not (.tmp 48)), (some (44, true))⟩, ⟨(some 50), (.pick (.tmp 44) (.tmp 49) (.con (.bool false))), none⟩, ⟨(some 41), (.mv (.tmp 50)), none⟩])
 (.cond (.tmp 41)
 (.seq (.reg [⟨(some 4), (.mv (.con (.int .i64 2))), none⟩])
 .ret)
 .skip)))))
 (.seq (.reg [⟨(some 4), (.mv (.con (.int .i64 0))), none⟩])
 .ret)))))
def ac51 : AFun := ⟨2, 51, ab51, [(.tmp 4)]⟩
theorem cf51 : compF Try.prog Try.f51 = some ac51 := by kernel_rfl
theorem cl51 : callable Try.prog 51 = true := by kernel_rfl
theorem fn51 : Try.prog.funcs[51]? = some Try.f51 := by kernel_rfl
/- slices.Concat[[]string,string] -/
def ab52 : ACode := (.seq (.reg [⟨(some 2), (.mv (.con .nils)), none⟩])
 (.seq (.reg [⟨(some 3), (.mv (.con (.int .i64 0))), none⟩])
 (.seq (.seq (.reg [⟨(some 9), (.mv (.tmp 0)), none⟩, ⟨(some 10), (.lenL (.tmp 9)), none⟩, ⟨(some 11), (.mv (.con (.int .i64 0))), none⟩])
 (.block 0
 (.loop (.seq (.reg [⟨(some 12), (.bin .lss .plain (.tmp 11) (.tmp 10)), none⟩])
 (.seq (.cond (.tmp 12)
 .skip
 (.exit 0))
 (.seq (.block 1
 (.seq (.reg [⟨(some 13), (.iaddr 1 (.tmp 9) (.tmp 11)), none⟩, ⟨(some 14), (.load false 1 (.tmp 13)), none⟩, ⟨(some 5), (.mv (.tmp 14)), none⟩])
 (.seq (.reg [⟨(some 15), (.mv (.tmp 3)), none⟩, ⟨(some 16), (.mv (.tmp 5)), none⟩, ⟨(some 17), (.lenL (.tmp 16)), none⟩, ⟨(some 18), (.bin .add .plain (.tmp 15) (.tmp 17)), none⟩, ⟨(some 3), (.mv (.tmp 18)), none⟩])
 (.seq (.reg [⟨(some 19), (.mv (.tmp 3)), none⟩, ⟨(some 20), (.bin .lss .plain (.tmp 19) (.con (.int .i64 0))), none⟩])
 (.cond (.tmp 20)
 (.reg [⟨(some 21), .bad, none⟩, ⟨none, .bad, none⟩])
 .skip)))))
 (.reg [⟨(some 22), (.bin .add .plain (.tmp 11) (.con (.int .i64 1))), none⟩, ⟨(some 11), (.mv (.tmp 22)), none⟩])))))))
 (.seq (.reg [⟨(some 23), (.mv (.tmp 3)), none⟩, ⟨(some 24), (.call 60 [(.con .nils), (.tmp 23)]), none⟩, ⟨(some 6), (.mv (.tmp 24)), none⟩])
 (.seq (.seq (.reg [⟨(some 25), (.mv (.tmp 0)), none⟩, ⟨(some 26), (.lenL (.tmp 25)), none⟩, ⟨(some 27), (.mv (.con (.int .i64 0))), none⟩])
 (.block 2
 (.loop (.seq (.reg [⟨(some 28), (.bin .lss .plain (.tmp 27) (.tmp 26)), none⟩])
 (.seq (.cond (.tmp 28)
 .skip
 (.exit 2))
 (.seq (.block 3
 (.seq (.reg [⟨(some 29), (.iaddr 1 (.tmp 25) (.tmp 27)), none⟩, ⟨(some 30), (.load false 1 (.tmp 29)), none⟩, ⟨(some 8), (.mv (.tmp 30)), none⟩])
 (.reg [⟨(some 31), (.mv (.tmp 6)), none⟩, ⟨(some 32), (.mv (.tmp 8)), none⟩, ⟨(some 33), (.append 1 16 (.tmp 31) (.tmp 32)), none⟩, ⟨(some 6), (.mv (.tmp 33)), none⟩])))
 (.reg [⟨(some 34), (.bin .add .plain (.tmp 27) (.con (.int .i64 1))), none⟩, ⟨(some 27), (.mv (.tmp 34)), none⟩])))))))
 (.seq (.reg [⟨(some 35), (.mv (.tmp 6)), none⟩, ⟨(some 2), (.mv (.tmp 35)), none⟩])
 .ret))))))
def ac52 : AFun := ⟨1, 36, ab52, [(.tmp 2)]⟩
theorem cf52 : compF Try.prog Try.f52 = some ac52 := by kernel_rfl
theorem cl52 : callable Try.prog 52 = true := by kernel_rfl
theorem fn52 : Try.prog.funcs[52]? = some Try.f52 := by kernel_rfl
/- chancel/chancelref10.typ -/
def ab53 : ACode := (.seq (.reg [⟨(some 2), (.box (.tmp 0)), none⟩, ⟨(some 3), (.box (.tmp 1)), none⟩, ⟨(some 4), (.mv (.con (.int .i64 0))), none⟩])
 (.seq (.seq (.reg [⟨(some 8), (.faddr 0 (.tmp 3)), none⟩, ⟨(some 9), (.load false 1 (.tmp 8)), none⟩, ⟨(some 10), (.bin .lss .plain (.tmp 9) (.con (.int .i64 1))), none⟩, ⟨(some 11), (.mv (.tmp 10)), none⟩, ⟨(some 12), (.faddr 0 (.tmp 3)), (some (11, false))⟩, ⟨(some 13), (.load false 1 (.tmp 12)), (some (11, false))⟩, ⟨(some 14), (.bin .gtr .plain (.tmp 13) (.con (.int .i64 5))), (some (11, false))⟩, ⟨(some 15), (.pick (.tmp 11) (.con (.bool true)) (.tmp 14)), none⟩])
 (.cond (.tmp 15)
 (.seq (.reg [⟨(some 4), (.mv (.con (.int .i64 3))), none⟩])
 .ret)
 .skip))
 (.seq (.seq (.reg [⟨(some 16), (.faddr 0 (.tmp 3)), none⟩, ⟨(some 17), (.load false 1 (.tmp 16)), none⟩, ⟨(some 18), (.bin .eql .plain (.tmp 17) (.con (.int .i64 5))), none⟩, ⟨(some 19), (.mv (.tmp 18)), none⟩, ⟨(some 20), (.faddr 1 (.tmp 3)), (some (19, true))⟩, ⟨(some 21), (.load false 1 (.tmp 20)), (some (19, true))⟩, ⟨(some 22), (.bin .lss .plain (.tmp 21) (.con (.int .i64 1))), (some (19, true))⟩, ⟨(some 23), (.mv (.tmp 22)), (some (19, true))⟩, ⟨(some 24), (.faddr 1 (.tmp 3)), (some (23, false))⟩, ⟨(some 25), (.load false 1 (.tmp 24)), (some (23, false))⟩, ⟨(some 26), (.bin .gtr .plain (.tmp 25) (.con (.int .i64 4))), (some (23, false))⟩, ⟨(some 27), (.pick (.tmp 23) (.con (.bool true)) (.tmp 26)), (some (19, true))⟩, ⟨(some 28), (.pick (.tmp 19) (.tmp 27) (.con (.bool false))), none⟩])
 (.cond (.tmp 28)
 (.seq (.reg [⟨(some 4), (.mv (.con (.int .i64 3))), none⟩])
 .ret)
 .skip))
 (.seq (.reg [⟨(some 29), (.faddr 0 (.tmp 3)), none⟩, ⟨(some 30), (.load false 1 (.tmp 29)), none⟩, ⟨(some 31), (.bin .eql .plain (.tmp 30) (.con (.int .i64 4))), none⟩, ⟨(some 32), (.mv (.tmp 31)), none⟩, ⟨(some 33), (.faddr 0 (.tmp 3)), (some (32, false))⟩, ⟨(some 34), (.load false 1 (.tmp 33)), (some (32, false))⟩, ⟨(some 35), (.bin .eql .plain (.tmp 34) (.con (.int .i64 5))), (some (32, false))⟩, ⟨(some 36), (.mv (.tmp 35)), (some (32, false))⟩, ⟨(some 37), (.faddr 1 (.tmp 3)), (some (36, true))⟩, ⟨(some 38), (.load false 1 (.tmp 37)), (some (36, true))⟩, ⟨(some 39), (.bin .eql .plain (.tmp 38) (.con (.int .i64 4))), (some (36, true))⟩, ⟨(some 40), (.pick (.tmp 36) (.tmp 39) (.con (.bool false))), (some (32, false))⟩, ⟨(some 41), (.pick (.tmp 32) (.con (.bool true)) (.tmp 40)), none⟩, ⟨(some 5), (.mv (.tmp 41)), none⟩])
 (.seq (.seq (.reg [⟨(some 42), (.faddr 0 (.tmp 3)), none⟩, ⟨(some 43), (.load false 1 (.tmp 42)), none⟩, ⟨(some 44), (.bin .neq .plain (.tmp 43) (.con (.int .i64 5))), none⟩, ⟨(some 45), (.mv (.tmp 44)), none⟩, ⟨(some 46), (.faddr 1 (.tmp 3)), (some (45, true))⟩, ⟨(some 47), (.load false 1 (.tmp 46)), (some (45, true))⟩, ⟨(some 48), (.bin .neq .plain (.tmp 47) (.con (.int .i64 0))), (some (45, true))⟩, ⟨(some 49), (.pick (.tmp 45) (.tmp 48) (.con (.bool false))), none⟩, ⟨(some 50), (.mv (.tmp 49)), none⟩, ⟨(some 51), (.mv (.tmp 5)), (some (50, false))⟩, ⟨(some 52), (.un .not (.tmp 51)), (some (50, false))⟩, ⟨(some 53), (.mv (.tmp 52)), (some (50, false))⟩, ⟨(some 54), (.faddr 2 (.tmp 3)), (some (53, true))⟩, ⟨(some 55), (.load false 1 (.tmp 54)), (some (53, true))⟩, ⟨(some 56), (.bin .neq .plain (.tmp 55) (.con (.str []))), (some (53, true))⟩, ⟨(some 57), (.pick (.tmp 53) (.tmp 56) (.con (.bool false))), (some (50, false))⟩, ⟨(some 58), (.pick (.tmp 50) (.con (.bool true)) (.tmp 57)), none⟩])
 (.cond (.tmp 58)
 (.seq (.reg [⟨(some 4), (.mv (.con (.int .i64 1))), none⟩])
 .ret)
 .skip))
 (.seq (.seq (.reg [⟨(some 59), (.mv (.tmp 5)), none⟩])
 (.cond (.tmp 59)
 (.seq (.reg [⟨(some 61), (.load true 2 (.tmp 2)), none⟩, ⟨(some 62), (.faddr 2 (.tmp 3)), none⟩, ⟨(some 63), (.load false 1 (.tmp 62)), none⟩, ⟨(some 64), (.call 21 [(.tmp 61), (.tmp 63)]), none⟩, ⟨(some 60), (.mv (.tmp 64)), none⟩, ⟨(some 65), (.ext (.tmp 60) 0), none⟩, ⟨(some 66), (.ext (.tmp 60) 1), none⟩, ⟨(some 6), (.alloc [(.str []), .nils, .nils]), none⟩, ⟨none, (.store 3 (.tmp 6) (.tmp 65)), none⟩, ⟨(some 7), (.mv (.tmp 66)), none⟩])
 (.seq (.reg [⟨(some 67), (.mv (.tmp 7)), none⟩, ⟨(some 68), (.un .not (.tmp 67)), none⟩])
 (.cond (.tmp 68)
 (.seq (.reg [⟨(some 4), (.mv (.con (.int .i64 2))), none⟩])
 .ret)
 .skip)))
 .skip))
 (.seq (.reg [⟨(some 4), (.mv (.con (.int .i64 0))), none⟩])
 .ret)))))))
def ac53 : AFun := ⟨2, 69, ab53, [(.tmp 4)]⟩
theorem cf53 : compF Try.prog Try.f53 = some ac53 := by kernel_rfl
theorem cl53 : callable Try.prog 53 = true := by kernel_rfl
theorem fn53 : Try.prog.funcs[53]? = some Try.f53 := by kernel_rfl
/- chancel/chancellaw1.Of -/
def ab54 : ACode := (.seq (.reg [⟨(some 2), (.mv (.con (.str []))), none⟩])
 (.seq (.reg [⟨(some 8), (.bslice 1 22 [(.int .i32 0)] [(0, 1, (.con (.int .i32 97))), (1, 1, (.con (.int .i32 98))), (2, 1, (.con (.int .i32 42))), (3, 1, (.con (.int .i32 34))), (4, 1, (.con (.int .i32 92))), (5, 1, (.con (.int .i32 10))), (6, 1, (.con (.int .i32 9))), (7, 1, (.con (.int .i32 1))), (8, 1, (.con (.int .i32 31))), (9, 1, (.con (.int .i32 127))), (10, 1, (.con (.int .i32 128))), (11, 1, (.con (.int .i32 233))), (12, 1, (.con (.int .i32 2047))), (13, 1, (.con (.int .i32 2048))), (14, 1, (.con (.int .i32 8364))), (15, 1, (.con (.int .i32 55295))), (16, 1, (.con (.int .i32 57344))), (17, 1, (.con (.int .i32 65533))), (18, 1, (.con (.int .i32 65535))), (19, 1, (.con (.int .i32 65536))), (20, 1, (.con (.int .i32 128512))), (21, 1, (.con (.int .i32 1114111)))]), none⟩, ⟨(some 3), (.mv (.tmp 8)), none⟩])
 (.seq (.reg [⟨(some 4), (.mv (.con .nils)), none⟩])
 (.seq (.seq (.reg [⟨(some 5), (.mv (.con (.int .i64 0))), none⟩])
 (.block 0
 (.loop (.seq (.seq (.reg [⟨(some 9), (.mv (.tmp 5)), none⟩, ⟨(some 10), (.mv (.tmp 0)), none⟩, ⟨(some 11), (.lenL (.tmp 10)), none⟩, ⟨(some 12), (.bin .lss .plain (.tmp 9) (.tmp 11)), none⟩, ⟨(some 13), (.mv (.tmp 12)), none⟩, ⟨(some 14), (.mv (.tmp 5)), (some (13, true))⟩, ⟨(some 15), (.bin .lss .plain (.tmp 14) (.con (.int .i64 40))), (some (13, true))⟩, ⟨(some 16), (.pick (.tmp 13) (.tmp 15) (.con (.bool false))), none⟩])
 (.cond (.tmp 16)
 .skip
 (.exit 0)))
 (.seq (.block 1
 (.reg [⟨(some 19), (.mv (.tmp 4)), none⟩, ⟨(some 20), (.mv (.tmp 3)), none⟩, ⟨(some 21), (.mv (.tmp 0)), none⟩, ⟨(some 22), (.mv (.tmp 5)), none⟩, ⟨(some 23), (.iaddr 1 (.tmp 21) (.tmp 22)), none⟩, ⟨(some 24), (.load false 1 (.tmp 23)), none⟩, ⟨(some 25), (.mv (.tmp 3)), none⟩, ⟨(some 26), (.lenL (.tmp 25)), none⟩, ⟨(some 27), (.call 61 [(.tmp 24), (.tmp 26)]), none⟩, ⟨(some 28), (.iaddr 1 (.tmp 20) (.tmp 27)), none⟩, ⟨(some 29), (.load false 1 (.tmp 28)), none⟩, ⟨(some 30), (.bslice 1 1 [(.int .i32 0)] [(0, 1, (.tmp 29))]), none⟩, ⟨(some 31), (.append 1 4 (.tmp 19) (.tmp 30)), none⟩, ⟨(some 4), (.mv (.tmp 31)), none⟩]))
 (.reg [⟨(some 17), (.mv (.tmp 5)), none⟩, ⟨(some 18), (.bin .add .plain (.tmp 17) (.con (.int .i64 1))), none⟩, ⟨(some 5), (.mv (.tmp 18)), none⟩]))))))
 (.seq (.reg [⟨(some 33), (.mv (.tmp 4)), none⟩, ⟨(some 34), (.call 62 [(.tmp 33)]), none⟩, ⟨(some 32), (.mv (.tmp 34)), none⟩, ⟨(some 35), (.ext (.tmp 32) 0), none⟩, ⟨(some 36), (.ext (.tmp 32) 1), none⟩, ⟨(some 6), (.mv (.tmp 35)), none⟩, ⟨(some 7), (.mv (.tmp 36)), none⟩])
 (.seq (.reg [⟨(some 37), (.mv (.tmp 6)), none⟩, ⟨(some 2), (.mv (.tmp 37)), none⟩])
 .ret))))))
def ac54 : AFun := ⟨1, 38, ab54, [(.tmp 2)]⟩
theorem cf54 : compF Try.prog Try.f54 = some ac54 := by kernel_rfl
theorem cl54 : callable Try.prog 54 = true := by kernel_rfl
theorem fn54 : Try.prog.funcs[54]? = some Try.f54 := by kernel_rfl
/- slices.Index[[]string,string] -/
def ab55 : ACode := (.seq (.reg [⟨(some 4), (.mv (.con (.int .i64 0))), none⟩])
 (.seq (.seq (.reg [⟨(some 6), (.mv (.tmp 0)), none⟩, ⟨(some 7), (.lenL (.tmp 6)), none⟩, ⟨(some 8), (.mv (.con (.int .i64 0))), none⟩])
 (.block 0
 (.loop (.seq (.reg [⟨(some 9), (.bin .lss .plain (.tmp 8) (.tmp 7)), none⟩])
 (.seq (.cond (.tmp 9)
 .skip
 (.exit 0))
 (.seq (.block 1
 (.seq (.reg [⟨(some 10), (.mv (.tmp 8)), none⟩, ⟨(some 5), (.mv (.tmp 10)), none⟩])
 (.seq (.reg [⟨(some 11), (.mv (.tmp 1)), none⟩, ⟨(some 12), (.mv (.tmp 0)), none⟩, ⟨(some 13), (.mv (.tmp 5)), none⟩, ⟨(some 14), (.iaddr 1 (.tmp 12) (.tmp 13)), none⟩, ⟨(some 15), (.load false 1 (.tmp 14)), none⟩, ⟨(some 16), (.bin .eql .plain (.tmp 11) (.tmp 15)), none⟩])
 (.cond (.tmp 16)
 (.seq (.reg [⟨(some 17), (.mv (.tmp 5)), none⟩, ⟨(some 4), (.mv (.tmp 17)), none⟩])
 .ret)
 .skip))))
 (.reg [⟨(some 18), (.bin .add .plain (.tmp 8) (.con (.int .i64 1))), none⟩, ⟨(some 8), (.mv (.tmp 18)), none⟩])))))))
 (.seq (.reg [⟨(some 4), (.mv (.con (.int .i64 (-1)))), none⟩])
 .ret)))
def ac55 : AFun := ⟨2, 19, ab55, [(.tmp 4)]⟩
theorem cf55 : compF Try.prog Try.f55 = some ac55 := by kernel_rfl
theorem cl55 : callable Try.prog 55 = true := by kernel_rfl
theorem fn55 : Try.prog.funcs[55]? = some Try.f55 := by kernel_rfl
/- chancel/lex.letter -/
def ab56 : ACode := (.seq (.reg [⟨(some 2), (.mv (.con (.bool false))), none⟩])
 (.seq (.reg [⟨(some 3), (.mv (.tmp 0)), none⟩, ⟨(some 4), (.bin .geq .plain (.tmp 3) (.con (.int .u8 97))), none⟩, ⟨(some 5), (.mv (.tmp 4)), none⟩, ⟨(some 6), (.mv (.tmp 0)), (some (5, true))⟩, ⟨(some 7), (.bin .leq .plain (.tmp 6) (.con (.int .u8 122))), (some (5, true))⟩, ⟨(some 8), (.pick (.tmp 5) (.tmp 7) (.con (.bool false))), none⟩, ⟨(some 9), (.mv (.tmp 8)), none⟩, ⟨(some 10), (.mv (.tmp 0)), (some (9, false))⟩, ⟨(some 11), (.bin .geq .plain (.tmp 10) (.con (.int .u8 65))), (some (9, false))⟩, ⟨(some 12), (.mv (.tmp 11)), (some (9, false))⟩, ⟨(some 13), (.mv (.tmp 0)), (some (12, true))⟩, ⟨(some 14), (.bin .leq .plain (.tmp 13) (.con (.int .u8 90))), (some (12, true))⟩, ⟨(some 15), (.pick (.tmp 12) (.tmp 14) (.con (.bool false))), (some (9, false))⟩, ⟨(some 16), (.pick (.tmp 9) (.con (.bool true)) (.tmp 15)), none⟩, ⟨(some 17), (.mv (.tmp 16)), none⟩, ⟨(some 18), (.mv (.tmp 0)), (some (17, false))⟩, ⟨(some 19), (.bin .eql .plain (.tmp 18) (.con (.int .u8 95))), (some (17, false))⟩, ⟨(some 20), (.pick (.tmp 17) (.con (.bool true)) (.tmp 19)), none⟩, ⟨(some 2), (.mv (.tmp 20)), none⟩])
 .ret))
def ac56 : AFun := ⟨1, 21, ab56, [(.tmp 2)]⟩
theorem cf56 : compF Try.prog Try.f56 = some ac56 := by kernel_rfl
theorem cl56 : callable Try.prog 56 = true := by kernel_rfl
theorem fn56 : Try.prog.funcs[56]? = some Try.f56 := by kernel_rfl
end Go.Proofs.Ytaokfpjjaejjgaa.Va
