/- Functions of the program as resolved code (printed by gen.py from the kernel's own value). Conditions: none. -/
import Derived.Test.YtcdbpmmomgehfaaProg
import Derived.Test.YtcdbpmmomgehfaaVaF
import Derived.KernelRfl
set_option maxRecDepth 100000
set_option maxHeartbeats 4000000
set_option linter.all false
namespace Go.Proofs.Ytcdbpmmomgehfaa.Va
open Go.Proofs
/- chancel/chancelref10.Kind -/
def ab45 : ACode := (.seq (.reg [⟨(some 2), (.box (.tmp 0)), none⟩, ⟨(some 4), (.alloc [(.str []), .nils, .nils]), none⟩, ⟨(some 5), (.mv (.con (.bool false))), none⟩])
 (.seq (.seq (.reg [⟨(some 6), (.mv (.con (.int .i64 0))), none⟩])
 (.block 0
 (.loop (.seq (.seq (.reg [⟨(some 7), (.mv (.tmp 6)), none⟩, ⟨(some 8), (.faddr 0 (.tmp 2)), none⟩, ⟨(some 9), (.load false 1 (.tmp 8)), none⟩, ⟨(some 10), (.lenL (.tmp 9)), none⟩, ⟨(some 11), (.bin .lss .plain (.tmp 7) (.tmp 10)), none⟩])
 (.cond (.tmp 11)
 .skip
 (.exit 0)))
 (.seq (.block 1
 (.seq (.reg [⟨(some 14), (.faddr 0 (.tmp 2)), none⟩, ⟨(some 15), (.load false 1 (.tmp 14)), none⟩, ⟨(some 16), (.mv (.tmp 6)), none⟩, ⟨(some 17), (.iaddr 3 (.tmp 15) (.tmp 16)), none⟩, ⟨(some 18), (.faddr 0 (.tmp 17)), none⟩, ⟨(some 19), (.load false 1 (.tmp 18)), none⟩, ⟨(some 20), (.mv (.tmp 1)), none⟩, ⟨(some 21), (.bin .eql .plain (.tmp 19) (.tmp 20)), none⟩])
 (.cond (.tmp 21)
 (.seq (.reg [⟨(some 22), (.faddr 0 (.tmp 2)), none⟩, ⟨(some 23), (.load false 1 (.tmp 22)), none⟩, ⟨(some 24), (.mv (.tmp 6)), none⟩, ⟨(some 25), (.iaddr 3 (.tmp 23) (.tmp 24)), none⟩, ⟨(some 26), (.load true 3 (.tmp 25)), none⟩, ⟨none, (.store 3 (.tmp 4) (.tmp 26)), none⟩, ⟨(some 5), (.mv (.con (.bool true))), none⟩])
 .ret)
 .skip)))
 (.reg [⟨(some 12), (.mv (.tmp 6)), none⟩, ⟨(some 13), (.bin .add .plain (.tmp 12) (.con (.int .i64 1))), none⟩, ⟨(some 6), (.mv (.tmp 13)), none⟩]))))))
 (.seq (.reg [⟨(some 27), (.build [(.str []), .nils, .nils] []), none⟩, ⟨none, (.store 3 (.tmp 4) (.tmp 27)), none⟩, ⟨(some 5), (.mv (.con (.bool false))), none⟩])
 .ret)))
def ac45 : AFun := ⟨2, 28, ab45, [(.cell 4 true 3), (.tmp 5)]⟩
theorem cf45 : compF Try.prog Try.f45 = some ac45 := by kernel_rfl
theorem cl45 : callable Try.prog 45 = true := by kernel_rfl
theorem fn45 : Try.prog.funcs[45]? = some Try.f45 := by kernel_rfl
/- chancel/chancellaw1.Of -/
def ab46 : ACode := (.seq (.reg [⟨(some 2), (.mv (.con (.str []))), none⟩])
 (.seq (.reg [⟨(some 8), (.bslice 1 22 [(.int .i32 0)] [(0, 1, (.con (.int .i32 97))), (1, 1, (.con (.int .i32 98))), (2, 1, (.con (.int .i32 42))), (3, 1, (.con (.int .i32 34))), (4, 1, (.con (.int .i32 92))), (5, 1, (.con (.int .i32 10))), (6, 1, (.con (.int .i32 9))), (7, 1, (.con (.int .i32 1))), (8, 1, (.con (.int .i32 31))), (9, 1, (.con (.int .i32 127))), (10, 1, (.con (.int .i32 128))), (11, 1, (.con (.int .i32 233))), (12, 1, (.con (.int .i32 2047))), (13, 1, (.con (.int .i32 2048))), (14, 1, (.con (.int .i32 8364))), (15, 1, (.con (.int .i32 55295))), (16, 1, (.con (.int .i32 57344))), (17, 1, (.con (.int .i32 65533))), (18, 1, (.con (.int .i32 65535))), (19, 1, (.con (.int .i32 65536))), (20, 1, (.con (.int .i32 128512))), (21, 1, (.con (.int .i32 1114111)))]), none⟩, ⟨(some 3), (.mv (.tmp 8)), none⟩])
 (.seq (.reg [⟨(some 4), (.mv (.con .nils)), none⟩])
 (.seq (.seq (.reg [⟨(some 5), (.mv (.con (.int .i64 0))), none⟩])
 (.block 0
 (.loop (.seq (.seq (.reg [⟨(some 9), (.mv (.tmp 5)), none⟩, ⟨(some 10), (.mv (.tmp 0)), none⟩, ⟨(some 11), (.lenL (.tmp 10)), none⟩, ⟨(some 12), (.bin .lss .plain (.tmp 9) (.tmp 11)), none⟩, ⟨(some 13), (.mv (.tmp 12)), none⟩, ⟨(some 14), (.mv (.tmp 5)), (some (13, true))⟩, ⟨(some 15), (.bin .lss .plain (.tmp 14) (.con (.int .i64 40))), (some (13, true))⟩, ⟨(some 16), (.pick (.tmp 13) (.tmp 15) (.con (.bool false))), none⟩])
 (.cond (.tmp 16)
 .skip
 (.exit 0)))
 (.seq (.block 1
 (.reg [⟨(some 19), (.mv (.tmp 4)), none⟩, ⟨(some 20), (.mv (.tmp 3)), none⟩, ⟨(some 21), (.mv (.tmp 0)), none⟩, ⟨(some 22), (.mv (.tmp 5)), none⟩, ⟨(some 23), (.iaddr 1 (.tmp 21) (.tmp 22)), none⟩, ⟨(some 24), (.load false 1 (.tmp 23)), none⟩, ⟨(some 25), (.mv (.tmp 3)), none⟩, ⟨(some 26), (.lenL (.tmp 25)), none⟩, ⟨(some 27), (.call 63 [(.tmp 24), (.tmp 26)]), none⟩, ⟨(some 28), (.iaddr 1 (.tmp 20) (.tmp 27)), none⟩, ⟨(some 29), (.load false 1 (.tmp 28)), none⟩, ⟨(some 30), (.bslice 1 1 [(.int .i32 0)] [(0, 1, (.tmp 29))]), none⟩, ⟨(some 31), (.append 1 4 (.tmp 19) (.tmp 30)), none⟩, ⟨(some 4), (.mv (.tmp 31)), none⟩]))
 (.reg [⟨(some 17), (.mv (.tmp 5)), none⟩, ⟨(some 18), (.bin .add .plain (.tmp 17) (.con (.int .i64 1))), none⟩, ⟨(some 5), (.mv (.tmp 18)), none⟩]))))))
 (.seq (.reg [⟨(some 33), (.mv (.tmp 4)), none⟩, ⟨(some 34), (.call 64 [(.tmp 33)]), none⟩, ⟨(some 32), (.mv (.tmp 34)), none⟩, ⟨(some 35), (.ext (.tmp 32) 0), none⟩, ⟨(some 36), (.ext (.tmp 32) 1), none⟩, ⟨(some 6), (.mv (.tmp 35)), none⟩, ⟨(some 7), (.mv (.tmp 36)), none⟩])
 (.seq (.reg [⟨(some 37), (.mv (.tmp 6)), none⟩, ⟨(some 2), (.mv (.tmp 37)), none⟩])
 .ret))))))
def ac46 : AFun := ⟨1, 38, ab46, [(.tmp 2)]⟩
theorem cf46 : compF Try.prog Try.f46 = some ac46 := by kernel_rfl
theorem cl46 : callable Try.prog 46 = true := by kernel_rfl
theorem fn46 : Try.prog.funcs[46]? = some Try.f46 := by kernel_rfl
/- chancel/chancelref11.leaf -/
def ab47 : ACode := (.seq (.reg [⟨(some 3), (.box (.tmp 0)), none⟩, ⟨(some 4), (.box (.tmp 1)), none⟩, ⟨(some 5), (.box (.tmp 2)), none⟩, ⟨(some 6), (.alloc [(.int .i64 0), (.int .i64 0), (.str [])]), none⟩, ⟨(some 7), (.mv (.con (.int .i64 0))), none⟩])
 (.seq (.seq (.reg [⟨(some 8), (.faddr 0 (.tmp 5)), none⟩, ⟨(some 9), (.load false 1 (.tmp 8)), none⟩])
 (.block 0
 (.seq (.reg [⟨(some 11), (.bin .eql .plain (.tmp 9) (.con (.int .i64 1))), none⟩, ⟨(some 10), (.mv (.tmp 11)), none⟩])
 (.cond (.tmp 10)
 (.seq (.reg [⟨(some 12), (.call 65 [(.con (.int .i64 1))]), none⟩, ⟨none, (.store 3 (.tmp 6) (.tmp 12)), none⟩, ⟨(some 7), (.mv (.con (.int .i64 0))), none⟩])
 .ret)
 (.seq (.reg [⟨(some 14), (.bin .eql .plain (.tmp 9) (.con (.int .i64 2))), none⟩, ⟨(some 13), (.mv (.tmp 14)), none⟩])
 (.cond (.tmp 13)
 (.seq (.reg [⟨(some 15), (.call 65 [(.con (.int .i64 2))]), none⟩, ⟨none, (.store 3 (.tmp 6) (.tmp 15)), none⟩, ⟨(some 7), (.mv (.con (.int .i64 0))), none⟩])
 .ret)
 (.seq (.reg [⟨(some 17), (.bin .eql .plain (.tmp 9) (.con (.int .i64 3))), none⟩, ⟨(some 16), (.mv (.tmp 17)), none⟩])
 (.cond (.tmp 16)
 (.seq (.reg [⟨(some 18), (.call 65 [(.con (.int .i64 3))]), none⟩, ⟨none, (.store 3 (.tmp 6) (.tmp 18)), none⟩, ⟨(some 7), (.mv (.con (.int .i64 0))), none⟩])
 .ret)
 (.seq (.reg [⟨(some 20), (.bin .eql .plain (.tmp 9) (.con (.int .i64 4))), none⟩, ⟨(some 19), (.mv (.tmp 20)), none⟩])
 (.cond (.tmp 19)
 (.seq (.seq (.reg [⟨(some 21), (.load true 2 (.tmp 3)), none⟩, ⟨(some 22), (.faddr 4 (.tmp 5)), none⟩, ⟨(some 23), (.load true 2 (.tmp 22)), none⟩, ⟨(some 24), (.call 43 [(.tmp 21), (.tmp 23)]), none⟩, ⟨(some 25), (.un .not (.tmp 24)), none⟩])
 (.cond (.tmp 25)
 (.seq (.reg [⟨(some 26), (.build [(.int .i64 0), (.int .i64 0), (.str [])] []), none⟩, ⟨none, (.store 3 (.tmp 6) (.tmp 26)), none⟩, ⟨(some 7), (.mv (.con (.int .i64 15))), none⟩])
 .ret)
 .skip))
 (.seq (.reg [⟨(some 27), (.faddr 4 (.tmp 5)), none⟩, ⟨(some 28), (.faddr 0 (.tmp 27)), none⟩, ⟨(some 29), (.load false 1 (.tmp 28)), none⟩, ⟨(some 30), (.build [(.int .i64 0), (.int .i64 0), (.str [])] [(0, 1, (.con (.int .i64 4))), (2, 1, (.tmp 29))]), none⟩, ⟨none, (.store 3 (.tmp 6) (.tmp 30)), none⟩, ⟨(some 7), (.mv (.con (.int .i64 0))), none⟩])
 .ret))
 .skip))))))))))
 (.seq (.seq (.reg [⟨(some 31), (.faddr 3 (.tmp 5)), none⟩, ⟨(some 32), (.load false 1 (.tmp 31)), none⟩])
 (.block 1
 (.seq (.reg [⟨(some 34), (.bin .eql .plain (.tmp 32) (.con (.str [112, 114, 105, 110, 99, 105, 112, 97, 108]))), none⟩, ⟨(some 33), (.mv (.tmp 34)), none⟩])
 (.cond (.tmp 33)
 (.seq (.reg [⟨(some 35), (.faddr 0 (.tmp 4)), none⟩, ⟨(some 36), (.load false 1 (.tmp 35)), none⟩, ⟨(some 37), (.build [(.int .i64 0), (.int .i64 0), (.str [])] [(0, 1, (.con (.int .i64 4))), (2, 1, (.tmp 36))]), none⟩, ⟨none, (.store 3 (.tmp 6) (.tmp 37)), none⟩, ⟨(some 7), (.mv (.con (.int .i64 0))), none⟩])
 .ret)
 (.seq (.reg [⟨(some 39), (.bin .eql .plain (.tmp 32) (.con (.str [114, 101, 115, 111, 117, 114, 99, 101]))), none⟩, ⟨(some 38), (.mv (.tmp 39)), none⟩])
 (.cond (.tmp 38)
 (.seq (.reg [⟨(some 40), (.faddr 2 (.tmp 4)), none⟩, ⟨(some 41), (.load false 1 (.tmp 40)), none⟩, ⟨(some 42), (.build [(.int .i64 0), (.int .i64 0), (.str [])] [(0, 1, (.con (.int .i64 4))), (2, 1, (.tmp 41))]), none⟩, ⟨none, (.store 3 (.tmp 6) (.tmp 42)), none⟩, ⟨(some 7), (.mv (.con (.int .i64 0))), none⟩])
 .ret)
 .skip))))))
 (.seq (.reg [⟨(some 43), (.build [(.int .i64 0), (.int .i64 0), (.str [])] [(0, 1, (.con (.int .i64 4))), (2, 1, (.con (.str [65, 99, 116, 105, 111, 110])))]), none⟩, ⟨none, (.store 3 (.tmp 6) (.tmp 43)), none⟩, ⟨(some 7), (.mv (.con (.int .i64 0))), none⟩])
 .ret))))
def ac47 : AFun := ⟨3, 44, ab47, [(.cell 6 true 3), (.tmp 7)]⟩
theorem cf47 : compF Try.prog Try.f47 = some ac47 := by kernel_rfl
theorem cl47 : callable Try.prog 47 = true := by kernel_rfl
theorem fn47 : Try.prog.funcs[47]? = some Try.f47 := by kernel_rfl
/- chancel/chancelref11.own -/
def ab48 : ACode := (.seq (.reg [⟨(some 3), (.box (.tmp 0)), none⟩, ⟨(some 4), (.box (.tmp 1)), none⟩, ⟨(some 6), (.alloc [(.int .i64 0), (.int .i64 0), (.str [])]), none⟩, ⟨(some 7), (.mv (.con (.int .i64 0))), none⟩])
 (.seq (.reg [⟨(some 14), (.build [(.int .i64 0), (.int .i64 0), (.str [])] []), none⟩, ⟨(some 8), (.alloc [(.int .i64 0), (.int .i64 0), (.str [])]), none⟩, ⟨none, (.store 3 (.tmp 8) (.tmp 14)), none⟩])
 (.seq (.seq (.reg [⟨(some 15), (.faddr 0 (.tmp 4)), none⟩, ⟨(some 16), (.load false 1 (.tmp 15)), none⟩])
 (.block 0
 (.seq (.reg [⟨(some 18), (.bin .eql .plain (.tmp 16) (.con (.int .i64 6))), none⟩, ⟨(some 17), (.mv (.tmp 18)), none⟩])
 (.cond (.tmp 17)
 (.seq (.seq (.reg [⟨(some 9), (.mv (.con (.int .i64 0))), none⟩])
 (.block 1
 (.loop (.seq (.seq (.reg [⟨(some 19), (.mv (.tmp 9)), none⟩, ⟨(some 20), (.mv (.tmp 2)), none⟩, ⟨(some 21), (.lenL (.tmp 20)), none⟩, ⟨(some 22), (.bin .lss .plain (.tmp 19) (.tmp 21)), none⟩])
 (.cond (.tmp 22)
 .skip
 (.exit 1)))
 (.seq (.block 2
 (.seq (.dreg [⟨(some 25), (.mv (.tmp 2)), none⟩, ⟨(some 26), (.mv (.tmp 9)), none⟩, ⟨(some 27), (.iaddr 3 (.tmp 25) (.tmp 26)), none⟩, ⟨(some 28), (.load true 3 (.tmp 27)), none⟩, ⟨(some 29), (.mv (.tmp 2)), none⟩, ⟨(some 30), (.iaddr 3 (.tmp 29) (.con (.int .i64 0))), none⟩, ⟨(some 31), (.load true 3 (.tmp 30)), none⟩, ⟨(some 32), (.bin .neq (.agg [.i, .i, .s]) (.tmp 28) (.tmp 31)), none⟩, ⟨(some 33), (.mv (.tmp 32)), none⟩, ⟨(some 34), (.mv (.tmp 2)), (some (33, false))⟩, ⟨(some 35), (.mv (.tmp 9)), (some (33, false))⟩, ⟨(some 36), (.iaddr 3 (.tmp 34) (.tmp 35)), (some (33, false))⟩, ⟨(some 37), (.faddr 0 (.tmp 36)), (some (33, false))⟩, ⟨(some 38), (.load false 1 (.tmp 37)), (some (33, false))⟩, ⟨(some 39), (.bin .eql .plain (.tmp 38) (.con (.int .i64 5))), (some (33, false))⟩, ⟨(some 40), (.pick (.tmp 33) (.con (.bool true)) (.tmp 39)), none⟩] [] [0, 0, 3, 7, 0, 16, 48, 127, 255, 511, 511, 2047, 4095, 8191, 16383, 32767] [])
 (.cond (.tmp 40)
 (.seq (.reg [⟨(some 41), (.load true 3 (.tmp 8)), none⟩, ⟨none, (.store 3 (.tmp 6) (.tmp 41)), none⟩, ⟨(some 7), (.mv (.con (.int .i64 16))), none⟩])
 .ret)
 .skip)))
 (.reg [⟨(some 23), (.mv (.tmp 9)), none⟩, ⟨(some 24), (.bin .add .plain (.tmp 23) (.con (.int .i64 1))), none⟩, ⟨(some 9), (.mv (.tmp 24)), none⟩]))))))
 (.seq (.seq (.reg [⟨(some 42), (.mv (.tmp 2)), none⟩, ⟨(some 43), (.lenL (.tmp 42)), none⟩, ⟨(some 44), (.bin .eql .plain (.tmp 43) (.con (.int .i64 0))), none⟩])
 (.cond (.tmp 44)
 (.seq (.reg [⟨(some 45), (.load true 3 (.tmp 8)), none⟩, ⟨none, (.store 3 (.tmp 6) (.tmp 45)), none⟩, ⟨(some 7), (.mv (.con (.int .i64 16))), none⟩])
 .ret)
 .skip))
 (.seq (.dreg [⟨(some 46), (.mv (.tmp 2)), none⟩, ⟨(some 47), (.iaddr 3 (.tmp 46) (.con (.int .i64 0))), none⟩, ⟨(some 48), (.faddr 0 (.tmp 47)), none⟩, ⟨(some 49), (.load false 1 (.tmp 48)), none⟩, ⟨(some 50), (.mv (.tmp 2)), none⟩, ⟨(some 51), (.iaddr 3 (.tmp 50) (.con (.int .i64 0))), none⟩, ⟨(some 52), (.faddr 2 (.tmp 51)), none⟩, ⟨(some 53), (.load false 1 (.tmp 52)), none⟩, ⟨(some 54), (.build [(.int .i64 0), (.int .i64 0), (.str [])] [(0, 1, (.con (.int .i64 5))), (1, 1, (.tmp 49)), (2, 1, (.tmp 53))]), none⟩, ⟨none, (.store 3 (.tmp 6) (.tmp 54)), none⟩, ⟨(some 7), (.mv (.con (.int .i64 0))), none⟩] [9] [0, 1, 3, 7, 0, 16, 48, 112, 255, 511, 1023] [])
 .ret)))
 (.seq (.seq (.reg [⟨(some 56), (.bin .eql .plain (.tmp 16) (.con (.int .i64 7))), none⟩, ⟨(some 55), (.mv (.tmp 56)), none⟩])
 (.cond (.tmp 55)
 .skip
 (.reg [⟨(some 57), (.bin .eql .plain (.tmp 16) (.con (.int .i64 8))), none⟩, ⟨(some 55), (.mv (.tmp 57)), none⟩])))
 (.cond (.tmp 55)
 (.seq (.seq (.reg [⟨(some 58), (.mv (.tmp 2)), none⟩, ⟨(some 59), (.iaddr 3 (.tmp 58) (.con (.int .i64 0))), none⟩, ⟨(some 60), (.faddr 0 (.tmp 59)), none⟩, ⟨(some 61), (.load false 1 (.tmp 60)), none⟩, ⟨(some 62), (.bin .neq .plain (.tmp 61) (.con (.int .i64 4))), none⟩])
 (.cond (.tmp 62)
 (.seq (.reg [⟨(some 63), (.load true 3 (.tmp 8)), none⟩, ⟨none, (.store 3 (.tmp 6) (.tmp 63)), none⟩, ⟨(some 7), (.mv (.con (.int .i64 16))), none⟩])
 .ret)
 .skip))
 (.seq (.seq (.reg [⟨(some 64), (.faddr 0 (.tmp 4)), none⟩, ⟨(some 65), (.load false 1 (.tmp 64)), none⟩, ⟨(some 66), (.bin .eql .plain (.tmp 65) (.con (.int .i64 8))), none⟩])
 (.cond (.tmp 66)
 (.seq (.reg [⟨(some 67), (.call 65 [(.con (.int .i64 1))]), none⟩, ⟨none, (.store 3 (.tmp 6) (.tmp 67)), none⟩, ⟨(some 7), (.mv (.con (.int .i64 0))), none⟩])
 .ret)
 .skip))
 (.seq (.dreg [⟨(some 69), (.load true 2 (.tmp 3)), none⟩, ⟨(some 70), (.mv (.tmp 2)), none⟩, ⟨(some 71), (.iaddr 3 (.tmp 70) (.con (.int .i64 0))), none⟩, ⟨(some 72), (.faddr 2 (.tmp 71)), none⟩, ⟨(some 73), (.load false 1 (.tmp 72)), none⟩, ⟨(some 74), (.call 45 [(.tmp 69), (.tmp 73)]), none⟩, ⟨(some 68), (.mv (.tmp 74)), none⟩, ⟨(some 75), (.ext (.tmp 68) 0), none⟩, ⟨(some 76), (.ext (.tmp 68) 1), none⟩, ⟨(some 10), (.alloc [(.str []), .nils, .nils]), none⟩, ⟨none, (.store 3 (.tmp 10) (.tmp 75)), none⟩, ⟨(some 11), (.mv (.tmp 76)), none⟩] [5, 10] [0, 0, 2, 6, 14, 31, 63, 127, 127, 0, 767, 2047] [9])
 (.seq (.reg [⟨(some 78), (.load true 3 (.tmp 10)), none⟩, ⟨(some 79), (.faddr 3 (.tmp 4)), none⟩, ⟨(some 80), (.load false 1 (.tmp 79)), none⟩, ⟨(some 81), (.call 66 [(.tmp 78), (.tmp 80)]), none⟩, ⟨(some 77), (.mv (.tmp 81)), none⟩, ⟨(some 82), (.ext (.tmp 77) 0), none⟩, ⟨(some 83), (.ext (.tmp 77) 1), none⟩, ⟨(some 12), (.alloc [(.int .i64 0), (.int .i64 0), (.str [])]), none⟩, ⟨none, (.store 3 (.tmp 12) (.tmp 82)), none⟩, ⟨(some 13), (.mv (.tmp 83)), none⟩])
 (.seq (.seq (.reg [⟨(some 84), (.mv (.tmp 13)), none⟩, ⟨(some 85), (.un .not (.tmp 84)), none⟩, ⟨(some 86), (.mv (.tmp 85)), none⟩, ⟨(some 87), (.mv (.tmp 2)), (some (86, false))⟩, ⟨(some 88), (.iaddr 3 (.tmp 87) (.con (.int .i64 0))), (some (86, false))⟩, ⟨(some 89), (.faddr 2 (.tmp 88)), (some (86, false))⟩, ⟨(some 90), (.load false 1 (.tmp 89)), (some (86, false))⟩, ⟨(some 91), (.bin .eql .plain (.tmp 90) (.con (.str [65, 99, 116, 105, 111, 110]))), (some (86, false))⟩, ⟨(some 92), (.pick (.tmp 86) (.con (.bool true)) (.tmp 91)), none⟩])
 (.cond (.tmp 92)
 (.seq (.reg [⟨(some 93), (.load true 3 (.tmp 8)), none⟩, ⟨none, (.store 3 (.tmp 6) (.tmp 93)), none⟩, ⟨(some 7), (.mv (.con (.int .i64 15))), none⟩])
 .ret)
 .skip))
 (.seq (.reg [⟨(some 94), (.load true 3 (.tmp 12)), none⟩, ⟨none, (.store 3 (.tmp 6) (.tmp 94)), none⟩, ⟨(some 7), (.mv (.con (.int .i64 0))), none⟩])
 .ret))))))
 (.seq (.reg [⟨(some 96), (.bin .eql .plain (.tmp 16) (.con (.int .i64 9))), none⟩, ⟨(some 95), (.mv (.tmp 96)), none⟩])
 (.cond (.tmp 95)
 (.seq (.seq (.dreg [⟨(some 97), (.mv (.tmp 2)), none⟩, ⟨(some 98), (.iaddr 3 (.tmp 97) (.con (.int .i64 0))), none⟩, ⟨(some 99), (.faddr 0 (.tmp 98)), none⟩, ⟨(some 100), (.load false 1 (.tmp 99)), none⟩, ⟨(some 101), (.bin .neq .plain (.tmp 100) (.con (.int .i64 5))), none⟩, ⟨(some 102), (.mv (.tmp 101)), none⟩, ⟨(some 103), (.mv (.tmp 2)), (some (102, false))⟩, ⟨(some 104), (.iaddr 3 (.tmp 103) (.con (.int .i64 1))), (some (102, false))⟩, ⟨(some 105), (.load true 3 (.tmp 104)), (some (102, false))⟩, ⟨(some 106), (.mv (.tmp 2)), (some (102, false))⟩, ⟨(some 107), (.iaddr 3 (.tmp 106) (.con (.int .i64 0))), (some (102, false))⟩, ⟨(some 108), (.faddr 1 (.tmp 107)), (some (102, false))⟩, ⟨(some 109), (.load false 1 (.tmp 108)), (some (102, false))⟩, ⟨(some 110), (.mv (.tmp 2)), (some (102, false))⟩, ⟨(some 111), (.iaddr 3 (.tmp 110) (.con (.int .i64 0))), (some (102, false))⟩, ⟨(some 112), (.faddr 2 (.tmp 111)), (some (102, false))⟩, ⟨(some 113), (.load false 1 (.tmp 112)), (some (102, false))⟩, ⟨(some 114), (.build [(.int .i64 0), (.int .i64 0), (.str [])] [(0, 1, (.tmp 109)), (2, 1, (.tmp 113))]), (some (102, false))⟩, ⟨(some 115), (.bin .neq (.agg [.i, .i, .s]) (.tmp 105) (.tmp 114)), (some (102, false))⟩, ⟨(some 116), (.pick (.tmp 102) (.con (.bool true)) (.tmp 115)), none⟩] [] [0, 1, 3, 7, 15, 31, 63, 127, 255, 63, 575, 1599, 3647, 63, 8255, 24639, 57407, 130623, 262143, 524287] [])
 (.cond (.tmp 116)
 (.seq (.reg [⟨(some 117), (.load true 3 (.tmp 8)), none⟩, ⟨none, (.store 3 (.tmp 6) (.tmp 117)), none⟩, ⟨(some 7), (.mv (.con (.int .i64 16))), none⟩])
 .ret)
 .skip))
 (.seq (.reg [⟨(some 118), (.call 65 [(.con (.int .i64 1))]), none⟩, ⟨none, (.store 3 (.tmp 6) (.tmp 118)), none⟩, ⟨(some 7), (.mv (.con (.int .i64 0))), none⟩])
 .ret))
 (.seq (.reg [⟨(some 120), (.bin .eql .plain (.tmp 16) (.con (.int .i64 10))), none⟩, ⟨(some 119), (.mv (.tmp 120)), none⟩])
 (.cond (.tmp 119)
 (.seq (.reg [⟨(some 121), (.mv (.tmp 2)), none⟩, ⟨(some 122), (.call 67 [(.tmp 121), (.con (.int .i64 3)), (.con (.int .i64 1))]), none⟩, ⟨(some 123), (.ext (.tmp 122) 0), none⟩, ⟨(some 124), (.ext (.tmp 122) 1), none⟩, ⟨none, (.store 3 (.tmp 6) (.tmp 123)), none⟩, ⟨(some 7), (.mv (.tmp 124)), none⟩])
 .ret)
 (.seq (.seq (.reg [⟨(some 126), (.bin .eql .plain (.tmp 16) (.con (.int .i64 11))), none⟩, ⟨(some 125), (.mv (.tmp 126)), none⟩])
 (.cond (.tmp 125)
 .skip
 (.seq (.reg [⟨(some 127), (.bin .eql .plain (.tmp 16) (.con (.int .i64 23))), none⟩, ⟨(some 125), (.mv (.tmp 127)), none⟩])
 (.cond (.tmp 125)
 .skip
 (.reg [⟨(some 128), (.bin .eql .plain (.tmp 16) (.con (.int .i64 24))), none⟩, ⟨(some 125), (.mv (.tmp 128)), none⟩])))))
 (.cond (.tmp 125)
 (.seq (.reg [⟨(some 129), (.mv (.tmp 2)), none⟩, ⟨(some 130), (.call 67 [(.tmp 129), (.con (.int .i64 1)), (.con (.int .i64 1))]), none⟩, ⟨(some 131), (.ext (.tmp 130) 0), none⟩, ⟨(some 132), (.ext (.tmp 130) 1), none⟩, ⟨none, (.store 3 (.tmp 6) (.tmp 131)), none⟩, ⟨(some 7), (.mv (.tmp 132)), none⟩])
 .ret)
 (.seq (.seq (.reg [⟨(some 134), (.bin .eql .plain (.tmp 16) (.con (.int .i64 12))), none⟩, ⟨(some 133), (.mv (.tmp 134)), none⟩])
 (.cond (.tmp 133)
 .skip
 (.seq (.reg [⟨(some 135), (.bin .eql .plain (.tmp 16) (.con (.int .i64 13))), none⟩, ⟨(some 133), (.mv (.tmp 135)), none⟩])
 (.cond (.tmp 133)
 .skip
 (.seq (.reg [⟨(some 136), (.bin .eql .plain (.tmp 16) (.con (.int .i64 14))), none⟩, ⟨(some 133), (.mv (.tmp 136)), none⟩])
 (.cond (.tmp 133)
 .skip
 (.reg [⟨(some 137), (.bin .eql .plain (.tmp 16) (.con (.int .i64 15))), none⟩, ⟨(some 133), (.mv (.tmp 137)), none⟩])))))))
 (.cond (.tmp 133)
 (.seq (.reg [⟨(some 138), (.mv (.tmp 2)), none⟩, ⟨(some 139), (.call 67 [(.tmp 138), (.con (.int .i64 2)), (.con (.int .i64 2))]), none⟩, ⟨(some 140), (.ext (.tmp 139) 0), none⟩, ⟨(some 141), (.ext (.tmp 139) 1), none⟩, ⟨none, (.store 3 (.tmp 6) (.tmp 140)), none⟩, ⟨(some 7), (.mv (.tmp 141)), none⟩])
 .ret)
 (.seq (.seq (.reg [⟨(some 143), (.bin .eql .plain (.tmp 16) (.con (.int .i64 16))), none⟩, ⟨(some 142), (.mv (.tmp 143)), none⟩])
 (.cond (.tmp 142)
 .skip
 (.seq (.reg [⟨(some 144), (.bin .eql .plain (.tmp 16) (.con (.int .i64 17))), none⟩, ⟨(some 142), (.mv (.tmp 144)), none⟩])
 (.cond (.tmp 142)
 .skip
 (.seq (.reg [⟨(some 145), (.bin .eql .plain (.tmp 16) (.con (.int .i64 18))), none⟩, ⟨(some 142), (.mv (.tmp 145)), none⟩])
 (.cond (.tmp 142)
 .skip
 (.reg [⟨(some 146), (.bin .eql .plain (.tmp 16) (.con (.int .i64 19))), none⟩, ⟨(some 142), (.mv (.tmp 146)), none⟩])))))))
 (.cond (.tmp 142)
 (.seq (.reg [⟨(some 147), (.mv (.tmp 2)), none⟩, ⟨(some 148), (.call 67 [(.tmp 147), (.con (.int .i64 2)), (.con (.int .i64 1))]), none⟩, ⟨(some 149), (.ext (.tmp 148) 0), none⟩, ⟨(some 150), (.ext (.tmp 148) 1), none⟩, ⟨none, (.store 3 (.tmp 6) (.tmp 149)), none⟩, ⟨(some 7), (.mv (.tmp 150)), none⟩])
 .ret)
 (.seq (.seq (.reg [⟨(some 152), (.bin .eql .plain (.tmp 16) (.con (.int .i64 20))), none⟩, ⟨(some 151), (.mv (.tmp 152)), none⟩])
 (.cond (.tmp 151)
 .skip
 (.reg [⟨(some 153), (.bin .eql .plain (.tmp 16) (.con (.int .i64 21))), none⟩, ⟨(some 151), (.mv (.tmp 153)), none⟩])))
 (.cond (.tmp 151)
 (.seq (.seq (.dreg [⟨(some 154), (.mv (.tmp 2)), none⟩, ⟨(some 155), (.iaddr 3 (.tmp 154) (.con (.int .i64 0))), none⟩, ⟨(some 156), (.load true 3 (.tmp 155)), none⟩, ⟨(some 157), (.mv (.tmp 2)), none⟩, ⟨(some 158), (.iaddr 3 (.tmp 157) (.con (.int .i64 1))), none⟩, ⟨(some 159), (.load true 3 (.tmp 158)), none⟩, ⟨(some 160), (.bin .neq (.agg [.i, .i, .s]) (.tmp 156) (.tmp 159)), none⟩, ⟨(some 161), (.mv (.tmp 160)), none⟩, ⟨(some 162), (.mv (.tmp 2)), (some (161, true))⟩, ⟨(some 163), (.iaddr 3 (.tmp 162) (.con (.int .i64 0))), (some (161, true))⟩, ⟨(some 164), (.faddr 0 (.tmp 163)), (some (161, true))⟩, ⟨(some 165), (.load false 1 (.tmp 164)), (some (161, true))⟩, ⟨(some 166), (.bin .neq .plain (.tmp 165) (.con (.int .i64 4))), (some (161, true))⟩, ⟨(some 167), (.mv (.tmp 166)), (some (161, true))⟩, ⟨(some 168), (.mv (.tmp 2)), (some (167, false))⟩, ⟨(some 169), (.iaddr 3 (.tmp 168) (.con (.int .i64 1))), (some (167, false))⟩, ⟨(some 170), (.faddr 0 (.tmp 169)), (some (167, false))⟩, ⟨(some 171), (.load false 1 (.tmp 170)), (some (167, false))⟩, ⟨(some 172), (.bin .neq .plain (.tmp 171) (.con (.int .i64 4))), (some (167, false))⟩, ⟨(some 173), (.pick (.tmp 167) (.con (.bool true)) (.tmp 172)), (some (161, true))⟩, ⟨(some 174), (.pick (.tmp 161) (.tmp 173) (.con (.bool false))), none⟩] [] [0, 1, 3, 0, 8, 24, 63, 127, 255, 511, 1023, 2047, 4095, 8191, 16383, 32767, 65535, 131071, 262143, 524287, 1048575] [])
 (.cond (.tmp 174)
 (.seq (.reg [⟨(some 175), (.load true 3 (.tmp 8)), none⟩, ⟨none, (.store 3 (.tmp 6) (.tmp 175)), none⟩, ⟨(some 7), (.mv (.con (.int .i64 16))), none⟩])
 .ret)
 .skip))
 (.seq (.reg [⟨(some 176), (.call 65 [(.con (.int .i64 1))]), none⟩, ⟨none, (.store 3 (.tmp 6) (.tmp 176)), none⟩, ⟨(some 7), (.mv (.con (.int .i64 0))), none⟩])
 .ret))
 (.seq (.reg [⟨(some 178), (.bin .eql .plain (.tmp 16) (.con (.int .i64 22))), none⟩, ⟨(some 177), (.mv (.tmp 178)), none⟩])
 (.cond (.tmp 177)
 (.seq (.seq (.reg [⟨(some 179), (.mv (.tmp 2)), none⟩, ⟨(some 180), (.iaddr 3 (.tmp 179) (.con (.int .i64 0))), none⟩, ⟨(some 181), (.faddr 0 (.tmp 180)), none⟩, ⟨(some 182), (.load false 1 (.tmp 181)), none⟩, ⟨(some 183), (.bin .neq .plain (.tmp 182) (.con (.int .i64 4))), none⟩, ⟨(some 184), (.mv (.tmp 183)), none⟩, ⟨(some 185), (.mv (.tmp 2)), (some (184, false))⟩, ⟨(some 186), (.iaddr 3 (.tmp 185) (.con (.int .i64 1))), (some (184, false))⟩, ⟨(some 187), (.faddr 0 (.tmp 186)), (some (184, false))⟩, ⟨(some 188), (.load false 1 (.tmp 187)), (some (184, false))⟩, ⟨(some 189), (.bin .neq .plain (.tmp 188) (.con (.int .i64 4))), (some (184, false))⟩, ⟨(some 190), (.mv (.tmp 189)), (some (184, false))⟩, ⟨(some 191), (.mv (.tmp 2)), (some (190, true))⟩, ⟨(some 192), (.iaddr 3 (.tmp 191) (.con (.int .i64 1))), (some (190, true))⟩, ⟨(some 193), (.faddr 0 (.tmp 192)), (some (190, true))⟩, ⟨(some 194), (.load false 1 (.tmp 193)), (some (190, true))⟩, ⟨(some 195), (.bin .neq .plain (.tmp 194) (.con (.int .i64 5))), (some (190, true))⟩, ⟨(some 196), (.mv (.tmp 195)), (some (190, true))⟩, ⟨(some 197), (.mv (.tmp 2)), (some (196, false))⟩, ⟨(some 198), (.iaddr 3 (.tmp 197) (.con (.int .i64 1))), (some (196, false))⟩, ⟨(some 199), (.faddr 1 (.tmp 198)), (some (196, false))⟩, ⟨(some 200), (.load false 1 (.tmp 199)), (some (196, false))⟩, ⟨(some 201), (.bin .neq .plain (.tmp 200) (.con (.int .i64 4))), (some (196, false))⟩, ⟨(some 202), (.pick (.tmp 196) (.con (.bool true)) (.tmp 201)), (some (190, true))⟩, ⟨(some 203), (.pick (.tmp 190) (.tmp 202) (.con (.bool false))), (some (184, false))⟩, ⟨(some 204), (.pick (.tmp 184) (.con (.bool true)) (.tmp 203)), none⟩])
 (.cond (.tmp 204)
 (.seq (.reg [⟨(some 205), (.load true 3 (.tmp 8)), none⟩, ⟨none, (.store 3 (.tmp 6) (.tmp 205)), none⟩, ⟨(some 7), (.mv (.con (.int .i64 16))), none⟩])
 .ret)
 .skip))
 (.seq (.reg [⟨(some 206), (.call 65 [(.con (.int .i64 1))]), none⟩, ⟨none, (.store 3 (.tmp 6) (.tmp 206)), none⟩, ⟨(some 7), (.mv (.con (.int .i64 0))), none⟩])
 .ret))
 .skip))))))))))))))))))))
 (.seq (.seq (.dreg [⟨(some 207), (.mv (.tmp 2)), none⟩, ⟨(some 208), (.iaddr 3 (.tmp 207) (.con (.int .i64 0))), none⟩, ⟨(some 209), (.faddr 0 (.tmp 208)), none⟩, ⟨(some 210), (.load false 1 (.tmp 209)), none⟩, ⟨(some 211), (.bin .neq .plain (.tmp 210) (.con (.int .i64 1))), none⟩, ⟨(some 212), (.mv (.tmp 211)), none⟩, ⟨(some 213), (.mv (.tmp 2)), (some (212, false))⟩, ⟨(some 214), (.iaddr 3 (.tmp 213) (.con (.int .i64 1))), (some (212, false))⟩, ⟨(some 215), (.load true 3 (.tmp 214)), (some (212, false))⟩, ⟨(some 216), (.mv (.tmp 2)), (some (212, false))⟩, ⟨(some 217), (.iaddr 3 (.tmp 216) (.con (.int .i64 2))), (some (212, false))⟩, ⟨(some 218), (.load true 3 (.tmp 217)), (some (212, false))⟩, ⟨(some 219), (.bin .neq (.agg [.i, .i, .s]) (.tmp 215) (.tmp 218)), (some (212, false))⟩, ⟨(some 220), (.pick (.tmp 212) (.con (.bool true)) (.tmp 219)), none⟩] [] [0, 1, 3, 7, 15, 31, 63, 127, 255, 63, 575, 1599, 4095, 8191] [])
 (.cond (.tmp 220)
 (.seq (.reg [⟨(some 221), (.load true 3 (.tmp 8)), none⟩, ⟨none, (.store 3 (.tmp 6) (.tmp 221)), none⟩, ⟨(some 7), (.mv (.con (.int .i64 16))), none⟩])
 .ret)
 .skip))
 (.seq (.reg [⟨(some 222), (.mv (.tmp 2)), none⟩, ⟨(some 223), (.iaddr 3 (.tmp 222) (.con (.int .i64 1))), none⟩, ⟨(some 224), (.load true 3 (.tmp 223)), none⟩, ⟨none, (.store 3 (.tmp 6) (.tmp 224)), none⟩, ⟨(some 7), (.mv (.con (.int .i64 0))), none⟩])
 .ret)))))
def ac48 : AFun := ⟨3, 225, ab48, [(.cell 6 true 3), (.tmp 7)]⟩
theorem cf48 : compF Try.prog Try.f48 = some ac48 := by kernel_rfl
theorem cl48 : callable Try.prog 48 = true := by kernel_rfl
theorem fn48 : Try.prog.funcs[48]? = some Try.f48 := by kernel_rfl
/- chancel/chancellaw11.plain -/
def ab49 : ACode := (.seq (.reg [⟨(some 4), (.box (.tmp 0)), none⟩, ⟨(some 5), (.box (.tmp 1)), none⟩, ⟨(some 6), (.box (.tmp 2)), none⟩, ⟨(some 7), (.box (.tmp 3)), none⟩, ⟨(some 8), (.alloc [(.int .i64 0), (.bool false), (.int .i64 0), (.str []), (.str []), (.str []), .nils]), none⟩])
 (.seq (.seq (.reg [⟨(some 9), (.faddr 0 (.tmp 6)), none⟩, ⟨(some 10), (.load false 1 (.tmp 9)), none⟩])
 (.block 0
 (.seq (.reg [⟨(some 12), (.bin .eql .plain (.tmp 10) (.con (.int .i64 1))), none⟩, ⟨(some 11), (.mv (.tmp 12)), none⟩])
 (.cond (.tmp 11)
 (.seq (.reg [⟨(some 13), (.faddr 1 (.tmp 7)), none⟩, ⟨(some 14), (.load false 1 (.tmp 13)), none⟩, ⟨(some 15), (.bin .rem .plain (.tmp 14) (.con (.int .i64 2))), none⟩, ⟨(some 16), (.bin .eql .plain (.tmp 15) (.con (.int .i64 0))), none⟩, ⟨(some 17), (.build [(.int .i64 0), (.bool false), (.int .i64 0), (.str []), (.str []), (.str []), .nils] [(0, 1, (.con (.int .i64 1))), (1, 1, (.tmp 16))]), none⟩, ⟨none, (.store 7 (.tmp 8) (.tmp 17)), none⟩])
 .ret)
 (.seq (.reg [⟨(some 19), (.bin .eql .plain (.tmp 10) (.con (.int .i64 2))), none⟩, ⟨(some 18), (.mv (.tmp 19)), none⟩])
 (.cond (.tmp 18)
 (.seq (.reg [⟨(some 20), (.faddr 1 (.tmp 7)), none⟩, ⟨(some 21), (.load false 1 (.tmp 20)), none⟩, ⟨(some 22), (.call 21 [(.tmp 21), (.con (.int .i64 4611686018427387904))]), none⟩, ⟨(some 23), (.build [(.int .i64 0), (.bool false), (.int .i64 0), (.str []), (.str []), (.str []), .nils] [(0, 1, (.con (.int .i64 2))), (2, 1, (.tmp 22))]), none⟩, ⟨none, (.store 7 (.tmp 8) (.tmp 23)), none⟩])
 .ret)
 (.seq (.reg [⟨(some 25), (.bin .eql .plain (.tmp 10) (.con (.int .i64 3))), none⟩, ⟨(some 24), (.mv (.tmp 25)), none⟩])
 (.cond (.tmp 24)
 (.seq (.reg [⟨(some 26), (.faddr 2 (.tmp 7)), none⟩, ⟨(some 27), (.load false 1 (.tmp 26)), none⟩, ⟨(some 28), (.call 23 [(.con (.int .i64 0)), (.tmp 27)]), none⟩, ⟨(some 29), (.fld false 1 1 (.tmp 28)), none⟩, ⟨(some 30), (.build [(.int .i64 0), (.bool false), (.int .i64 0), (.str []), (.str []), (.str []), .nils] [(0, 1, (.con (.int .i64 3))), (3, 1, (.tmp 29))]), none⟩, ⟨none, (.store 7 (.tmp 8) (.tmp 30)), none⟩])
 .ret)
 (.seq (.reg [⟨(some 32), (.bin .eql .plain (.tmp 10) (.con (.int .i64 5))), none⟩, ⟨(some 31), (.mv (.tmp 32)), none⟩])
 (.cond (.tmp 31)
 (.seq (.reg [⟨(some 33), (.load true 2 (.tmp 4)), none⟩, ⟨(some 34), (.load true 3 (.tmp 5)), none⟩, ⟨(some 35), (.faddr 1 (.tmp 6)), none⟩, ⟨(some 36), (.load false 1 (.tmp 35)), none⟩, ⟨(some 37), (.faddr 2 (.tmp 6)), none⟩, ⟨(some 38), (.load false 1 (.tmp 37)), none⟩, ⟨(some 39), (.build [(.int .i64 0), (.int .i64 0), (.str [])] [(0, 1, (.tmp 36)), (2, 1, (.tmp 38))]), none⟩, ⟨(some 40), (.load true 4 (.tmp 7)), none⟩, ⟨(some 41), (.call 49 [(.tmp 33), (.tmp 34), (.tmp 39), (.tmp 40)]), none⟩, ⟨(some 42), (.bslice 7 1 [(.int .i64 0), (.bool false), (.int .i64 0), (.str []), (.str []), (.str []), .nils] [(0, 7, (.tmp 41))]), none⟩, ⟨(some 43), (.build [(.int .i64 0), (.bool false), (.int .i64 0), (.str []), (.str []), (.str []), .nils] [(0, 1, (.con (.int .i64 6))), (6, 1, (.tmp 42))]), none⟩, ⟨none, (.store 7 (.tmp 8) (.tmp 43)), none⟩])
 .ret)
 .skip))))))))))
 (.seq (.seq (.reg [⟨(some 44), (.faddr 2 (.tmp 6)), none⟩, ⟨(some 45), (.load false 1 (.tmp 44)), none⟩, ⟨(some 46), (.faddr 0 (.tmp 5)), none⟩, ⟨(some 47), (.load false 1 (.tmp 46)), none⟩, ⟨(some 48), (.bin .eql .plain (.tmp 45) (.tmp 47)), none⟩, ⟨(some 49), (.mv (.tmp 48)), none⟩, ⟨(some 50), (.faddr 1 (.tmp 7)), (some (49, true))⟩, ⟨(some 51), (.load false 1 (.tmp 50)), (some (49, true))⟩, ⟨(some 52), (.bin .rem .plain (.tmp 51) (.con (.int .i64 3))), (some (49, true))⟩, ⟨(some 53), (.bin .eql .plain (.tmp 52) (.con (.int .i64 0))), (some (49, true))⟩, ⟨(some 54), (.pick (.tmp 49) (.tmp 53) (.con (.bool false))), none⟩])
 (.cond (.tmp 54)
 (.seq (.reg [⟨(some 55), (.build [(.int .i64 0), (.bool false), (.int .i64 0), (.str []), (.str []), (.str []), .nils] [(0, 1, (.con (.int .i64 5))), (3, 1, (.con (.str [112, 114, 105, 110, 99, 105, 112, 97, 108])))]), none⟩, ⟨none, (.store 7 (.tmp 8) (.tmp 55)), none⟩])
 .ret)
 .skip))
 (.seq (.seq (.reg [⟨(some 56), (.faddr 2 (.tmp 6)), none⟩, ⟨(some 57), (.load false 1 (.tmp 56)), none⟩, ⟨(some 58), (.faddr 2 (.tmp 5)), none⟩, ⟨(some 59), (.load false 1 (.tmp 58)), none⟩, ⟨(some 60), (.bin .eql .plain (.tmp 57) (.tmp 59)), none⟩, ⟨(some 61), (.mv (.tmp 60)), none⟩, ⟨(some 62), (.faddr 1 (.tmp 7)), (some (61, true))⟩, ⟨(some 63), (.load false 1 (.tmp 62)), (some (61, true))⟩, ⟨(some 64), (.bin .rem .plain (.tmp 63) (.con (.int .i64 3))), (some (61, true))⟩, ⟨(some 65), (.bin .eql .plain (.tmp 64) (.con (.int .i64 1))), (some (61, true))⟩, ⟨(some 66), (.pick (.tmp 61) (.tmp 65) (.con (.bool false))), none⟩])
 (.cond (.tmp 66)
 (.seq (.reg [⟨(some 67), (.build [(.int .i64 0), (.bool false), (.int .i64 0), (.str []), (.str []), (.str []), .nils] [(0, 1, (.con (.int .i64 5))), (3, 1, (.con (.str [114, 101, 115, 111, 117, 114, 99, 101])))]), none⟩, ⟨none, (.store 7 (.tmp 8) (.tmp 67)), none⟩])
 .ret)
 .skip))
 (.seq (.dreg [⟨(some 68), (.faddr 2 (.tmp 6)), none⟩, ⟨(some 69), (.load false 1 (.tmp 68)), none⟩, ⟨(some 70), (.faddr 1 (.tmp 7)), none⟩, ⟨(some 71), (.load false 1 (.tmp 70)), none⟩, ⟨(some 72), (.bin .quo .plain (.tmp 71) (.con (.int .i64 3))), none⟩, ⟨(some 73), (.call 21 [(.tmp 72), (.con (.int .i64 5))]), none⟩, ⟨(some 74), (.bin .add .plain (.con (.int .i64 97)) (.tmp 73)), none⟩, ⟨(some 75), (.cvInt .u8 (.tmp 74)), none⟩, ⟨(some 76), (.bslice 1 1 [(.int .u8 0)] [(0, 1, (.tmp 75))]), none⟩, ⟨(some 77), (.cvBS (.tmp 76)), none⟩, ⟨(some 78), (.build [(.str []), (.str [])] [(0, 1, (.tmp 69)), (1, 1, (.tmp 77))]), none⟩, ⟨(some 79), (.build [(.int .i64 0), (.bool false), (.int .i64 0), (.str []), (.str []), (.str []), .nils] [(0, 1, (.con (.int .i64 4))), (4, 2, (.tmp 78))]), none⟩, ⟨none, (.store 7 (.tmp 8) (.tmp 79)), none⟩] [5, 8, 12] [0, 1, 0, 4, 12, 28, 60, 124, 252, 508, 1023, 2047, 4095] [])
 .ret)))))
def ac49 : AFun := ⟨4, 80, ab49, [(.cell 8 true 7)]⟩
theorem cf49 : compF Try.prog Try.f49 = some ac49 := by kernel_rfl
theorem cl49 : callable Try.prog 49 = true := by kernel_rfl
theorem fn49 : Try.prog.funcs[49]? = some Try.f49 := by kernel_rfl
/- chancel/chancellaw11.build -/
def ab50 : ACode := (.seq (.reg [⟨(some 5), (.box (.tmp 0)), none⟩, ⟨(some 6), (.box (.tmp 1)), none⟩, ⟨(some 7), (.box (.tmp 2)), none⟩, ⟨(some 8), (.box (.tmp 3)), none⟩, ⟨(some 10), (.alloc [(.int .i64 0), (.bool false), (.int .i64 0), (.str []), (.str []), (.str []), .nils]), none⟩])
 (.seq (.reg [⟨(some 20), (.load true 2 (.tmp 5)), none⟩, ⟨(some 21), (.load true 3 (.tmp 6)), none⟩, ⟨(some 22), (.mv (.tmp 4)), none⟩, ⟨(some 23), (.bin .sub .plain (.tmp 22) (.con (.int .i64 1))), none⟩, ⟨(some 24), (.build [.nils, .nils, (.str []), (.str []), (.str []), (.int .i64 0)] [(0, 2, (.tmp 20)), (2, 3, (.tmp 21)), (5, 1, (.tmp 23))]), none⟩, ⟨(some 11), (.alloc [.nils, .nils, (.str []), (.str []), (.str []), (.int .i64 0)]), none⟩, ⟨none, (.store 6 (.tmp 11) (.tmp 24)), none⟩])
 (.seq (.reg [⟨(some 25), (.build [(.int .i64 0), (.int .i64 0), (.str [])] [(0, 1, (.con (.int .i64 2)))]), none⟩, ⟨(some 26), (.build [(.int .i64 0), (.int .i64 0), (.str [])] [(0, 1, (.con (.int .i64 1)))]), none⟩, ⟨(some 12), (.alloc [(.int .i64 0), (.int .i64 0), (.str [])]), none⟩, ⟨(some 13), (.alloc [(.int .i64 0), (.int .i64 0), (.str [])]), none⟩, ⟨none, (.store 3 (.tmp 12) (.tmp 25)), none⟩, ⟨none, (.store 3 (.tmp 13) (.tmp 26)), none⟩])
 (.seq (.seq (.reg [⟨(some 27), (.faddr 0 (.tmp 8)), none⟩, ⟨(some 28), (.load false 1 (.tmp 27)), none⟩, ⟨(some 29), (.call 21 [(.tmp 28), (.con (.int .i64 12))]), none⟩, ⟨(some 14), (.mv (.tmp 29)), none⟩])
 (.block 0
 (.seq (.reg [⟨(some 31), (.mv (.tmp 14)), none⟩, ⟨(some 32), (.bin .eql .plain (.tmp 31) (.con (.int .i64 0))), none⟩, ⟨(some 30), (.mv (.tmp 32)), none⟩])
 (.cond (.tmp 30)
 (.seq (.dreg [⟨(some 33), (.load true 6 (.tmp 11)), none⟩, ⟨(some 34), (.load true 3 (.tmp 13)), none⟩, ⟨(some 35), (.load true 4 (.tmp 8)), none⟩, ⟨(some 36), (.call 68 [(.tmp 35), (.con (.int .i64 0))]), none⟩, ⟨(some 37), (.call 19 [(.tmp 33), (.tmp 34), (.tmp 36)]), none⟩, ⟨(some 38), (.load true 6 (.tmp 11)), none⟩, ⟨(some 39), (.load true 3 (.tmp 7)), none⟩, ⟨(some 40), (.load true 4 (.tmp 8)), none⟩, ⟨(some 41), (.call 68 [(.tmp 40), (.con (.int .i64 1))]), none⟩, ⟨(some 42), (.call 19 [(.tmp 38), (.tmp 39), (.tmp 41)]), none⟩, ⟨(some 43), (.load true 6 (.tmp 11)), none⟩, ⟨(some 44), (.load true 3 (.tmp 7)), none⟩, ⟨(some 45), (.load true 4 (.tmp 8)), none⟩, ⟨(some 46), (.call 68 [(.tmp 45), (.con (.int .i64 2))]), none⟩, ⟨(some 47), (.call 19 [(.tmp 43), (.tmp 44), (.tmp 46)]), none⟩, ⟨(some 48), (.bslice 7 3 [(.int .i64 0), (.bool false), (.int .i64 0), (.str []), (.str []), (.str []), .nils] [(0, 7, (.tmp 37)), (7, 7, (.tmp 42)), (14, 7, (.tmp 47))]), none⟩, ⟨(some 49), (.build [(.int .i64 0), (.bool false), (.int .i64 0), (.str []), (.str []), (.str []), .nils] [(0, 1, (.con (.int .i64 25))), (6, 1, (.tmp 48))]), none⟩, ⟨none, (.store 7 (.tmp 10) (.tmp 49)), none⟩] [3, 4, 8, 9, 13, 14, 15, 17] [0, 0, 0, 4, 15, 0, 0, 0, 159, 511, 0, 0, 0, 5119, 16383, 32767, 65535, 131071] [])
 .ret)
 (.seq (.reg [⟨(some 51), (.mv (.tmp 14)), none⟩, ⟨(some 52), (.bin .leq .plain (.tmp 51) (.con (.int .i64 3))), none⟩, ⟨(some 50), (.mv (.tmp 52)), none⟩])
 (.cond (.tmp 50)
 (.seq (.reg [⟨(some 15), (.mv (.con (.int .i64 0))), none⟩])
 (.block 1
 (.loop (.seq (.seq (.reg [⟨(some 53), (.mv (.tmp 15)), none⟩, ⟨(some 54), (.faddr 0 (.tmp 5)), none⟩, ⟨(some 55), (.load false 1 (.tmp 54)), none⟩, ⟨(some 56), (.lenL (.tmp 55)), none⟩, ⟨(some 57), (.bin .lss .plain (.tmp 53) (.tmp 56)), none⟩])
 (.cond (.tmp 57)
 .skip
 (.exit 1)))
 (.seq (.block 2
 (.seq (.dreg [⟨(some 60), (.faddr 0 (.tmp 5)), none⟩, ⟨(some 61), (.load false 1 (.tmp 60)), none⟩, ⟨(some 62), (.faddr 1 (.tmp 8)), none⟩, ⟨(some 63), (.load false 1 (.tmp 62)), none⟩, ⟨(some 64), (.mv (.tmp 15)), none⟩, ⟨(some 65), (.bin .add .plain (.tmp 63) (.tmp 64)), none⟩, ⟨(some 66), (.faddr 0 (.tmp 5)), none⟩, ⟨(some 67), (.load false 1 (.tmp 66)), none⟩, ⟨(some 68), (.lenL (.tmp 67)), none⟩, ⟨(some 69), (.call 21 [(.tmp 65), (.tmp 68)]), none⟩, ⟨(some 70), (.iaddr 3 (.tmp 61) (.tmp 69)), none⟩, ⟨(some 71), (.load true 3 (.tmp 70)), none⟩, ⟨(some 16), (.alloc [(.str []), .nils, .nils]), none⟩, ⟨none, (.store 3 (.tmp 16) (.tmp 71)), none⟩] [9, 13] [0, 1, 0, 4, 0, 28, 0, 64, 192, 508, 1023, 2047, 0, 8191] [12])
 (.seq (.reg [⟨(some 17), (.mv (.con (.int .i64 0))), none⟩])
 (.block 3
 (.loop (.seq (.seq (.reg [⟨(some 72), (.mv (.tmp 17)), none⟩, ⟨(some 73), (.faddr 2 (.tmp 16)), none⟩, ⟨(some 74), (.load false 1 (.tmp 73)), none⟩, ⟨(some 75), (.lenL (.tmp 74)), none⟩, ⟨(some 76), (.bin .lss .plain (.tmp 72) (.tmp 75)), none⟩])
 (.cond (.tmp 76)
 .skip
 (.exit 3)))
 (.seq (.block 4
 (.seq (.dreg [⟨(some 79), (.faddr 2 (.tmp 16)), none⟩, ⟨(some 80), (.load false 1 (.tmp 79)), none⟩, ⟨(some 81), (.mv (.tmp 17)), none⟩, ⟨(some 82), (.iaddr 4 (.tmp 80) (.tmp 81)), none⟩, ⟨(some 83), (.faddr 1 (.tmp 82)), none⟩, ⟨(some 84), (.load true 3 (.tmp 83)), none⟩, ⟨(some 85), (.load true 3 (.tmp 7)), none⟩, ⟨(some 86), (.bin .eql (.agg [.i, .i, .s]) (.tmp 84) (.tmp 85)), none⟩] [] [0, 1, 0, 7, 15, 31, 0, 127] [])
 (.cond (.tmp 86)
 (.seq (.dreg [⟨(some 87), (.faddr 2 (.tmp 16)), none⟩, ⟨(some 88), (.load false 1 (.tmp 87)), none⟩, ⟨(some 89), (.mv (.tmp 17)), none⟩, ⟨(some 90), (.iaddr 4 (.tmp 88) (.tmp 89)), none⟩, ⟨(some 91), (.faddr 0 (.tmp 90)), none⟩, ⟨(some 92), (.load false 1 (.tmp 91)), none⟩, ⟨(some 93), (.load true 6 (.tmp 11)), none⟩, ⟨(some 94), (.faddr 0 (.tmp 16)), none⟩, ⟨(some 95), (.load false 1 (.tmp 94)), none⟩, ⟨(some 96), (.build [(.int .i64 0), (.int .i64 0), (.str [])] [(0, 1, (.con (.int .i64 4))), (2, 1, (.tmp 95))]), none⟩, ⟨(some 97), (.load true 4 (.tmp 8)), none⟩, ⟨(some 98), (.call 68 [(.tmp 97), (.con (.int .i64 0))]), none⟩, ⟨(some 99), (.call 19 [(.tmp 93), (.tmp 96), (.tmp 98)]), none⟩, ⟨(some 100), (.bslice 7 1 [(.int .i64 0), (.bool false), (.int .i64 0), (.str []), (.str []), (.str []), .nils] [(0, 7, (.tmp 99))]), none⟩, ⟨(some 101), (.build [(.int .i64 0), (.bool false), (.int .i64 0), (.str []), (.str []), (.str []), .nils] [(0, 1, (.con (.int .i64 7))), (3, 1, (.tmp 92)), (6, 1, (.tmp 100))]), none⟩, ⟨none, (.store 7 (.tmp 10) (.tmp 101)), none⟩] [11, 12, 13, 15] [0, 1, 0, 7, 15, 31, 0, 0, 128, 384, 0, 1024, 4032, 8128, 16383, 32767] [])
 .ret)
 .skip)))
 (.reg [⟨(some 77), (.mv (.tmp 17)), none⟩, ⟨(some 78), (.bin .add .plain (.tmp 77) (.con (.int .i64 1))), none⟩, ⟨(some 17), (.mv (.tmp 78)), none⟩]))))))))
 (.reg [⟨(some 58), (.mv (.tmp 15)), none⟩, ⟨(some 59), (.bin .add .plain (.tmp 58) (.con (.int .i64 1))), none⟩, ⟨(some 15), (.mv (.tmp 59)), none⟩]))))))
 (.seq (.reg [⟨(some 103), (.faddr 0 (.tmp 7)), none⟩, ⟨(some 104), (.load false 1 (.tmp 103)), none⟩, ⟨(some 105), (.bin .eql .plain (.tmp 104) (.con (.int .i64 2))), none⟩, ⟨(some 106), (.mv (.tmp 105)), none⟩, ⟨(some 107), (.mv (.tmp 14)), (some (106, true))⟩, ⟨(some 108), (.bin .leq .plain (.tmp 107) (.con (.int .i64 8))), (some (106, true))⟩, ⟨(some 109), (.pick (.tmp 106) (.tmp 108) (.con (.bool false))), none⟩, ⟨(some 102), (.mv (.tmp 109)), none⟩])
 (.cond (.tmp 102)
 (.seq (.dreg [⟨(some 110), (.bslice 1 3 [(.int .i64 0)] [(0, 1, (.con (.int .i64 14))), (1, 1, (.con (.int .i64 15))), (2, 1, (.con (.int .i64 13)))]), none⟩, ⟨(some 111), (.faddr 1 (.tmp 8)), none⟩, ⟨(some 112), (.load false 1 (.tmp 111)), none⟩, ⟨(some 113), (.call 21 [(.tmp 112), (.con (.int .i64 3))]), none⟩, ⟨(some 114), (.iaddr 1 (.tmp 110) (.tmp 113)), none⟩, ⟨(some 115), (.load false 1 (.tmp 114)), none⟩, ⟨(some 116), (.load true 6 (.tmp 11)), none⟩, ⟨(some 117), (.load true 3 (.tmp 12)), none⟩, ⟨(some 118), (.load true 4 (.tmp 8)), none⟩, ⟨(some 119), (.call 68 [(.tmp 118), (.con (.int .i64 0))]), none⟩, ⟨(some 120), (.call 19 [(.tmp 116), (.tmp 117), (.tmp 119)]), none⟩, ⟨(some 121), (.load true 6 (.tmp 11)), none⟩, ⟨(some 122), (.load true 3 (.tmp 12)), none⟩, ⟨(some 123), (.load true 4 (.tmp 8)), none⟩, ⟨(some 124), (.call 68 [(.tmp 123), (.con (.int .i64 1))]), none⟩, ⟨(some 125), (.call 19 [(.tmp 121), (.tmp 122), (.tmp 124)]), none⟩, ⟨(some 126), (.bslice 7 2 [(.int .i64 0), (.bool false), (.int .i64 0), (.str []), (.str []), (.str []), .nils] [(0, 7, (.tmp 120)), (7, 7, (.tmp 125))]), none⟩, ⟨(some 127), (.build [(.int .i64 0), (.bool false), (.int .i64 0), (.str []), (.str []), (.str []), .nils] [(0, 1, (.tmp 115)), (6, 1, (.tmp 126))]), none⟩, ⟨none, (.store 7 (.tmp 10) (.tmp 127)), none⟩] [3, 9, 10, 14, 15, 18] [0, 0, 2, 6, 15, 31, 0, 0, 0, 270, 974, 0, 0, 0, 10190, 32718, 65486, 131071, 262143] [0, 16])
 .ret)
 (.seq (.reg [⟨(some 129), (.faddr 0 (.tmp 7)), none⟩, ⟨(some 130), (.load false 1 (.tmp 129)), none⟩, ⟨(some 131), (.bin .eql .plain (.tmp 130) (.con (.int .i64 2))), none⟩, ⟨(some 132), (.mv (.tmp 131)), none⟩, ⟨(some 133), (.mv (.tmp 14)), (some (132, true))⟩, ⟨(some 134), (.bin .eql .plain (.tmp 133) (.con (.int .i64 9))), (some (132, true))⟩, ⟨(some 135), (.pick (.tmp 132) (.tmp 134) (.con (.bool false))), none⟩, ⟨(some 128), (.mv (.tmp 135)), none⟩])
 (.cond (.tmp 128)
 (.seq (.dreg [⟨(some 136), (.load true 6 (.tmp 11)), none⟩, ⟨(some 137), (.load true 3 (.tmp 12)), none⟩, ⟨(some 138), (.load true 4 (.tmp 8)), none⟩, ⟨(some 139), (.call 68 [(.tmp 138), (.con (.int .i64 0))]), none⟩, ⟨(some 140), (.call 19 [(.tmp 136), (.tmp 137), (.tmp 139)]), none⟩, ⟨(some 141), (.bslice 7 1 [(.int .i64 0), (.bool false), (.int .i64 0), (.str []), (.str []), (.str []), .nils] [(0, 7, (.tmp 140))]), none⟩, ⟨(some 142), (.build [(.int .i64 0), (.bool false), (.int .i64 0), (.str []), (.str []), (.str []), .nils] [(0, 1, (.con (.int .i64 12))), (6, 1, (.tmp 141))]), none⟩, ⟨none, (.store 7 (.tmp 10) (.tmp 142)), none⟩] [3, 4, 5, 7] [0, 0, 0, 4, 15, 31, 63, 127] [])
 .ret)
 (.seq (.reg [⟨(some 144), (.faddr 0 (.tmp 7)), none⟩, ⟨(some 145), (.load false 1 (.tmp 144)), none⟩, ⟨(some 146), (.bin .eql .plain (.tmp 145) (.con (.int .i64 1))), none⟩, ⟨(some 143), (.mv (.tmp 146)), none⟩])
 (.cond (.tmp 143)
 (.seq (.reg [⟨(some 147), (.load true 6 (.tmp 11)), none⟩, ⟨(some 148), (.load true 4 (.tmp 8)), none⟩, ⟨(some 149), (.mv (.tmp 14)), none⟩, ⟨(some 150), (.call 69 [(.tmp 147), (.tmp 148), (.tmp 149)]), none⟩, ⟨none, (.store 7 (.tmp 10) (.tmp 150)), none⟩])
 .ret)
 (.seq (.reg [⟨(some 152), (.faddr 0 (.tmp 7)), none⟩, ⟨(some 153), (.load false 1 (.tmp 152)), none⟩, ⟨(some 154), (.bin .eql .plain (.tmp 153) (.con (.int .i64 5))), none⟩, ⟨(some 151), (.mv (.tmp 154)), none⟩])
 (.cond (.tmp 151)
 (.seq (.reg [⟨(some 155), (.build [(.int .i64 0), (.bool false), (.int .i64 0), (.str []), (.str []), (.str []), .nils] [(0, 1, (.con (.int .i64 6)))]), none⟩, ⟨(some 18), (.alloc [(.int .i64 0), (.bool false), (.int .i64 0), (.str []), (.str []), (.str []), .nils]), none⟩, ⟨none, (.store 7 (.tmp 18) (.tmp 155)), none⟩])
 (.seq (.seq (.reg [⟨(some 19), (.mv (.con (.int .i64 0))), none⟩])
 (.block 5
 (.loop (.seq (.seq (.reg [⟨(some 156), (.mv (.tmp 19)), none⟩, ⟨(some 157), (.faddr 1 (.tmp 8)), none⟩, ⟨(some 158), (.load false 1 (.tmp 157)), none⟩, ⟨(some 159), (.call 21 [(.tmp 158), (.con (.int .i64 3))]), none⟩, ⟨(some 160), (.bin .add .plain (.con (.int .i64 1)) (.tmp 159)), none⟩, ⟨(some 161), (.bin .lss .plain (.tmp 156) (.tmp 160)), none⟩])
 (.cond (.tmp 161)
 .skip
 (.exit 5)))
 (.seq (.block 6
 (.dreg [⟨(some 164), (.faddr 6 (.tmp 18)), none⟩, ⟨(some 165), (.load false 1 (.tmp 164)), none⟩, ⟨(some 166), (.load true 6 (.tmp 11)), none⟩, ⟨(some 167), (.faddr 1 (.tmp 7)), none⟩, ⟨(some 168), (.load false 1 (.tmp 167)), none⟩, ⟨(some 169), (.faddr 2 (.tmp 7)), none⟩, ⟨(some 170), (.load false 1 (.tmp 169)), none⟩, ⟨(some 171), (.build [(.int .i64 0), (.int .i64 0), (.str [])] [(0, 1, (.tmp 168)), (2, 1, (.tmp 170))]), none⟩, ⟨(some 172), (.load true 4 (.tmp 8)), none⟩, ⟨(some 173), (.mv (.tmp 19)), none⟩, ⟨(some 174), (.call 68 [(.tmp 172), (.tmp 173)]), none⟩, ⟨(some 175), (.call 19 [(.tmp 166), (.tmp 171), (.tmp 174)]), none⟩, ⟨(some 176), (.bslice 7 1 [(.int .i64 0), (.bool false), (.int .i64 0), (.str []), (.str []), (.str []), .nils] [(0, 7, (.tmp 175))]), none⟩, ⟨(some 177), (.append 7 96 (.tmp 165) (.tmp 176)), none⟩, ⟨(some 178), (.faddr 6 (.tmp 18)), none⟩, ⟨none, (.store 1 (.tmp 178) (.tmp 177)), none⟩] [10, 11, 12, 13, 15] [0, 1, 0, 0, 8, 0, 32, 120, 0, 0, 768, 2044, 4092, 8191, 16383, 32767] []))
 (.reg [⟨(some 162), (.mv (.tmp 19)), none⟩, ⟨(some 163), (.bin .add .plain (.tmp 162) (.con (.int .i64 1))), none⟩, ⟨(some 19), (.mv (.tmp 163)), none⟩]))))))
 (.seq (.reg [⟨(some 179), (.load true 7 (.tmp 18)), none⟩, ⟨none, (.store 7 (.tmp 10) (.tmp 179)), none⟩])
 .ret)))
 .skip))))))))))))))
 (.seq (.reg [⟨(some 180), (.build [(.int .i64 0), (.bool false), (.int .i64 0), (.str []), (.str []), (.str []), .nils] []), none⟩, ⟨none, (.store 7 (.tmp 10) (.tmp 180)), none⟩])
 .ret)))))
def ac50 : AFun := ⟨5, 181, ab50, [(.cell 10 true 7)]⟩
theorem cf50 : compF Try.prog Try.f50 = some ac50 := by kernel_rfl
theorem cl50 : callable Try.prog 50 = true := by kernel_rfl
theorem fn50 : Try.prog.funcs[50]? = some Try.f50 := by kernel_rfl
/- chancel/types.truth -/
def ab51 : ACode := (.seq (.reg [⟨(some 0), (.alloc [(.int .i64 0), (.int .i64 0), (.str [])]), none⟩])
 (.seq (.reg [⟨(some 1), (.build [(.int .i64 0), (.int .i64 0), (.str [])] [(0, 1, (.con (.int .i64 1)))]), none⟩, ⟨none, (.store 3 (.tmp 0) (.tmp 1)), none⟩])
 .ret))
def ac51 : AFun := ⟨0, 2, ab51, [(.cell 0 true 3)]⟩
theorem cf51 : compF Try.prog Try.f51 = some ac51 := by kernel_rfl
theorem cl51 : callable Try.prog 51 = true := by kernel_rfl
theorem fn51 : Try.prog.funcs[51]? = some Try.f51 := by kernel_rfl
/- chancel/types.number -/
def ab52 : ACode := (.seq (.reg [⟨(some 0), (.alloc [(.int .i64 0), (.int .i64 0), (.str [])]), none⟩])
 (.seq (.reg [⟨(some 1), (.build [(.int .i64 0), (.int .i64 0), (.str [])] [(0, 1, (.con (.int .i64 2)))]), none⟩, ⟨none, (.store 3 (.tmp 0) (.tmp 1)), none⟩])
 .ret))
def ac52 : AFun := ⟨0, 2, ab52, [(.cell 0 true 3)]⟩
theorem cf52 : compF Try.prog Try.f52 = some ac52 := by kernel_rfl
theorem cl52 : callable Try.prog 52 = true := by kernel_rfl
theorem fn52 : Try.prog.funcs[52]? = some Try.f52 := by kernel_rfl
/- chancel/types.uid -/
def ab53 : ACode := (.seq (.reg [⟨(some 2), (.alloc [(.int .i64 0), (.int .i64 0), (.str [])]), none⟩])
 (.seq (.reg [⟨(some 3), (.mv (.tmp 0)), none⟩, ⟨(some 4), (.build [(.int .i64 0), (.int .i64 0), (.str [])] [(0, 1, (.con (.int .i64 4))), (2, 1, (.tmp 3))]), none⟩, ⟨none, (.store 3 (.tmp 2) (.tmp 4)), none⟩])
 .ret))
def ac53 : AFun := ⟨1, 5, ab53, [(.cell 2 true 3)]⟩
theorem cf53 : compF Try.prog Try.f53 = some ac53 := by kernel_rfl
theorem cl53 : callable Try.prog 53 = true := by kernel_rfl
theorem fn53 : Try.prog.funcs[53]? = some Try.f53 := by kernel_rfl
/- chancel/types.alike -/
def ab54 : ACode := (.seq (.reg [⟨(some 1), (.box (.tmp 0)), none⟩, ⟨(some 2), (.mv (.con (.bool false))), none⟩])
 (.seq (.reg [⟨(some 3), (.load false 1 (.tmp 1)), none⟩, ⟨(some 4), (.mkfn 71 [(.tmp 1)]), none⟩, ⟨(some 5), (.call 70 [(.tmp 3), (.tmp 4)]), none⟩, ⟨(some 6), (.un .not (.tmp 5)), none⟩, ⟨(some 2), (.mv (.tmp 6)), none⟩])
 .ret))
def ac54 : AFun := ⟨1, 7, ab54, [(.tmp 2)]⟩
theorem cf54 : compF Try.prog Try.f54 = some ac54 := by kernel_rfl
theorem cl54 : callable Try.prog 54 = true := by kernel_rfl
theorem fn54 : Try.prog.funcs[54]? = some Try.f54 := by kernel_rfl
/- chancel/types.field -/
def ab55 : ACode := (.seq (.reg [⟨(some 3), (.box (.tmp 0)), none⟩, ⟨(some 4), (.box (.tmp 1)), none⟩, ⟨(some 6), (.alloc [(.int .i64 0), (.int .i64 0), (.str [])]), none⟩, ⟨(some 7), (.mv (.con (.int .i64 0))), none⟩])
 (.seq (.seq (.reg [⟨(some 12), (.faddr 0 (.tmp 4)), none⟩, ⟨(some 13), (.load false 1 (.tmp 12)), none⟩, ⟨(some 14), (.bin .neq .plain (.tmp 13) (.con (.int .i64 4))), none⟩])
 (.cond (.tmp 14)
 (.seq (.reg [⟨(some 15), (.build [(.int .i64 0), (.int .i64 0), (.str [])] []), none⟩, ⟨none, (.store 3 (.tmp 6) (.tmp 15)), none⟩, ⟨(some 7), (.mv (.con (.int .i64 16))), none⟩])
 .ret)
 .skip))
 (.seq (.reg [⟨(some 17), (.load true 2 (.tmp 3)), none⟩, ⟨(some 18), (.faddr 2 (.tmp 4)), none⟩, ⟨(some 19), (.load false 1 (.tmp 18)), none⟩, ⟨(some 20), (.call 61 [(.tmp 17), (.tmp 19)]), none⟩, ⟨(some 16), (.mv (.tmp 20)), none⟩, ⟨(some 21), (.ext (.tmp 16) 0), none⟩, ⟨(some 22), (.ext (.tmp 16) 1), none⟩, ⟨(some 8), (.alloc [(.str []), .nils, .nils]), none⟩, ⟨none, (.store 3 (.tmp 8) (.tmp 21)), none⟩, ⟨(some 9), (.mv (.tmp 22)), none⟩])
 (.seq (.reg [⟨(some 24), (.load true 3 (.tmp 8)), none⟩, ⟨(some 25), (.mv (.tmp 2)), none⟩, ⟨(some 26), (.call 72 [(.tmp 24), (.tmp 25)]), none⟩, ⟨(some 23), (.mv (.tmp 26)), none⟩, ⟨(some 27), (.ext (.tmp 23) 0), none⟩, ⟨(some 28), (.ext (.tmp 23) 1), none⟩, ⟨(some 10), (.alloc [(.int .i64 0), (.int .i64 0), (.str [])]), none⟩, ⟨none, (.store 3 (.tmp 10) (.tmp 27)), none⟩, ⟨(some 11), (.mv (.tmp 28)), none⟩])
 (.seq (.seq (.reg [⟨(some 29), (.mv (.tmp 11)), none⟩, ⟨(some 30), (.un .not (.tmp 29)), none⟩])
 (.cond (.tmp 30)
 (.seq (.reg [⟨(some 31), (.build [(.int .i64 0), (.int .i64 0), (.str [])] []), none⟩, ⟨none, (.store 3 (.tmp 6) (.tmp 31)), none⟩, ⟨(some 7), (.mv (.con (.int .i64 15))), none⟩])
 .ret)
 .skip))
 (.seq (.reg [⟨(some 32), (.load true 3 (.tmp 10)), none⟩, ⟨none, (.store 3 (.tmp 6) (.tmp 32)), none⟩, ⟨(some 7), (.mv (.con (.int .i64 0))), none⟩])
 .ret))))))
def ac55 : AFun := ⟨3, 33, ab55, [(.cell 6 true 3), (.tmp 7)]⟩
theorem cf55 : compF Try.prog Try.f55 = some ac55 := by kernel_rfl
theorem cl55 : callable Try.prog 55 = true := by kernel_rfl
theorem fn55 : Try.prog.funcs[55]? = some Try.f55 := by kernel_rfl
/- chancel/types.got -/
def ab56 : ACode := (.seq (.reg [⟨(some 2), (.box (.tmp 0)), none⟩, ⟨(some 4), (.alloc [(.int .i64 0), (.int .i64 0), (.str [])]), none⟩, ⟨(some 5), (.mv (.con (.int .i64 0))), none⟩])
 (.seq (.seq (.reg [⟨(some 6), (.mv (.tmp 1)), none⟩, ⟨(some 7), (.un .not (.tmp 6)), none⟩])
 (.cond (.tmp 7)
 (.seq (.reg [⟨(some 8), (.build [(.int .i64 0), (.int .i64 0), (.str [])] []), none⟩, ⟨none, (.store 3 (.tmp 4) (.tmp 8)), none⟩, ⟨(some 5), (.mv (.con (.int .i64 16))), none⟩])
 .ret)
 .skip))
 (.seq (.reg [⟨(some 9), (.load true 3 (.tmp 2)), none⟩, ⟨none, (.store 3 (.tmp 4) (.tmp 9)), none⟩, ⟨(some 5), (.mv (.con (.int .i64 0))), none⟩])
 .ret)))
def ac56 : AFun := ⟨2, 10, ab56, [(.cell 4 true 3), (.tmp 5)]⟩
theorem cf56 : compF Try.prog Try.f56 = some ac56 := by kernel_rfl
theorem cl56 : callable Try.prog 56 = true := by kernel_rfl
theorem fn56 : Try.prog.funcs[56]? = some Try.f56 := by kernel_rfl
/- chancel/types.holds -/
def ab57 : ACode := (.seq (.reg [⟨(some 2), (.box (.tmp 0)), none⟩, ⟨(some 3), (.box (.tmp 1)), none⟩, ⟨(some 4), (.mv (.con (.bool false))), none⟩])
 (.seq (.reg [⟨(some 5), (.faddr 0 (.tmp 2)), none⟩, ⟨(some 6), (.load false 1 (.tmp 5)), none⟩, ⟨(some 7), (.bin .eql .plain (.tmp 6) (.con (.int .i64 5))), none⟩, ⟨(some 8), (.mv (.tmp 7)), none⟩, ⟨(some 9), (.load true 3 (.tmp 3)), (some (8, true))⟩, ⟨(some 10), (.faddr 1 (.tmp 2)), (some (8, true))⟩, ⟨(some 11), (.load false 1 (.tmp 10)), (some (8, true))⟩, ⟨(some 12), (.faddr 2 (.tmp 2)), (some (8, true))⟩, ⟨(some 13), (.load false 1 (.tmp 12)), (some (8, true))⟩, ⟨(some 14), (.build [(.int .i64 0), (.int .i64 0), (.str [])] [(0, 1, (.tmp 11)), (2, 1, (.tmp 13))]), (some (8, true))⟩, ⟨(some 15), (.bin .eql (.agg [.i, .i, .s]) (.tmp 9) (.tmp 14)), (some (8, true))⟩, ⟨(some 16), (.pick (.tmp 8) (.tmp 15) (.con (.bool false))), none⟩, ⟨(some 4), (.mv (.tmp 16)), none⟩])
 .ret))
def ac57 : AFun := ⟨2, 17, ab57, [(.tmp 4)]⟩
theorem cf57 : compF Try.prog Try.f57 = some ac57 := by kernel_rfl
theorem cl57 : callable Try.prog 57 = true := by kernel_rfl
theorem fn57 : Try.prog.funcs[57]? = some Try.f57 := by kernel_rfl
/- chancel/types.all -/
def ab58 : ACode := (.seq (.reg [⟨(some 3), (.box (.tmp 1)), none⟩, ⟨(some 4), (.mv (.con (.bool false))), none⟩])
 (.seq (.reg [⟨(some 5), (.mv (.tmp 0)), none⟩, ⟨(some 6), (.mkfn 73 [(.tmp 3)]), none⟩, ⟨(some 7), (.call 70 [(.tmp 5), (.tmp 6)]), none⟩, ⟨(some 8), (.un .not (.tmp 7)), none⟩, ⟨(some 4), (.mv (.tmp 8)), none⟩])
 .ret))
def ac58 : AFun := ⟨2, 9, ab58, [(.tmp 4)]⟩
theorem cf58 : compF Try.prog Try.f58 = some ac58 := by kernel_rfl
theorem cl58 : callable Try.prog 58 = true := by kernel_rfl
theorem fn58 : Try.prog.funcs[58]? = some Try.f58 := by kernel_rfl
/- chancel/types.uids -/
def ab59 : ACode := (.seq (.reg [⟨(some 1), (.box (.tmp 0)), none⟩, ⟨(some 2), (.mv (.con (.bool false))), none⟩])
 (.seq (.reg [⟨(some 3), (.faddr 0 (.tmp 1)), none⟩, ⟨(some 4), (.load false 1 (.tmp 3)), none⟩, ⟨(some 5), (.bin .eql .plain (.tmp 4) (.con (.int .i64 4))), none⟩, ⟨(some 6), (.mv (.tmp 5)), none⟩, ⟨(some 7), (.faddr 0 (.tmp 1)), (some (6, false))⟩, ⟨(some 8), (.load false 1 (.tmp 7)), (some (6, false))⟩, ⟨(some 9), (.bin .eql .plain (.tmp 8) (.con (.int .i64 5))), (some (6, false))⟩, ⟨(some 10), (.mv (.tmp 9)), (some (6, false))⟩, ⟨(some 11), (.faddr 1 (.tmp 1)), (some (10, true))⟩, ⟨(some 12), (.load false 1 (.tmp 11)), (some (10, true))⟩, ⟨(some 13), (.bin .eql .plain (.tmp 12) (.con (.int .i64 4))), (some (10, true))⟩, ⟨(some 14), (.pick (.tmp 10) (.tmp 13) (.con (.bool false))), (some (6, false))⟩, ⟨(some 15), (.pick (.tmp 6) (.con (.bool true)) (.tmp 14)), none⟩, ⟨(some 2), (.mv (.tmp 15)), none⟩])
 .ret))
def ac59 : AFun := ⟨1, 16, ab59, [(.tmp 2)]⟩
theorem cf59 : compF Try.prog Try.f59 = some ac59 := by kernel_rfl
theorem cl59 : callable Try.prog 59 = true := by kernel_rfl
theorem fn59 : Try.prog.funcs[59]? = some Try.f59 := by kernel_rfl
/- chancel/schema.Action -/
def ab60 : ACode := (.seq (.reg [⟨(some 2), (.box (.tmp 0)), none⟩, ⟨(some 4), (.alloc [(.str []), .nils, .nils]), none⟩, ⟨(some 5), (.mv (.con (.bool false))), none⟩])
 (.seq (.seq (.reg [⟨(some 8), (.faddr 1 (.tmp 2)), none⟩, ⟨(some 9), (.load false 1 (.tmp 8)), none⟩, ⟨(some 10), (.lenL (.tmp 9)), none⟩, ⟨(some 11), (.mv (.con (.int .i64 0))), none⟩])
 (.block 0
 (.loop (.seq (.reg [⟨(some 12), (.bin .lss .plain (.tmp 11) (.tmp 10)), none⟩])
 (.seq (.cond (.tmp 12)
 .skip
 (.exit 0))
 (.seq (.block 1
 (.seq (.reg [⟨(some 13), (.iaddr 3 (.tmp 9) (.tmp 11)), none⟩, ⟨(some 14), (.load true 3 (.tmp 13)), none⟩, ⟨(some 7), (.alloc [(.str []), .nils, .nils]), none⟩, ⟨none, (.store 3 (.tmp 7) (.tmp 14)), none⟩])
 (.seq (.reg [⟨(some 15), (.faddr 0 (.tmp 7)), none⟩, ⟨(some 16), (.load false 1 (.tmp 15)), none⟩, ⟨(some 17), (.mv (.tmp 1)), none⟩, ⟨(some 18), (.bin .eql .plain (.tmp 16) (.tmp 17)), none⟩])
 (.cond (.tmp 18)
 (.seq (.dreg [⟨(some 19), (.faddr 1 (.tmp 7)), none⟩, ⟨(some 20), (.load false 1 (.tmp 19)), none⟩, ⟨(some 21), (.call 74 [(.tmp 20)]), none⟩, ⟨(some 22), (.faddr 2 (.tmp 7)), none⟩, ⟨(some 23), (.load false 1 (.tmp 22)), none⟩, ⟨(some 24), (.call 74 [(.tmp 23)]), none⟩, ⟨(some 25), (.faddr 1 (.tmp 7)), none⟩, ⟨none, (.store 1 (.tmp 25) (.tmp 21)), none⟩, ⟨(some 26), (.faddr 2 (.tmp 7)), none⟩, ⟨none, (.store 1 (.tmp 26) (.tmp 24)), none⟩] [2, 5, 7, 9] [0, 1, 3, 0, 8, 31, 31, 127, 255, 511] [])
 (.seq (.reg [⟨(some 27), (.load true 3 (.tmp 7)), none⟩, ⟨none, (.store 3 (.tmp 4) (.tmp 27)), none⟩, ⟨(some 5), (.mv (.con (.bool true))), none⟩])
 .ret))
 .skip))))
 (.reg [⟨(some 28), (.bin .add .plain (.tmp 11) (.con (.int .i64 1))), none⟩, ⟨(some 11), (.mv (.tmp 28)), none⟩])))))))
 (.seq (.reg [⟨(some 29), (.build [(.str []), .nils, .nils] []), none⟩, ⟨none, (.store 3 (.tmp 4) (.tmp 29)), none⟩, ⟨(some 5), (.mv (.con (.bool false))), none⟩])
 .ret)))
def ac60 : AFun := ⟨2, 30, ab60, [(.cell 4 true 3), (.tmp 5)]⟩
theorem cf60 : compF Try.prog Try.f60 = some ac60 := by kernel_rfl
theorem cl60 : callable Try.prog 60 = true := by kernel_rfl
theorem fn60 : Try.prog.funcs[60]? = some Try.f60 := by kernel_rfl
/- chancel/schema.Kind -/
def ab61 : ACode := (.seq (.reg [⟨(some 2), (.box (.tmp 0)), none⟩, ⟨(some 4), (.alloc [(.str []), .nils, .nils]), none⟩, ⟨(some 5), (.mv (.con (.bool false))), none⟩])
 (.seq (.seq (.reg [⟨(some 8), (.faddr 0 (.tmp 2)), none⟩, ⟨(some 9), (.load false 1 (.tmp 8)), none⟩, ⟨(some 10), (.lenL (.tmp 9)), none⟩, ⟨(some 11), (.mv (.con (.int .i64 0))), none⟩])
 (.block 0
 (.loop (.seq (.reg [⟨(some 12), (.bin .lss .plain (.tmp 11) (.tmp 10)), none⟩])
 (.seq (.cond (.tmp 12)
 .skip
 (.exit 0))
 (.seq (.block 1
 (.seq (.reg [⟨(some 13), (.iaddr 3 (.tmp 9) (.tmp 11)), none⟩, ⟨(some 14), (.load true 3 (.tmp 13)), none⟩, ⟨(some 7), (.alloc [(.str []), .nils, .nils]), none⟩, ⟨none, (.store 3 (.tmp 7) (.tmp 14)), none⟩])
 (.seq (.reg [⟨(some 15), (.faddr 0 (.tmp 7)), none⟩, ⟨(some 16), (.load false 1 (.tmp 15)), none⟩, ⟨(some 17), (.mv (.tmp 1)), none⟩, ⟨(some 18), (.bin .eql .plain (.tmp 16) (.tmp 17)), none⟩])
 (.cond (.tmp 18)
 (.seq (.dreg [⟨(some 19), (.faddr 1 (.tmp 7)), none⟩, ⟨(some 20), (.load false 1 (.tmp 19)), none⟩, ⟨(some 21), (.call 74 [(.tmp 20)]), none⟩, ⟨(some 22), (.faddr 2 (.tmp 7)), none⟩, ⟨(some 23), (.load false 1 (.tmp 22)), none⟩, ⟨(some 24), (.call 75 [(.tmp 23)]), none⟩, ⟨(some 25), (.faddr 1 (.tmp 7)), none⟩, ⟨none, (.store 1 (.tmp 25) (.tmp 21)), none⟩, ⟨(some 26), (.faddr 2 (.tmp 7)), none⟩, ⟨none, (.store 1 (.tmp 26) (.tmp 24)), none⟩] [2, 5, 7, 9] [0, 1, 3, 0, 8, 31, 31, 127, 255, 511] [])
 (.seq (.reg [⟨(some 27), (.load true 3 (.tmp 7)), none⟩, ⟨none, (.store 3 (.tmp 4) (.tmp 27)), none⟩, ⟨(some 5), (.mv (.con (.bool true))), none⟩])
 .ret))
 .skip))))
 (.reg [⟨(some 28), (.bin .add .plain (.tmp 11) (.con (.int .i64 1))), none⟩, ⟨(some 11), (.mv (.tmp 28)), none⟩])))))))
 (.seq (.reg [⟨(some 29), (.build [(.str []), .nils, .nils] []), none⟩, ⟨none, (.store 3 (.tmp 4) (.tmp 29)), none⟩, ⟨(some 5), (.mv (.con (.bool false))), none⟩])
 .ret)))
def ac61 : AFun := ⟨2, 30, ab61, [(.cell 4 true 3), (.tmp 5)]⟩
theorem cf61 : compF Try.prog Try.f61 = some ac61 := by kernel_rfl
theorem cl61 : callable Try.prog 61 = true := by kernel_rfl
theorem fn61 : Try.prog.funcs[61]? = some Try.f61 := by kernel_rfl
/- chancel/chancelref10.Action -/
def ab62 : ACode := (.seq (.reg [⟨(some 2), (.box (.tmp 0)), none⟩, ⟨(some 4), (.alloc [(.str []), .nils, .nils]), none⟩, ⟨(some 5), (.mv (.con (.bool false))), none⟩])
 (.seq (.seq (.reg [⟨(some 6), (.mv (.con (.int .i64 0))), none⟩])
 (.block 0
 (.loop (.seq (.seq (.reg [⟨(some 7), (.mv (.tmp 6)), none⟩, ⟨(some 8), (.faddr 1 (.tmp 2)), none⟩, ⟨(some 9), (.load false 1 (.tmp 8)), none⟩, ⟨(some 10), (.lenL (.tmp 9)), none⟩, ⟨(some 11), (.bin .lss .plain (.tmp 7) (.tmp 10)), none⟩])
 (.cond (.tmp 11)
 .skip
 (.exit 0)))
 (.seq (.block 1
 (.seq (.reg [⟨(some 14), (.faddr 1 (.tmp 2)), none⟩, ⟨(some 15), (.load false 1 (.tmp 14)), none⟩, ⟨(some 16), (.mv (.tmp 6)), none⟩, ⟨(some 17), (.iaddr 3 (.tmp 15) (.tmp 16)), none⟩, ⟨(some 18), (.faddr 0 (.tmp 17)), none⟩, ⟨(some 19), (.load false 1 (.tmp 18)), none⟩, ⟨(some 20), (.mv (.tmp 1)), none⟩, ⟨(some 21), (.bin .eql .plain (.tmp 19) (.tmp 20)), none⟩])
 (.cond (.tmp 21)
 (.seq (.reg [⟨(some 22), (.faddr 1 (.tmp 2)), none⟩, ⟨(some 23), (.load false 1 (.tmp 22)), none⟩, ⟨(some 24), (.mv (.tmp 6)), none⟩, ⟨(some 25), (.iaddr 3 (.tmp 23) (.tmp 24)), none⟩, ⟨(some 26), (.load true 3 (.tmp 25)), none⟩, ⟨none, (.store 3 (.tmp 4) (.tmp 26)), none⟩, ⟨(some 5), (.mv (.con (.bool true))), none⟩])
 .ret)
 .skip)))
 (.reg [⟨(some 12), (.mv (.tmp 6)), none⟩, ⟨(some 13), (.bin .add .plain (.tmp 12) (.con (.int .i64 1))), none⟩, ⟨(some 6), (.mv (.tmp 13)), none⟩]))))))
 (.seq (.reg [⟨(some 27), (.build [(.str []), .nils, .nils] []), none⟩, ⟨none, (.store 3 (.tmp 4) (.tmp 27)), none⟩, ⟨(some 5), (.mv (.con (.bool false))), none⟩])
 .ret)))
def ac62 : AFun := ⟨2, 28, ab62, [(.cell 4 true 3), (.tmp 5)]⟩
theorem cf62 : compF Try.prog Try.f62 = some ac62 := by kernel_rfl
theorem cl62 : callable Try.prog 62 = true := by kernel_rfl
theorem fn62 : Try.prog.funcs[62]? = some Try.f62 := by kernel_rfl
/- chancel/chancellaw1.within -/
def ab63 : ACode := (.seq (.reg [⟨(some 4), (.mv (.con (.int .i64 0))), none⟩])
 (.seq (.reg [⟨(some 6), (.mv (.tmp 0)), none⟩, ⟨(some 7), (.mv (.tmp 1)), none⟩, ⟨(some 8), (.bin .rem .plain (.tmp 6) (.tmp 7)), none⟩, ⟨(some 5), (.mv (.tmp 8)), none⟩])
 (.seq (.seq (.reg [⟨(some 9), (.mv (.tmp 5)), none⟩, ⟨(some 10), (.bin .lss .plain (.tmp 9) (.con (.int .i64 0))), none⟩])
 (.cond (.tmp 10)
 (.reg [⟨(some 11), (.mv (.tmp 5)), none⟩, ⟨(some 12), (.mv (.tmp 1)), none⟩, ⟨(some 13), (.bin .add .plain (.tmp 11) (.tmp 12)), none⟩, ⟨(some 5), (.mv (.tmp 13)), none⟩])
 .skip))
 (.seq (.reg [⟨(some 14), (.mv (.tmp 5)), none⟩, ⟨(some 4), (.mv (.tmp 14)), none⟩])
 .ret))))
def ac63 : AFun := ⟨2, 15, ab63, [(.tmp 4)]⟩
theorem cf63 : compF Try.prog Try.f63 = some ac63 := by kernel_rfl
theorem cl63 : callable Try.prog 63 = true := by kernel_rfl
theorem fn63 : Try.prog.funcs[63]? = some Try.f63 := by kernel_rfl
/- chancel/chancelref1.Of -/
def ab64 : ACode := (.seq (.reg [⟨(some 2), (.mv (.con (.str []))), none⟩, ⟨(some 3), (.mv (.con (.int .i64 0))), none⟩])
 (.seq (.reg [⟨(some 4), (.mv (.con .nils)), none⟩])
 (.seq (.seq (.reg [⟨(some 5), (.mv (.con (.int .i64 0))), none⟩])
 (.block 0
 (.loop (.seq (.seq (.reg [⟨(some 6), (.mv (.tmp 5)), none⟩, ⟨(some 7), (.mv (.tmp 0)), none⟩, ⟨(some 8), (.lenL (.tmp 7)), none⟩, ⟨(some 9), (.bin .lss .plain (.tmp 6) (.tmp 8)), none⟩])
 (.cond (.tmp 9)
 .skip
 (.exit 0)))
 (.seq (.block 1
 (.seq (.seq (.reg [⟨(some 12), (.mv (.tmp 0)), none⟩, ⟨(some 13), (.mv (.tmp 5)), none⟩, ⟨(some 14), (.iaddr 1 (.tmp 12) (.tmp 13)), none⟩, ⟨(some 15), (.load false 1 (.tmp 14)), none⟩, ⟨(some 16), (.call 76 [(.tmp 15)]), none⟩, ⟨(some 17), (.un .not (.tmp 16)), none⟩])
 (.cond (.tmp 17)
 (.seq (.reg [⟨(some 2), (.mv (.con (.str []))), none⟩, ⟨(some 3), (.mv (.con (.int .i64 11))), none⟩])
 .ret)
 .skip))
 (.reg [⟨(some 18), (.mv (.tmp 4)), none⟩, ⟨(some 19), (.mv (.tmp 0)), none⟩, ⟨(some 20), (.mv (.tmp 5)), none⟩, ⟨(some 21), (.iaddr 1 (.tmp 19) (.tmp 20)), none⟩, ⟨(some 22), (.load false 1 (.tmp 21)), none⟩, ⟨(some 23), (.call 77 [(.tmp 18), (.tmp 22)]), none⟩, ⟨(some 4), (.mv (.tmp 23)), none⟩])))
 (.reg [⟨(some 10), (.mv (.tmp 5)), none⟩, ⟨(some 11), (.bin .add .plain (.tmp 10) (.con (.int .i64 1))), none⟩, ⟨(some 5), (.mv (.tmp 11)), none⟩]))))))
 (.seq (.reg [⟨(some 24), (.mv (.tmp 4)), none⟩, ⟨(some 25), (.cvBS (.tmp 24)), none⟩, ⟨(some 2), (.mv (.tmp 25)), none⟩, ⟨(some 3), (.mv (.con (.int .i64 0))), none⟩])
 .ret))))
def ac64 : AFun := ⟨1, 26, ab64, [(.tmp 2), (.tmp 3)]⟩
theorem cf64 : compF Try.prog Try.f64 = some ac64 := by kernel_rfl
theorem cl64 : callable Try.prog 64 = true := by kernel_rfl
theorem fn64 : Try.prog.funcs[64]? = some Try.f64 := by kernel_rfl
/- chancel/chancelref11.of -/
def ab65 : ACode := (.seq (.reg [⟨(some 2), (.alloc [(.int .i64 0), (.int .i64 0), (.str [])]), none⟩])
 (.seq (.reg [⟨(some 3), (.mv (.tmp 0)), none⟩, ⟨(some 4), (.build [(.int .i64 0), (.int .i64 0), (.str [])] [(0, 1, (.tmp 3))]), none⟩, ⟨none, (.store 3 (.tmp 2) (.tmp 4)), none⟩])
 .ret))
def ac65 : AFun := ⟨1, 5, ab65, [(.cell 2 true 3)]⟩
theorem cf65 : compF Try.prog Try.f65 = some ac65 := by kernel_rfl
theorem cl65 : callable Try.prog 65 = true := by kernel_rfl
theorem fn65 : Try.prog.funcs[65]? = some Try.f65 := by kernel_rfl
/- chancel/chancelref10.Field -/
def ab66 : ACode := (.seq (.reg [⟨(some 2), (.box (.tmp 0)), none⟩, ⟨(some 4), (.alloc [(.int .i64 0), (.int .i64 0), (.str [])]), none⟩, ⟨(some 5), (.mv (.con (.bool false))), none⟩])
 (.seq (.seq (.reg [⟨(some 6), (.mv (.con (.int .i64 0))), none⟩])
 (.block 0
 (.loop (.seq (.seq (.reg [⟨(some 7), (.mv (.tmp 6)), none⟩, ⟨(some 8), (.faddr 2 (.tmp 2)), none⟩, ⟨(some 9), (.load false 1 (.tmp 8)), none⟩, ⟨(some 10), (.lenL (.tmp 9)), none⟩, ⟨(some 11), (.bin .lss .plain (.tmp 7) (.tmp 10)), none⟩])
 (.cond (.tmp 11)
 .skip
 (.exit 0)))
 (.seq (.block 1
 (.seq (.reg [⟨(some 14), (.faddr 2 (.tmp 2)), none⟩, ⟨(some 15), (.load false 1 (.tmp 14)), none⟩, ⟨(some 16), (.mv (.tmp 6)), none⟩, ⟨(some 17), (.iaddr 4 (.tmp 15) (.tmp 16)), none⟩, ⟨(some 18), (.faddr 0 (.tmp 17)), none⟩, ⟨(some 19), (.load false 1 (.tmp 18)), none⟩, ⟨(some 20), (.mv (.tmp 1)), none⟩, ⟨(some 21), (.bin .eql .plain (.tmp 19) (.tmp 20)), none⟩])
 (.cond (.tmp 21)
 (.seq (.reg [⟨(some 22), (.faddr 2 (.tmp 2)), none⟩, ⟨(some 23), (.load false 1 (.tmp 22)), none⟩, ⟨(some 24), (.mv (.tmp 6)), none⟩, ⟨(some 25), (.iaddr 4 (.tmp 23) (.tmp 24)), none⟩, ⟨(some 26), (.faddr 1 (.tmp 25)), none⟩, ⟨(some 27), (.load true 3 (.tmp 26)), none⟩, ⟨none, (.store 3 (.tmp 4) (.tmp 27)), none⟩, ⟨(some 5), (.mv (.con (.bool true))), none⟩])
 .ret)
 .skip)))
 (.reg [⟨(some 12), (.mv (.tmp 6)), none⟩, ⟨(some 13), (.bin .add .plain (.tmp 12) (.con (.int .i64 1))), none⟩, ⟨(some 6), (.mv (.tmp 13)), none⟩]))))))
 (.seq (.reg [⟨(some 28), (.build [(.int .i64 0), (.int .i64 0), (.str [])] []), none⟩, ⟨none, (.store 3 (.tmp 4) (.tmp 28)), none⟩, ⟨(some 5), (.mv (.con (.bool false))), none⟩])
 .ret)))
def ac66 : AFun := ⟨2, 29, ab66, [(.cell 4 true 3), (.tmp 5)]⟩
theorem cf66 : compF Try.prog Try.f66 = some ac66 := by kernel_rfl
theorem cl66 : callable Try.prog 66 = true := by kernel_rfl
theorem fn66 : Try.prog.funcs[66]? = some Try.f66 := by kernel_rfl
end Go.Proofs.Ytcdbpmmomgehfaa.Va
