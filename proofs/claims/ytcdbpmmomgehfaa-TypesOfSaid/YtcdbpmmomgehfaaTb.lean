/- Functions of the program as resolved code (printed by gen.py from the kernel's own value). Conditions: none. -/
import Derived.Test.YtcdbpmmomgehfaaProg
import Derived.Test.YtcdbpmmomgehfaaVaF
import Derived.KernelRfl
set_option maxRecDepth 100000
set_option maxHeartbeats 4000000
set_option linter.all false
namespace Go.Proofs.Ytcdbpmmomgehfaa.Va
open Go.Proofs
/- chancel/chancellaw11.known -/
def ab11 : ACode := (.seq (.reg [⟨(some 0), (.mv (.con (.bool false))), none⟩])
 (.seq (.reg [⟨(some 6), (.build [(.int .i64 0), (.bool false), (.int .i64 0), (.str []), (.str []), (.str []), .nils] [(0, 1, (.con (.int .i64 2))), (2, 1, (.con (.int .i64 1)))]), none⟩, ⟨(some 1), (.alloc [(.int .i64 0), (.bool false), (.int .i64 0), (.str []), (.str []), (.str []), .nils]), none⟩, ⟨none, (.store 7 (.tmp 1) (.tmp 6)), none⟩])
 (.seq (.reg [⟨(some 8), (.build [.nils, .nils] []), none⟩, ⟨(some 9), (.build [(.str []), (.str []), (.str [])] []), none⟩, ⟨(some 10), (.load true 7 (.tmp 1)), none⟩, ⟨(some 11), (.build [(.int .i64 0), (.bool false), (.int .i64 0), (.str []), (.str []), (.str []), .nils] [(0, 1, (.con (.int .i64 3))), (3, 1, (.con (.str [49])))]), none⟩, ⟨(some 12), (.bslice 7 2 [(.int .i64 0), (.bool false), (.int .i64 0), (.str []), (.str []), (.str []), .nils] [(0, 7, (.tmp 10)), (7, 7, (.tmp 11))]), none⟩, ⟨(some 13), (.build [(.int .i64 0), (.bool false), (.int .i64 0), (.str []), (.str []), (.str []), .nils] [(0, 1, (.con (.int .i64 20))), (6, 1, (.tmp 12))]), none⟩, ⟨(some 14), (.call 20 [(.tmp 8), (.tmp 9), (.tmp 13)]), none⟩, ⟨(some 7), (.mv (.tmp 14)), none⟩, ⟨(some 15), (.ext (.tmp 7) 0), none⟩, ⟨(some 16), (.ext (.tmp 7) 1), none⟩, ⟨(some 2), (.alloc [(.int .i64 0), (.int .i64 0), (.str [])]), none⟩, ⟨none, (.store 3 (.tmp 2) (.tmp 15)), none⟩, ⟨(some 3), (.mv (.tmp 16)), none⟩])
 (.seq (.reg [⟨(some 18), (.build [.nils, .nils] []), none⟩, ⟨(some 19), (.build [(.str []), (.str []), (.str [])] []), none⟩, ⟨(some 20), (.load true 7 (.tmp 1)), none⟩, ⟨(some 21), (.load true 7 (.tmp 1)), none⟩, ⟨(some 22), (.bslice 7 2 [(.int .i64 0), (.bool false), (.int .i64 0), (.str []), (.str []), (.str []), .nils] [(0, 7, (.tmp 20)), (7, 7, (.tmp 21))]), none⟩, ⟨(some 23), (.build [(.int .i64 0), (.bool false), (.int .i64 0), (.str []), (.str []), (.str []), .nils] [(0, 1, (.con (.int .i64 20))), (6, 1, (.tmp 22))]), none⟩, ⟨(some 24), (.call 20 [(.tmp 18), (.tmp 19), (.tmp 23)]), none⟩, ⟨(some 17), (.mv (.tmp 24)), none⟩, ⟨(some 25), (.ext (.tmp 17) 0), none⟩, ⟨(some 26), (.ext (.tmp 17) 1), none⟩, ⟨(some 4), (.alloc [(.int .i64 0), (.int .i64 0), (.str [])]), none⟩, ⟨none, (.store 3 (.tmp 4) (.tmp 25)), none⟩, ⟨(some 5), (.mv (.tmp 26)), none⟩])
 (.seq (.reg [⟨(some 27), (.mv (.tmp 3)), none⟩, ⟨(some 28), (.bin .eql .plain (.tmp 27) (.con (.int .i64 16))), none⟩, ⟨(some 29), (.mv (.tmp 28)), none⟩, ⟨(some 30), (.mv (.tmp 5)), (some (29, true))⟩, ⟨(some 31), (.bin .eql .plain (.tmp 30) (.con (.int .i64 0))), (some (29, true))⟩, ⟨(some 32), (.pick (.tmp 29) (.tmp 31) (.con (.bool false))), none⟩, ⟨(some 33), (.mv (.tmp 32)), none⟩, ⟨(some 34), (.faddr 0 (.tmp 4)), (some (33, true))⟩, ⟨(some 35), (.load false 1 (.tmp 34)), (some (33, true))⟩, ⟨(some 36), (.bin .eql .plain (.tmp 35) (.con (.int .i64 1))), (some (33, true))⟩, ⟨(some 37), (.pick (.tmp 33) (.tmp 36) (.con (.bool false))), none⟩, ⟨(some 0), (.mv (.tmp 37)), none⟩])
 .ret)))))
def ac11 : AFun := ⟨0, 38, ab11, [(.tmp 0)]⟩
theorem cf11 : compF Try.prog Try.f11 = some ac11 := by kernel_rfl
theorem cl11 : callable Try.prog 11 = true := by kernel_rfl
theorem fn11 : Try.prog.funcs[11]? = some Try.f11 := by kernel_rfl
/- chancel/chancellaw5.Few -/
def ab12 : ACode := (.seq (.reg [⟨(some 2), (.box (.tmp 0)), none⟩, ⟨(some 4), (.mv (.con (.int .i64 0))), none⟩])
 (.seq (.seq (.reg [⟨(some 6), (.mv (.tmp 1)), none⟩, ⟨(some 7), (.bin .leq .plain (.tmp 6) (.con (.int .i64 0))), none⟩, ⟨(some 8), (.mv (.tmp 7)), none⟩, ⟨(some 9), (.faddr 3 (.tmp 2)), (some (8, false))⟩, ⟨(some 10), (.load false 1 (.tmp 9)), (some (8, false))⟩, ⟨(some 11), (.lenL (.tmp 10)), (some (8, false))⟩, ⟨(some 12), (.bin .gtr .plain (.tmp 11) (.con (.int .i64 12))), (some (8, false))⟩, ⟨(some 13), (.pick (.tmp 8) (.con (.bool true)) (.tmp 12)), none⟩, ⟨(some 14), (.mv (.tmp 13)), none⟩, ⟨(some 15), (.faddr 2 (.tmp 2)), (some (14, false))⟩, ⟨(some 16), (.load false 1 (.tmp 15)), (some (14, false))⟩, ⟨(some 17), (.lenL (.tmp 16)), (some (14, false))⟩, ⟨(some 18), (.bin .gtr .plain (.tmp 17) (.con (.int .i64 60))), (some (14, false))⟩, ⟨(some 19), (.pick (.tmp 14) (.con (.bool true)) (.tmp 18)), none⟩])
 (.cond (.tmp 19)
 (.seq (.reg [⟨(some 4), (.mv (.con (.int .i64 0))), none⟩])
 .ret)
 .skip))
 (.seq (.reg [⟨(some 20), (.mv (.tmp 1)), none⟩, ⟨(some 21), (.bin .sub .plain (.tmp 20) (.con (.int .i64 1))), none⟩, ⟨(some 1), (.mv (.tmp 21)), none⟩])
 (.seq (.seq (.reg [⟨(some 5), (.mv (.con (.int .i64 0))), none⟩])
 (.block 0
 (.loop (.seq (.seq (.reg [⟨(some 22), (.mv (.tmp 5)), none⟩, ⟨(some 23), (.faddr 3 (.tmp 2)), none⟩, ⟨(some 24), (.load false 1 (.tmp 23)), none⟩, ⟨(some 25), (.lenL (.tmp 24)), none⟩, ⟨(some 26), (.bin .lss .plain (.tmp 22) (.tmp 25)), none⟩, ⟨(some 27), (.mv (.tmp 26)), none⟩, ⟨(some 28), (.mv (.tmp 1)), (some (27, true))⟩, ⟨(some 29), (.bin .gtr .plain (.tmp 28) (.con (.int .i64 0))), (some (27, true))⟩, ⟨(some 30), (.pick (.tmp 27) (.tmp 29) (.con (.bool false))), none⟩])
 (.cond (.tmp 30)
 .skip
 (.exit 0)))
 (.seq (.block 1
 (.reg [⟨(some 33), (.faddr 3 (.tmp 2)), none⟩, ⟨(some 34), (.load false 1 (.tmp 33)), none⟩, ⟨(some 35), (.mv (.tmp 5)), none⟩, ⟨(some 36), (.iaddr 4 (.tmp 34) (.tmp 35)), none⟩, ⟨(some 37), (.load true 4 (.tmp 36)), none⟩, ⟨(some 38), (.mv (.tmp 1)), none⟩, ⟨(some 39), (.call 12 [(.tmp 37), (.tmp 38)]), none⟩, ⟨(some 1), (.mv (.tmp 39)), none⟩]))
 (.reg [⟨(some 31), (.mv (.tmp 5)), none⟩, ⟨(some 32), (.bin .add .plain (.tmp 31) (.con (.int .i64 1))), none⟩, ⟨(some 5), (.mv (.tmp 32)), none⟩]))))))
 (.seq (.reg [⟨(some 40), (.mv (.tmp 1)), none⟩, ⟨(some 4), (.mv (.tmp 40)), none⟩])
 .ret)))))
def ac12 : AFun := ⟨2, 41, ab12, [(.tmp 4)]⟩
theorem cf12 : compF Try.prog Try.f12 = some ac12 := by kernel_rfl
theorem cl12 : callable Try.prog 12 = true := by kernel_rfl
theorem fn12 : Try.prog.funcs[12]? = some Try.f12 := by kernel_rfl
/- chancel/chancellaw10.Good -/
def ab13 : ACode := (.seq (.reg [⟨(some 4), (.alloc [.nils, .nils]), none⟩])
 (.seq (.reg [⟨(some 15), (.mv (.tmp 0)), none⟩, ⟨(some 16), (.mv (.tmp 1)), none⟩, ⟨(some 17), (.call 29 [(.tmp 15), (.tmp 16)]), none⟩, ⟨(some 5), (.alloc [.nils, .nils]), none⟩, ⟨none, (.store 2 (.tmp 5) (.tmp 17)), none⟩])
 (.seq (.reg [⟨(some 6), (.alloc [.nils, .nils]), none⟩])
 (.seq (.reg [⟨(some 18), (.bslice 1 4 [(.str [])] [(0, 1, (.con (.str [68, 111, 99]))), (1, 1, (.con (.str [71, 114, 111, 117, 112]))), (2, 1, (.con (.str [84, 101, 97, 109]))), (3, 1, (.con (.str [85, 115, 101, 114])))]), none⟩, ⟨(some 7), (.mv (.tmp 18)), none⟩])
 (.seq (.seq (.reg [⟨(some 8), (.mv (.con (.int .i64 0))), none⟩])
 (.block 0
 (.loop (.seq (.seq (.reg [⟨(some 19), (.mv (.tmp 8)), none⟩, ⟨(some 20), (.bin .lss .plain (.tmp 19) (.con (.int .i64 4))), none⟩])
 (.cond (.tmp 20)
 .skip
 (.exit 0)))
 (.seq (.block 1
 (.seq (.reg [⟨(some 9), (.mv (.con (.int .i64 0))), none⟩])
 (.block 2
 (.loop (.seq (.seq (.reg [⟨(some 23), (.mv (.tmp 9)), none⟩, ⟨(some 24), (.faddr 0 (.tmp 5)), none⟩, ⟨(some 25), (.load false 1 (.tmp 24)), none⟩, ⟨(some 26), (.lenL (.tmp 25)), none⟩, ⟨(some 27), (.bin .lss .plain (.tmp 23) (.tmp 26)), none⟩])
 (.cond (.tmp 27)
 .skip
 (.exit 2)))
 (.seq (.block 3
 (.seq (.dreg [⟨(some 30), (.faddr 0 (.tmp 5)), none⟩, ⟨(some 31), (.load false 1 (.tmp 30)), none⟩, ⟨(some 32), (.mv (.tmp 9)), none⟩, ⟨(some 33), (.iaddr 3 (.tmp 31) (.tmp 32)), none⟩, ⟨(some 34), (.faddr 0 (.tmp 33)), none⟩, ⟨(some 35), (.load false 1 (.tmp 34)), none⟩, ⟨(some 36), (.mv (.tmp 7)), none⟩, ⟨(some 37), (.mv (.tmp 8)), none⟩, ⟨(some 38), (.iaddr 1 (.tmp 36) (.tmp 37)), none⟩, ⟨(some 39), (.load false 1 (.tmp 38)), none⟩, ⟨(some 40), (.bin .eql .plain (.tmp 35) (.tmp 39)), none⟩, ⟨(some 41), (.mv (.tmp 40)), none⟩, ⟨(some 42), (.faddr 0 (.tmp 6)), (some (41, true))⟩, ⟨(some 43), (.load false 1 (.tmp 42)), (some (41, true))⟩, ⟨(some 44), (.lenL (.tmp 43)), (some (41, true))⟩, ⟨(some 45), (.bin .eql .plain (.tmp 44) (.con (.int .i64 0))), (some (41, true))⟩, ⟨(some 46), (.mv (.tmp 45)), (some (41, true))⟩, ⟨(some 47), (.faddr 0 (.tmp 6)), (some (46, false))⟩, ⟨(some 48), (.load false 1 (.tmp 47)), (some (46, false))⟩, ⟨(some 49), (.faddr 0 (.tmp 6)), (some (46, false))⟩, ⟨(some 50), (.load false 1 (.tmp 49)), (some (46, false))⟩, ⟨(some 51), (.lenL (.tmp 50)), (some (46, false))⟩, ⟨(some 52), (.bin .sub .plain (.tmp 51) (.con (.int .i64 1))), (some (46, false))⟩, ⟨(some 53), (.iaddr 3 (.tmp 48) (.tmp 52)), (some (46, false))⟩, ⟨(some 54), (.faddr 0 (.tmp 53)), (some (46, false))⟩, ⟨(some 55), (.load false 1 (.tmp 54)), (some (46, false))⟩, ⟨(some 56), (.mv (.tmp 7)), (some (46, false))⟩, ⟨(some 57), (.mv (.tmp 8)), (some (46, false))⟩, ⟨(some 58), (.iaddr 1 (.tmp 56) (.tmp 57)), (some (46, false))⟩, ⟨(some 59), (.load false 1 (.tmp 58)), (some (46, false))⟩, ⟨(some 60), (.bin .neq .plain (.tmp 55) (.tmp 59)), (some (46, false))⟩, ⟨(some 61), (.pick (.tmp 46) (.con (.bool true)) (.tmp 60)), (some (41, true))⟩, ⟨(some 62), (.pick (.tmp 41) (.tmp 61) (.con (.bool false))), none⟩] [] [0, 1, 0, 7, 15, 31, 0, 0, 192, 448, 1023, 2047, 4095, 8191, 16383, 32767, 65535, 131071, 262143, 131071, 655359, 1703935, 3801087, 8388607, 16777215, 33554431, 131071, 131071, 201457663, 469893119, 1073741823, 2147483647, 4294967295] [])
 (.cond (.tmp 62)
 (.dreg [⟨(some 63), (.faddr 0 (.tmp 6)), none⟩, ⟨(some 64), (.load false 1 (.tmp 63)), none⟩, ⟨(some 65), (.faddr 0 (.tmp 5)), none⟩, ⟨(some 66), (.load false 1 (.tmp 65)), none⟩, ⟨(some 67), (.mv (.tmp 9)), none⟩, ⟨(some 68), (.iaddr 3 (.tmp 66) (.tmp 67)), none⟩, ⟨(some 69), (.load true 3 (.tmp 68)), none⟩, ⟨(some 70), (.bslice 3 1 [(.str []), .nils, .nils] [(0, 3, (.tmp 69))]), none⟩, ⟨(some 71), (.append 3 64 (.tmp 64) (.tmp 70)), none⟩, ⟨(some 72), (.faddr 0 (.tmp 6)), none⟩, ⟨none, (.store 1 (.tmp 72) (.tmp 71)), none⟩] [7, 8, 10] [0, 1, 0, 4, 0, 28, 60, 124, 255, 511, 1023] [])
 .skip)))
 (.reg [⟨(some 28), (.mv (.tmp 9)), none⟩, ⟨(some 29), (.bin .add .plain (.tmp 28) (.con (.int .i64 1))), none⟩, ⟨(some 9), (.mv (.tmp 29)), none⟩])))))))
 (.reg [⟨(some 21), (.mv (.tmp 8)), none⟩, ⟨(some 22), (.bin .add .plain (.tmp 21) (.con (.int .i64 1))), none⟩, ⟨(some 8), (.mv (.tmp 22)), none⟩]))))))
 (.seq (.seq (.reg [⟨(some 10), (.mv (.con (.int .i64 0))), none⟩])
 (.block 4
 (.loop (.seq (.seq (.reg [⟨(some 73), (.mv (.tmp 10)), none⟩, ⟨(some 74), (.faddr 0 (.tmp 6)), none⟩, ⟨(some 75), (.load false 1 (.tmp 74)), none⟩, ⟨(some 76), (.lenL (.tmp 75)), none⟩, ⟨(some 77), (.bin .lss .plain (.tmp 73) (.tmp 76)), none⟩])
 (.cond (.tmp 77)
 .skip
 (.exit 4)))
 (.seq (.block 5
 (.dreg [⟨(some 80), (.faddr 0 (.tmp 6)), none⟩, ⟨(some 81), (.load false 1 (.tmp 80)), none⟩, ⟨(some 82), (.mv (.tmp 10)), none⟩, ⟨(some 83), (.load true 2 (.tmp 6)), none⟩, ⟨(some 84), (.faddr 0 (.tmp 6)), none⟩, ⟨(some 85), (.load false 1 (.tmp 84)), none⟩, ⟨(some 86), (.mv (.tmp 10)), none⟩, ⟨(some 87), (.iaddr 3 (.tmp 85) (.tmp 86)), none⟩, ⟨(some 88), (.load true 3 (.tmp 87)), none⟩, ⟨(some 89), (.call 30 [(.tmp 83), (.tmp 88)]), none⟩, ⟨(some 90), (.iaddr 3 (.tmp 81) (.tmp 82)), none⟩, ⟨none, (.store 3 (.tmp 90) (.tmp 89)), none⟩] [9, 11] [0, 1, 0, 0, 0, 16, 0, 112, 240, 504, 1023, 2047] []))
 (.reg [⟨(some 78), (.mv (.tmp 10)), none⟩, ⟨(some 79), (.bin .add .plain (.tmp 78) (.con (.int .i64 1))), none⟩, ⟨(some 10), (.mv (.tmp 79)), none⟩]))))))
 (.seq (.reg [⟨(some 91), (.bslice 1 3 [(.str [])] [(0, 1, (.con (.str [111, 119, 110]))), (1, 1, (.con (.str [114, 101, 97, 100]))), (2, 1, (.con (.str [119, 114, 105, 116, 101])))]), none⟩, ⟨(some 11), (.mv (.tmp 91)), none⟩])
 (.seq (.seq (.reg [⟨(some 12), (.mv (.con (.int .i64 0))), none⟩])
 (.block 6
 (.loop (.seq (.seq (.reg [⟨(some 92), (.mv (.tmp 12)), none⟩, ⟨(some 93), (.bin .lss .plain (.tmp 92) (.con (.int .i64 3))), none⟩])
 (.cond (.tmp 93)
 .skip
 (.exit 6)))
 (.seq (.block 7
 (.seq (.reg [⟨(some 13), (.mv (.con (.int .i64 0))), none⟩])
 (.block 8
 (.loop (.seq (.seq (.reg [⟨(some 96), (.mv (.tmp 13)), none⟩, ⟨(some 97), (.faddr 1 (.tmp 5)), none⟩, ⟨(some 98), (.load false 1 (.tmp 97)), none⟩, ⟨(some 99), (.lenL (.tmp 98)), none⟩, ⟨(some 100), (.bin .lss .plain (.tmp 96) (.tmp 99)), none⟩])
 (.cond (.tmp 100)
 .skip
 (.exit 8)))
 (.seq (.block 9
 (.seq (.reg [⟨(some 103), (.faddr 1 (.tmp 5)), none⟩, ⟨(some 104), (.load false 1 (.tmp 103)), none⟩, ⟨(some 105), (.mv (.tmp 13)), none⟩, ⟨(some 106), (.iaddr 3 (.tmp 104) (.tmp 105)), none⟩, ⟨(some 107), (.load true 3 (.tmp 106)), none⟩, ⟨(some 14), (.alloc [(.str []), .nils, .nils]), none⟩, ⟨none, (.store 3 (.tmp 14) (.tmp 107)), none⟩])
 (.seq (.seq (.dreg [⟨(some 108), (.faddr 0 (.tmp 14)), none⟩, ⟨(some 109), (.load false 1 (.tmp 108)), none⟩, ⟨(some 110), (.mv (.tmp 11)), none⟩, ⟨(some 111), (.mv (.tmp 12)), none⟩, ⟨(some 112), (.iaddr 1 (.tmp 110) (.tmp 111)), none⟩, ⟨(some 113), (.load false 1 (.tmp 112)), none⟩, ⟨(some 114), (.bin .neq .plain (.tmp 109) (.tmp 113)), none⟩, ⟨(some 115), (.mv (.tmp 114)), none⟩, ⟨(some 116), (.faddr 1 (.tmp 6)), (some (115, false))⟩, ⟨(some 117), (.load false 1 (.tmp 116)), (some (115, false))⟩, ⟨(some 118), (.lenL (.tmp 117)), (some (115, false))⟩, ⟨(some 119), (.bin .gtr .plain (.tmp 118) (.con (.int .i64 0))), (some (115, false))⟩, ⟨(some 120), (.mv (.tmp 119)), (some (115, false))⟩, ⟨(some 121), (.faddr 1 (.tmp 6)), (some (120, true))⟩, ⟨(some 122), (.load false 1 (.tmp 121)), (some (120, true))⟩, ⟨(some 123), (.faddr 1 (.tmp 6)), (some (120, true))⟩, ⟨(some 124), (.load false 1 (.tmp 123)), (some (120, true))⟩, ⟨(some 125), (.lenL (.tmp 124)), (some (120, true))⟩, ⟨(some 126), (.bin .sub .plain (.tmp 125) (.con (.int .i64 1))), (some (120, true))⟩, ⟨(some 127), (.iaddr 3 (.tmp 122) (.tmp 126)), (some (120, true))⟩, ⟨(some 128), (.faddr 0 (.tmp 127)), (some (120, true))⟩, ⟨(some 129), (.load false 1 (.tmp 128)), (some (120, true))⟩, ⟨(some 130), (.mv (.tmp 11)), (some (120, true))⟩, ⟨(some 131), (.mv (.tmp 12)), (some (120, true))⟩, ⟨(some 132), (.iaddr 1 (.tmp 130) (.tmp 131)), (some (120, true))⟩, ⟨(some 133), (.load false 1 (.tmp 132)), (some (120, true))⟩, ⟨(some 134), (.bin .eql .plain (.tmp 129) (.tmp 133)), (some (120, true))⟩, ⟨(some 135), (.pick (.tmp 120) (.tmp 134) (.con (.bool false))), (some (115, false))⟩, ⟨(some 136), (.pick (.tmp 115) (.con (.bool true)) (.tmp 135)), none⟩] [] [0, 1, 0, 0, 12, 28, 63, 127, 255, 511, 1023, 2047, 4095, 8191, 16383, 8191, 40959, 106495, 237567, 524287, 1048575, 2097151, 8191, 8191, 12591103, 29368319, 67108863, 134217727, 268435455] [])
 (.cond (.tmp 136)
 (.exit 9)
 .skip))
 (.seq (.dreg [⟨(some 137), (.load true 2 (.tmp 6)), none⟩, ⟨(some 138), (.faddr 1 (.tmp 14)), none⟩, ⟨(some 139), (.load false 1 (.tmp 138)), none⟩, ⟨(some 140), (.call 31 [(.tmp 137), (.tmp 139)]), none⟩, ⟨(some 141), (.load true 2 (.tmp 6)), none⟩, ⟨(some 142), (.faddr 2 (.tmp 14)), none⟩, ⟨(some 143), (.load false 1 (.tmp 142)), none⟩, ⟨(some 144), (.call 31 [(.tmp 141), (.tmp 143)]), none⟩, ⟨(some 145), (.faddr 1 (.tmp 14)), none⟩, ⟨none, (.store 1 (.tmp 145) (.tmp 140)), none⟩, ⟨(some 146), (.faddr 2 (.tmp 14)), none⟩, ⟨none, (.store 1 (.tmp 146) (.tmp 144)), none⟩] [3, 7, 9, 11] [0, 0, 2, 7, 0, 0, 32, 127, 111, 511, 1023, 2047] [])
 (.seq (.reg [⟨(some 147), (.faddr 1 (.tmp 14)), none⟩, ⟨(some 148), (.load false 1 (.tmp 147)), none⟩, ⟨(some 149), (.lenL (.tmp 148)), none⟩, ⟨(some 150), (.bin .gtr .plain (.tmp 149) (.con (.int .i64 0))), none⟩, ⟨(some 151), (.mv (.tmp 150)), none⟩, ⟨(some 152), (.faddr 2 (.tmp 14)), (some (151, true))⟩, ⟨(some 153), (.load false 1 (.tmp 152)), (some (151, true))⟩, ⟨(some 154), (.lenL (.tmp 153)), (some (151, true))⟩, ⟨(some 155), (.bin .gtr .plain (.tmp 154) (.con (.int .i64 0))), (some (151, true))⟩, ⟨(some 156), (.pick (.tmp 151) (.tmp 155) (.con (.bool false))), none⟩])
 (.cond (.tmp 156)
 (.reg [⟨(some 157), (.faddr 1 (.tmp 6)), none⟩, ⟨(some 158), (.load false 1 (.tmp 157)), none⟩, ⟨(some 159), (.load true 3 (.tmp 14)), none⟩, ⟨(some 160), (.bslice 3 1 [(.str []), .nils, .nils] [(0, 3, (.tmp 159))]), none⟩, ⟨(some 161), (.append 3 64 (.tmp 158) (.tmp 160)), none⟩, ⟨(some 162), (.faddr 1 (.tmp 6)), none⟩, ⟨none, (.store 1 (.tmp 162) (.tmp 161)), none⟩])
 .skip))))))
 (.reg [⟨(some 101), (.mv (.tmp 13)), none⟩, ⟨(some 102), (.bin .add .plain (.tmp 101) (.con (.int .i64 1))), none⟩, ⟨(some 13), (.mv (.tmp 102)), none⟩])))))))
 (.reg [⟨(some 94), (.mv (.tmp 12)), none⟩, ⟨(some 95), (.bin .add .plain (.tmp 94) (.con (.int .i64 1))), none⟩, ⟨(some 12), (.mv (.tmp 95)), none⟩]))))))
 (.seq (.reg [⟨(some 163), (.load true 2 (.tmp 6)), none⟩, ⟨none, (.store 2 (.tmp 4) (.tmp 163)), none⟩])
 .ret)))))))))
def ac13 : AFun := ⟨2, 164, ab13, [(.cell 4 true 2)]⟩
theorem cf13 : compF Try.prog Try.f13 = some ac13 := by kernel_rfl
theorem cl13 : callable Try.prog 13 = true := by kernel_rfl
theorem fn13 : Try.prog.funcs[13]? = some Try.f13 := by kernel_rfl
/- chancel/chancellaw5.Tree -/
def ab14 : ACode := (.seq (.reg [⟨(some 2), (.box (.tmp 0)), none⟩, ⟨(some 4), (.alloc [(.int .i64 0), (.bool false), (.int .i64 0), (.str []), (.str []), (.str []), .nils]), none⟩])
 (.seq (.seq (.reg [⟨(some 8), (.mv (.tmp 1)), none⟩, ⟨(some 9), (.bin .leq .plain (.tmp 8) (.con (.int .i64 1))), none⟩, ⟨(some 10), (.mv (.tmp 9)), none⟩, ⟨(some 11), (.faddr 3 (.tmp 2)), (some (10, false))⟩, ⟨(some 12), (.load false 1 (.tmp 11)), (some (10, false))⟩, ⟨(some 13), (.lenL (.tmp 12)), (some (10, false))⟩, ⟨(some 14), (.bin .eql .plain (.tmp 13) (.con (.int .i64 0))), (some (10, false))⟩, ⟨(some 15), (.pick (.tmp 10) (.con (.bool true)) (.tmp 14)), none⟩])
 (.cond (.tmp 15)
 (.seq (.reg [⟨(some 16), (.load true 4 (.tmp 2)), none⟩, ⟨(some 17), (.call 32 [(.tmp 16)]), none⟩, ⟨none, (.store 7 (.tmp 4) (.tmp 17)), none⟩])
 .ret)
 .skip))
 (.seq (.reg [⟨(some 18), (.faddr 0 (.tmp 2)), none⟩, ⟨(some 19), (.load false 1 (.tmp 18)), none⟩, ⟨(some 20), (.call 33 [(.tmp 19), (.con (.int .i64 20))]), none⟩, ⟨(some 21), (.bin .add .plain (.con (.int .i64 6)) (.tmp 20)), none⟩, ⟨(some 22), (.build [(.int .i64 0), (.bool false), (.int .i64 0), (.str []), (.str []), (.str []), .nils] [(0, 1, (.tmp 21))]), none⟩, ⟨(some 5), (.alloc [(.int .i64 0), (.bool false), (.int .i64 0), (.str []), (.str []), (.str []), .nils]), none⟩, ⟨none, (.store 7 (.tmp 5) (.tmp 22)), none⟩])
 (.seq (.reg [⟨(some 6), (.mv (.con (.int .i64 2))), none⟩])
 (.seq (.seq (.reg [⟨(some 23), (.faddr 0 (.tmp 5)), none⟩, ⟨(some 24), (.load false 1 (.tmp 23)), none⟩])
 (.block 0
 (.seq (.reg [⟨(some 26), (.bin .eql .plain (.tmp 24) (.con (.int .i64 6))), none⟩, ⟨(some 25), (.mv (.tmp 26)), none⟩])
 (.cond (.tmp 25)
 (.reg [⟨(some 27), (.faddr 3 (.tmp 2)), none⟩, ⟨(some 28), (.load false 1 (.tmp 27)), none⟩, ⟨(some 29), (.lenL (.tmp 28)), none⟩, ⟨(some 30), (.mn [(.tmp 29), (.con (.int .i64 8))]), none⟩, ⟨(some 6), (.mv (.tmp 30)), none⟩])
 (.seq (.seq (.reg [⟨(some 32), (.bin .eql .plain (.tmp 24) (.con (.int .i64 7))), none⟩, ⟨(some 31), (.mv (.tmp 32)), none⟩])
 (.cond (.tmp 31)
 .skip
 (.reg [⟨(some 33), (.bin .eql .plain (.tmp 24) (.con (.int .i64 8))), none⟩, ⟨(some 31), (.mv (.tmp 33)), none⟩])))
 (.cond (.tmp 31)
 (.reg [⟨(some 34), (.faddr 1 (.tmp 2)), none⟩, ⟨(some 35), (.load false 1 (.tmp 34)), none⟩, ⟨(some 36), (.call 34 [(.tmp 35)]), none⟩, ⟨(some 6), (.mv (.con (.int .i64 1))), none⟩, ⟨(some 37), (.faddr 3 (.tmp 5)), none⟩, ⟨none, (.store 1 (.tmp 37) (.tmp 36)), none⟩])
 (.seq (.reg [⟨(some 39), (.bin .eql .plain (.tmp 24) (.con (.int .i64 10))), none⟩, ⟨(some 38), (.mv (.tmp 39)), none⟩])
 (.cond (.tmp 38)
 (.reg [⟨(some 40), (.faddr 2 (.tmp 2)), none⟩, ⟨(some 41), (.load false 1 (.tmp 40)), none⟩, ⟨(some 42), (.call 35 [(.tmp 41)]), none⟩, ⟨(some 6), (.mv (.con (.int .i64 1))), none⟩, ⟨(some 43), (.faddr 3 (.tmp 5)), none⟩, ⟨none, (.store 1 (.tmp 43) (.tmp 42)), none⟩])
 (.seq (.seq (.reg [⟨(some 45), (.bin .eql .plain (.tmp 24) (.con (.int .i64 11))), none⟩, ⟨(some 44), (.mv (.tmp 45)), none⟩])
 (.cond (.tmp 44)
 .skip
 (.reg [⟨(some 46), (.bin .eql .plain (.tmp 24) (.con (.int .i64 12))), none⟩, ⟨(some 44), (.mv (.tmp 46)), none⟩])))
 (.cond (.tmp 44)
 (.reg [⟨(some 6), (.mv (.con (.int .i64 1))), none⟩])
 (.seq (.reg [⟨(some 48), (.bin .eql .plain (.tmp 24) (.con (.int .i64 25))), none⟩, ⟨(some 47), (.mv (.tmp 48)), none⟩])
 (.cond (.tmp 47)
 (.reg [⟨(some 6), (.mv (.con (.int .i64 3))), none⟩])
 .skip))))))))))))
 (.seq (.seq (.reg [⟨(some 7), (.mv (.con (.int .i64 0))), none⟩])
 (.block 1
 (.loop (.seq (.seq (.reg [⟨(some 49), (.mv (.tmp 7)), none⟩, ⟨(some 50), (.mv (.tmp 6)), none⟩, ⟨(some 51), (.bin .lss .plain (.tmp 49) (.tmp 50)), none⟩])
 (.cond (.tmp 51)
 .skip
 (.exit 1)))
 (.seq (.block 2
 (.dreg [⟨(some 54), (.faddr 6 (.tmp 5)), none⟩, ⟨(some 55), (.load false 1 (.tmp 54)), none⟩, ⟨(some 56), (.faddr 3 (.tmp 2)), none⟩, ⟨(some 57), (.load false 1 (.tmp 56)), none⟩, ⟨(some 58), (.mv (.tmp 7)), none⟩, ⟨(some 59), (.faddr 3 (.tmp 2)), none⟩, ⟨(some 60), (.load false 1 (.tmp 59)), none⟩, ⟨(some 61), (.lenL (.tmp 60)), none⟩, ⟨(some 62), (.bin .rem .plain (.tmp 58) (.tmp 61)), none⟩, ⟨(some 63), (.iaddr 4 (.tmp 57) (.tmp 62)), none⟩, ⟨(some 64), (.load true 4 (.tmp 63)), none⟩, ⟨(some 65), (.mv (.tmp 1)), none⟩, ⟨(some 66), (.bin .sub .plain (.tmp 65) (.con (.int .i64 1))), none⟩, ⟨(some 67), (.call 14 [(.tmp 64), (.tmp 66)]), none⟩, ⟨(some 68), (.bslice 7 1 [(.int .i64 0), (.bool false), (.int .i64 0), (.str []), (.str []), (.str []), .nils] [(0, 7, (.tmp 67))]), none⟩, ⟨(some 69), (.append 7 96 (.tmp 55) (.tmp 68)), none⟩, ⟨(some 70), (.faddr 6 (.tmp 5)), none⟩, ⟨none, (.store 1 (.tmp 70) (.tmp 69)), none⟩] [13, 14, 15, 17] [0, 1, 0, 4, 0, 0, 32, 96, 240, 508, 1020, 0, 2048, 8188, 16380, 32767, 65535, 131071] []))
 (.reg [⟨(some 52), (.mv (.tmp 7)), none⟩, ⟨(some 53), (.bin .add .plain (.tmp 52) (.con (.int .i64 1))), none⟩, ⟨(some 7), (.mv (.tmp 53)), none⟩]))))))
 (.seq (.reg [⟨(some 71), (.load true 7 (.tmp 5)), none⟩, ⟨none, (.store 7 (.tmp 4) (.tmp 71)), none⟩])
 .ret)))))))
def ac14 : AFun := ⟨2, 72, ab14, [(.cell 4 true 7)]⟩
theorem cf14 : compF Try.prog Try.f14 = some ac14 := by kernel_rfl
theorem cl14 : callable Try.prog 14 = true := by kernel_rfl
theorem fn14 : Try.prog.funcs[14]? = some Try.f14 := by kernel_rfl
/- chancel/chancellaw11.env -/
def ab15 : ACode := (.seq (.reg [⟨(some 2), (.box (.tmp 0)), none⟩, ⟨(some 4), (.alloc [(.str []), (.str []), (.str [])]), none⟩, ⟨(some 5), (.mv (.con (.bool false))), none⟩])
 (.seq (.reg [⟨(some 7), (.load true 2 (.tmp 2)), none⟩, ⟨(some 8), (.build [(.bool false), (.int .i64 0), (.str []), (.str []), (.int .i64 0), (.str []), (.str []), (.int .i64 0), (.str []), (.str []), .nils] []), none⟩, ⟨(some 9), (.call 25 [(.tmp 7), (.tmp 8)]), none⟩, ⟨(some 6), (.mv (.tmp 9)), none⟩])
 (.seq (.seq (.reg [⟨(some 10), (.mv (.tmp 6)), none⟩, ⟨(some 11), (.lenL (.tmp 10)), none⟩, ⟨(some 12), (.bin .eql .plain (.tmp 11) (.con (.int .i64 0))), none⟩])
 (.cond (.tmp 12)
 (.seq (.reg [⟨(some 13), (.build [(.str []), (.str []), (.str [])] []), none⟩, ⟨none, (.store 3 (.tmp 4) (.tmp 13)), none⟩, ⟨(some 5), (.mv (.con (.bool false))), none⟩])
 .ret)
 .skip))
 (.seq (.reg [⟨(some 14), (.mv (.tmp 6)), none⟩, ⟨(some 15), (.mv (.tmp 1)), none⟩, ⟨(some 16), (.mv (.tmp 6)), none⟩, ⟨(some 17), (.lenL (.tmp 16)), none⟩, ⟨(some 18), (.call 21 [(.tmp 15), (.tmp 17)]), none⟩, ⟨(some 19), (.iaddr 3 (.tmp 14) (.tmp 18)), none⟩, ⟨(some 20), (.load true 3 (.tmp 19)), none⟩, ⟨none, (.store 3 (.tmp 4) (.tmp 20)), none⟩, ⟨(some 5), (.mv (.con (.bool true))), none⟩])
 .ret))))
def ac15 : AFun := ⟨2, 21, ab15, [(.cell 4 true 3), (.tmp 5)]⟩
theorem cf15 : compF Try.prog Try.f15 = some ac15 := by kernel_rfl
theorem cl15 : callable Try.prog 15 = true := by kernel_rfl
theorem fn15 : Try.prog.funcs[15]? = some Try.f15 := by kernel_rfl
/- chancel/chancellaw11.of -/
def ab16 : ACode := (.seq (.reg [⟨(some 3), (.box (.tmp 0)), none⟩, ⟨(some 4), (.box (.tmp 1)), none⟩, ⟨(some 5), (.box (.tmp 2)), none⟩, ⟨(some 6), (.mv (.con (.bool false))), none⟩])
 (.seq (.reg [⟨(some 12), (.load true 2 (.tmp 3)), none⟩, ⟨(some 13), (.faddr 0 (.tmp 4)), none⟩, ⟨(some 14), (.load false 1 (.tmp 13)), none⟩, ⟨(some 15), (.faddr 1 (.tmp 4)), none⟩, ⟨(some 16), (.load false 1 (.tmp 15)), none⟩, ⟨(some 17), (.faddr 2 (.tmp 4)), none⟩, ⟨(some 18), (.load false 1 (.tmp 17)), none⟩, ⟨(some 19), (.build [(.str []), (.str []), (.str [])] [(0, 1, (.tmp 14)), (1, 1, (.tmp 16)), (2, 1, (.tmp 18))]), none⟩, ⟨(some 20), (.load true 7 (.tmp 5)), none⟩, ⟨(some 21), (.call 20 [(.tmp 12), (.tmp 19), (.tmp 20)]), none⟩, ⟨(some 11), (.mv (.tmp 21)), none⟩, ⟨(some 22), (.ext (.tmp 11) 0), none⟩, ⟨(some 23), (.ext (.tmp 11) 1), none⟩, ⟨(some 7), (.alloc [(.int .i64 0), (.int .i64 0), (.str [])]), none⟩, ⟨none, (.store 3 (.tmp 7) (.tmp 22)), none⟩, ⟨(some 8), (.mv (.tmp 23)), none⟩])
 (.seq (.reg [⟨(some 25), (.load true 2 (.tmp 3)), none⟩, ⟨(some 26), (.load true 3 (.tmp 4)), none⟩, ⟨(some 27), (.load true 7 (.tmp 5)), none⟩, ⟨(some 28), (.call 36 [(.tmp 25), (.tmp 26), (.tmp 27)]), none⟩, ⟨(some 24), (.mv (.tmp 28)), none⟩, ⟨(some 29), (.ext (.tmp 24) 0), none⟩, ⟨(some 30), (.ext (.tmp 24) 1), none⟩, ⟨(some 9), (.alloc [(.int .i64 0), (.int .i64 0), (.str [])]), none⟩, ⟨none, (.store 3 (.tmp 9) (.tmp 29)), none⟩, ⟨(some 10), (.mv (.tmp 30)), none⟩])
 (.seq (.reg [⟨(some 31), (.load true 3 (.tmp 7)), none⟩, ⟨(some 32), (.load true 3 (.tmp 9)), none⟩, ⟨(some 33), (.bin .eql (.agg [.i, .i, .s]) (.tmp 31) (.tmp 32)), none⟩, ⟨(some 34), (.mv (.tmp 33)), none⟩, ⟨(some 35), (.mv (.tmp 8)), (some (34, true))⟩, ⟨(some 36), (.mv (.tmp 10)), (some (34, true))⟩, ⟨(some 37), (.bin .eql .plain (.tmp 35) (.tmp 36)), (some (34, true))⟩, ⟨(some 38), (.pick (.tmp 34) (.tmp 37) (.con (.bool false))), none⟩, ⟨(some 6), (.mv (.tmp 38)), none⟩])
 .ret))))
def ac16 : AFun := ⟨3, 39, ab16, [(.tmp 6)]⟩
theorem cf16 : compF Try.prog Try.f16 = some ac16 := by kernel_rfl
theorem cl16 : callable Try.prog 16 = true := by kernel_rfl
theorem fn16 : Try.prog.funcs[16]? = some Try.f16 := by kernel_rfl
/- chancel/chancellaw11.Few -/
def ab17 : ACode := (.seq (.reg [⟨(some 2), (.box (.tmp 0)), none⟩, ⟨(some 4), (.mv (.con (.int .i64 0))), none⟩])
 (.seq (.seq (.reg [⟨(some 6), (.mv (.tmp 1)), none⟩, ⟨(some 7), (.bin .leq .plain (.tmp 6) (.con (.int .i64 0))), none⟩, ⟨(some 8), (.mv (.tmp 7)), none⟩, ⟨(some 9), (.faddr 3 (.tmp 2)), (some (8, false))⟩, ⟨(some 10), (.load false 1 (.tmp 9)), (some (8, false))⟩, ⟨(some 11), (.lenL (.tmp 10)), (some (8, false))⟩, ⟨(some 12), (.bin .gtr .plain (.tmp 11) (.con (.int .i64 10))), (some (8, false))⟩, ⟨(some 13), (.pick (.tmp 8) (.con (.bool true)) (.tmp 12)), none⟩, ⟨(some 14), (.mv (.tmp 13)), none⟩, ⟨(some 15), (.faddr 2 (.tmp 2)), (some (14, false))⟩, ⟨(some 16), (.load false 1 (.tmp 15)), (some (14, false))⟩, ⟨(some 17), (.lenL (.tmp 16)), (some (14, false))⟩, ⟨(some 18), (.bin .gtr .plain (.tmp 17) (.con (.int .i64 60))), (some (14, false))⟩, ⟨(some 19), (.pick (.tmp 14) (.con (.bool true)) (.tmp 18)), none⟩])
 (.cond (.tmp 19)
 (.seq (.reg [⟨(some 4), (.mv (.con (.int .i64 0))), none⟩])
 .ret)
 .skip))
 (.seq (.reg [⟨(some 20), (.mv (.tmp 1)), none⟩, ⟨(some 21), (.bin .sub .plain (.tmp 20) (.con (.int .i64 1))), none⟩, ⟨(some 1), (.mv (.tmp 21)), none⟩])
 (.seq (.seq (.reg [⟨(some 5), (.mv (.con (.int .i64 0))), none⟩])
 (.block 0
 (.loop (.seq (.seq (.reg [⟨(some 22), (.mv (.tmp 5)), none⟩, ⟨(some 23), (.faddr 3 (.tmp 2)), none⟩, ⟨(some 24), (.load false 1 (.tmp 23)), none⟩, ⟨(some 25), (.lenL (.tmp 24)), none⟩, ⟨(some 26), (.bin .lss .plain (.tmp 22) (.tmp 25)), none⟩, ⟨(some 27), (.mv (.tmp 26)), none⟩, ⟨(some 28), (.mv (.tmp 1)), (some (27, true))⟩, ⟨(some 29), (.bin .gtr .plain (.tmp 28) (.con (.int .i64 0))), (some (27, true))⟩, ⟨(some 30), (.pick (.tmp 27) (.tmp 29) (.con (.bool false))), none⟩])
 (.cond (.tmp 30)
 .skip
 (.exit 0)))
 (.seq (.block 1
 (.reg [⟨(some 33), (.faddr 3 (.tmp 2)), none⟩, ⟨(some 34), (.load false 1 (.tmp 33)), none⟩, ⟨(some 35), (.mv (.tmp 5)), none⟩, ⟨(some 36), (.iaddr 4 (.tmp 34) (.tmp 35)), none⟩, ⟨(some 37), (.load true 4 (.tmp 36)), none⟩, ⟨(some 38), (.mv (.tmp 1)), none⟩, ⟨(some 39), (.call 17 [(.tmp 37), (.tmp 38)]), none⟩, ⟨(some 1), (.mv (.tmp 39)), none⟩]))
 (.reg [⟨(some 31), (.mv (.tmp 5)), none⟩, ⟨(some 32), (.bin .add .plain (.tmp 31) (.con (.int .i64 1))), none⟩, ⟨(some 5), (.mv (.tmp 32)), none⟩]))))))
 (.seq (.reg [⟨(some 40), (.mv (.tmp 1)), none⟩, ⟨(some 4), (.mv (.tmp 40)), none⟩])
 .ret)))))
def ac17 : AFun := ⟨2, 41, ab17, [(.tmp 4)]⟩
theorem cf17 : compF Try.prog Try.f17 = some ac17 := by kernel_rfl
theorem cl17 : callable Try.prog 17 = true := by kernel_rfl
theorem fn17 : Try.prog.funcs[17]? = some Try.f17 := by kernel_rfl
/- (chancel/chancellaw11.maker).some -/
def ab18 : ACode := (.seq (.reg [⟨(some 2), (.box (.tmp 0)), none⟩, ⟨(some 4), (.alloc [(.int .i64 0), (.int .i64 0), (.str [])]), none⟩])
 (.seq (.seq (.reg [⟨(some 5), (.mv (.tmp 1)), none⟩, ⟨(some 6), (.call 21 [(.tmp 5), (.con (.int .i64 5))]), none⟩])
 (.block 0
 (.seq (.reg [⟨(some 8), (.bin .eql .plain (.tmp 6) (.con (.int .i64 0))), none⟩, ⟨(some 7), (.mv (.tmp 8)), none⟩])
 (.cond (.tmp 7)
 (.seq (.reg [⟨(some 9), (.build [(.int .i64 0), (.int .i64 0), (.str [])] [(0, 1, (.con (.int .i64 1)))]), none⟩, ⟨none, (.store 3 (.tmp 4) (.tmp 9)), none⟩])
 .ret)
 (.seq (.reg [⟨(some 11), (.bin .eql .plain (.tmp 6) (.con (.int .i64 1))), none⟩, ⟨(some 10), (.mv (.tmp 11)), none⟩])
 (.cond (.tmp 10)
 (.seq (.reg [⟨(some 12), (.build [(.int .i64 0), (.int .i64 0), (.str [])] [(0, 1, (.con (.int .i64 2)))]), none⟩, ⟨none, (.store 3 (.tmp 4) (.tmp 12)), none⟩])
 .ret)
 (.seq (.reg [⟨(some 14), (.bin .eql .plain (.tmp 6) (.con (.int .i64 2))), none⟩, ⟨(some 13), (.mv (.tmp 14)), none⟩])
 (.cond (.tmp 13)
 (.seq (.reg [⟨(some 15), (.build [(.int .i64 0), (.int .i64 0), (.str [])] [(0, 1, (.con (.int .i64 3)))]), none⟩, ⟨none, (.store 3 (.tmp 4) (.tmp 15)), none⟩])
 .ret)
 (.seq (.reg [⟨(some 17), (.bin .eql .plain (.tmp 6) (.con (.int .i64 3))), none⟩, ⟨(some 16), (.mv (.tmp 17)), none⟩])
 (.cond (.tmp 16)
 (.seq (.reg [⟨(some 18), (.faddr 2 (.tmp 2)), none⟩, ⟨(some 19), (.faddr 0 (.tmp 18)), none⟩, ⟨(some 20), (.load false 1 (.tmp 19)), none⟩, ⟨(some 21), (.build [(.int .i64 0), (.int .i64 0), (.str [])] [(0, 1, (.con (.int .i64 4))), (2, 1, (.tmp 20))]), none⟩, ⟨none, (.store 3 (.tmp 4) (.tmp 21)), none⟩])
 .ret)
 .skip))))))))))
 (.seq (.reg [⟨(some 22), (.faddr 2 (.tmp 2)), none⟩, ⟨(some 23), (.faddr 2 (.tmp 22)), none⟩, ⟨(some 24), (.load false 1 (.tmp 23)), none⟩, ⟨(some 25), (.build [(.int .i64 0), (.int .i64 0), (.str [])] [(0, 1, (.con (.int .i64 4))), (2, 1, (.tmp 24))]), none⟩, ⟨none, (.store 3 (.tmp 4) (.tmp 25)), none⟩])
 .ret)))
def ac18 : AFun := ⟨2, 26, ab18, [(.cell 4 true 3)]⟩
theorem cf18 : compF Try.prog Try.f18 = some ac18 := by kernel_rfl
theorem cl18 : callable Try.prog 18 = true := by kernel_rfl
theorem fn18 : Try.prog.funcs[18]? = some Try.f18 := by kernel_rfl
/- (chancel/chancellaw11.maker).of -/
def ab19 : ACode := (.seq (.reg [⟨(some 3), (.box (.tmp 0)), none⟩, ⟨(some 4), (.box (.tmp 1)), none⟩, ⟨(some 5), (.box (.tmp 2)), none⟩, ⟨(some 6), (.alloc [(.int .i64 0), (.bool false), (.int .i64 0), (.str []), (.str []), (.str []), .nils]), none⟩])
 (.seq (.reg [⟨(some 7), (.faddr 0 (.tmp 3)), none⟩, ⟨(some 8), (.load true 2 (.tmp 7)), none⟩, ⟨(some 9), (.faddr 2 (.tmp 3)), none⟩, ⟨(some 10), (.load true 3 (.tmp 9)), none⟩, ⟨(some 11), (.load true 3 (.tmp 4)), none⟩, ⟨(some 12), (.load true 4 (.tmp 5)), none⟩, ⟨(some 13), (.faddr 5 (.tmp 3)), none⟩, ⟨(some 14), (.load false 1 (.tmp 13)), none⟩, ⟨(some 15), (.call 37 [(.tmp 8), (.tmp 10), (.tmp 11), (.tmp 12), (.tmp 14)]), none⟩, ⟨none, (.store 7 (.tmp 6) (.tmp 15)), none⟩])
 .ret))
def ac19 : AFun := ⟨3, 16, ab19, [(.cell 6 true 7)]⟩
theorem cf19 : compF Try.prog Try.f19 = some ac19 := by kernel_rfl
theorem cl19 : callable Try.prog 19 = true := by kernel_rfl
theorem fn19 : Try.prog.funcs[19]? = some Try.f19 := by kernel_rfl
/- chancel/types.Of -/
def ab20 : ACode := (.seq (.reg [⟨(some 3), (.box (.tmp 0)), none⟩, ⟨(some 4), (.box (.tmp 1)), none⟩, ⟨(some 5), (.box (.tmp 2)), none⟩, ⟨(some 6), (.alloc [(.int .i64 0), (.int .i64 0), (.str [])]), none⟩, ⟨(some 7), (.mv (.con (.int .i64 0))), none⟩])
 (.seq (.reg [⟨(some 8), (.mv (.con .nils)), none⟩])
 (.seq (.seq (.reg [⟨(some 13), (.faddr 6 (.tmp 5)), none⟩, ⟨(some 14), (.load false 1 (.tmp 13)), none⟩, ⟨(some 15), (.lenL (.tmp 14)), none⟩, ⟨(some 16), (.mv (.con (.int .i64 0))), none⟩])
 (.block 0
 (.loop (.seq (.reg [⟨(some 17), (.bin .lss .plain (.tmp 16) (.tmp 15)), none⟩])
 (.seq (.cond (.tmp 17)
 .skip
 (.exit 0))
 (.seq (.block 1
 (.seq (.reg [⟨(some 18), (.iaddr 7 (.tmp 14) (.tmp 16)), none⟩, ⟨(some 19), (.load true 7 (.tmp 18)), none⟩, ⟨(some 10), (.alloc [(.int .i64 0), (.bool false), (.int .i64 0), (.str []), (.str []), (.str []), .nils]), none⟩, ⟨none, (.store 7 (.tmp 10) (.tmp 19)), none⟩])
 (.seq (.reg [⟨(some 21), (.load true 2 (.tmp 3)), none⟩, ⟨(some 22), (.load true 3 (.tmp 4)), none⟩, ⟨(some 23), (.load true 7 (.tmp 10)), none⟩, ⟨(some 24), (.call 20 [(.tmp 21), (.tmp 22), (.tmp 23)]), none⟩, ⟨(some 20), (.mv (.tmp 24)), none⟩, ⟨(some 25), (.ext (.tmp 20) 0), none⟩, ⟨(some 26), (.ext (.tmp 20) 1), none⟩, ⟨(some 11), (.alloc [(.int .i64 0), (.int .i64 0), (.str [])]), none⟩, ⟨none, (.store 3 (.tmp 11) (.tmp 25)), none⟩, ⟨(some 12), (.mv (.tmp 26)), none⟩])
 (.seq (.seq (.reg [⟨(some 27), (.mv (.tmp 12)), none⟩, ⟨(some 28), (.bin .neq .plain (.tmp 27) (.con (.int .i64 0))), none⟩])
 (.cond (.tmp 28)
 (.seq (.reg [⟨(some 29), (.build [(.int .i64 0), (.int .i64 0), (.str [])] []), none⟩, ⟨(some 30), (.mv (.tmp 12)), none⟩, ⟨none, (.store 3 (.tmp 6) (.tmp 29)), none⟩, ⟨(some 7), (.mv (.tmp 30)), none⟩])
 .ret)
 .skip))
 (.reg [⟨(some 31), (.mv (.tmp 8)), none⟩, ⟨(some 32), (.load true 3 (.tmp 11)), none⟩, ⟨(some 33), (.bslice 3 1 [(.int .i64 0), (.int .i64 0), (.str [])] [(0, 3, (.tmp 32))]), none⟩, ⟨(some 34), (.append 3 32 (.tmp 31) (.tmp 33)), none⟩, ⟨(some 8), (.mv (.tmp 34)), none⟩])))))
 (.reg [⟨(some 35), (.bin .add .plain (.tmp 16) (.con (.int .i64 1))), none⟩, ⟨(some 16), (.mv (.tmp 35)), none⟩])))))))
 (.seq (.seq (.reg [⟨(some 36), (.faddr 0 (.tmp 5)), none⟩, ⟨(some 37), (.load false 1 (.tmp 36)), none⟩, ⟨(some 38), (.bin .lss .plain (.tmp 37) (.con (.int .i64 6))), none⟩])
 (.cond (.tmp 38)
 (.seq (.reg [⟨(some 39), (.load true 2 (.tmp 3)), none⟩, ⟨(some 40), (.load true 3 (.tmp 4)), none⟩, ⟨(some 41), (.load true 7 (.tmp 5)), none⟩, ⟨(some 42), (.call 38 [(.tmp 39), (.tmp 40), (.tmp 41)]), none⟩, ⟨(some 43), (.ext (.tmp 42) 0), none⟩, ⟨(some 44), (.ext (.tmp 42) 1), none⟩, ⟨none, (.store 3 (.tmp 6) (.tmp 43)), none⟩, ⟨(some 7), (.mv (.tmp 44)), none⟩])
 .ret)
 .skip))
 (.seq (.seq (.reg [⟨(some 45), (.load true 7 (.tmp 5)), none⟩, ⟨(some 46), (.call 39 [(.tmp 45)]), none⟩, ⟨(some 47), (.mv (.tmp 46)), none⟩, ⟨(some 48), (.faddr 0 (.tmp 5)), (some (47, false))⟩, ⟨(some 49), (.load false 1 (.tmp 48)), (some (47, false))⟩, ⟨(some 50), (.bin .gtr .plain (.tmp 49) (.con (.int .i64 25))), (some (47, false))⟩, ⟨(some 51), (.pick (.tmp 47) (.con (.bool true)) (.tmp 50)), none⟩])
 (.cond (.tmp 51)
 (.seq (.reg [⟨(some 52), (.build [(.int .i64 0), (.int .i64 0), (.str [])] []), none⟩, ⟨none, (.store 3 (.tmp 6) (.tmp 52)), none⟩, ⟨(some 7), (.mv (.con (.int .i64 16))), none⟩])
 .ret)
 .skip))
 (.seq (.reg [⟨(some 53), (.load true 2 (.tmp 3)), none⟩, ⟨(some 54), (.load true 7 (.tmp 5)), none⟩, ⟨(some 55), (.mv (.tmp 8)), none⟩, ⟨(some 56), (.call 40 [(.tmp 53), (.tmp 54), (.tmp 55)]), none⟩, ⟨(some 57), (.ext (.tmp 56) 0), none⟩, ⟨(some 58), (.ext (.tmp 56) 1), none⟩, ⟨none, (.store 3 (.tmp 6) (.tmp 57)), none⟩, ⟨(some 7), (.mv (.tmp 58)), none⟩])
 .ret))))))
def ac20 : AFun := ⟨3, 59, ab20, [(.cell 6 true 3), (.tmp 7)]⟩
theorem cf20 : compF Try.prog Try.f20 = some ac20 := by kernel_rfl
theorem cl20 : callable Try.prog 20 = true := by kernel_rfl
theorem fn20 : Try.prog.funcs[20]? = some Try.f20 := by kernel_rfl
/- chancel/chancellaw11.within -/
def ab21 : ACode := (.seq (.reg [⟨(some 4), (.mv (.con (.int .i64 0))), none⟩])
 (.seq (.reg [⟨(some 6), (.mv (.tmp 0)), none⟩, ⟨(some 7), (.mv (.tmp 1)), none⟩, ⟨(some 8), (.bin .rem .plain (.tmp 6) (.tmp 7)), none⟩, ⟨(some 5), (.mv (.tmp 8)), none⟩])
 (.seq (.seq (.reg [⟨(some 9), (.mv (.tmp 5)), none⟩, ⟨(some 10), (.bin .lss .plain (.tmp 9) (.con (.int .i64 0))), none⟩])
 (.cond (.tmp 10)
 (.reg [⟨(some 11), (.mv (.tmp 5)), none⟩, ⟨(some 12), (.mv (.tmp 1)), none⟩, ⟨(some 13), (.bin .add .plain (.tmp 11) (.tmp 12)), none⟩, ⟨(some 5), (.mv (.tmp 13)), none⟩])
 .skip))
 (.seq (.reg [⟨(some 14), (.mv (.tmp 5)), none⟩, ⟨(some 4), (.mv (.tmp 14)), none⟩])
 .ret))))
def ac21 : AFun := ⟨2, 15, ab21, [(.tmp 4)]⟩
theorem cf21 : compF Try.prog Try.f21 = some ac21 := by kernel_rfl
theorem cl21 : callable Try.prog 21 = true := by kernel_rfl
theorem fn21 : Try.prog.funcs[21]? = some Try.f21 := by kernel_rfl
/- chancel/types.Envs -/
def ab22 : ACode := (.seq (.reg [⟨(some 2), (.box (.tmp 0)), none⟩, ⟨(some 3), (.box (.tmp 1)), none⟩, ⟨(some 4), (.mv (.con .nils)), none⟩])
 (.seq (.reg [⟨(some 5), (.mv (.con .nils)), none⟩])
 (.seq (.seq (.reg [⟨(some 12), (.faddr 1 (.tmp 2)), none⟩, ⟨(some 13), (.load false 1 (.tmp 12)), none⟩, ⟨(some 14), (.lenL (.tmp 13)), none⟩, ⟨(some 15), (.mv (.con (.int .i64 0))), none⟩])
 (.block 0
 (.loop (.seq (.reg [⟨(some 16), (.bin .lss .plain (.tmp 15) (.tmp 14)), none⟩])
 (.seq (.cond (.tmp 16)
 .skip
 (.exit 0))
 (.seq (.block 1
 (.seq (.reg [⟨(some 17), (.iaddr 3 (.tmp 13) (.tmp 15)), none⟩, ⟨(some 18), (.load true 3 (.tmp 17)), none⟩, ⟨(some 7), (.alloc [(.str []), .nils, .nils]), none⟩, ⟨none, (.store 3 (.tmp 7) (.tmp 18)), none⟩])
 (.seq (.seq (.reg [⟨(some 19), (.faddr 4 (.tmp 3)), none⟩, ⟨(some 20), (.faddr 0 (.tmp 19)), none⟩, ⟨(some 21), (.load false 1 (.tmp 20)), none⟩, ⟨(some 22), (.bin .neq .plain (.tmp 21) (.con (.int .i64 0))), none⟩, ⟨(some 23), (.mv (.tmp 22)), none⟩, ⟨(some 24), (.faddr 4 (.tmp 3)), (some (23, true))⟩, ⟨(some 25), (.faddr 1 (.tmp 24)), (some (23, true))⟩, ⟨(some 26), (.load true 2 (.tmp 25)), (some (23, true))⟩, ⟨(some 27), (.faddr 0 (.tmp 7)), (some (23, true))⟩, ⟨(some 28), (.load false 1 (.tmp 27)), (some (23, true))⟩, ⟨(some 29), (.build [(.str []), (.str [])] [(0, 1, (.con (.str [65, 99, 116, 105, 111, 110]))), (1, 1, (.tmp 28))]), (some (23, true))⟩, ⟨(some 30), (.bin .neq (.agg [.s, .s]) (.tmp 26) (.tmp 29)), (some (23, true))⟩, ⟨(some 31), (.pick (.tmp 23) (.tmp 30) (.con (.bool false))), none⟩])
 (.cond (.tmp 31)
 (.exit 1)
 .skip))
 (.seq (.reg [⟨(some 32), (.faddr 1 (.tmp 7)), none⟩, ⟨(some 33), (.load false 1 (.tmp 32)), none⟩, ⟨(some 34), (.lenL (.tmp 33)), none⟩, ⟨(some 35), (.mv (.con (.int .i64 0))), none⟩])
 (.block 2
 (.loop (.seq (.reg [⟨(some 36), (.bin .lss .plain (.tmp 35) (.tmp 34)), none⟩])
 (.seq (.cond (.tmp 36)
 .skip
 (.exit 2))
 (.seq (.block 3
 (.seq (.reg [⟨(some 37), (.iaddr 1 (.tmp 33) (.tmp 35)), none⟩, ⟨(some 38), (.load false 1 (.tmp 37)), none⟩, ⟨(some 9), (.mv (.tmp 38)), none⟩])
 (.seq (.reg [⟨(some 39), (.faddr 2 (.tmp 7)), none⟩, ⟨(some 40), (.load false 1 (.tmp 39)), none⟩, ⟨(some 41), (.lenL (.tmp 40)), none⟩, ⟨(some 42), (.mv (.con (.int .i64 0))), none⟩])
 (.block 4
 (.loop (.seq (.reg [⟨(some 43), (.bin .lss .plain (.tmp 42) (.tmp 41)), none⟩])
 (.seq (.cond (.tmp 43)
 .skip
 (.exit 4))
 (.seq (.block 5
 (.seq (.reg [⟨(some 44), (.iaddr 1 (.tmp 40) (.tmp 42)), none⟩, ⟨(some 45), (.load false 1 (.tmp 44)), none⟩, ⟨(some 11), (.mv (.tmp 45)), none⟩])
 (.seq (.reg [⟨(some 46), (.faddr 1 (.tmp 3)), none⟩, ⟨(some 47), (.load true 3 (.tmp 46)), none⟩, ⟨(some 48), (.mv (.tmp 9)), none⟩, ⟨(some 49), (.call 41 [(.tmp 47), (.tmp 48)]), none⟩, ⟨(some 50), (.mv (.tmp 49)), none⟩, ⟨(some 51), (.faddr 7 (.tmp 3)), (some (50, true))⟩, ⟨(some 52), (.load true 3 (.tmp 51)), (some (50, true))⟩, ⟨(some 53), (.mv (.tmp 11)), (some (50, true))⟩, ⟨(some 54), (.call 41 [(.tmp 52), (.tmp 53)]), (some (50, true))⟩, ⟨(some 55), (.pick (.tmp 50) (.tmp 54) (.con (.bool false))), none⟩])
 (.cond (.tmp 55)
 (.reg [⟨(some 56), (.mv (.tmp 5)), none⟩, ⟨(some 57), (.mv (.tmp 9)), none⟩, ⟨(some 58), (.faddr 0 (.tmp 7)), none⟩, ⟨(some 59), (.load false 1 (.tmp 58)), none⟩, ⟨(some 60), (.mv (.tmp 11)), none⟩, ⟨(some 61), (.build [(.str []), (.str []), (.str [])] [(0, 1, (.tmp 57)), (1, 1, (.tmp 59)), (2, 1, (.tmp 60))]), none⟩, ⟨(some 62), (.bslice 3 1 [(.str []), (.str []), (.str [])] [(0, 3, (.tmp 61))]), none⟩, ⟨(some 63), (.append 3 48 (.tmp 56) (.tmp 62)), none⟩, ⟨(some 5), (.mv (.tmp 63)), none⟩])
 .skip))))
 (.reg [⟨(some 64), (.bin .add .plain (.tmp 42) (.con (.int .i64 1))), none⟩, ⟨(some 42), (.mv (.tmp 64)), none⟩])))))))))
 (.reg [⟨(some 65), (.bin .add .plain (.tmp 35) (.con (.int .i64 1))), none⟩, ⟨(some 35), (.mv (.tmp 65)), none⟩]))))))))))
 (.reg [⟨(some 66), (.bin .add .plain (.tmp 15) (.con (.int .i64 1))), none⟩, ⟨(some 15), (.mv (.tmp 66)), none⟩])))))))
 (.seq (.reg [⟨(some 67), (.mv (.tmp 5)), none⟩, ⟨(some 4), (.mv (.tmp 67)), none⟩])
 .ret))))
def ac22 : AFun := ⟨2, 68, ab22, [(.tmp 4)]⟩
theorem cf22 : compF Try.prog Try.f22 = some ac22 := by kernel_rfl
theorem cl22 : callable Try.prog 22 = true := by kernel_rfl
theorem fn22 : Try.prog.funcs[22]? = some Try.f22 := by kernel_rfl
/- chancel/chancellaw5.Uid -/
def ab23 : ACode := (.seq (.reg [⟨(some 4), (.alloc [(.str []), (.str [])]), none⟩])
 (.seq (.dreg [⟨(some 5), (.bslice 1 5 [(.str [])] [(0, 1, (.con (.str [85, 115, 101, 114]))), (1, 1, (.con (.str [71, 114, 111, 117, 112]))), (2, 1, (.con (.str [68, 111, 99]))), (3, 1, (.con (.str [65, 99, 116, 105, 111, 110]))), (4, 1, (.con (.str [105, 102])))]), none⟩, ⟨(some 6), (.mv (.tmp 0)), none⟩, ⟨(some 7), (.call 33 [(.tmp 6), (.con (.int .i64 5))]), none⟩, ⟨(some 8), (.iaddr 1 (.tmp 5) (.tmp 7)), none⟩, ⟨(some 9), (.load false 1 (.tmp 8)), none⟩, ⟨(some 10), (.mv (.tmp 1)), none⟩, ⟨(some 11), (.call 35 [(.tmp 10)]), none⟩, ⟨(some 12), (.build [(.str []), (.str [])] [(0, 1, (.tmp 9)), (1, 1, (.tmp 11))]), none⟩, ⟨none, (.store 2 (.tmp 4) (.tmp 12)), none⟩] [2, 6, 8] [0, 0, 2, 7, 15, 0, 38, 127, 255] [0])
 .ret))
def ac23 : AFun := ⟨2, 13, ab23, [(.cell 4 true 2)]⟩
theorem cf23 : compF Try.prog Try.f23 = some ac23 := by kernel_rfl
theorem cl23 : callable Try.prog 23 = true := by kernel_rfl
theorem fn23 : Try.prog.funcs[23]? = some Try.f23 := by kernel_rfl
/- chancel/chancellaw5.Policy -/
def ab24 : ACode := (.seq (.reg [⟨(some 8), (.alloc [(.bool false), (.int .i64 0), (.str []), (.str []), (.int .i64 0), (.str []), (.str []), (.int .i64 0), (.str []), (.str []), .nils]), none⟩])
 (.seq (.reg [⟨(some 13), (.mv (.tmp 0)), none⟩, ⟨(some 14), (.bin .rem .plain (.tmp 13) (.con (.int .i64 2))), none⟩, ⟨(some 15), (.bin .eql .plain (.tmp 14) (.con (.int .i64 1))), none⟩, ⟨(some 16), (.build [(.bool false), (.int .i64 0), (.str []), (.str []), (.int .i64 0), (.str []), (.str []), (.int .i64 0), (.str []), (.str []), .nils] [(0, 1, (.tmp 15))]), none⟩, ⟨(some 9), (.alloc [(.bool false), (.int .i64 0), (.str []), (.str []), (.int .i64 0), (.str []), (.str []), (.int .i64 0), (.str []), (.str []), .nils]), none⟩, ⟨none, (.store 11 (.tmp 9) (.tmp 16)), none⟩])
 (.seq (.reg [⟨(some 17), (.faddr 1 (.tmp 9)), none⟩, ⟨(some 18), (.faddr 4 (.tmp 9)), none⟩, ⟨(some 19), (.faddr 7 (.tmp 9)), none⟩, ⟨(some 20), (.bslice 1 3 [.nilp] [(0, 1, (.tmp 17)), (1, 1, (.tmp 18)), (2, 1, (.tmp 19))]), none⟩, ⟨(some 10), (.mv (.tmp 20)), none⟩])
 (.seq (.seq (.reg [⟨(some 11), (.mv (.con (.int .i64 0))), none⟩])
 (.block 0
 (.loop (.seq (.seq (.reg [⟨(some 21), (.mv (.tmp 11)), none⟩, ⟨(some 22), (.bin .lss .plain (.tmp 21) (.con (.int .i64 3))), none⟩, ⟨(some 23), (.mv (.tmp 22)), none⟩, ⟨(some 24), (.mv (.tmp 11)), (some (23, true))⟩, ⟨(some 25), (.mv (.tmp 1)), (some (23, true))⟩, ⟨(some 26), (.lenL (.tmp 25)), (some (23, true))⟩, ⟨(some 27), (.bin .lss .plain (.tmp 24) (.tmp 26)), (some (23, true))⟩, ⟨(some 28), (.pick (.tmp 23) (.tmp 27) (.con (.bool false))), none⟩])
 (.cond (.tmp 28)
 .skip
 (.exit 0)))
 (.seq (.block 1
 (.seq (.dreg [⟨(some 31), (.mv (.tmp 10)), none⟩, ⟨(some 32), (.mv (.tmp 11)), none⟩, ⟨(some 33), (.iaddr 1 (.tmp 31) (.tmp 32)), none⟩, ⟨(some 34), (.load false 1 (.tmp 33)), none⟩, ⟨(some 35), (.mv (.tmp 1)), none⟩, ⟨(some 36), (.mv (.tmp 11)), none⟩, ⟨(some 37), (.iaddr 1 (.tmp 35) (.tmp 36)), none⟩, ⟨(some 38), (.load false 1 (.tmp 37)), none⟩, ⟨(some 39), (.call 33 [(.tmp 38), (.con (.int .i64 3))]), none⟩, ⟨(some 40), (.nilck (.tmp 34)), none⟩, ⟨(some 41), (.faddr 0 (.tmp 40)), none⟩, ⟨none, (.store 1 (.tmp 41) (.tmp 39)), none⟩] [8, 11] [0, 0, 3, 7, 0, 0, 48, 112, 240, 511, 1023, 2047] [])
 (.seq (.reg [⟨(some 42), (.mv (.tmp 10)), none⟩, ⟨(some 43), (.mv (.tmp 11)), none⟩, ⟨(some 44), (.iaddr 1 (.tmp 42) (.tmp 43)), none⟩, ⟨(some 45), (.load false 1 (.tmp 44)), none⟩, ⟨(some 46), (.nilck (.tmp 45)), none⟩, ⟨(some 47), (.faddr 0 (.tmp 46)), none⟩, ⟨(some 48), (.load false 1 (.tmp 47)), none⟩, ⟨(some 49), (.bin .neq .plain (.tmp 48) (.con (.int .i64 0))), none⟩])
 (.cond (.tmp 49)
 (.dreg [⟨(some 50), (.mv (.tmp 10)), none⟩, ⟨(some 51), (.mv (.tmp 11)), none⟩, ⟨(some 52), (.iaddr 1 (.tmp 50) (.tmp 51)), none⟩, ⟨(some 53), (.load false 1 (.tmp 52)), none⟩, ⟨(some 54), (.mv (.tmp 1)), none⟩, ⟨(some 55), (.mv (.tmp 11)), none⟩, ⟨(some 56), (.iaddr 1 (.tmp 54) (.tmp 55)), none⟩, ⟨(some 57), (.load false 1 (.tmp 56)), none⟩, ⟨(some 58), (.bin .quo .plain (.tmp 57) (.con (.int .i64 3))), none⟩, ⟨(some 59), (.mv (.tmp 2)), none⟩, ⟨(some 60), (.call 23 [(.tmp 58), (.tmp 59)]), none⟩, ⟨(some 61), (.nilck (.tmp 53)), none⟩, ⟨(some 62), (.faddr 1 (.tmp 61)), none⟩, ⟨none, (.store 2 (.tmp 62) (.tmp 60)), none⟩] [10, 13] [0, 0, 3, 7, 0, 0, 48, 112, 240, 0, 1008, 2047, 4095, 8191] [])
 .skip))))
 (.reg [⟨(some 29), (.mv (.tmp 11)), none⟩, ⟨(some 30), (.bin .add .plain (.tmp 29) (.con (.int .i64 1))), none⟩, ⟨(some 11), (.mv (.tmp 30)), none⟩]))))))
 (.seq (.seq (.reg [⟨(some 12), (.mv (.con (.int .i64 0))), none⟩])
 (.block 2
 (.loop (.seq (.seq (.reg [⟨(some 63), (.mv (.tmp 12)), none⟩, ⟨(some 64), (.mv (.tmp 3)), none⟩, ⟨(some 65), (.lenL (.tmp 64)), none⟩, ⟨(some 66), (.bin .lss .plain (.tmp 63) (.tmp 65)), none⟩, ⟨(some 67), (.mv (.tmp 66)), none⟩, ⟨(some 68), (.mv (.tmp 12)), (some (67, true))⟩, ⟨(some 69), (.bin .lss .plain (.tmp 68) (.con (.int .i64 4))), (some (67, true))⟩, ⟨(some 70), (.pick (.tmp 67) (.tmp 69) (.con (.bool false))), none⟩])
 (.cond (.tmp 70)
 .skip
 (.exit 2)))
 (.seq (.block 3
 (.dreg [⟨(some 73), (.faddr 10 (.tmp 9)), none⟩, ⟨(some 74), (.load false 1 (.tmp 73)), none⟩, ⟨(some 75), (.mv (.tmp 0)), none⟩, ⟨(some 76), (.mv (.tmp 12)), none⟩, ⟨(some 77), (.bin .shr .plain (.tmp 75) (.tmp 76)), none⟩, ⟨(some 78), (.call 33 [(.tmp 77), (.con (.int .i64 2))]), none⟩, ⟨(some 79), (.bin .eql .plain (.tmp 78) (.con (.int .i64 1))), none⟩, ⟨(some 80), (.mv (.tmp 3)), none⟩, ⟨(some 81), (.mv (.tmp 12)), none⟩, ⟨(some 82), (.iaddr 4 (.tmp 80) (.tmp 81)), none⟩, ⟨(some 83), (.load true 4 (.tmp 82)), none⟩, ⟨(some 84), (.call 14 [(.tmp 83), (.con (.int .i64 10))]), none⟩, ⟨(some 85), (.build [(.bool false), (.int .i64 0), (.bool false), (.int .i64 0), (.str []), (.str []), (.str []), .nils] [(0, 1, (.tmp 79)), (1, 7, (.tmp 84))]), none⟩, ⟨(some 86), (.bslice 8 1 [(.bool false), (.int .i64 0), (.bool false), (.int .i64 0), (.str []), (.str []), (.str []), .nils] [(0, 8, (.tmp 85))]), none⟩, ⟨(some 87), (.append 8 104 (.tmp 74) (.tmp 86)), none⟩, ⟨(some 88), (.faddr 10 (.tmp 9)), none⟩, ⟨none, (.store 1 (.tmp 88) (.tmp 87)), none⟩] [5, 11, 13, 14, 16] [0, 1, 0, 0, 12, 28, 60, 0, 0, 384, 896, 1980, 4092, 8188, 16383, 32767, 65535] []))
 (.reg [⟨(some 71), (.mv (.tmp 12)), none⟩, ⟨(some 72), (.bin .add .plain (.tmp 71) (.con (.int .i64 1))), none⟩, ⟨(some 12), (.mv (.tmp 72)), none⟩]))))))
 (.seq (.reg [⟨(some 89), (.load true 11 (.tmp 9)), none⟩, ⟨none, (.store 11 (.tmp 8) (.tmp 89)), none⟩])
 .ret))))))
def ac24 : AFun := ⟨4, 90, ab24, [(.cell 8 true 11)]⟩
theorem cf24 : compF Try.prog Try.f24 = some ac24 := by kernel_rfl
theorem cl24 : callable Try.prog 24 = true := by kernel_rfl
theorem fn24 : Try.prog.funcs[24]? = some Try.f24 := by kernel_rfl
/- chancel/chancelref11.Envs -/
def ab25 : ACode := (.seq (.reg [⟨(some 2), (.box (.tmp 0)), none⟩, ⟨(some 3), (.box (.tmp 1)), none⟩, ⟨(some 4), (.mv (.con .nils)), none⟩])
 (.seq (.reg [⟨(some 5), (.mv (.con .nils)), none⟩])
 (.seq (.seq (.reg [⟨(some 6), (.mv (.con (.int .i64 0))), none⟩])
 (.block 0
 (.loop (.seq (.seq (.reg [⟨(some 10), (.mv (.tmp 6)), none⟩, ⟨(some 11), (.faddr 1 (.tmp 2)), none⟩, ⟨(some 12), (.load false 1 (.tmp 11)), none⟩, ⟨(some 13), (.lenL (.tmp 12)), none⟩, ⟨(some 14), (.bin .lss .plain (.tmp 10) (.tmp 13)), none⟩])
 (.cond (.tmp 14)
 .skip
 (.exit 0)))
 (.seq (.block 1
 (.seq (.reg [⟨(some 17), (.faddr 1 (.tmp 2)), none⟩, ⟨(some 18), (.load false 1 (.tmp 17)), none⟩, ⟨(some 19), (.mv (.tmp 6)), none⟩, ⟨(some 20), (.iaddr 3 (.tmp 18) (.tmp 19)), none⟩, ⟨(some 21), (.load true 3 (.tmp 20)), none⟩, ⟨(some 7), (.alloc [(.str []), .nils, .nils]), none⟩, ⟨none, (.store 3 (.tmp 7) (.tmp 21)), none⟩])
 (.seq (.seq (.reg [⟨(some 22), (.faddr 4 (.tmp 3)), none⟩, ⟨(some 23), (.faddr 0 (.tmp 22)), none⟩, ⟨(some 24), (.load false 1 (.tmp 23)), none⟩, ⟨(some 25), (.bin .neq .plain (.tmp 24) (.con (.int .i64 0))), none⟩, ⟨(some 26), (.mv (.tmp 25)), none⟩, ⟨(some 27), (.faddr 4 (.tmp 3)), (some (26, true))⟩, ⟨(some 28), (.faddr 1 (.tmp 27)), (some (26, true))⟩, ⟨(some 29), (.load true 2 (.tmp 28)), (some (26, true))⟩, ⟨(some 30), (.faddr 0 (.tmp 7)), (some (26, true))⟩, ⟨(some 31), (.load false 1 (.tmp 30)), (some (26, true))⟩, ⟨(some 32), (.build [(.str []), (.str [])] [(0, 1, (.con (.str [65, 99, 116, 105, 111, 110]))), (1, 1, (.tmp 31))]), (some (26, true))⟩, ⟨(some 33), (.bin .neq (.agg [.s, .s]) (.tmp 29) (.tmp 32)), (some (26, true))⟩, ⟨(some 34), (.pick (.tmp 26) (.tmp 33) (.con (.bool false))), none⟩])
 (.cond (.tmp 34)
 (.exit 1)
 .skip))
 (.seq (.reg [⟨(some 8), (.mv (.con (.int .i64 0))), none⟩])
 (.block 2
 (.loop (.seq (.seq (.reg [⟨(some 35), (.mv (.tmp 8)), none⟩, ⟨(some 36), (.faddr 1 (.tmp 7)), none⟩, ⟨(some 37), (.load false 1 (.tmp 36)), none⟩, ⟨(some 38), (.lenL (.tmp 37)), none⟩, ⟨(some 39), (.bin .lss .plain (.tmp 35) (.tmp 38)), none⟩])
 (.cond (.tmp 39)
 .skip
 (.exit 2)))
 (.seq (.block 3
 (.seq (.reg [⟨(some 9), (.mv (.con (.int .i64 0))), none⟩])
 (.block 4
 (.loop (.seq (.seq (.reg [⟨(some 42), (.mv (.tmp 9)), none⟩, ⟨(some 43), (.faddr 2 (.tmp 7)), none⟩, ⟨(some 44), (.load false 1 (.tmp 43)), none⟩, ⟨(some 45), (.lenL (.tmp 44)), none⟩, ⟨(some 46), (.bin .lss .plain (.tmp 42) (.tmp 45)), none⟩])
 (.cond (.tmp 46)
 .skip
 (.exit 4)))
 (.seq (.block 5
 (.seq (.dreg [⟨(some 49), (.faddr 1 (.tmp 3)), none⟩, ⟨(some 50), (.faddr 0 (.tmp 49)), none⟩, ⟨(some 51), (.load false 1 (.tmp 50)), none⟩, ⟨(some 52), (.bin .neq .plain (.tmp 51) (.con (.int .i64 1))), none⟩, ⟨(some 53), (.mv (.tmp 52)), none⟩, ⟨(some 54), (.faddr 1 (.tmp 3)), (some (53, false))⟩, ⟨(some 55), (.faddr 1 (.tmp 54)), (some (53, false))⟩, ⟨(some 56), (.faddr 0 (.tmp 55)), (some (53, false))⟩, ⟨(some 57), (.load false 1 (.tmp 56)), (some (53, false))⟩, ⟨(some 58), (.faddr 1 (.tmp 7)), (some (53, false))⟩, ⟨(some 59), (.load false 1 (.tmp 58)), (some (53, false))⟩, ⟨(some 60), (.mv (.tmp 8)), (some (53, false))⟩, ⟨(some 61), (.iaddr 1 (.tmp 59) (.tmp 60)), (some (53, false))⟩, ⟨(some 62), (.load false 1 (.tmp 61)), (some (53, false))⟩, ⟨(some 63), (.bin .eql .plain (.tmp 57) (.tmp 62)), (some (53, false))⟩, ⟨(some 64), (.pick (.tmp 53) (.con (.bool true)) (.tmp 63)), none⟩, ⟨(some 65), (.mv (.tmp 64)), none⟩, ⟨(some 66), (.faddr 7 (.tmp 3)), (some (65, true))⟩, ⟨(some 67), (.faddr 0 (.tmp 66)), (some (65, true))⟩, ⟨(some 68), (.load false 1 (.tmp 67)), (some (65, true))⟩, ⟨(some 69), (.bin .neq .plain (.tmp 68) (.con (.int .i64 1))), (some (65, true))⟩, ⟨(some 70), (.mv (.tmp 69)), (some (65, true))⟩, ⟨(some 71), (.faddr 7 (.tmp 3)), (some (70, false))⟩, ⟨(some 72), (.faddr 1 (.tmp 71)), (some (70, false))⟩, ⟨(some 73), (.faddr 0 (.tmp 72)), (some (70, false))⟩, ⟨(some 74), (.load false 1 (.tmp 73)), (some (70, false))⟩, ⟨(some 75), (.faddr 2 (.tmp 7)), (some (70, false))⟩, ⟨(some 76), (.load false 1 (.tmp 75)), (some (70, false))⟩, ⟨(some 77), (.mv (.tmp 9)), (some (70, false))⟩, ⟨(some 78), (.iaddr 1 (.tmp 76) (.tmp 77)), (some (70, false))⟩, ⟨(some 79), (.load false 1 (.tmp 78)), (some (70, false))⟩, ⟨(some 80), (.bin .eql .plain (.tmp 74) (.tmp 79)), (some (70, false))⟩, ⟨(some 81), (.pick (.tmp 70) (.con (.bool true)) (.tmp 80)), (some (65, true))⟩, ⟨(some 82), (.pick (.tmp 65) (.tmp 81) (.con (.bool false))), none⟩] [] [0, 1, 3, 7, 15, 31, 63, 127, 255, 31, 543, 31, 3615, 7711, 16383, 32767, 65535, 131071, 262143, 524287, 1048575, 2097151, 4194303, 8388607, 16777215, 33554431, 4194303, 71303167, 4194303, 473956351, 1010827263, 2147483647, 4294967295, 8589934591] [])
 (.cond (.tmp 82)
 (.dreg [⟨(some 83), (.mv (.tmp 5)), none⟩, ⟨(some 84), (.faddr 1 (.tmp 7)), none⟩, ⟨(some 85), (.load false 1 (.tmp 84)), none⟩, ⟨(some 86), (.mv (.tmp 8)), none⟩, ⟨(some 87), (.iaddr 1 (.tmp 85) (.tmp 86)), none⟩, ⟨(some 88), (.load false 1 (.tmp 87)), none⟩, ⟨(some 89), (.faddr 0 (.tmp 7)), none⟩, ⟨(some 90), (.load false 1 (.tmp 89)), none⟩, ⟨(some 91), (.faddr 2 (.tmp 7)), none⟩, ⟨(some 92), (.load false 1 (.tmp 91)), none⟩, ⟨(some 93), (.mv (.tmp 9)), none⟩, ⟨(some 94), (.iaddr 1 (.tmp 92) (.tmp 93)), none⟩, ⟨(some 95), (.load false 1 (.tmp 94)), none⟩, ⟨(some 96), (.build [(.str []), (.str []), (.str [])] [(0, 1, (.tmp 88)), (1, 1, (.tmp 90)), (2, 1, (.tmp 95))]), none⟩, ⟨(some 97), (.bslice 3 1 [(.str []), (.str []), (.str [])] [(0, 3, (.tmp 96))]), none⟩, ⟨(some 98), (.append 3 48 (.tmp 83) (.tmp 97)), none⟩, ⟨(some 5), (.mv (.tmp 98)), none⟩] [14, 15] [0, 0, 2, 0, 14, 30, 0, 64, 0, 256, 0, 1792, 3840, 8190, 16382, 32767, 65535] [])
 .skip)))
 (.reg [⟨(some 47), (.mv (.tmp 9)), none⟩, ⟨(some 48), (.bin .add .plain (.tmp 47) (.con (.int .i64 1))), none⟩, ⟨(some 9), (.mv (.tmp 48)), none⟩])))))))
 (.reg [⟨(some 40), (.mv (.tmp 8)), none⟩, ⟨(some 41), (.bin .add .plain (.tmp 40) (.con (.int .i64 1))), none⟩, ⟨(some 8), (.mv (.tmp 41)), none⟩])))))))))
 (.reg [⟨(some 15), (.mv (.tmp 6)), none⟩, ⟨(some 16), (.bin .add .plain (.tmp 15) (.con (.int .i64 1))), none⟩, ⟨(some 6), (.mv (.tmp 16)), none⟩]))))))
 (.seq (.reg [⟨(some 99), (.mv (.tmp 5)), none⟩, ⟨(some 4), (.mv (.tmp 99)), none⟩])
 .ret))))
def ac25 : AFun := ⟨2, 100, ab25, [(.tmp 4)]⟩
theorem cf25 : compF Try.prog Try.f25 = some ac25 := by kernel_rfl
theorem cl25 : callable Try.prog 25 = true := by kernel_rfl
theorem fn25 : Try.prog.funcs[25]? = some Try.f25 := by kernel_rfl
/- chancel/types.Check -/
def ab26 : ACode := (.seq (.reg [⟨(some 2), (.box (.tmp 0)), none⟩, ⟨(some 3), (.box (.tmp 1)), none⟩, ⟨(some 4), (.mv (.con (.int .i64 0))), none⟩])
 (.seq (.seq (.reg [⟨(some 14), (.faddr 1 (.tmp 3)), none⟩, ⟨(some 15), (.load true 3 (.tmp 14)), none⟩, ⟨(some 16), (.faddr 4 (.tmp 3)), none⟩, ⟨(some 17), (.load true 3 (.tmp 16)), none⟩, ⟨(some 18), (.faddr 7 (.tmp 3)), none⟩, ⟨(some 19), (.load true 3 (.tmp 18)), none⟩, ⟨(some 20), (.bslice 3 3 [(.int .i64 0), (.str []), (.str [])] [(0, 3, (.tmp 15)), (3, 3, (.tmp 17)), (6, 3, (.tmp 19))]), none⟩, ⟨(some 21), (.lenL (.tmp 20)), none⟩, ⟨(some 22), (.mv (.con (.int .i64 0))), none⟩])
 (.block 0
 (.loop (.seq (.reg [⟨(some 23), (.bin .lss .plain (.tmp 22) (.tmp 21)), none⟩])
 (.seq (.cond (.tmp 23)
 .skip
 (.exit 0))
 (.seq (.block 1
 (.seq (.reg [⟨(some 24), (.iaddr 3 (.tmp 20) (.tmp 22)), none⟩, ⟨(some 25), (.load true 3 (.tmp 24)), none⟩, ⟨(some 6), (.alloc [(.int .i64 0), (.str []), (.str [])]), none⟩, ⟨none, (.store 3 (.tmp 6) (.tmp 25)), none⟩])
 (.seq (.reg [⟨(some 26), (.faddr 0 (.tmp 6)), none⟩, ⟨(some 27), (.load false 1 (.tmp 26)), none⟩, ⟨(some 28), (.bin .neq .plain (.tmp 27) (.con (.int .i64 0))), none⟩, ⟨(some 29), (.mv (.tmp 28)), none⟩, ⟨(some 30), (.load true 2 (.tmp 2)), (some (29, true))⟩, ⟨(some 31), (.faddr 1 (.tmp 6)), (some (29, true))⟩, ⟨(some 32), (.load true 2 (.tmp 31)), (some (29, true))⟩, ⟨(some 33), (.call 42 [(.tmp 30), (.tmp 32)]), (some (29, true))⟩, ⟨(some 34), (.un .not (.tmp 33)), (some (29, true))⟩, ⟨(some 35), (.pick (.tmp 29) (.tmp 34) (.con (.bool false))), none⟩])
 (.cond (.tmp 35)
 (.seq (.reg [⟨(some 4), (.mv (.con (.int .i64 15))), none⟩])
 .ret)
 .skip))))
 (.reg [⟨(some 36), (.bin .add .plain (.tmp 22) (.con (.int .i64 1))), none⟩, ⟨(some 22), (.mv (.tmp 36)), none⟩])))))))
 (.seq (.reg [⟨(some 37), (.load true 2 (.tmp 2)), none⟩, ⟨(some 38), (.load true 11 (.tmp 3)), none⟩, ⟨(some 39), (.call 22 [(.tmp 37), (.tmp 38)]), none⟩, ⟨(some 7), (.mv (.tmp 39)), none⟩])
 (.seq (.seq (.reg [⟨(some 40), (.mv (.tmp 7)), none⟩, ⟨(some 41), (.lenL (.tmp 40)), none⟩, ⟨(some 42), (.bin .eql .plain (.tmp 41) (.con (.int .i64 0))), none⟩])
 (.cond (.tmp 42)
 (.seq (.reg [⟨(some 4), (.mv (.con (.int .i64 2))), none⟩])
 .ret)
 .skip))
 (.seq (.seq (.reg [⟨(some 43), (.mv (.tmp 7)), none⟩, ⟨(some 44), (.lenL (.tmp 43)), none⟩, ⟨(some 45), (.mv (.con (.int .i64 0))), none⟩])
 (.block 2
 (.loop (.seq (.reg [⟨(some 46), (.bin .lss .plain (.tmp 45) (.tmp 44)), none⟩])
 (.seq (.cond (.tmp 46)
 .skip
 (.exit 2))
 (.seq (.block 3
 (.seq (.reg [⟨(some 47), (.iaddr 3 (.tmp 43) (.tmp 45)), none⟩, ⟨(some 48), (.load true 3 (.tmp 47)), none⟩, ⟨(some 9), (.alloc [(.str []), (.str []), (.str [])]), none⟩, ⟨none, (.store 3 (.tmp 9) (.tmp 48)), none⟩])
 (.seq (.reg [⟨(some 49), (.faddr 10 (.tmp 3)), none⟩, ⟨(some 50), (.load false 1 (.tmp 49)), none⟩, ⟨(some 51), (.lenL (.tmp 50)), none⟩, ⟨(some 52), (.mv (.con (.int .i64 0))), none⟩])
 (.block 4
 (.loop (.seq (.reg [⟨(some 53), (.bin .lss .plain (.tmp 52) (.tmp 51)), none⟩])
 (.seq (.cond (.tmp 53)
 .skip
 (.exit 4))
 (.seq (.block 5
 (.seq (.reg [⟨(some 54), (.iaddr 8 (.tmp 50) (.tmp 52)), none⟩, ⟨(some 55), (.load true 8 (.tmp 54)), none⟩, ⟨(some 11), (.alloc [(.bool false), (.int .i64 0), (.bool false), (.int .i64 0), (.str []), (.str []), (.str []), .nils]), none⟩, ⟨none, (.store 8 (.tmp 11) (.tmp 55)), none⟩])
 (.seq (.reg [⟨(some 57), (.load true 2 (.tmp 2)), none⟩, ⟨(some 58), (.load true 3 (.tmp 9)), none⟩, ⟨(some 59), (.faddr 1 (.tmp 11)), none⟩, ⟨(some 60), (.load true 7 (.tmp 59)), none⟩, ⟨(some 61), (.call 20 [(.tmp 57), (.tmp 58), (.tmp 60)]), none⟩, ⟨(some 56), (.mv (.tmp 61)), none⟩, ⟨(some 62), (.ext (.tmp 56) 0), none⟩, ⟨(some 63), (.ext (.tmp 56) 1), none⟩, ⟨(some 12), (.alloc [(.int .i64 0), (.int .i64 0), (.str [])]), none⟩, ⟨none, (.store 3 (.tmp 12) (.tmp 62)), none⟩, ⟨(some 13), (.mv (.tmp 63)), none⟩])
 (.seq (.seq (.reg [⟨(some 64), (.mv (.tmp 13)), none⟩, ⟨(some 65), (.bin .neq .plain (.tmp 64) (.con (.int .i64 0))), none⟩])
 (.cond (.tmp 65)
 (.seq (.reg [⟨(some 66), (.mv (.tmp 13)), none⟩, ⟨(some 4), (.mv (.tmp 66)), none⟩])
 .ret)
 .skip))
 (.seq (.reg [⟨(some 67), (.faddr 0 (.tmp 12)), none⟩, ⟨(some 68), (.load false 1 (.tmp 67)), none⟩, ⟨(some 69), (.bin .neq .plain (.tmp 68) (.con (.int .i64 1))), none⟩])
 (.cond (.tmp 69)
 (.seq (.reg [⟨(some 4), (.mv (.con (.int .i64 16))), none⟩])
 .ret)
 .skip))))))
 (.reg [⟨(some 70), (.bin .add .plain (.tmp 52) (.con (.int .i64 1))), none⟩, ⟨(some 52), (.mv (.tmp 70)), none⟩])))))))))
 (.reg [⟨(some 71), (.bin .add .plain (.tmp 45) (.con (.int .i64 1))), none⟩, ⟨(some 45), (.mv (.tmp 71)), none⟩])))))))
 (.seq (.reg [⟨(some 4), (.mv (.con (.int .i64 0))), none⟩])
 .ret))))))
def ac26 : AFun := ⟨2, 72, ab26, [(.tmp 4)]⟩
theorem cf26 : compF Try.prog Try.f26 = some ac26 := by kernel_rfl
theorem cl26 : callable Try.prog 26 = true := by kernel_rfl
theorem fn26 : Try.prog.funcs[26]? = some Try.f26 := by kernel_rfl
/- chancel/chancelref11.Check -/
def ab27 : ACode := (.seq (.reg [⟨(some 2), (.box (.tmp 0)), none⟩, ⟨(some 3), (.box (.tmp 1)), none⟩, ⟨(some 4), (.mv (.con (.int .i64 0))), none⟩])
 (.seq (.reg [⟨(some 12), (.faddr 1 (.tmp 3)), none⟩, ⟨(some 13), (.load true 3 (.tmp 12)), none⟩, ⟨(some 14), (.faddr 4 (.tmp 3)), none⟩, ⟨(some 15), (.load true 3 (.tmp 14)), none⟩, ⟨(some 16), (.faddr 7 (.tmp 3)), none⟩, ⟨(some 17), (.load true 3 (.tmp 16)), none⟩, ⟨(some 18), (.bslice 3 3 [(.int .i64 0), (.str []), (.str [])] [(0, 3, (.tmp 13)), (3, 3, (.tmp 15)), (6, 3, (.tmp 17))]), none⟩, ⟨(some 5), (.mv (.tmp 18)), none⟩])
 (.seq (.seq (.reg [⟨(some 6), (.mv (.con (.int .i64 0))), none⟩])
 (.block 0
 (.loop (.seq (.seq (.reg [⟨(some 19), (.mv (.tmp 6)), none⟩, ⟨(some 20), (.bin .lss .plain (.tmp 19) (.con (.int .i64 3))), none⟩])
 (.cond (.tmp 20)
 .skip
 (.exit 0)))
 (.seq (.block 1
 (.seq (.dreg [⟨(some 23), (.mv (.tmp 5)), none⟩, ⟨(some 24), (.mv (.tmp 6)), none⟩, ⟨(some 25), (.iaddr 3 (.tmp 23) (.tmp 24)), none⟩, ⟨(some 26), (.faddr 0 (.tmp 25)), none⟩, ⟨(some 27), (.load false 1 (.tmp 26)), none⟩, ⟨(some 28), (.bin .neq .plain (.tmp 27) (.con (.int .i64 0))), none⟩, ⟨(some 29), (.mv (.tmp 28)), none⟩, ⟨(some 30), (.load true 2 (.tmp 2)), (some (29, true))⟩, ⟨(some 31), (.mv (.tmp 5)), (some (29, true))⟩, ⟨(some 32), (.mv (.tmp 6)), (some (29, true))⟩, ⟨(some 33), (.iaddr 3 (.tmp 31) (.tmp 32)), (some (29, true))⟩, ⟨(some 34), (.faddr 1 (.tmp 33)), (some (29, true))⟩, ⟨(some 35), (.load true 2 (.tmp 34)), (some (29, true))⟩, ⟨(some 36), (.call 43 [(.tmp 30), (.tmp 35)]), (some (29, true))⟩, ⟨(some 37), (.un .not (.tmp 36)), (some (29, true))⟩, ⟨(some 38), (.pick (.tmp 29) (.tmp 37) (.con (.bool false))), none⟩] [13] [0, 0, 3, 7, 15, 31, 63, 127, 127, 127, 895, 1919, 3967, 8191, 16383, 32767] [])
 (.cond (.tmp 38)
 (.seq (.reg [⟨(some 4), (.mv (.con (.int .i64 15))), none⟩])
 .ret)
 .skip)))
 (.reg [⟨(some 21), (.mv (.tmp 6)), none⟩, ⟨(some 22), (.bin .add .plain (.tmp 21) (.con (.int .i64 1))), none⟩, ⟨(some 6), (.mv (.tmp 22)), none⟩]))))))
 (.seq (.reg [⟨(some 39), (.load true 2 (.tmp 2)), none⟩, ⟨(some 40), (.load true 11 (.tmp 3)), none⟩, ⟨(some 41), (.call 25 [(.tmp 39), (.tmp 40)]), none⟩, ⟨(some 7), (.mv (.tmp 41)), none⟩])
 (.seq (.seq (.reg [⟨(some 42), (.mv (.tmp 7)), none⟩, ⟨(some 43), (.lenL (.tmp 42)), none⟩, ⟨(some 44), (.bin .eql .plain (.tmp 43) (.con (.int .i64 0))), none⟩])
 (.cond (.tmp 44)
 (.seq (.reg [⟨(some 4), (.mv (.con (.int .i64 2))), none⟩])
 .ret)
 .skip))
 (.seq (.seq (.reg [⟨(some 8), (.mv (.con (.int .i64 0))), none⟩])
 (.block 2
 (.loop (.seq (.seq (.reg [⟨(some 45), (.mv (.tmp 8)), none⟩, ⟨(some 46), (.mv (.tmp 7)), none⟩, ⟨(some 47), (.lenL (.tmp 46)), none⟩, ⟨(some 48), (.bin .lss .plain (.tmp 45) (.tmp 47)), none⟩])
 (.cond (.tmp 48)
 .skip
 (.exit 2)))
 (.seq (.block 3
 (.seq (.reg [⟨(some 9), (.mv (.con (.int .i64 0))), none⟩])
 (.block 4
 (.loop (.seq (.seq (.reg [⟨(some 51), (.mv (.tmp 9)), none⟩, ⟨(some 52), (.faddr 10 (.tmp 3)), none⟩, ⟨(some 53), (.load false 1 (.tmp 52)), none⟩, ⟨(some 54), (.lenL (.tmp 53)), none⟩, ⟨(some 55), (.bin .lss .plain (.tmp 51) (.tmp 54)), none⟩])
 (.cond (.tmp 55)
 .skip
 (.exit 4)))
 (.seq (.block 5
 (.seq (.dreg [⟨(some 59), (.load true 2 (.tmp 2)), none⟩, ⟨(some 60), (.mv (.tmp 7)), none⟩, ⟨(some 61), (.mv (.tmp 8)), none⟩, ⟨(some 62), (.iaddr 3 (.tmp 60) (.tmp 61)), none⟩, ⟨(some 63), (.load true 3 (.tmp 62)), none⟩, ⟨(some 64), (.faddr 10 (.tmp 3)), none⟩, ⟨(some 65), (.load false 1 (.tmp 64)), none⟩, ⟨(some 66), (.mv (.tmp 9)), none⟩, ⟨(some 67), (.iaddr 8 (.tmp 65) (.tmp 66)), none⟩, ⟨(some 68), (.faddr 1 (.tmp 67)), none⟩, ⟨(some 69), (.load true 7 (.tmp 68)), none⟩, ⟨(some 70), (.call 36 [(.tmp 59), (.tmp 63), (.tmp 69)]), none⟩, ⟨(some 58), (.mv (.tmp 70)), none⟩, ⟨(some 71), (.ext (.tmp 58) 0), none⟩, ⟨(some 72), (.ext (.tmp 58) 1), none⟩, ⟨(some 10), (.alloc [(.int .i64 0), (.int .i64 0), (.str [])]), none⟩, ⟨none, (.store 3 (.tmp 10) (.tmp 71)), none⟩, ⟨(some 11), (.mv (.tmp 72)), none⟩] [11, 16] [0, 0, 0, 6, 14, 0, 32, 0, 224, 480, 992, 2047, 4095, 8191, 8191, 0, 49151, 131071] [15])
 (.seq (.seq (.reg [⟨(some 73), (.mv (.tmp 11)), none⟩, ⟨(some 74), (.bin .neq .plain (.tmp 73) (.con (.int .i64 0))), none⟩])
 (.cond (.tmp 74)
 (.seq (.reg [⟨(some 75), (.mv (.tmp 11)), none⟩, ⟨(some 4), (.mv (.tmp 75)), none⟩])
 .ret)
 .skip))
 (.seq (.reg [⟨(some 76), (.faddr 0 (.tmp 10)), none⟩, ⟨(some 77), (.load false 1 (.tmp 76)), none⟩, ⟨(some 78), (.bin .neq .plain (.tmp 77) (.con (.int .i64 1))), none⟩])
 (.cond (.tmp 78)
 (.seq (.reg [⟨(some 4), (.mv (.con (.int .i64 16))), none⟩])
 .ret)
 .skip)))))
 (.reg [⟨(some 56), (.mv (.tmp 9)), none⟩, ⟨(some 57), (.bin .add .plain (.tmp 56) (.con (.int .i64 1))), none⟩, ⟨(some 9), (.mv (.tmp 57)), none⟩])))))))
 (.reg [⟨(some 49), (.mv (.tmp 8)), none⟩, ⟨(some 50), (.bin .add .plain (.tmp 49) (.con (.int .i64 1))), none⟩, ⟨(some 8), (.mv (.tmp 50)), none⟩]))))))
 (.seq (.reg [⟨(some 4), (.mv (.con (.int .i64 0))), none⟩])
 .ret)))))))
def ac27 : AFun := ⟨2, 79, ab27, [(.tmp 4)]⟩
theorem cf27 : compF Try.prog Try.f27 = some ac27 := by kernel_rfl
theorem cl27 : callable Try.prog 27 = true := by kernel_rfl
theorem fn27 : Try.prog.funcs[27]? = some Try.f27 := by kernel_rfl
end Go.Proofs.Ytcdbpmmomgehfaa.Va
