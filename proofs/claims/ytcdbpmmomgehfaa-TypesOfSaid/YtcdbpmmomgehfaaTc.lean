/- Functions of the program as resolved code (printed by gen.py from the kernel's own value). Conditions: none. -/
import Derived.Test.YtcdbpmmomgehfaaProg
import Derived.Test.YtcdbpmmomgehfaaVaF
import Derived.KernelRfl
set_option maxRecDepth 100000
set_option maxHeartbeats 4000000
set_option linter.all false
namespace Go.Proofs.Ytcdbpmmomgehfaa.Va
open Go.Proofs
/- chancel/chancellaw11.Policy -/
def ab28 : ACode := (.seq (.reg [⟨(some 4), (.box (.tmp 0)), none⟩, ⟨(some 8), (.alloc [(.bool false), (.int .i64 0), (.str []), (.str []), (.int .i64 0), (.str []), (.str []), (.int .i64 0), (.str []), (.str []), .nils]), none⟩])
 (.seq (.reg [⟨(some 13), (.mv (.tmp 1)), none⟩, ⟨(some 14), (.bin .rem .plain (.tmp 13) (.con (.int .i64 2))), none⟩, ⟨(some 15), (.bin .eql .plain (.tmp 14) (.con (.int .i64 1))), none⟩, ⟨(some 16), (.build [(.bool false), (.int .i64 0), (.str []), (.str []), (.int .i64 0), (.str []), (.str []), (.int .i64 0), (.str []), (.str []), .nils] [(0, 1, (.tmp 15))]), none⟩, ⟨(some 9), (.alloc [(.bool false), (.int .i64 0), (.str []), (.str []), (.int .i64 0), (.str []), (.str []), (.int .i64 0), (.str []), (.str []), .nils]), none⟩, ⟨none, (.store 11 (.tmp 9) (.tmp 16)), none⟩])
 (.seq (.reg [⟨(some 18), (.load true 2 (.tmp 4)), none⟩, ⟨(some 19), (.mv (.tmp 1)), none⟩, ⟨(some 20), (.bin .quo .plain (.tmp 19) (.con (.int .i64 2))), none⟩, ⟨(some 21), (.call 15 [(.tmp 18), (.tmp 20)]), none⟩, ⟨(some 17), (.mv (.tmp 21)), none⟩, ⟨(some 22), (.ext (.tmp 17) 0), none⟩, ⟨(some 23), (.ext (.tmp 17) 1), none⟩, ⟨(some 10), (.alloc [(.str []), (.str []), (.str [])]), none⟩, ⟨none, (.store 3 (.tmp 10) (.tmp 22)), none⟩, ⟨(some 11), (.mv (.tmp 23)), none⟩])
 (.seq (.seq (.reg [⟨(some 24), (.mv (.tmp 11)), none⟩, ⟨(some 25), (.un .not (.tmp 24)), none⟩])
 (.cond (.tmp 25)
 (.seq (.reg [⟨(some 26), (.load true 11 (.tmp 9)), none⟩, ⟨none, (.store 11 (.tmp 8) (.tmp 26)), none⟩])
 .ret)
 .skip))
 (.seq (.seq (.reg [⟨(some 27), (.mv (.tmp 2)), none⟩, ⟨(some 28), (.lenL (.tmp 27)), none⟩, ⟨(some 29), (.bin .gtr .plain (.tmp 28) (.con (.int .i64 0))), none⟩, ⟨(some 30), (.mv (.tmp 29)), none⟩, ⟨(some 31), (.mv (.tmp 2)), (some (30, true))⟩, ⟨(some 32), (.iaddr 1 (.tmp 31) (.con (.int .i64 0))), (some (30, true))⟩, ⟨(some 33), (.load false 1 (.tmp 32)), (some (30, true))⟩, ⟨(some 34), (.bin .rem .plain (.tmp 33) (.con (.int .i64 3))), (some (30, true))⟩, ⟨(some 35), (.bin .gtr .plain (.tmp 34) (.con (.int .i64 0))), (some (30, true))⟩, ⟨(some 36), (.pick (.tmp 30) (.tmp 35) (.con (.bool false))), none⟩])
 (.cond (.tmp 36)
 (.reg [⟨(some 37), (.faddr 1 (.tmp 10)), none⟩, ⟨(some 38), (.load false 1 (.tmp 37)), none⟩, ⟨(some 39), (.build [(.str []), (.str [])] [(0, 1, (.con (.str [65, 99, 116, 105, 111, 110]))), (1, 1, (.tmp 38))]), none⟩, ⟨(some 40), (.build [(.int .i64 0), (.str []), (.str [])] [(0, 1, (.con (.int .i64 1))), (1, 2, (.tmp 39))]), none⟩, ⟨(some 41), (.faddr 4 (.tmp 9)), none⟩, ⟨none, (.store 3 (.tmp 41) (.tmp 40)), none⟩])
 .skip))
 (.seq (.seq (.reg [⟨(some 42), (.mv (.tmp 2)), none⟩, ⟨(some 43), (.lenL (.tmp 42)), none⟩, ⟨(some 44), (.bin .gtr .plain (.tmp 43) (.con (.int .i64 1))), none⟩, ⟨(some 45), (.mv (.tmp 44)), none⟩, ⟨(some 46), (.mv (.tmp 2)), (some (45, true))⟩, ⟨(some 47), (.iaddr 1 (.tmp 46) (.con (.int .i64 1))), (some (45, true))⟩, ⟨(some 48), (.load false 1 (.tmp 47)), (some (45, true))⟩, ⟨(some 49), (.bin .rem .plain (.tmp 48) (.con (.int .i64 3))), (some (45, true))⟩, ⟨(some 50), (.bin .gtr .plain (.tmp 49) (.con (.int .i64 0))), (some (45, true))⟩, ⟨(some 51), (.pick (.tmp 45) (.tmp 50) (.con (.bool false))), none⟩])
 (.cond (.tmp 51)
 (.dreg [⟨(some 52), (.mv (.tmp 2)), none⟩, ⟨(some 53), (.iaddr 1 (.tmp 52) (.con (.int .i64 1))), none⟩, ⟨(some 54), (.load false 1 (.tmp 53)), none⟩, ⟨(some 55), (.bin .rem .plain (.tmp 54) (.con (.int .i64 3))), none⟩, ⟨(some 56), (.faddr 0 (.tmp 10)), none⟩, ⟨(some 57), (.load false 1 (.tmp 56)), none⟩, ⟨(some 58), (.mv (.tmp 2)), none⟩, ⟨(some 59), (.iaddr 1 (.tmp 58) (.con (.int .i64 1))), none⟩, ⟨(some 60), (.load false 1 (.tmp 59)), none⟩, ⟨(some 61), (.bin .quo .plain (.tmp 60) (.con (.int .i64 3))), none⟩, ⟨(some 62), (.call 21 [(.tmp 61), (.con (.int .i64 5))]), none⟩, ⟨(some 63), (.bin .add .plain (.con (.int .i64 97)) (.tmp 62)), none⟩, ⟨(some 64), (.cvInt .u8 (.tmp 63)), none⟩, ⟨(some 65), (.bslice 1 1 [(.int .u8 0)] [(0, 1, (.tmp 64))]), none⟩, ⟨(some 66), (.cvBS (.tmp 65)), none⟩, ⟨(some 67), (.build [(.str []), (.str [])] [(0, 1, (.tmp 57)), (1, 1, (.tmp 66))]), none⟩, ⟨(some 68), (.build [(.int .i64 0), (.str []), (.str [])] [(0, 1, (.tmp 55)), (1, 2, (.tmp 67))]), none⟩, ⟨(some 69), (.faddr 1 (.tmp 9)), none⟩, ⟨none, (.store 3 (.tmp 69) (.tmp 68)), none⟩] [10, 13, 18] [0, 1, 3, 7, 0, 16, 0, 64, 192, 448, 960, 1984, 4032, 8128, 16320, 32752, 65535, 131071, 262143] [])
 .skip))
 (.seq (.seq (.reg [⟨(some 70), (.mv (.tmp 2)), none⟩, ⟨(some 71), (.lenL (.tmp 70)), none⟩, ⟨(some 72), (.bin .gtr .plain (.tmp 71) (.con (.int .i64 2))), none⟩, ⟨(some 73), (.mv (.tmp 72)), none⟩, ⟨(some 74), (.mv (.tmp 2)), (some (73, true))⟩, ⟨(some 75), (.iaddr 1 (.tmp 74) (.con (.int .i64 2))), (some (73, true))⟩, ⟨(some 76), (.load false 1 (.tmp 75)), (some (73, true))⟩, ⟨(some 77), (.bin .rem .plain (.tmp 76) (.con (.int .i64 3))), (some (73, true))⟩, ⟨(some 78), (.bin .gtr .plain (.tmp 77) (.con (.int .i64 0))), (some (73, true))⟩, ⟨(some 79), (.pick (.tmp 73) (.tmp 78) (.con (.bool false))), none⟩])
 (.cond (.tmp 79)
 (.dreg [⟨(some 80), (.mv (.tmp 2)), none⟩, ⟨(some 81), (.iaddr 1 (.tmp 80) (.con (.int .i64 2))), none⟩, ⟨(some 82), (.load false 1 (.tmp 81)), none⟩, ⟨(some 83), (.bin .rem .plain (.tmp 82) (.con (.int .i64 3))), none⟩, ⟨(some 84), (.faddr 2 (.tmp 10)), none⟩, ⟨(some 85), (.load false 1 (.tmp 84)), none⟩, ⟨(some 86), (.mv (.tmp 2)), none⟩, ⟨(some 87), (.iaddr 1 (.tmp 86) (.con (.int .i64 2))), none⟩, ⟨(some 88), (.load false 1 (.tmp 87)), none⟩, ⟨(some 89), (.bin .quo .plain (.tmp 88) (.con (.int .i64 3))), none⟩, ⟨(some 90), (.call 21 [(.tmp 89), (.con (.int .i64 5))]), none⟩, ⟨(some 91), (.bin .add .plain (.con (.int .i64 97)) (.tmp 90)), none⟩, ⟨(some 92), (.cvInt .u8 (.tmp 91)), none⟩, ⟨(some 93), (.bslice 1 1 [(.int .u8 0)] [(0, 1, (.tmp 92))]), none⟩, ⟨(some 94), (.cvBS (.tmp 93)), none⟩, ⟨(some 95), (.build [(.str []), (.str [])] [(0, 1, (.tmp 85)), (1, 1, (.tmp 94))]), none⟩, ⟨(some 96), (.build [(.int .i64 0), (.str []), (.str [])] [(0, 1, (.tmp 83)), (1, 2, (.tmp 95))]), none⟩, ⟨(some 97), (.faddr 7 (.tmp 9)), none⟩, ⟨none, (.store 3 (.tmp 97) (.tmp 96)), none⟩] [10, 13, 18] [0, 1, 3, 7, 0, 16, 0, 64, 192, 448, 960, 1984, 4032, 8128, 16320, 32752, 65535, 131071, 262143] [])
 .skip))
 (.seq (.seq (.reg [⟨(some 12), (.mv (.con (.int .i64 0))), none⟩])
 (.block 0
 (.loop (.seq (.seq (.reg [⟨(some 98), (.mv (.tmp 12)), none⟩, ⟨(some 99), (.mv (.tmp 3)), none⟩, ⟨(some 100), (.lenL (.tmp 99)), none⟩, ⟨(some 101), (.bin .lss .plain (.tmp 98) (.tmp 100)), none⟩, ⟨(some 102), (.mv (.tmp 101)), none⟩, ⟨(some 103), (.mv (.tmp 12)), (some (102, true))⟩, ⟨(some 104), (.bin .lss .plain (.tmp 103) (.con (.int .i64 3))), (some (102, true))⟩, ⟨(some 105), (.pick (.tmp 102) (.tmp 104) (.con (.bool false))), none⟩])
 (.cond (.tmp 105)
 .skip
 (.exit 0)))
 (.seq (.block 1
 (.seq (.reg [⟨(some 108), (.mv (.tmp 3)), none⟩, ⟨(some 109), (.mv (.tmp 12)), none⟩, ⟨(some 110), (.iaddr 4 (.tmp 108) (.tmp 109)), none⟩, ⟨(some 111), (.load true 4 (.tmp 110)), none⟩, ⟨(some 112), (.call 17 [(.tmp 111), (.con (.int .i64 60))]), none⟩, ⟨(some 113), (.bin .gtr .plain (.tmp 112) (.con (.int .i64 0))), none⟩])
 (.cond (.tmp 113)
 (.dreg [⟨(some 114), (.faddr 10 (.tmp 9)), none⟩, ⟨(some 115), (.load false 1 (.tmp 114)), none⟩, ⟨(some 116), (.mv (.tmp 1)), none⟩, ⟨(some 117), (.mv (.tmp 12)), none⟩, ⟨(some 118), (.bin .shr .plain (.tmp 116) (.tmp 117)), none⟩, ⟨(some 119), (.call 21 [(.tmp 118), (.con (.int .i64 2))]), none⟩, ⟨(some 120), (.bin .eql .plain (.tmp 119) (.con (.int .i64 1))), none⟩, ⟨(some 121), (.load true 2 (.tmp 4)), none⟩, ⟨(some 122), (.load true 3 (.tmp 10)), none⟩, ⟨(some 123), (.build [(.int .i64 0), (.int .i64 0), (.str [])] [(0, 1, (.con (.int .i64 1)))]), none⟩, ⟨(some 124), (.mv (.tmp 3)), none⟩, ⟨(some 125), (.mv (.tmp 12)), none⟩, ⟨(some 126), (.iaddr 4 (.tmp 124) (.tmp 125)), none⟩, ⟨(some 127), (.load true 4 (.tmp 126)), none⟩, ⟨(some 128), (.call 37 [(.tmp 121), (.tmp 122), (.tmp 123), (.tmp 127), (.con (.int .i64 5))]), none⟩, ⟨(some 129), (.build [(.bool false), (.int .i64 0), (.bool false), (.int .i64 0), (.str []), (.str []), (.str []), .nils] [(0, 1, (.tmp 120)), (1, 7, (.tmp 128))]), none⟩, ⟨(some 130), (.bslice 8 1 [(.bool false), (.int .i64 0), (.bool false), (.int .i64 0), (.str []), (.str []), (.str []), .nils] [(0, 8, (.tmp 129))]), none⟩, ⟨(some 131), (.append 8 104 (.tmp 115) (.tmp 130)), none⟩, ⟨(some 132), (.faddr 10 (.tmp 9)), none⟩, ⟨none, (.store 1 (.tmp 132) (.tmp 131)), none⟩] [5, 14, 16, 17, 19] [0, 1, 0, 0, 12, 28, 60, 0, 0, 0, 0, 0, 3072, 7168, 16316, 32764, 65532, 131071, 262143, 524287] [])
 .skip)))
 (.reg [⟨(some 106), (.mv (.tmp 12)), none⟩, ⟨(some 107), (.bin .add .plain (.tmp 106) (.con (.int .i64 1))), none⟩, ⟨(some 12), (.mv (.tmp 107)), none⟩]))))))
 (.seq (.reg [⟨(some 133), (.load true 11 (.tmp 9)), none⟩, ⟨none, (.store 11 (.tmp 8) (.tmp 133)), none⟩])
 .ret)))))))))
def ac28 : AFun := ⟨4, 134, ab28, [(.cell 8 true 11)]⟩
theorem cf28 : compF Try.prog Try.f28 = some ac28 := by kernel_rfl
theorem cl28 : callable Try.prog 28 = true := by kernel_rfl
theorem fn28 : Try.prog.funcs[28]? = some Try.f28 := by kernel_rfl
/- chancel/chancellaw5.Schema -/
def ab29 : ACode := (.seq (.reg [⟨(some 4), (.alloc [.nils, .nils]), none⟩])
 (.seq (.reg [⟨(some 5), (.alloc [.nils, .nils]), none⟩])
 (.seq (.seq (.reg [⟨(some 6), (.mv (.con (.int .i64 0))), none⟩])
 (.block 0
 (.loop (.seq (.seq (.reg [⟨(some 16), (.mv (.tmp 6)), none⟩, ⟨(some 17), (.mv (.tmp 0)), none⟩, ⟨(some 18), (.lenL (.tmp 17)), none⟩, ⟨(some 19), (.bin .lss .plain (.tmp 16) (.tmp 18)), none⟩, ⟨(some 20), (.mv (.tmp 19)), none⟩, ⟨(some 21), (.mv (.tmp 6)), (some (20, true))⟩, ⟨(some 22), (.bin .lss .plain (.tmp 21) (.con (.int .i64 5))), (some (20, true))⟩, ⟨(some 23), (.pick (.tmp 20) (.tmp 22) (.con (.bool false))), none⟩])
 (.cond (.tmp 23)
 .skip
 (.exit 0)))
 (.seq (.block 1
 (.seq (.reg [⟨(some 26), (.mv (.tmp 0)), none⟩, ⟨(some 27), (.mv (.tmp 6)), none⟩, ⟨(some 28), (.iaddr 3 (.tmp 26) (.tmp 27)), none⟩, ⟨(some 29), (.faddr 0 (.tmp 28)), none⟩, ⟨(some 30), (.load false 1 (.tmp 29)), none⟩, ⟨(some 31), (.call 44 [(.tmp 30)]), none⟩, ⟨(some 32), (.build [(.str []), .nils, .nils] [(0, 1, (.tmp 31))]), none⟩, ⟨(some 7), (.alloc [(.str []), .nils, .nils]), none⟩, ⟨none, (.store 3 (.tmp 7) (.tmp 32)), none⟩])
 (.seq (.seq (.reg [⟨(some 8), (.mv (.con (.int .i64 0))), none⟩])
 (.block 2
 (.loop (.seq (.seq (.reg [⟨(some 33), (.mv (.tmp 8)), none⟩, ⟨(some 34), (.mv (.tmp 0)), none⟩, ⟨(some 35), (.mv (.tmp 6)), none⟩, ⟨(some 36), (.iaddr 3 (.tmp 34) (.tmp 35)), none⟩, ⟨(some 37), (.faddr 1 (.tmp 36)), none⟩, ⟨(some 38), (.load false 1 (.tmp 37)), none⟩, ⟨(some 39), (.lenL (.tmp 38)), none⟩, ⟨(some 40), (.bin .lss .plain (.tmp 33) (.tmp 39)), none⟩, ⟨(some 41), (.mv (.tmp 40)), none⟩, ⟨(some 42), (.mv (.tmp 8)), (some (41, true))⟩, ⟨(some 43), (.bin .lss .plain (.tmp 42) (.con (.int .i64 3))), (some (41, true))⟩, ⟨(some 44), (.pick (.tmp 41) (.tmp 43) (.con (.bool false))), none⟩])
 (.cond (.tmp 44)
 .skip
 (.exit 2)))
 (.seq (.block 3
 (.dreg [⟨(some 47), (.faddr 1 (.tmp 7)), none⟩, ⟨(some 48), (.load false 1 (.tmp 47)), none⟩, ⟨(some 49), (.mv (.tmp 0)), none⟩, ⟨(some 50), (.mv (.tmp 6)), none⟩, ⟨(some 51), (.iaddr 3 (.tmp 49) (.tmp 50)), none⟩, ⟨(some 52), (.faddr 1 (.tmp 51)), none⟩, ⟨(some 53), (.load false 1 (.tmp 52)), none⟩, ⟨(some 54), (.mv (.tmp 8)), none⟩, ⟨(some 55), (.iaddr 1 (.tmp 53) (.tmp 54)), none⟩, ⟨(some 56), (.load false 1 (.tmp 55)), none⟩, ⟨(some 57), (.call 44 [(.tmp 56)]), none⟩, ⟨(some 58), (.bslice 1 1 [(.str [])] [(0, 1, (.tmp 57))]), none⟩, ⟨(some 59), (.append 1 16 (.tmp 48) (.tmp 58)), none⟩, ⟨(some 60), (.faddr 1 (.tmp 7)), none⟩, ⟨none, (.store 1 (.tmp 60) (.tmp 59)), none⟩] [10, 11, 12, 14] [0, 1, 0, 0, 12, 28, 60, 0, 252, 508, 1020, 2044, 4095, 8191, 16383] []))
 (.reg [⟨(some 45), (.mv (.tmp 8)), none⟩, ⟨(some 46), (.bin .add .plain (.tmp 45) (.con (.int .i64 1))), none⟩, ⟨(some 8), (.mv (.tmp 46)), none⟩]))))))
 (.seq (.seq (.reg [⟨(some 9), (.mv (.con (.int .i64 0))), none⟩])
 (.block 4
 (.loop (.seq (.seq (.reg [⟨(some 61), (.mv (.tmp 9)), none⟩, ⟨(some 62), (.mv (.tmp 0)), none⟩, ⟨(some 63), (.mv (.tmp 6)), none⟩, ⟨(some 64), (.iaddr 3 (.tmp 62) (.tmp 63)), none⟩, ⟨(some 65), (.faddr 2 (.tmp 64)), none⟩, ⟨(some 66), (.load false 1 (.tmp 65)), none⟩, ⟨(some 67), (.lenL (.tmp 66)), none⟩, ⟨(some 68), (.bin .lss .plain (.tmp 61) (.tmp 67)), none⟩, ⟨(some 69), (.mv (.tmp 68)), none⟩, ⟨(some 70), (.mv (.tmp 9)), (some (69, true))⟩, ⟨(some 71), (.bin .lss .plain (.tmp 70) (.con (.int .i64 4))), (some (69, true))⟩, ⟨(some 72), (.pick (.tmp 69) (.tmp 71) (.con (.bool false))), none⟩])
 (.cond (.tmp 72)
 .skip
 (.exit 4)))
 (.seq (.block 5
 (.seq (.reg [⟨(some 75), (.mv (.tmp 0)), none⟩, ⟨(some 76), (.mv (.tmp 6)), none⟩, ⟨(some 77), (.iaddr 3 (.tmp 75) (.tmp 76)), none⟩, ⟨(some 78), (.faddr 2 (.tmp 77)), none⟩, ⟨(some 79), (.load false 1 (.tmp 78)), none⟩, ⟨(some 80), (.mv (.tmp 9)), none⟩, ⟨(some 81), (.iaddr 4 (.tmp 79) (.tmp 80)), none⟩, ⟨(some 82), (.load true 4 (.tmp 81)), none⟩, ⟨(some 10), (.alloc [(.int .i64 0), (.int .i64 0), (.int .i64 0), (.int .i64 0)]), none⟩, ⟨none, (.store 4 (.tmp 10) (.tmp 82)), none⟩])
 (.seq (.reg [⟨(some 83), (.faddr 1 (.tmp 10)), none⟩, ⟨(some 84), (.load false 1 (.tmp 83)), none⟩, ⟨(some 85), (.call 33 [(.tmp 84), (.con (.int .i64 5))]), none⟩, ⟨(some 86), (.bin .add .plain (.con (.int .i64 1)) (.tmp 85)), none⟩, ⟨(some 87), (.build [(.int .i64 0), (.int .i64 0), (.str [])] [(0, 1, (.tmp 86))]), none⟩, ⟨(some 11), (.alloc [(.int .i64 0), (.int .i64 0), (.str [])]), none⟩, ⟨none, (.store 3 (.tmp 11) (.tmp 87)), none⟩])
 (.seq (.seq (.reg [⟨(some 88), (.faddr 0 (.tmp 11)), none⟩, ⟨(some 89), (.load false 1 (.tmp 88)), none⟩, ⟨(some 90), (.bin .eql .plain (.tmp 89) (.con (.int .i64 5))), none⟩])
 (.cond (.tmp 90)
 (.reg [⟨(some 91), (.faddr 2 (.tmp 10)), none⟩, ⟨(some 92), (.load false 1 (.tmp 91)), none⟩, ⟨(some 93), (.call 33 [(.tmp 92), (.con (.int .i64 4))]), none⟩, ⟨(some 94), (.bin .add .plain (.con (.int .i64 1)) (.tmp 93)), none⟩, ⟨(some 95), (.faddr 1 (.tmp 11)), none⟩, ⟨none, (.store 1 (.tmp 95) (.tmp 94)), none⟩])
 .skip))
 (.seq (.seq (.reg [⟨(some 96), (.faddr 0 (.tmp 11)), none⟩, ⟨(some 97), (.load false 1 (.tmp 96)), none⟩, ⟨(some 98), (.bin .eql .plain (.tmp 97) (.con (.int .i64 4))), none⟩, ⟨(some 99), (.mv (.tmp 98)), none⟩, ⟨(some 100), (.faddr 1 (.tmp 11)), (some (99, false))⟩, ⟨(some 101), (.load false 1 (.tmp 100)), (some (99, false))⟩, ⟨(some 102), (.bin .eql .plain (.tmp 101) (.con (.int .i64 4))), (some (99, false))⟩, ⟨(some 103), (.pick (.tmp 99) (.con (.bool true)) (.tmp 102)), none⟩])
 (.cond (.tmp 103)
 (.reg [⟨(some 104), (.faddr 3 (.tmp 10)), none⟩, ⟨(some 105), (.load false 1 (.tmp 104)), none⟩, ⟨(some 106), (.call 44 [(.tmp 105)]), none⟩, ⟨(some 107), (.faddr 2 (.tmp 11)), none⟩, ⟨none, (.store 1 (.tmp 107) (.tmp 106)), none⟩])
 .skip))
 (.dreg [⟨(some 108), (.faddr 2 (.tmp 7)), none⟩, ⟨(some 109), (.load false 1 (.tmp 108)), none⟩, ⟨(some 110), (.faddr 0 (.tmp 10)), none⟩, ⟨(some 111), (.load false 1 (.tmp 110)), none⟩, ⟨(some 112), (.call 34 [(.tmp 111)]), none⟩, ⟨(some 113), (.load true 3 (.tmp 11)), none⟩, ⟨(some 114), (.build [(.str []), (.int .i64 0), (.int .i64 0), (.str [])] [(0, 1, (.tmp 112)), (1, 3, (.tmp 113))]), none⟩, ⟨(some 115), (.bslice 4 1 [(.str []), (.int .i64 0), (.int .i64 0), (.str [])] [(0, 4, (.tmp 114))]), none⟩, ⟨(some 116), (.append 4 48 (.tmp 109) (.tmp 115)), none⟩, ⟨(some 117), (.faddr 2 (.tmp 7)), none⟩, ⟨none, (.store 1 (.tmp 117) (.tmp 116)), none⟩] [4, 7, 8, 10] [0, 1, 0, 4, 12, 0, 60, 124, 255, 511, 1023] []))))))
 (.reg [⟨(some 73), (.mv (.tmp 9)), none⟩, ⟨(some 74), (.bin .add .plain (.tmp 73) (.con (.int .i64 1))), none⟩, ⟨(some 9), (.mv (.tmp 74)), none⟩]))))))
 (.reg [⟨(some 118), (.faddr 0 (.tmp 5)), none⟩, ⟨(some 119), (.load false 1 (.tmp 118)), none⟩, ⟨(some 120), (.load true 3 (.tmp 7)), none⟩, ⟨(some 121), (.bslice 3 1 [(.str []), .nils, .nils] [(0, 3, (.tmp 120))]), none⟩, ⟨(some 122), (.append 3 64 (.tmp 119) (.tmp 121)), none⟩, ⟨(some 123), (.faddr 0 (.tmp 5)), none⟩, ⟨none, (.store 1 (.tmp 123) (.tmp 122)), none⟩])))))
 (.reg [⟨(some 24), (.mv (.tmp 6)), none⟩, ⟨(some 25), (.bin .add .plain (.tmp 24) (.con (.int .i64 1))), none⟩, ⟨(some 6), (.mv (.tmp 25)), none⟩]))))))
 (.seq (.seq (.reg [⟨(some 12), (.mv (.con (.int .i64 0))), none⟩])
 (.block 6
 (.loop (.seq (.seq (.reg [⟨(some 124), (.mv (.tmp 12)), none⟩, ⟨(some 125), (.mv (.tmp 1)), none⟩, ⟨(some 126), (.lenL (.tmp 125)), none⟩, ⟨(some 127), (.bin .lss .plain (.tmp 124) (.tmp 126)), none⟩, ⟨(some 128), (.mv (.tmp 127)), none⟩, ⟨(some 129), (.mv (.tmp 12)), (some (128, true))⟩, ⟨(some 130), (.bin .lss .plain (.tmp 129) (.con (.int .i64 5))), (some (128, true))⟩, ⟨(some 131), (.pick (.tmp 128) (.tmp 130) (.con (.bool false))), none⟩])
 (.cond (.tmp 131)
 .skip
 (.exit 6)))
 (.seq (.block 7
 (.seq (.reg [⟨(some 134), (.bslice 1 3 [(.str [])] [(0, 1, (.con (.str [114, 101, 97, 100]))), (1, 1, (.con (.str [119, 114, 105, 116, 101]))), (2, 1, (.con (.str [111, 119, 110])))]), none⟩, ⟨(some 135), (.mv (.tmp 1)), none⟩, ⟨(some 136), (.mv (.tmp 12)), none⟩, ⟨(some 137), (.iaddr 3 (.tmp 135) (.tmp 136)), none⟩, ⟨(some 138), (.faddr 0 (.tmp 137)), none⟩, ⟨(some 139), (.load false 1 (.tmp 138)), none⟩, ⟨(some 140), (.call 33 [(.tmp 139), (.con (.int .i64 3))]), none⟩, ⟨(some 141), (.iaddr 1 (.tmp 134) (.tmp 140)), none⟩, ⟨(some 142), (.load false 1 (.tmp 141)), none⟩, ⟨(some 143), (.bslice 1 1 [(.str [])] [(0, 1, (.con (.str [85, 115, 101, 114])))]), none⟩, ⟨(some 144), (.bslice 1 1 [(.str [])] [(0, 1, (.con (.str [68, 111, 99])))]), none⟩, ⟨(some 145), (.build [(.str []), .nils, .nils] [(0, 1, (.tmp 142)), (1, 1, (.tmp 143)), (2, 1, (.tmp 144))]), none⟩, ⟨(some 13), (.alloc [(.str []), .nils, .nils]), none⟩, ⟨none, (.store 3 (.tmp 13) (.tmp 145)), none⟩])
 (.seq (.seq (.reg [⟨(some 14), (.mv (.con (.int .i64 0))), none⟩])
 (.block 8
 (.loop (.seq (.seq (.reg [⟨(some 146), (.mv (.tmp 14)), none⟩, ⟨(some 147), (.mv (.tmp 1)), none⟩, ⟨(some 148), (.mv (.tmp 12)), none⟩, ⟨(some 149), (.iaddr 3 (.tmp 147) (.tmp 148)), none⟩, ⟨(some 150), (.faddr 1 (.tmp 149)), none⟩, ⟨(some 151), (.load false 1 (.tmp 150)), none⟩, ⟨(some 152), (.lenL (.tmp 151)), none⟩, ⟨(some 153), (.bin .lss .plain (.tmp 146) (.tmp 152)), none⟩, ⟨(some 154), (.mv (.tmp 153)), none⟩, ⟨(some 155), (.mv (.tmp 14)), (some (154, true))⟩, ⟨(some 156), (.bin .lss .plain (.tmp 155) (.con (.int .i64 3))), (some (154, true))⟩, ⟨(some 157), (.pick (.tmp 154) (.tmp 156) (.con (.bool false))), none⟩])
 (.cond (.tmp 157)
 .skip
 (.exit 8)))
 (.seq (.block 9
 (.dreg [⟨(some 160), (.faddr 1 (.tmp 13)), none⟩, ⟨(some 161), (.load false 1 (.tmp 160)), none⟩, ⟨(some 162), (.mv (.tmp 1)), none⟩, ⟨(some 163), (.mv (.tmp 12)), none⟩, ⟨(some 164), (.iaddr 3 (.tmp 162) (.tmp 163)), none⟩, ⟨(some 165), (.faddr 1 (.tmp 164)), none⟩, ⟨(some 166), (.load false 1 (.tmp 165)), none⟩, ⟨(some 167), (.mv (.tmp 14)), none⟩, ⟨(some 168), (.iaddr 1 (.tmp 166) (.tmp 167)), none⟩, ⟨(some 169), (.load false 1 (.tmp 168)), none⟩, ⟨(some 170), (.call 44 [(.tmp 169)]), none⟩, ⟨(some 171), (.bslice 1 1 [(.str [])] [(0, 1, (.tmp 170))]), none⟩, ⟨(some 172), (.append 1 16 (.tmp 161) (.tmp 171)), none⟩, ⟨(some 173), (.faddr 1 (.tmp 13)), none⟩, ⟨none, (.store 1 (.tmp 173) (.tmp 172)), none⟩] [10, 11, 12, 14] [0, 1, 0, 0, 12, 28, 60, 0, 252, 508, 1020, 2044, 4095, 8191, 16383] []))
 (.reg [⟨(some 158), (.mv (.tmp 14)), none⟩, ⟨(some 159), (.bin .add .plain (.tmp 158) (.con (.int .i64 1))), none⟩, ⟨(some 14), (.mv (.tmp 159)), none⟩]))))))
 (.seq (.seq (.reg [⟨(some 15), (.mv (.con (.int .i64 0))), none⟩])
 (.block 10
 (.loop (.seq (.seq (.reg [⟨(some 174), (.mv (.tmp 15)), none⟩, ⟨(some 175), (.mv (.tmp 1)), none⟩, ⟨(some 176), (.mv (.tmp 12)), none⟩, ⟨(some 177), (.iaddr 3 (.tmp 175) (.tmp 176)), none⟩, ⟨(some 178), (.faddr 2 (.tmp 177)), none⟩, ⟨(some 179), (.load false 1 (.tmp 178)), none⟩, ⟨(some 180), (.lenL (.tmp 179)), none⟩, ⟨(some 181), (.bin .lss .plain (.tmp 174) (.tmp 180)), none⟩, ⟨(some 182), (.mv (.tmp 181)), none⟩, ⟨(some 183), (.mv (.tmp 15)), (some (182, true))⟩, ⟨(some 184), (.bin .lss .plain (.tmp 183) (.con (.int .i64 3))), (some (182, true))⟩, ⟨(some 185), (.pick (.tmp 182) (.tmp 184) (.con (.bool false))), none⟩])
 (.cond (.tmp 185)
 .skip
 (.exit 10)))
 (.seq (.block 11
 (.dreg [⟨(some 188), (.faddr 2 (.tmp 13)), none⟩, ⟨(some 189), (.load false 1 (.tmp 188)), none⟩, ⟨(some 190), (.mv (.tmp 1)), none⟩, ⟨(some 191), (.mv (.tmp 12)), none⟩, ⟨(some 192), (.iaddr 3 (.tmp 190) (.tmp 191)), none⟩, ⟨(some 193), (.faddr 2 (.tmp 192)), none⟩, ⟨(some 194), (.load false 1 (.tmp 193)), none⟩, ⟨(some 195), (.mv (.tmp 15)), none⟩, ⟨(some 196), (.iaddr 1 (.tmp 194) (.tmp 195)), none⟩, ⟨(some 197), (.load false 1 (.tmp 196)), none⟩, ⟨(some 198), (.call 44 [(.tmp 197)]), none⟩, ⟨(some 199), (.bslice 1 1 [(.str [])] [(0, 1, (.tmp 198))]), none⟩, ⟨(some 200), (.append 1 16 (.tmp 189) (.tmp 199)), none⟩, ⟨(some 201), (.faddr 2 (.tmp 13)), none⟩, ⟨none, (.store 1 (.tmp 201) (.tmp 200)), none⟩] [10, 11, 12, 14] [0, 1, 0, 0, 12, 28, 60, 0, 252, 508, 1020, 2044, 4095, 8191, 16383] []))
 (.reg [⟨(some 186), (.mv (.tmp 15)), none⟩, ⟨(some 187), (.bin .add .plain (.tmp 186) (.con (.int .i64 1))), none⟩, ⟨(some 15), (.mv (.tmp 187)), none⟩]))))))
 (.reg [⟨(some 202), (.faddr 1 (.tmp 5)), none⟩, ⟨(some 203), (.load false 1 (.tmp 202)), none⟩, ⟨(some 204), (.load true 3 (.tmp 13)), none⟩, ⟨(some 205), (.bslice 3 1 [(.str []), .nils, .nils] [(0, 3, (.tmp 204))]), none⟩, ⟨(some 206), (.append 3 64 (.tmp 203) (.tmp 205)), none⟩, ⟨(some 207), (.faddr 1 (.tmp 5)), none⟩, ⟨none, (.store 1 (.tmp 207) (.tmp 206)), none⟩])))))
 (.reg [⟨(some 132), (.mv (.tmp 12)), none⟩, ⟨(some 133), (.bin .add .plain (.tmp 132) (.con (.int .i64 1))), none⟩, ⟨(some 12), (.mv (.tmp 133)), none⟩]))))))
 (.seq (.reg [⟨(some 208), (.load true 2 (.tmp 5)), none⟩, ⟨none, (.store 2 (.tmp 4) (.tmp 208)), none⟩])
 .ret)))))
def ac29 : AFun := ⟨2, 209, ab29, [(.cell 4 true 2)]⟩
theorem cf29 : compF Try.prog Try.f29 = some ac29 := by kernel_rfl
theorem cl29 : callable Try.prog 29 = true := by kernel_rfl
theorem fn29 : Try.prog.funcs[29]? = some Try.f29 := by kernel_rfl
/- chancel/chancellaw10.kind -/
def ab30 : ACode := (.seq (.reg [⟨(some 2), (.box (.tmp 0)), none⟩, ⟨(some 3), (.box (.tmp 1)), none⟩, ⟨(some 4), (.alloc [(.str []), .nils, .nils]), none⟩])
 (.seq (.reg [⟨(some 10), (.load true 2 (.tmp 2)), none⟩, ⟨(some 11), (.faddr 1 (.tmp 3)), none⟩, ⟨(some 12), (.load false 1 (.tmp 11)), none⟩, ⟨(some 13), (.call 31 [(.tmp 10), (.tmp 12)]), none⟩, ⟨(some 14), (.faddr 1 (.tmp 3)), none⟩, ⟨none, (.store 1 (.tmp 14) (.tmp 13)), none⟩])
 (.seq (.reg [⟨(some 5), (.mv (.con .nils)), none⟩])
 (.seq (.seq (.reg [⟨(some 6), (.mv (.con (.int .i64 0))), none⟩])
 (.block 0
 (.loop (.seq (.seq (.reg [⟨(some 15), (.mv (.tmp 6)), none⟩, ⟨(some 16), (.faddr 2 (.tmp 3)), none⟩, ⟨(some 17), (.load false 1 (.tmp 16)), none⟩, ⟨(some 18), (.lenL (.tmp 17)), none⟩, ⟨(some 19), (.bin .lss .plain (.tmp 15) (.tmp 18)), none⟩])
 (.cond (.tmp 19)
 .skip
 (.exit 0)))
 (.seq (.block 1
 (.seq (.reg [⟨(some 22), (.faddr 2 (.tmp 3)), none⟩, ⟨(some 23), (.load false 1 (.tmp 22)), none⟩, ⟨(some 24), (.mv (.tmp 6)), none⟩, ⟨(some 25), (.iaddr 4 (.tmp 23) (.tmp 24)), none⟩, ⟨(some 26), (.load true 4 (.tmp 25)), none⟩, ⟨(some 7), (.alloc [(.str []), (.int .i64 0), (.int .i64 0), (.str [])]), none⟩, ⟨none, (.store 4 (.tmp 7) (.tmp 26)), none⟩])
 (.seq (.seq (.reg [⟨(some 27), (.faddr 1 (.tmp 7)), none⟩, ⟨(some 28), (.faddr 2 (.tmp 27)), none⟩, ⟨(some 29), (.load false 1 (.tmp 28)), none⟩, ⟨(some 30), (.bin .neq .plain (.tmp 29) (.con (.str []))), none⟩])
 (.cond (.tmp 30)
 (.seq (.reg [⟨(some 32), (.load true 2 (.tmp 2)), none⟩, ⟨(some 33), (.faddr 1 (.tmp 7)), none⟩, ⟨(some 34), (.faddr 2 (.tmp 33)), none⟩, ⟨(some 35), (.load false 1 (.tmp 34)), none⟩, ⟨(some 36), (.call 45 [(.tmp 32), (.tmp 35)]), none⟩, ⟨(some 31), (.mv (.tmp 36)), none⟩, ⟨(some 37), (.ext (.tmp 31) 0), none⟩, ⟨(some 38), (.ext (.tmp 31) 1), none⟩, ⟨(some 8), (.alloc [(.str []), .nils, .nils]), none⟩, ⟨none, (.store 3 (.tmp 8) (.tmp 37)), none⟩, ⟨(some 9), (.mv (.tmp 38)), none⟩])
 (.seq (.reg [⟨(some 39), (.mv (.tmp 9)), none⟩, ⟨(some 40), (.un .not (.tmp 39)), none⟩])
 (.cond (.tmp 40)
 (.reg [⟨(some 41), (.faddr 0 (.tmp 3)), none⟩, ⟨(some 42), (.load false 1 (.tmp 41)), none⟩, ⟨(some 43), (.faddr 1 (.tmp 7)), none⟩, ⟨(some 44), (.faddr 2 (.tmp 43)), none⟩, ⟨none, (.store 1 (.tmp 44) (.tmp 42)), none⟩])
 .skip)))
 .skip))
 (.seq (.dreg [⟨(some 45), (.mv (.tmp 5)), none⟩, ⟨(some 46), (.lenL (.tmp 45)), none⟩, ⟨(some 47), (.bin .eql .plain (.tmp 46) (.con (.int .i64 0))), none⟩, ⟨(some 48), (.mv (.tmp 47)), none⟩, ⟨(some 49), (.mv (.tmp 5)), (some (48, false))⟩, ⟨(some 50), (.mv (.tmp 5)), (some (48, false))⟩, ⟨(some 51), (.lenL (.tmp 50)), (some (48, false))⟩, ⟨(some 52), (.bin .sub .plain (.tmp 51) (.con (.int .i64 1))), (some (48, false))⟩, ⟨(some 53), (.iaddr 4 (.tmp 49) (.tmp 52)), (some (48, false))⟩, ⟨(some 54), (.faddr 0 (.tmp 53)), (some (48, false))⟩, ⟨(some 55), (.load false 1 (.tmp 54)), (some (48, false))⟩, ⟨(some 56), (.faddr 0 (.tmp 7)), (some (48, false))⟩, ⟨(some 57), (.load false 1 (.tmp 56)), (some (48, false))⟩, ⟨(some 58), (.bin .lss .plain (.tmp 55) (.tmp 57)), (some (48, false))⟩, ⟨(some 59), (.pick (.tmp 48) (.con (.bool true)) (.tmp 58)), none⟩] [] [0, 1, 3, 7, 15, 15, 47, 111, 255, 511, 1023, 15, 2063, 8191, 16383] [])
 (.cond (.tmp 59)
 (.reg [⟨(some 60), (.mv (.tmp 5)), none⟩, ⟨(some 61), (.load true 4 (.tmp 7)), none⟩, ⟨(some 62), (.bslice 4 1 [(.str []), (.int .i64 0), (.int .i64 0), (.str [])] [(0, 4, (.tmp 61))]), none⟩, ⟨(some 63), (.append 4 48 (.tmp 60) (.tmp 62)), none⟩, ⟨(some 5), (.mv (.tmp 63)), none⟩])
 .skip)))))
 (.reg [⟨(some 20), (.mv (.tmp 6)), none⟩, ⟨(some 21), (.bin .add .plain (.tmp 20) (.con (.int .i64 1))), none⟩, ⟨(some 6), (.mv (.tmp 21)), none⟩]))))))
 (.seq (.reg [⟨(some 64), (.mv (.tmp 5)), none⟩, ⟨(some 65), (.faddr 2 (.tmp 3)), none⟩, ⟨none, (.store 1 (.tmp 65) (.tmp 64)), none⟩])
 (.seq (.reg [⟨(some 66), (.load true 3 (.tmp 3)), none⟩, ⟨none, (.store 3 (.tmp 4) (.tmp 66)), none⟩])
 .ret))))))
def ac30 : AFun := ⟨2, 67, ab30, [(.cell 4 true 3)]⟩
theorem cf30 : compF Try.prog Try.f30 = some ac30 := by kernel_rfl
theorem cl30 : callable Try.prog 30 = true := by kernel_rfl
theorem fn30 : Try.prog.funcs[30]? = some Try.f30 := by kernel_rfl
/- chancel/chancellaw10.those -/
def ab31 : ACode := (.seq (.reg [⟨(some 2), (.box (.tmp 0)), none⟩, ⟨(some 4), (.mv (.con .nils)), none⟩])
 (.seq (.reg [⟨(some 5), (.mv (.con .nils)), none⟩])
 (.seq (.seq (.reg [⟨(some 6), (.mv (.con (.int .i64 0))), none⟩])
 (.block 0
 (.loop (.seq (.seq (.reg [⟨(some 9), (.mv (.tmp 6)), none⟩, ⟨(some 10), (.mv (.tmp 1)), none⟩, ⟨(some 11), (.lenL (.tmp 10)), none⟩, ⟨(some 12), (.bin .lss .plain (.tmp 9) (.tmp 11)), none⟩])
 (.cond (.tmp 12)
 .skip
 (.exit 0)))
 (.seq (.block 1
 (.seq (.dreg [⟨(some 16), (.load true 2 (.tmp 2)), none⟩, ⟨(some 17), (.mv (.tmp 1)), none⟩, ⟨(some 18), (.mv (.tmp 6)), none⟩, ⟨(some 19), (.iaddr 1 (.tmp 17) (.tmp 18)), none⟩, ⟨(some 20), (.load false 1 (.tmp 19)), none⟩, ⟨(some 21), (.call 45 [(.tmp 16), (.tmp 20)]), none⟩, ⟨(some 15), (.mv (.tmp 21)), none⟩, ⟨(some 22), (.ext (.tmp 15) 0), none⟩, ⟨(some 23), (.ext (.tmp 15) 1), none⟩, ⟨(some 7), (.alloc [(.str []), .nils, .nils]), none⟩, ⟨none, (.store 3 (.tmp 7) (.tmp 22)), none⟩, ⟨(some 8), (.mv (.tmp 23)), none⟩] [5, 10] [0, 0, 0, 6, 14, 31, 63, 127, 127, 0, 767, 2047] [9])
 (.seq (.reg [⟨(some 24), (.mv (.tmp 8)), none⟩])
 (.cond (.tmp 24)
 (.reg [⟨(some 25), (.mv (.tmp 5)), none⟩, ⟨(some 26), (.mv (.tmp 1)), none⟩, ⟨(some 27), (.mv (.tmp 6)), none⟩, ⟨(some 28), (.iaddr 1 (.tmp 26) (.tmp 27)), none⟩, ⟨(some 29), (.load false 1 (.tmp 28)), none⟩, ⟨(some 30), (.bslice 1 1 [(.str [])] [(0, 1, (.tmp 29))]), none⟩, ⟨(some 31), (.append 1 16 (.tmp 25) (.tmp 30)), none⟩, ⟨(some 5), (.mv (.tmp 31)), none⟩])
 .skip))))
 (.reg [⟨(some 13), (.mv (.tmp 6)), none⟩, ⟨(some 14), (.bin .add .plain (.tmp 13) (.con (.int .i64 1))), none⟩, ⟨(some 6), (.mv (.tmp 14)), none⟩]))))))
 (.seq (.reg [⟨(some 32), (.mv (.tmp 5)), none⟩, ⟨(some 4), (.mv (.tmp 32)), none⟩])
 .ret))))
def ac31 : AFun := ⟨2, 33, ab31, [(.tmp 4)]⟩
theorem cf31 : compF Try.prog Try.f31 = some ac31 := by kernel_rfl
theorem cl31 : callable Try.prog 31 = true := by kernel_rfl
theorem fn31 : Try.prog.funcs[31]? = some Try.f31 := by kernel_rfl
/- chancel/chancellaw5.leaf -/
def ab32 : ACode := (.seq (.reg [⟨(some 1), (.box (.tmp 0)), none⟩, ⟨(some 2), (.alloc [(.int .i64 0), (.bool false), (.int .i64 0), (.str []), (.str []), (.str []), .nils]), none⟩])
 (.seq (.seq (.reg [⟨(some 3), (.faddr 0 (.tmp 1)), none⟩, ⟨(some 4), (.load false 1 (.tmp 3)), none⟩, ⟨(some 5), (.call 33 [(.tmp 4), (.con (.int .i64 6))]), none⟩])
 (.block 0
 (.seq (.reg [⟨(some 7), (.bin .eql .plain (.tmp 5) (.con (.int .i64 0))), none⟩, ⟨(some 6), (.mv (.tmp 7)), none⟩])
 (.cond (.tmp 6)
 (.seq (.reg [⟨(some 8), (.faddr 1 (.tmp 1)), none⟩, ⟨(some 9), (.load false 1 (.tmp 8)), none⟩, ⟨(some 10), (.bin .rem .plain (.tmp 9) (.con (.int .i64 2))), none⟩, ⟨(some 11), (.bin .eql .plain (.tmp 10) (.con (.int .i64 0))), none⟩, ⟨(some 12), (.build [(.int .i64 0), (.bool false), (.int .i64 0), (.str []), (.str []), (.str []), .nils] [(0, 1, (.con (.int .i64 1))), (1, 1, (.tmp 11))]), none⟩, ⟨none, (.store 7 (.tmp 2) (.tmp 12)), none⟩])
 .ret)
 (.seq (.reg [⟨(some 14), (.bin .eql .plain (.tmp 5) (.con (.int .i64 1))), none⟩, ⟨(some 13), (.mv (.tmp 14)), none⟩])
 (.cond (.tmp 13)
 (.seq (.reg [⟨(some 15), (.faddr 1 (.tmp 1)), none⟩, ⟨(some 16), (.load false 1 (.tmp 15)), none⟩, ⟨(some 17), (.call 33 [(.tmp 16), (.con (.int .i64 4611686018427387904))]), none⟩, ⟨(some 18), (.build [(.int .i64 0), (.bool false), (.int .i64 0), (.str []), (.str []), (.str []), .nils] [(0, 1, (.con (.int .i64 2))), (2, 1, (.tmp 17))]), none⟩, ⟨none, (.store 7 (.tmp 2) (.tmp 18)), none⟩])
 .ret)
 (.seq (.reg [⟨(some 20), (.bin .eql .plain (.tmp 5) (.con (.int .i64 2))), none⟩, ⟨(some 19), (.mv (.tmp 20)), none⟩])
 (.cond (.tmp 19)
 (.seq (.reg [⟨(some 21), (.faddr 2 (.tmp 1)), none⟩, ⟨(some 22), (.load false 1 (.tmp 21)), none⟩, ⟨(some 23), (.call 35 [(.tmp 22)]), none⟩, ⟨(some 24), (.build [(.int .i64 0), (.bool false), (.int .i64 0), (.str []), (.str []), (.str []), .nils] [(0, 1, (.con (.int .i64 3))), (3, 1, (.tmp 23))]), none⟩, ⟨none, (.store 7 (.tmp 2) (.tmp 24)), none⟩])
 .ret)
 (.seq (.reg [⟨(some 26), (.bin .eql .plain (.tmp 5) (.con (.int .i64 3))), none⟩, ⟨(some 25), (.mv (.tmp 26)), none⟩])
 (.cond (.tmp 25)
 (.seq (.reg [⟨(some 27), (.faddr 1 (.tmp 1)), none⟩, ⟨(some 28), (.load false 1 (.tmp 27)), none⟩, ⟨(some 29), (.faddr 2 (.tmp 1)), none⟩, ⟨(some 30), (.load false 1 (.tmp 29)), none⟩, ⟨(some 31), (.call 23 [(.tmp 28), (.tmp 30)]), none⟩, ⟨(some 32), (.build [(.int .i64 0), (.bool false), (.int .i64 0), (.str []), (.str []), (.str []), .nils] [(0, 1, (.con (.int .i64 4))), (4, 2, (.tmp 31))]), none⟩, ⟨none, (.store 7 (.tmp 2) (.tmp 32)), none⟩])
 .ret)
 (.seq (.reg [⟨(some 34), (.bin .eql .plain (.tmp 5) (.con (.int .i64 4))), none⟩, ⟨(some 33), (.mv (.tmp 34)), none⟩])
 (.cond (.tmp 33)
 (.seq (.reg [⟨(some 35), (.bslice 1 3 [(.str [])] [(0, 1, (.con (.str [112, 114, 105, 110, 99, 105, 112, 97, 108]))), (1, 1, (.con (.str [97, 99, 116, 105, 111, 110]))), (2, 1, (.con (.str [114, 101, 115, 111, 117, 114, 99, 101])))]), none⟩, ⟨(some 36), (.faddr 1 (.tmp 1)), none⟩, ⟨(some 37), (.load false 1 (.tmp 36)), none⟩, ⟨(some 38), (.call 33 [(.tmp 37), (.con (.int .i64 3))]), none⟩, ⟨(some 39), (.iaddr 1 (.tmp 35) (.tmp 38)), none⟩, ⟨(some 40), (.load false 1 (.tmp 39)), none⟩, ⟨(some 41), (.build [(.int .i64 0), (.bool false), (.int .i64 0), (.str []), (.str []), (.str []), .nils] [(0, 1, (.con (.int .i64 5))), (3, 1, (.tmp 40))]), none⟩, ⟨none, (.store 7 (.tmp 2) (.tmp 41)), none⟩])
 .ret)
 .skip))))))))))))
 (.seq (.reg [⟨(some 42), (.build [(.int .i64 0), (.bool false), (.int .i64 0), (.str []), (.str []), (.str []), .nils] [(0, 1, (.con (.int .i64 6)))]), none⟩, ⟨none, (.store 7 (.tmp 2) (.tmp 42)), none⟩])
 .ret)))
def ac32 : AFun := ⟨1, 43, ab32, [(.cell 2 true 7)]⟩
theorem cf32 : compF Try.prog Try.f32 = some ac32 := by kernel_rfl
theorem cl32 : callable Try.prog 32 = true := by kernel_rfl
theorem fn32 : Try.prog.funcs[32]? = some Try.f32 := by kernel_rfl
/- chancel/chancellaw5.within -/
def ab33 : ACode := (.seq (.reg [⟨(some 4), (.mv (.con (.int .i64 0))), none⟩])
 (.seq (.reg [⟨(some 6), (.mv (.tmp 0)), none⟩, ⟨(some 7), (.mv (.tmp 1)), none⟩, ⟨(some 8), (.bin .rem .plain (.tmp 6) (.tmp 7)), none⟩, ⟨(some 5), (.mv (.tmp 8)), none⟩])
 (.seq (.seq (.reg [⟨(some 9), (.mv (.tmp 5)), none⟩, ⟨(some 10), (.bin .lss .plain (.tmp 9) (.con (.int .i64 0))), none⟩])
 (.cond (.tmp 10)
 (.reg [⟨(some 11), (.mv (.tmp 5)), none⟩, ⟨(some 12), (.mv (.tmp 1)), none⟩, ⟨(some 13), (.bin .add .plain (.tmp 11) (.tmp 12)), none⟩, ⟨(some 5), (.mv (.tmp 13)), none⟩])
 .skip))
 (.seq (.reg [⟨(some 14), (.mv (.tmp 5)), none⟩, ⟨(some 4), (.mv (.tmp 14)), none⟩])
 .ret))))
def ac33 : AFun := ⟨2, 15, ab33, [(.tmp 4)]⟩
theorem cf33 : compF Try.prog Try.f33 = some ac33 := by kernel_rfl
theorem cl33 : callable Try.prog 33 = true := by kernel_rfl
theorem fn33 : Try.prog.funcs[33]? = some Try.f33 := by kernel_rfl
/- chancel/chancellaw5.name -/
def ab34 : ACode := (.seq (.reg [⟨(some 2), (.mv (.con (.str []))), none⟩])
 (.seq (.reg [⟨(some 3), (.bslice 1 7 [(.str [])] [(0, 1, (.con (.str [97]))), (1, 1, (.con (.str [97, 103, 101]))), (2, 1, (.con (.str [105, 102]))), (3, 1, (.con (.str [99, 111, 110, 116, 97, 105, 110, 115]))), (4, 1, (.con (.str [112, 114, 105, 110, 99, 105, 112, 97, 108]))), (5, 1, (.con (.str [95, 120]))), (6, 1, (.con (.str [110, 97, 109, 101])))]), none⟩, ⟨(some 4), (.mv (.tmp 0)), none⟩, ⟨(some 5), (.call 33 [(.tmp 4), (.con (.int .i64 7))]), none⟩, ⟨(some 6), (.iaddr 1 (.tmp 3) (.tmp 5)), none⟩, ⟨(some 7), (.load false 1 (.tmp 6)), none⟩, ⟨(some 2), (.mv (.tmp 7)), none⟩])
 .ret))
def ac34 : AFun := ⟨1, 8, ab34, [(.tmp 2)]⟩
theorem cf34 : compF Try.prog Try.f34 = some ac34 := by kernel_rfl
theorem cl34 : callable Try.prog 34 = true := by kernel_rfl
theorem fn34 : Try.prog.funcs[34]? = some Try.f34 := by kernel_rfl
/- chancel/chancellaw5.id -/
def ab35 : ACode := (.seq (.reg [⟨(some 2), (.mv (.con (.str []))), none⟩])
 (.seq (.seq (.reg [⟨(some 3), (.mv (.tmp 0)), none⟩, ⟨(some 4), (.lenL (.tmp 3)), none⟩, ⟨(some 5), (.bin .gtr .plain (.tmp 4) (.con (.int .i64 8))), none⟩])
 (.cond (.tmp 5)
 (.reg [⟨(some 6), (.mv (.tmp 0)), none⟩, ⟨(some 7), (.slSl 1 (.tmp 6) none (some (.con (.int .i64 8))) none), none⟩, ⟨(some 0), (.mv (.tmp 7)), none⟩])
 .skip))
 (.seq (.reg [⟨(some 8), (.mv (.tmp 0)), none⟩, ⟨(some 9), (.call 46 [(.tmp 8)]), none⟩, ⟨(some 2), (.mv (.tmp 9)), none⟩])
 .ret)))
def ac35 : AFun := ⟨1, 10, ab35, [(.tmp 2)]⟩
theorem cf35 : compF Try.prog Try.f35 = some ac35 := by kernel_rfl
theorem cl35 : callable Try.prog 35 = true := by kernel_rfl
theorem fn35 : Try.prog.funcs[35]? = some Try.f35 := by kernel_rfl
/- chancel/chancelref11.Of -/
def ab36 : ACode := (.seq (.reg [⟨(some 3), (.box (.tmp 0)), none⟩, ⟨(some 4), (.box (.tmp 1)), none⟩, ⟨(some 5), (.box (.tmp 2)), none⟩, ⟨(some 6), (.alloc [(.int .i64 0), (.int .i64 0), (.str [])]), none⟩, ⟨(some 7), (.mv (.con (.int .i64 0))), none⟩])
 (.seq (.seq (.reg [⟨(some 12), (.faddr 0 (.tmp 5)), none⟩, ⟨(some 13), (.load false 1 (.tmp 12)), none⟩, ⟨(some 14), (.bin .geq .plain (.tmp 13) (.con (.int .i64 1))), none⟩, ⟨(some 15), (.mv (.tmp 14)), none⟩, ⟨(some 16), (.faddr 0 (.tmp 5)), (some (15, true))⟩, ⟨(some 17), (.load false 1 (.tmp 16)), (some (15, true))⟩, ⟨(some 18), (.bin .leq .plain (.tmp 17) (.con (.int .i64 5))), (some (15, true))⟩, ⟨(some 19), (.pick (.tmp 15) (.tmp 18) (.con (.bool false))), none⟩])
 (.cond (.tmp 19)
 (.seq (.reg [⟨(some 20), (.load true 2 (.tmp 3)), none⟩, ⟨(some 21), (.load true 3 (.tmp 4)), none⟩, ⟨(some 22), (.load true 7 (.tmp 5)), none⟩, ⟨(some 23), (.call 47 [(.tmp 20), (.tmp 21), (.tmp 22)]), none⟩, ⟨(some 24), (.ext (.tmp 23) 0), none⟩, ⟨(some 25), (.ext (.tmp 23) 1), none⟩, ⟨none, (.store 3 (.tmp 6) (.tmp 24)), none⟩, ⟨(some 7), (.mv (.tmp 25)), none⟩])
 .ret)
 .skip))
 (.seq (.reg [⟨(some 8), (.mv (.con .nils)), none⟩])
 (.seq (.seq (.reg [⟨(some 9), (.mv (.con (.int .i64 0))), none⟩])
 (.block 0
 (.loop (.seq (.seq (.reg [⟨(some 26), (.mv (.tmp 9)), none⟩, ⟨(some 27), (.faddr 6 (.tmp 5)), none⟩, ⟨(some 28), (.load false 1 (.tmp 27)), none⟩, ⟨(some 29), (.lenL (.tmp 28)), none⟩, ⟨(some 30), (.bin .lss .plain (.tmp 26) (.tmp 29)), none⟩])
 (.cond (.tmp 30)
 .skip
 (.exit 0)))
 (.seq (.block 1
 (.seq (.dreg [⟨(some 34), (.load true 2 (.tmp 3)), none⟩, ⟨(some 35), (.load true 3 (.tmp 4)), none⟩, ⟨(some 36), (.faddr 6 (.tmp 5)), none⟩, ⟨(some 37), (.load false 1 (.tmp 36)), none⟩, ⟨(some 38), (.mv (.tmp 9)), none⟩, ⟨(some 39), (.iaddr 7 (.tmp 37) (.tmp 38)), none⟩, ⟨(some 40), (.load true 7 (.tmp 39)), none⟩, ⟨(some 41), (.call 36 [(.tmp 34), (.tmp 35), (.tmp 40)]), none⟩, ⟨(some 33), (.mv (.tmp 41)), none⟩, ⟨(some 42), (.ext (.tmp 33) 0), none⟩, ⟨(some 43), (.ext (.tmp 33) 1), none⟩, ⟨(some 10), (.alloc [(.int .i64 0), (.int .i64 0), (.str [])]), none⟩, ⟨none, (.store 3 (.tmp 10) (.tmp 42)), none⟩, ⟨(some 11), (.mv (.tmp 43)), none⟩] [7, 12] [0, 0, 0, 4, 0, 28, 60, 127, 255, 511, 511, 0, 3071, 8191] [11])
 (.seq (.seq (.reg [⟨(some 44), (.mv (.tmp 11)), none⟩, ⟨(some 45), (.bin .neq .plain (.tmp 44) (.con (.int .i64 0))), none⟩])
 (.cond (.tmp 45)
 (.seq (.reg [⟨(some 46), (.build [(.int .i64 0), (.int .i64 0), (.str [])] []), none⟩, ⟨(some 47), (.mv (.tmp 11)), none⟩, ⟨none, (.store 3 (.tmp 6) (.tmp 46)), none⟩, ⟨(some 7), (.mv (.tmp 47)), none⟩])
 .ret)
 .skip))
 (.reg [⟨(some 48), (.mv (.tmp 8)), none⟩, ⟨(some 49), (.load true 3 (.tmp 10)), none⟩, ⟨(some 50), (.bslice 3 1 [(.int .i64 0), (.int .i64 0), (.str [])] [(0, 3, (.tmp 49))]), none⟩, ⟨(some 51), (.append 3 32 (.tmp 48) (.tmp 50)), none⟩, ⟨(some 8), (.mv (.tmp 51)), none⟩]))))
 (.reg [⟨(some 31), (.mv (.tmp 9)), none⟩, ⟨(some 32), (.bin .add .plain (.tmp 31) (.con (.int .i64 1))), none⟩, ⟨(some 9), (.mv (.tmp 32)), none⟩]))))))
 (.seq (.reg [⟨(some 52), (.load true 2 (.tmp 3)), none⟩, ⟨(some 53), (.load true 7 (.tmp 5)), none⟩, ⟨(some 54), (.mv (.tmp 8)), none⟩, ⟨(some 55), (.call 48 [(.tmp 52), (.tmp 53), (.tmp 54)]), none⟩, ⟨(some 56), (.ext (.tmp 55) 0), none⟩, ⟨(some 57), (.ext (.tmp 55) 1), none⟩, ⟨none, (.store 3 (.tmp 6) (.tmp 56)), none⟩, ⟨(some 7), (.mv (.tmp 57)), none⟩])
 .ret)))))
def ac36 : AFun := ⟨3, 58, ab36, [(.cell 6 true 3), (.tmp 7)]⟩
theorem cf36 : compF Try.prog Try.f36 = some ac36 := by kernel_rfl
theorem cl36 : callable Try.prog 36 = true := by kernel_rfl
theorem fn36 : Try.prog.funcs[36]? = some Try.f36 := by kernel_rfl
/- chancel/chancellaw11.Make -/
def ab37 : ACode := (.seq (.reg [⟨(some 5), (.box (.tmp 0)), none⟩, ⟨(some 6), (.box (.tmp 1)), none⟩, ⟨(some 7), (.box (.tmp 2)), none⟩, ⟨(some 8), (.box (.tmp 3)), none⟩, ⟨(some 10), (.alloc [(.int .i64 0), (.bool false), (.int .i64 0), (.str []), (.str []), (.str []), .nils]), none⟩])
 (.seq (.seq (.reg [⟨(some 12), (.mv (.tmp 4)), none⟩, ⟨(some 13), (.bin .leq .plain (.tmp 12) (.con (.int .i64 1))), none⟩])
 (.cond (.tmp 13)
 (.seq (.reg [⟨(some 14), (.load true 2 (.tmp 5)), none⟩, ⟨(some 15), (.load true 3 (.tmp 6)), none⟩, ⟨(some 16), (.load true 3 (.tmp 7)), none⟩, ⟨(some 17), (.load true 4 (.tmp 8)), none⟩, ⟨(some 18), (.call 49 [(.tmp 14), (.tmp 15), (.tmp 16), (.tmp 17)]), none⟩, ⟨none, (.store 7 (.tmp 10) (.tmp 18)), none⟩])
 .ret)
 .skip))
 (.seq (.reg [⟨(some 19), (.load true 2 (.tmp 5)), none⟩, ⟨(some 20), (.load true 3 (.tmp 6)), none⟩, ⟨(some 21), (.load true 3 (.tmp 7)), none⟩, ⟨(some 22), (.load true 4 (.tmp 8)), none⟩, ⟨(some 23), (.mv (.tmp 4)), none⟩, ⟨(some 24), (.call 50 [(.tmp 19), (.tmp 20), (.tmp 21), (.tmp 22), (.tmp 23)]), none⟩, ⟨(some 11), (.alloc [(.int .i64 0), (.bool false), (.int .i64 0), (.str []), (.str []), (.str []), .nils]), none⟩, ⟨none, (.store 7 (.tmp 11) (.tmp 24)), none⟩])
 (.seq (.seq (.reg [⟨(some 25), (.faddr 0 (.tmp 11)), none⟩, ⟨(some 26), (.load false 1 (.tmp 25)), none⟩, ⟨(some 27), (.bin .neq .plain (.tmp 26) (.con (.int .i64 0))), none⟩])
 (.cond (.tmp 27)
 (.seq (.reg [⟨(some 28), (.load true 7 (.tmp 11)), none⟩, ⟨none, (.store 7 (.tmp 10) (.tmp 28)), none⟩])
 .ret)
 .skip))
 (.seq (.reg [⟨(some 29), (.load true 2 (.tmp 5)), none⟩, ⟨(some 30), (.load true 3 (.tmp 6)), none⟩, ⟨(some 31), (.load true 3 (.tmp 7)), none⟩, ⟨(some 32), (.load true 4 (.tmp 8)), none⟩, ⟨(some 33), (.call 49 [(.tmp 29), (.tmp 30), (.tmp 31), (.tmp 32)]), none⟩, ⟨none, (.store 7 (.tmp 10) (.tmp 33)), none⟩])
 .ret)))))
def ac37 : AFun := ⟨5, 34, ab37, [(.cell 10 true 7)]⟩
theorem cf37 : compF Try.prog Try.f37 = some ac37 := by kernel_rfl
theorem cl37 : callable Try.prog 37 = true := by kernel_rfl
theorem fn37 : Try.prog.funcs[37]? = some Try.f37 := by kernel_rfl
/- chancel/types.leaf -/
def ab38 : ACode := (.seq (.reg [⟨(some 3), (.box (.tmp 0)), none⟩, ⟨(some 4), (.box (.tmp 1)), none⟩, ⟨(some 5), (.box (.tmp 2)), none⟩, ⟨(some 6), (.alloc [(.int .i64 0), (.int .i64 0), (.str [])]), none⟩, ⟨(some 7), (.mv (.con (.int .i64 0))), none⟩])
 (.seq (.seq (.reg [⟨(some 8), (.faddr 0 (.tmp 5)), none⟩, ⟨(some 9), (.load false 1 (.tmp 8)), none⟩])
 (.block 0
 (.seq (.reg [⟨(some 11), (.bin .eql .plain (.tmp 9) (.con (.int .i64 1))), none⟩, ⟨(some 10), (.mv (.tmp 11)), none⟩])
 (.cond (.tmp 10)
 (.seq (.reg [⟨(some 12), (.call 51 []), none⟩, ⟨none, (.store 3 (.tmp 6) (.tmp 12)), none⟩, ⟨(some 7), (.mv (.con (.int .i64 0))), none⟩])
 .ret)
 (.seq (.reg [⟨(some 14), (.bin .eql .plain (.tmp 9) (.con (.int .i64 2))), none⟩, ⟨(some 13), (.mv (.tmp 14)), none⟩])
 (.cond (.tmp 13)
 (.seq (.reg [⟨(some 15), (.call 52 []), none⟩, ⟨none, (.store 3 (.tmp 6) (.tmp 15)), none⟩, ⟨(some 7), (.mv (.con (.int .i64 0))), none⟩])
 .ret)
 (.seq (.reg [⟨(some 17), (.bin .eql .plain (.tmp 9) (.con (.int .i64 3))), none⟩, ⟨(some 16), (.mv (.tmp 17)), none⟩])
 (.cond (.tmp 16)
 (.seq (.reg [⟨(some 18), (.build [(.int .i64 0), (.int .i64 0), (.str [])] [(0, 1, (.con (.int .i64 3)))]), none⟩, ⟨none, (.store 3 (.tmp 6) (.tmp 18)), none⟩, ⟨(some 7), (.mv (.con (.int .i64 0))), none⟩])
 .ret)
 (.seq (.reg [⟨(some 20), (.bin .eql .plain (.tmp 9) (.con (.int .i64 4))), none⟩, ⟨(some 19), (.mv (.tmp 20)), none⟩])
 (.cond (.tmp 19)
 (.seq (.seq (.reg [⟨(some 21), (.load true 2 (.tmp 3)), none⟩, ⟨(some 22), (.faddr 4 (.tmp 5)), none⟩, ⟨(some 23), (.load true 2 (.tmp 22)), none⟩, ⟨(some 24), (.call 42 [(.tmp 21), (.tmp 23)]), none⟩, ⟨(some 25), (.un .not (.tmp 24)), none⟩])
 (.cond (.tmp 25)
 (.seq (.reg [⟨(some 26), (.build [(.int .i64 0), (.int .i64 0), (.str [])] []), none⟩, ⟨none, (.store 3 (.tmp 6) (.tmp 26)), none⟩, ⟨(some 7), (.mv (.con (.int .i64 15))), none⟩])
 .ret)
 .skip))
 (.seq (.reg [⟨(some 27), (.faddr 4 (.tmp 5)), none⟩, ⟨(some 28), (.faddr 0 (.tmp 27)), none⟩, ⟨(some 29), (.load false 1 (.tmp 28)), none⟩, ⟨(some 30), (.call 53 [(.tmp 29)]), none⟩, ⟨none, (.store 3 (.tmp 6) (.tmp 30)), none⟩, ⟨(some 7), (.mv (.con (.int .i64 0))), none⟩])
 .ret))
 .skip))))))))))
 (.seq (.seq (.reg [⟨(some 31), (.faddr 3 (.tmp 5)), none⟩, ⟨(some 32), (.load false 1 (.tmp 31)), none⟩])
 (.block 1
 (.seq (.reg [⟨(some 34), (.bin .eql .plain (.tmp 32) (.con (.str [112, 114, 105, 110, 99, 105, 112, 97, 108]))), none⟩, ⟨(some 33), (.mv (.tmp 34)), none⟩])
 (.cond (.tmp 33)
 (.seq (.reg [⟨(some 35), (.faddr 0 (.tmp 4)), none⟩, ⟨(some 36), (.load false 1 (.tmp 35)), none⟩, ⟨(some 37), (.call 53 [(.tmp 36)]), none⟩, ⟨none, (.store 3 (.tmp 6) (.tmp 37)), none⟩, ⟨(some 7), (.mv (.con (.int .i64 0))), none⟩])
 .ret)
 (.seq (.reg [⟨(some 39), (.bin .eql .plain (.tmp 32) (.con (.str [114, 101, 115, 111, 117, 114, 99, 101]))), none⟩, ⟨(some 38), (.mv (.tmp 39)), none⟩])
 (.cond (.tmp 38)
 (.seq (.reg [⟨(some 40), (.faddr 2 (.tmp 4)), none⟩, ⟨(some 41), (.load false 1 (.tmp 40)), none⟩, ⟨(some 42), (.call 53 [(.tmp 41)]), none⟩, ⟨none, (.store 3 (.tmp 6) (.tmp 42)), none⟩, ⟨(some 7), (.mv (.con (.int .i64 0))), none⟩])
 .ret)
 .skip))))))
 (.seq (.reg [⟨(some 43), (.call 53 [(.con (.str [65, 99, 116, 105, 111, 110]))]), none⟩, ⟨none, (.store 3 (.tmp 6) (.tmp 43)), none⟩, ⟨(some 7), (.mv (.con (.int .i64 0))), none⟩])
 .ret))))
def ac38 : AFun := ⟨3, 44, ab38, [(.cell 6 true 3), (.tmp 7)]⟩
theorem cf38 : compF Try.prog Try.f38 = some ac38 := by kernel_rfl
theorem cl38 : callable Try.prog 38 = true := by kernel_rfl
theorem fn38 : Try.prog.funcs[38]? = some Try.f38 := by kernel_rfl
/- chancel/types.few -/
def ab39 : ACode := (.seq (.reg [⟨(some 1), (.box (.tmp 0)), none⟩, ⟨(some 2), (.mv (.con (.bool false))), none⟩])
 (.seq (.seq (.reg [⟨(some 3), (.faddr 0 (.tmp 1)), none⟩, ⟨(some 4), (.load false 1 (.tmp 3)), none⟩])
 (.block 0
 (.seq (.reg [⟨(some 6), (.bin .eql .plain (.tmp 4) (.con (.int .i64 6))), none⟩, ⟨(some 5), (.mv (.tmp 6)), none⟩])
 (.cond (.tmp 5)
 (.seq (.reg [⟨(some 2), (.mv (.con (.bool false))), none⟩])
 .ret)
 (.seq (.reg [⟨(some 8), (.bin .eql .plain (.tmp 4) (.con (.int .i64 25))), none⟩, ⟨(some 7), (.mv (.tmp 8)), none⟩])
 (.cond (.tmp 7)
 (.seq (.reg [⟨(some 9), (.faddr 6 (.tmp 1)), none⟩, ⟨(some 10), (.load false 1 (.tmp 9)), none⟩, ⟨(some 11), (.lenL (.tmp 10)), none⟩, ⟨(some 12), (.bin .lss .plain (.tmp 11) (.con (.int .i64 3))), none⟩, ⟨(some 2), (.mv (.tmp 12)), none⟩])
 .ret)
 (.seq (.seq (.reg [⟨(some 14), (.bin .eql .plain (.tmp 4) (.con (.int .i64 7))), none⟩, ⟨(some 13), (.mv (.tmp 14)), none⟩])
 (.cond (.tmp 13)
 .skip
 (.seq (.reg [⟨(some 15), (.bin .eql .plain (.tmp 4) (.con (.int .i64 8))), none⟩, ⟨(some 13), (.mv (.tmp 15)), none⟩])
 (.cond (.tmp 13)
 .skip
 (.seq (.reg [⟨(some 16), (.bin .eql .plain (.tmp 4) (.con (.int .i64 10))), none⟩, ⟨(some 13), (.mv (.tmp 16)), none⟩])
 (.cond (.tmp 13)
 .skip
 (.seq (.reg [⟨(some 17), (.bin .eql .plain (.tmp 4) (.con (.int .i64 11))), none⟩, ⟨(some 13), (.mv (.tmp 17)), none⟩])
 (.cond (.tmp 13)
 .skip
 (.reg [⟨(some 18), (.bin .eql .plain (.tmp 4) (.con (.int .i64 12))), none⟩, ⟨(some 13), (.mv (.tmp 18)), none⟩])))))))))
 (.cond (.tmp 13)
 (.seq (.reg [⟨(some 19), (.faddr 6 (.tmp 1)), none⟩, ⟨(some 20), (.load false 1 (.tmp 19)), none⟩, ⟨(some 21), (.lenL (.tmp 20)), none⟩, ⟨(some 22), (.bin .lss .plain (.tmp 21) (.con (.int .i64 1))), none⟩, ⟨(some 2), (.mv (.tmp 22)), none⟩])
 .ret)
 .skip))))))))
 (.seq (.reg [⟨(some 23), (.faddr 6 (.tmp 1)), none⟩, ⟨(some 24), (.load false 1 (.tmp 23)), none⟩, ⟨(some 25), (.lenL (.tmp 24)), none⟩, ⟨(some 26), (.bin .lss .plain (.tmp 25) (.con (.int .i64 2))), none⟩, ⟨(some 2), (.mv (.tmp 26)), none⟩])
 .ret)))
def ac39 : AFun := ⟨1, 27, ab39, [(.tmp 2)]⟩
theorem cf39 : compF Try.prog Try.f39 = some ac39 := by kernel_rfl
theorem cl39 : callable Try.prog 39 = true := by kernel_rfl
theorem fn39 : Try.prog.funcs[39]? = some Try.f39 := by kernel_rfl
/- chancel/types.node -/
def ab40 : ACode := (.seq (.reg [⟨(some 3), (.box (.tmp 0)), none⟩, ⟨(some 4), (.box (.tmp 1)), none⟩, ⟨(some 6), (.alloc [(.int .i64 0), (.int .i64 0), (.str [])]), none⟩, ⟨(some 7), (.mv (.con (.int .i64 0))), none⟩])
 (.seq (.seq (.reg [⟨(some 8), (.faddr 0 (.tmp 4)), none⟩, ⟨(some 9), (.load false 1 (.tmp 8)), none⟩])
 (.block 0
 (.seq (.block 11
 (.seq (.block 10
 (.seq (.block 9
 (.seq (.block 8
 (.seq (.block 7
 (.block 6
 (.seq (.block 5
 (.seq (.block 4
 (.seq (.block 3
 (.seq (.block 2
 (.seq (.block 1
 (.seq (.seq (.seq (.reg [⟨(some 11), (.bin .eql .plain (.tmp 9) (.con (.int .i64 6))), none⟩, ⟨(some 10), (.mv (.tmp 11)), none⟩])
 (.cond (.tmp 10)
 (.exit 1)
 .skip))
 (.seq (.seq (.reg [⟨(some 13), (.bin .eql .plain (.tmp 9) (.con (.int .i64 7))), none⟩, ⟨(some 12), (.mv (.tmp 13)), none⟩])
 (.cond (.tmp 12)
 (.exit 2)
 .skip))
 (.seq (.seq (.reg [⟨(some 15), (.bin .eql .plain (.tmp 9) (.con (.int .i64 8))), none⟩, ⟨(some 14), (.mv (.tmp 15)), none⟩])
 (.cond (.tmp 14)
 (.exit 3)
 .skip))
 (.seq (.seq (.reg [⟨(some 17), (.bin .eql .plain (.tmp 9) (.con (.int .i64 9))), none⟩, ⟨(some 16), (.mv (.tmp 17)), none⟩])
 (.cond (.tmp 16)
 (.exit 4)
 .skip))
 (.seq (.seq (.reg [⟨(some 19), (.bin .eql .plain (.tmp 9) (.con (.int .i64 10))), none⟩, ⟨(some 18), (.mv (.tmp 19)), none⟩])
 (.cond (.tmp 18)
 (.exit 5)
 .skip))
 (.seq (.seq (.seq (.reg [⟨(some 21), (.bin .eql .plain (.tmp 9) (.con (.int .i64 12))), none⟩, ⟨(some 20), (.mv (.tmp 21)), none⟩])
 (.cond (.tmp 20)
 .skip
 (.reg [⟨(some 22), (.bin .eql .plain (.tmp 9) (.con (.int .i64 13))), none⟩, ⟨(some 20), (.mv (.tmp 22)), none⟩])))
 (.cond (.tmp 20)
 (.exit 6)
 .skip))
 (.seq (.seq (.seq (.reg [⟨(some 24), (.bin .eql .plain (.tmp 9) (.con (.int .i64 14))), none⟩, ⟨(some 23), (.mv (.tmp 24)), none⟩])
 (.cond (.tmp 23)
 .skip
 (.reg [⟨(some 25), (.bin .eql .plain (.tmp 9) (.con (.int .i64 15))), none⟩, ⟨(some 23), (.mv (.tmp 25)), none⟩])))
 (.cond (.tmp 23)
 (.exit 7)
 .skip))
 (.seq (.seq (.seq (.reg [⟨(some 27), (.bin .eql .plain (.tmp 9) (.con (.int .i64 16))), none⟩, ⟨(some 26), (.mv (.tmp 27)), none⟩])
 (.cond (.tmp 26)
 .skip
 (.seq (.reg [⟨(some 28), (.bin .eql .plain (.tmp 9) (.con (.int .i64 17))), none⟩, ⟨(some 26), (.mv (.tmp 28)), none⟩])
 (.cond (.tmp 26)
 .skip
 (.seq (.reg [⟨(some 29), (.bin .eql .plain (.tmp 9) (.con (.int .i64 18))), none⟩, ⟨(some 26), (.mv (.tmp 29)), none⟩])
 (.cond (.tmp 26)
 .skip
 (.reg [⟨(some 30), (.bin .eql .plain (.tmp 9) (.con (.int .i64 19))), none⟩, ⟨(some 26), (.mv (.tmp 30)), none⟩])))))))
 (.cond (.tmp 26)
 (.exit 8)
 .skip))
 (.seq (.seq (.seq (.reg [⟨(some 32), (.bin .eql .plain (.tmp 9) (.con (.int .i64 20))), none⟩, ⟨(some 31), (.mv (.tmp 32)), none⟩])
 (.cond (.tmp 31)
 .skip
 (.reg [⟨(some 33), (.bin .eql .plain (.tmp 9) (.con (.int .i64 21))), none⟩, ⟨(some 31), (.mv (.tmp 33)), none⟩])))
 (.cond (.tmp 31)
 (.exit 9)
 .skip))
 (.seq (.seq (.reg [⟨(some 35), (.bin .eql .plain (.tmp 9) (.con (.int .i64 22))), none⟩, ⟨(some 34), (.mv (.tmp 35)), none⟩])
 (.cond (.tmp 34)
 (.exit 10)
 .skip))
 (.seq (.seq (.reg [⟨(some 37), (.bin .eql .plain (.tmp 9) (.con (.int .i64 11))), none⟩, ⟨(some 36), (.mv (.tmp 37)), none⟩])
 (.cond (.tmp 36)
 .skip
 (.seq (.reg [⟨(some 38), (.bin .eql .plain (.tmp 9) (.con (.int .i64 23))), none⟩, ⟨(some 36), (.mv (.tmp 38)), none⟩])
 (.cond (.tmp 36)
 .skip
 (.reg [⟨(some 39), (.bin .eql .plain (.tmp 9) (.con (.int .i64 24))), none⟩, ⟨(some 36), (.mv (.tmp 39)), none⟩])))))
 (.cond (.tmp 36)
 (.exit 11)
 .skip))))))))))))
 (.exit 0)))
 (.seq (.seq (.seq (.reg [⟨(some 40), (.mv (.tmp 2)), none⟩, ⟨(some 41), (.lenL (.tmp 40)), none⟩, ⟨(some 42), (.bin .eql .plain (.tmp 41) (.con (.int .i64 0))), none⟩, ⟨(some 43), (.mv (.tmp 42)), none⟩, ⟨(some 44), (.mv (.tmp 2)), (some (43, false))⟩, ⟨(some 45), (.call 54 [(.tmp 44)]), (some (43, false))⟩, ⟨(some 46), (.un .not (.tmp 45)), (some (43, false))⟩, ⟨(some 47), (.pick (.tmp 43) (.con (.bool true)) (.tmp 46)), none⟩, ⟨(some 48), (.mv (.tmp 47)), none⟩, ⟨(some 49), (.mv (.tmp 2)), (some (48, false))⟩, ⟨(some 50), (.iaddr 3 (.tmp 49) (.con (.int .i64 0))), (some (48, false))⟩, ⟨(some 51), (.faddr 0 (.tmp 50)), (some (48, false))⟩, ⟨(some 52), (.load false 1 (.tmp 51)), (some (48, false))⟩, ⟨(some 53), (.bin .eql .plain (.tmp 52) (.con (.int .i64 5))), (some (48, false))⟩, ⟨(some 54), (.pick (.tmp 48) (.con (.bool true)) (.tmp 53)), none⟩])
 (.cond (.tmp 54)
 (.seq (.reg [⟨(some 55), (.build [(.int .i64 0), (.int .i64 0), (.str [])] []), none⟩, ⟨none, (.store 3 (.tmp 6) (.tmp 55)), none⟩, ⟨(some 7), (.mv (.con (.int .i64 16))), none⟩])
 .ret)
 .skip))
 (.seq (.dreg [⟨(some 56), (.mv (.tmp 2)), none⟩, ⟨(some 57), (.iaddr 3 (.tmp 56) (.con (.int .i64 0))), none⟩, ⟨(some 58), (.faddr 0 (.tmp 57)), none⟩, ⟨(some 59), (.load false 1 (.tmp 58)), none⟩, ⟨(some 60), (.mv (.tmp 2)), none⟩, ⟨(some 61), (.iaddr 3 (.tmp 60) (.con (.int .i64 0))), none⟩, ⟨(some 62), (.faddr 2 (.tmp 61)), none⟩, ⟨(some 63), (.load false 1 (.tmp 62)), none⟩, ⟨(some 64), (.build [(.int .i64 0), (.int .i64 0), (.str [])] [(0, 1, (.con (.int .i64 5))), (1, 1, (.tmp 59)), (2, 1, (.tmp 63))]), none⟩, ⟨none, (.store 3 (.tmp 6) (.tmp 64)), none⟩, ⟨(some 7), (.mv (.con (.int .i64 0))), none⟩] [9] [0, 1, 3, 7, 0, 16, 48, 112, 255, 511, 1023] [])
 .ret))
 (.exit 0))))
 (.seq (.seq (.dreg [⟨(some 65), (.load true 2 (.tmp 3)), none⟩, ⟨(some 66), (.mv (.tmp 2)), none⟩, ⟨(some 67), (.iaddr 3 (.tmp 66) (.con (.int .i64 0))), none⟩, ⟨(some 68), (.load true 3 (.tmp 67)), none⟩, ⟨(some 69), (.faddr 3 (.tmp 4)), none⟩, ⟨(some 70), (.load false 1 (.tmp 69)), none⟩, ⟨(some 71), (.call 55 [(.tmp 65), (.tmp 68), (.tmp 70)]), none⟩, ⟨(some 72), (.ext (.tmp 71) 0), none⟩, ⟨(some 73), (.ext (.tmp 71) 1), none⟩, ⟨none, (.store 3 (.tmp 6) (.tmp 72)), none⟩, ⟨(some 7), (.mv (.tmp 73)), none⟩] [6, 9] [0, 0, 2, 6, 0, 16, 63, 127, 127, 511, 1023] [])
 .ret)
 (.exit 0))))
 (.seq (.seq (.dreg [⟨(some 74), (.call 51 []), none⟩, ⟨(some 75), (.mv (.tmp 2)), none⟩, ⟨(some 76), (.iaddr 3 (.tmp 75) (.con (.int .i64 0))), none⟩, ⟨(some 77), (.faddr 0 (.tmp 76)), none⟩, ⟨(some 78), (.load false 1 (.tmp 77)), none⟩, ⟨(some 79), (.bin .eql .plain (.tmp 78) (.con (.int .i64 4))), none⟩, ⟨(some 80), (.call 56 [(.tmp 74), (.tmp 79)]), none⟩, ⟨(some 81), (.ext (.tmp 80) 0), none⟩, ⟨(some 82), (.ext (.tmp 80) 1), none⟩, ⟨none, (.store 3 (.tmp 6) (.tmp 81)), none⟩, ⟨(some 7), (.mv (.tmp 82)), none⟩] [0, 6, 9] [0, 0, 2, 6, 14, 30, 63, 127, 127, 511, 1023] [])
 .ret)
 (.exit 0))))
 (.seq (.seq (.dreg [⟨(some 83), (.call 51 []), none⟩, ⟨(some 84), (.mv (.tmp 2)), none⟩, ⟨(some 85), (.iaddr 3 (.tmp 84) (.con (.int .i64 0))), none⟩, ⟨(some 86), (.load true 3 (.tmp 85)), none⟩, ⟨(some 87), (.mv (.tmp 2)), none⟩, ⟨(some 88), (.iaddr 3 (.tmp 87) (.con (.int .i64 1))), none⟩, ⟨(some 89), (.load true 3 (.tmp 88)), none⟩, ⟨(some 90), (.call 57 [(.tmp 86), (.tmp 89)]), none⟩, ⟨(some 91), (.call 56 [(.tmp 83), (.tmp 90)]), none⟩, ⟨(some 92), (.ext (.tmp 91) 0), none⟩, ⟨(some 93), (.ext (.tmp 91) 1), none⟩, ⟨none, (.store 3 (.tmp 6) (.tmp 92)), none⟩, ⟨(some 7), (.mv (.tmp 93)), none⟩] [0, 7, 8, 11] [0, 0, 2, 6, 0, 16, 48, 127, 255, 511, 511, 2047, 4095] [])
 .ret)
 (.exit 0))))
 (.seq (.seq (.dreg [⟨(some 94), (.call 51 []), none⟩, ⟨(some 95), (.mv (.tmp 2)), none⟩, ⟨(some 96), (.iaddr 3 (.tmp 95) (.con (.int .i64 0))), none⟩, ⟨(some 97), (.faddr 0 (.tmp 96)), none⟩, ⟨(some 98), (.load false 1 (.tmp 97)), none⟩, ⟨(some 99), (.bin .eql .plain (.tmp 98) (.con (.int .i64 3))), none⟩, ⟨(some 100), (.call 56 [(.tmp 94), (.tmp 99)]), none⟩, ⟨(some 101), (.ext (.tmp 100) 0), none⟩, ⟨(some 102), (.ext (.tmp 100) 1), none⟩, ⟨none, (.store 3 (.tmp 6) (.tmp 101)), none⟩, ⟨(some 7), (.mv (.tmp 102)), none⟩] [0, 6, 9] [0, 0, 2, 6, 14, 30, 63, 127, 127, 511, 1023] [])
 .ret)
 (.exit 0)))))
 (.seq (.seq (.reg [⟨(some 103), (.call 52 []), none⟩, ⟨(some 104), (.mv (.tmp 2)), none⟩, ⟨(some 105), (.call 58 [(.tmp 104), (.con (.int .i64 2))]), none⟩, ⟨(some 106), (.call 56 [(.tmp 103), (.tmp 105)]), none⟩, ⟨(some 107), (.ext (.tmp 106) 0), none⟩, ⟨(some 108), (.ext (.tmp 106) 1), none⟩, ⟨none, (.store 3 (.tmp 6) (.tmp 107)), none⟩, ⟨(some 7), (.mv (.tmp 108)), none⟩])
 .ret)
 (.exit 0))))
 (.seq (.seq (.reg [⟨(some 109), (.call 51 []), none⟩, ⟨(some 110), (.mv (.tmp 2)), none⟩, ⟨(some 111), (.call 58 [(.tmp 110), (.con (.int .i64 2))]), none⟩, ⟨(some 112), (.call 56 [(.tmp 109), (.tmp 111)]), none⟩, ⟨(some 113), (.ext (.tmp 112) 0), none⟩, ⟨(some 114), (.ext (.tmp 112) 1), none⟩, ⟨none, (.store 3 (.tmp 6) (.tmp 113)), none⟩, ⟨(some 7), (.mv (.tmp 114)), none⟩])
 .ret)
 (.exit 0))))
 (.seq (.seq (.reg [⟨(some 115), (.call 51 []), none⟩, ⟨(some 116), (.mv (.tmp 2)), none⟩, ⟨(some 117), (.call 54 [(.tmp 116)]), none⟩, ⟨(some 118), (.mv (.tmp 117)), none⟩, ⟨(some 119), (.mv (.tmp 2)), (some (118, false))⟩, ⟨(some 120), (.call 58 [(.tmp 119), (.con (.int .i64 4))]), (some (118, false))⟩, ⟨(some 121), (.pick (.tmp 118) (.con (.bool true)) (.tmp 120)), none⟩, ⟨(some 122), (.call 56 [(.tmp 115), (.tmp 121)]), none⟩, ⟨(some 123), (.ext (.tmp 122) 0), none⟩, ⟨(some 124), (.ext (.tmp 122) 1), none⟩, ⟨none, (.store 3 (.tmp 6) (.tmp 123)), none⟩, ⟨(some 7), (.mv (.tmp 124)), none⟩])
 .ret)
 (.exit 0))))
 (.seq (.seq (.dreg [⟨(some 125), (.call 51 []), none⟩, ⟨(some 126), (.mv (.tmp 2)), none⟩, ⟨(some 127), (.iaddr 3 (.tmp 126) (.con (.int .i64 0))), none⟩, ⟨(some 128), (.faddr 0 (.tmp 127)), none⟩, ⟨(some 129), (.load false 1 (.tmp 128)), none⟩, ⟨(some 130), (.bin .eql .plain (.tmp 129) (.con (.int .i64 4))), none⟩, ⟨(some 131), (.mv (.tmp 130)), none⟩, ⟨(some 132), (.mv (.tmp 2)), (some (131, true))⟩, ⟨(some 133), (.iaddr 3 (.tmp 132) (.con (.int .i64 1))), (some (131, true))⟩, ⟨(some 134), (.load true 3 (.tmp 133)), (some (131, true))⟩, ⟨(some 135), (.call 59 [(.tmp 134)]), (some (131, true))⟩, ⟨(some 136), (.pick (.tmp 131) (.tmp 135) (.con (.bool false))), none⟩, ⟨(some 137), (.call 56 [(.tmp 125), (.tmp 136)]), none⟩, ⟨(some 138), (.ext (.tmp 137) 0), none⟩, ⟨(some 139), (.ext (.tmp 137) 1), none⟩, ⟨none, (.store 3 (.tmp 6) (.tmp 138)), none⟩, ⟨(some 7), (.mv (.tmp 139)), none⟩] [0, 10, 12, 15] [0, 0, 2, 6, 14, 30, 63, 127, 255, 511, 1023, 2047, 4095, 8191, 8191, 32767, 65535] [])
 .ret)
 (.exit 0))))
 (.seq (.seq (.reg [⟨(some 140), (.call 51 []), none⟩, ⟨(some 141), (.mv (.tmp 2)), none⟩, ⟨(some 142), (.call 58 [(.tmp 141), (.con (.int .i64 1))]), none⟩, ⟨(some 143), (.call 56 [(.tmp 140), (.tmp 142)]), none⟩, ⟨(some 144), (.ext (.tmp 143) 0), none⟩, ⟨(some 145), (.ext (.tmp 143) 1), none⟩, ⟨none, (.store 3 (.tmp 6) (.tmp 144)), none⟩, ⟨(some 7), (.mv (.tmp 145)), none⟩])
 .ret)
 (.exit 0)))))
 (.seq (.dreg [⟨(some 146), (.mv (.tmp 2)), none⟩, ⟨(some 147), (.iaddr 3 (.tmp 146) (.con (.int .i64 1))), none⟩, ⟨(some 148), (.load true 3 (.tmp 147)), none⟩, ⟨(some 149), (.mv (.tmp 2)), none⟩, ⟨(some 150), (.iaddr 3 (.tmp 149) (.con (.int .i64 0))), none⟩, ⟨(some 151), (.faddr 0 (.tmp 150)), none⟩, ⟨(some 152), (.load false 1 (.tmp 151)), none⟩, ⟨(some 153), (.bin .eql .plain (.tmp 152) (.con (.int .i64 1))), none⟩, ⟨(some 154), (.mv (.tmp 153)), none⟩, ⟨(some 155), (.mv (.tmp 2)), (some (154, true))⟩, ⟨(some 156), (.iaddr 3 (.tmp 155) (.con (.int .i64 1))), (some (154, true))⟩, ⟨(some 157), (.load true 3 (.tmp 156)), (some (154, true))⟩, ⟨(some 158), (.mv (.tmp 2)), (some (154, true))⟩, ⟨(some 159), (.iaddr 3 (.tmp 158) (.con (.int .i64 2))), (some (154, true))⟩, ⟨(some 160), (.load true 3 (.tmp 159)), (some (154, true))⟩, ⟨(some 161), (.bin .eql (.agg [.i, .i, .s]) (.tmp 157) (.tmp 160)), (some (154, true))⟩, ⟨(some 162), (.pick (.tmp 154) (.tmp 161) (.con (.bool false))), none⟩, ⟨(some 163), (.call 56 [(.tmp 148), (.tmp 162)]), none⟩, ⟨(some 164), (.ext (.tmp 163) 0), none⟩, ⟨(some 165), (.ext (.tmp 163) 1), none⟩, ⟨none, (.store 3 (.tmp 6) (.tmp 164)), none⟩, ⟨(some 7), (.mv (.tmp 165)), none⟩] [17, 20] [0, 1, 3, 0, 8, 24, 56, 120, 248, 504, 1016, 2040, 504, 4600, 12792, 32760, 65528, 131071, 262143, 262143, 1048575, 2097151] [])
 .ret)))
def ac40 : AFun := ⟨3, 166, ab40, [(.cell 6 true 3), (.tmp 7)]⟩
theorem cf40 : compF Try.prog Try.f40 = some ac40 := by kernel_rfl
theorem cl40 : callable Try.prog 40 = true := by kernel_rfl
theorem fn40 : Try.prog.funcs[40]? = some Try.f40 := by kernel_rfl
/- chancel/types.allows -/
def ab41 : ACode := (.seq (.reg [⟨(some 2), (.box (.tmp 0)), none⟩, ⟨(some 4), (.mv (.con (.bool false))), none⟩])
 (.seq (.reg [⟨(some 5), (.faddr 0 (.tmp 2)), none⟩, ⟨(some 6), (.load false 1 (.tmp 5)), none⟩, ⟨(some 7), (.bin .neq .plain (.tmp 6) (.con (.int .i64 1))), none⟩, ⟨(some 8), (.mv (.tmp 7)), none⟩, ⟨(some 9), (.faddr 1 (.tmp 2)), (some (8, false))⟩, ⟨(some 10), (.faddr 0 (.tmp 9)), (some (8, false))⟩, ⟨(some 11), (.load false 1 (.tmp 10)), (some (8, false))⟩, ⟨(some 12), (.mv (.tmp 1)), (some (8, false))⟩, ⟨(some 13), (.bin .eql .plain (.tmp 11) (.tmp 12)), (some (8, false))⟩, ⟨(some 14), (.pick (.tmp 8) (.con (.bool true)) (.tmp 13)), none⟩, ⟨(some 4), (.mv (.tmp 14)), none⟩])
 .ret))
def ac41 : AFun := ⟨2, 15, ab41, [(.tmp 4)]⟩
theorem cf41 : compF Try.prog Try.f41 = some ac41 := by kernel_rfl
theorem cl41 : callable Try.prog 41 = true := by kernel_rfl
theorem fn41 : Try.prog.funcs[41]? = some Try.f41 := by kernel_rfl
/- chancel/types.known -/
def ab42 : ACode := (.seq (.reg [⟨(some 2), (.box (.tmp 0)), none⟩, ⟨(some 3), (.box (.tmp 1)), none⟩, ⟨(some 4), (.mv (.con (.bool false))), none⟩])
 (.seq (.seq (.reg [⟨(some 9), (.faddr 0 (.tmp 3)), none⟩, ⟨(some 10), (.load false 1 (.tmp 9)), none⟩, ⟨(some 11), (.bin .eql .plain (.tmp 10) (.con (.str [65, 99, 116, 105, 111, 110]))), none⟩])
 (.cond (.tmp 11)
 (.seq (.reg [⟨(some 13), (.load true 2 (.tmp 2)), none⟩, ⟨(some 14), (.faddr 1 (.tmp 3)), none⟩, ⟨(some 15), (.load false 1 (.tmp 14)), none⟩, ⟨(some 16), (.call 60 [(.tmp 13), (.tmp 15)]), none⟩, ⟨(some 12), (.mv (.tmp 16)), none⟩, ⟨(some 17), (.ext (.tmp 12) 0), none⟩, ⟨(some 18), (.ext (.tmp 12) 1), none⟩, ⟨(some 5), (.alloc [(.str []), .nils, .nils]), none⟩, ⟨none, (.store 3 (.tmp 5) (.tmp 17)), none⟩, ⟨(some 6), (.mv (.tmp 18)), none⟩])
 (.seq (.reg [⟨(some 19), (.mv (.tmp 6)), none⟩, ⟨(some 4), (.mv (.tmp 19)), none⟩])
 .ret))
 .skip))
 (.seq (.reg [⟨(some 21), (.load true 2 (.tmp 2)), none⟩, ⟨(some 22), (.faddr 0 (.tmp 3)), none⟩, ⟨(some 23), (.load false 1 (.tmp 22)), none⟩, ⟨(some 24), (.call 61 [(.tmp 21), (.tmp 23)]), none⟩, ⟨(some 20), (.mv (.tmp 24)), none⟩, ⟨(some 25), (.ext (.tmp 20) 0), none⟩, ⟨(some 26), (.ext (.tmp 20) 1), none⟩, ⟨(some 7), (.alloc [(.str []), .nils, .nils]), none⟩, ⟨none, (.store 3 (.tmp 7) (.tmp 25)), none⟩, ⟨(some 8), (.mv (.tmp 26)), none⟩])
 (.seq (.reg [⟨(some 27), (.mv (.tmp 8)), none⟩, ⟨(some 4), (.mv (.tmp 27)), none⟩])
 .ret))))
def ac42 : AFun := ⟨2, 28, ab42, [(.tmp 4)]⟩
theorem cf42 : compF Try.prog Try.f42 = some ac42 := by kernel_rfl
theorem cl42 : callable Try.prog 42 = true := by kernel_rfl
theorem fn42 : Try.prog.funcs[42]? = some Try.f42 := by kernel_rfl
/- chancel/chancelref11.uid -/
def ab43 : ACode := (.seq (.reg [⟨(some 2), (.box (.tmp 0)), none⟩, ⟨(some 3), (.box (.tmp 1)), none⟩, ⟨(some 4), (.mv (.con (.bool false))), none⟩])
 (.seq (.seq (.reg [⟨(some 9), (.faddr 0 (.tmp 3)), none⟩, ⟨(some 10), (.load false 1 (.tmp 9)), none⟩, ⟨(some 11), (.bin .eql .plain (.tmp 10) (.con (.str [65, 99, 116, 105, 111, 110]))), none⟩])
 (.cond (.tmp 11)
 (.seq (.reg [⟨(some 13), (.load true 2 (.tmp 2)), none⟩, ⟨(some 14), (.faddr 1 (.tmp 3)), none⟩, ⟨(some 15), (.load false 1 (.tmp 14)), none⟩, ⟨(some 16), (.call 62 [(.tmp 13), (.tmp 15)]), none⟩, ⟨(some 12), (.mv (.tmp 16)), none⟩, ⟨(some 17), (.ext (.tmp 12) 0), none⟩, ⟨(some 18), (.ext (.tmp 12) 1), none⟩, ⟨(some 5), (.alloc [(.str []), .nils, .nils]), none⟩, ⟨none, (.store 3 (.tmp 5) (.tmp 17)), none⟩, ⟨(some 6), (.mv (.tmp 18)), none⟩])
 (.seq (.reg [⟨(some 19), (.mv (.tmp 6)), none⟩, ⟨(some 4), (.mv (.tmp 19)), none⟩])
 .ret))
 .skip))
 (.seq (.reg [⟨(some 21), (.load true 2 (.tmp 2)), none⟩, ⟨(some 22), (.faddr 0 (.tmp 3)), none⟩, ⟨(some 23), (.load false 1 (.tmp 22)), none⟩, ⟨(some 24), (.call 45 [(.tmp 21), (.tmp 23)]), none⟩, ⟨(some 20), (.mv (.tmp 24)), none⟩, ⟨(some 25), (.ext (.tmp 20) 0), none⟩, ⟨(some 26), (.ext (.tmp 20) 1), none⟩, ⟨(some 7), (.alloc [(.str []), .nils, .nils]), none⟩, ⟨none, (.store 3 (.tmp 7) (.tmp 25)), none⟩, ⟨(some 8), (.mv (.tmp 26)), none⟩])
 (.seq (.reg [⟨(some 27), (.mv (.tmp 8)), none⟩, ⟨(some 4), (.mv (.tmp 27)), none⟩])
 .ret))))
def ac43 : AFun := ⟨2, 28, ab43, [(.tmp 4)]⟩
theorem cf43 : compF Try.prog Try.f43 = some ac43 := by kernel_rfl
theorem cl43 : callable Try.prog 43 = true := by kernel_rfl
theorem fn43 : Try.prog.funcs[43]? = some Try.f43 := by kernel_rfl
/- chancel/chancellaw5.kind -/
def ab44 : ACode := (.seq (.reg [⟨(some 2), (.mv (.con (.str []))), none⟩])
 (.seq (.reg [⟨(some 3), (.bslice 1 4 [(.str [])] [(0, 1, (.con (.str [85, 115, 101, 114]))), (1, 1, (.con (.str [71, 114, 111, 117, 112]))), (2, 1, (.con (.str [68, 111, 99]))), (3, 1, (.con (.str [84, 101, 97, 109])))]), none⟩, ⟨(some 4), (.mv (.tmp 0)), none⟩, ⟨(some 5), (.call 33 [(.tmp 4), (.con (.int .i64 4))]), none⟩, ⟨(some 6), (.iaddr 1 (.tmp 3) (.tmp 5)), none⟩, ⟨(some 7), (.load false 1 (.tmp 6)), none⟩, ⟨(some 2), (.mv (.tmp 7)), none⟩])
 .ret))
def ac44 : AFun := ⟨1, 8, ab44, [(.tmp 2)]⟩
theorem cf44 : compF Try.prog Try.f44 = some ac44 := by kernel_rfl
theorem cl44 : callable Try.prog 44 = true := by kernel_rfl
theorem fn44 : Try.prog.funcs[44]? = some Try.f44 := by kernel_rfl
end Go.Proofs.Ytcdbpmmomgehfaa.Va
