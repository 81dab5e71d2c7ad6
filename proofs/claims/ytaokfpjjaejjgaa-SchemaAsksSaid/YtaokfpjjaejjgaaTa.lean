/- Functions of the program as resolved code (printed by gen.py from the kernel's own value). Conditions: none. -/
import Derived.Test.YtaokfpjjaejjgaaProg
import Derived.Test.YtaokfpjjaejjgaaVaF
import Derived.KernelRfl
set_option maxRecDepth 100000
set_option maxHeartbeats 4000000
set_option linter.all false
namespace Go.Proofs.Ytaokfpjjaejjgaa.Va
open Go.Proofs
/- gosem.cut.init -/
def ab2 : ACode := (.reg [⟨(some 0), (.call 1 []), none⟩])
def ac2 : AFun := ⟨0, 1, ab2, []⟩
theorem cf2 : compF Try.prog Try.f2 = some ac2 := by kernel_rfl
theorem cl2 : callable Try.prog 2 = true := by kernel_rfl
theorem fn2 : Try.prog.funcs[2]? = some Try.f2 := by kernel_rfl
/- chancel/chancellaw10.SchemaChecks -/
def ab3 : ACode := (.seq (.reg [⟨(some 7), (.box (.tmp 0)), none⟩, ⟨(some 12), (.box (.tmp 5)), none⟩, ⟨(some 14), (.mv (.con (.bool false))), none⟩])
 (.seq (.seq (.reg [⟨(some 18), (.call 8 []), none⟩, ⟨(some 19), (.un .not (.tmp 18)), none⟩])
 (.cond (.tmp 19)
 (.seq (.reg [⟨(some 14), (.mv (.con (.bool false))), none⟩])
 .ret)
 .skip))
 (.seq (.seq (.reg [⟨(some 20), (.load true 2 (.tmp 7)), none⟩, ⟨(some 21), (.call 9 [(.tmp 20)]), none⟩, ⟨(some 22), (.un .not (.tmp 21)), none⟩, ⟨(some 23), (.mv (.tmp 22)), none⟩, ⟨(some 24), (.mv (.tmp 6)), (some (23, false))⟩, ⟨(some 25), (.lenS (.tmp 24)), (some (23, false))⟩, ⟨(some 26), (.bin .gtr .plain (.tmp 25) (.con (.int .i64 50))), (some (23, false))⟩, ⟨(some 27), (.pick (.tmp 23) (.con (.bool true)) (.tmp 26)), none⟩, ⟨(some 28), (.mv (.tmp 27)), none⟩, ⟨(some 29), (.faddr 0 (.tmp 12)), (some (28, false))⟩, ⟨(some 30), (.load false 1 (.tmp 29)), (some (28, false))⟩, ⟨(some 31), (.lenS (.tmp 30)), (some (28, false))⟩, ⟨(some 32), (.bin .gtr .plain (.tmp 31) (.con (.int .i64 50))), (some (28, false))⟩, ⟨(some 33), (.pick (.tmp 28) (.con (.bool true)) (.tmp 32)), none⟩, ⟨(some 34), (.mv (.tmp 33)), none⟩, ⟨(some 35), (.faddr 1 (.tmp 12)), (some (34, false))⟩, ⟨(some 36), (.faddr 2 (.tmp 35)), (some (34, false))⟩, ⟨(some 37), (.load false 1 (.tmp 36)), (some (34, false))⟩, ⟨(some 38), (.lenS (.tmp 37)), (some (34, false))⟩, ⟨(some 39), (.bin .gtr .plain (.tmp 38) (.con (.int .i64 50))), (some (34, false))⟩, ⟨(some 40), (.pick (.tmp 34) (.con (.bool true)) (.tmp 39)), none⟩])
 (.cond (.tmp 40)
 (.seq (.reg [⟨(some 14), (.mv (.con (.bool true))), none⟩])
 .ret)
 .skip))
 (.seq (.reg [⟨(some 41), (.mv (.tmp 1)), none⟩, ⟨(some 42), (.mv (.tmp 2)), none⟩, ⟨(some 43), (.call 10 [(.tmp 41), (.tmp 42)]), none⟩, ⟨(some 15), (.alloc [.nils, .nils]), none⟩, ⟨none, (.store 2 (.tmp 15) (.tmp 43)), none⟩])
 (.seq (.reg [⟨(some 44), (.mv (.tmp 1)), none⟩, ⟨(some 45), (.mv (.tmp 2)), none⟩, ⟨(some 46), (.call 11 [(.tmp 44), (.tmp 45)]), none⟩, ⟨(some 16), (.alloc [.nils, .nils]), none⟩, ⟨none, (.store 2 (.tmp 16) (.tmp 46)), none⟩])
 (.seq (.seq (.dreg [⟨(some 47), (.load true 2 (.tmp 7)), none⟩, ⟨(some 48), (.call 12 [(.tmp 47)]), none⟩, ⟨(some 49), (.load true 2 (.tmp 7)), none⟩, ⟨(some 50), (.call 13 [(.tmp 49)]), none⟩, ⟨(some 51), (.bin .neq .plain (.tmp 48) (.tmp 50)), none⟩, ⟨(some 52), (.mv (.tmp 51)), none⟩, ⟨(some 53), (.load true 2 (.tmp 15)), (some (52, false))⟩, ⟨(some 54), (.call 12 [(.tmp 53)]), (some (52, false))⟩, ⟨(some 55), (.load true 2 (.tmp 15)), (some (52, false))⟩, ⟨(some 56), (.call 13 [(.tmp 55)]), (some (52, false))⟩, ⟨(some 57), (.bin .neq .plain (.tmp 54) (.tmp 56)), (some (52, false))⟩, ⟨(some 58), (.pick (.tmp 52) (.con (.bool true)) (.tmp 57)), none⟩, ⟨(some 59), (.mv (.tmp 58)), none⟩, ⟨(some 60), (.load true 2 (.tmp 16)), (some (59, false))⟩, ⟨(some 61), (.call 12 [(.tmp 60)]), (some (59, false))⟩, ⟨(some 62), (.bin .neq .plain (.tmp 61) (.con (.int .i64 0))), (some (59, false))⟩, ⟨(some 63), (.pick (.tmp 59) (.con (.bool true)) (.tmp 62)), none⟩] [1, 3, 7, 9, 14] [0, 1, 0, 7, 15, 31, 63, 127, 63, 511, 1023, 2047, 4095, 8191, 16383, 32767, 65535] [])
 (.cond (.tmp 63)
 (.seq (.reg [⟨(some 14), (.mv (.con (.bool false))), none⟩])
 .ret)
 .skip))
 (.seq (.seq (.reg [⟨(some 64), (.faddr 0 (.tmp 16)), none⟩, ⟨(some 65), (.load false 1 (.tmp 64)), none⟩, ⟨(some 66), (.lenL (.tmp 65)), none⟩, ⟨(some 67), (.bin .eql .plain (.tmp 66) (.con (.int .i64 0))), none⟩])
 (.cond (.tmp 67)
 (.seq (.reg [⟨(some 14), (.mv (.con (.bool true))), none⟩])
 .ret)
 .skip))
 (.seq (.reg [⟨(some 68), (.mv (.tmp 3)), none⟩, ⟨(some 69), (.faddr 0 (.tmp 16)), none⟩, ⟨(some 70), (.load false 1 (.tmp 69)), none⟩, ⟨(some 71), (.lenL (.tmp 70)), none⟩, ⟨(some 72), (.call 14 [(.tmp 68), (.tmp 71)]), none⟩, ⟨(some 17), (.mv (.tmp 72)), none⟩])
 (.seq (.seq (.reg [⟨(some 73), (.mv (.tmp 4)), none⟩, ⟨(some 74), (.call 14 [(.tmp 73), (.con (.int .i64 7))]), none⟩])
 (.block 0
 (.seq (.reg [⟨(some 76), (.bin .eql .plain (.tmp 74) (.con (.int .i64 0))), none⟩, ⟨(some 75), (.mv (.tmp 76)), none⟩])
 (.cond (.tmp 75)
 (.reg [⟨(some 77), (.faddr 0 (.tmp 16)), none⟩, ⟨(some 78), (.load false 1 (.tmp 77)), none⟩, ⟨(some 79), (.mv (.tmp 17)), none⟩, ⟨(some 80), (.mv (.tmp 6)), none⟩, ⟨(some 81), (.iaddr 3 (.tmp 78) (.tmp 79)), none⟩, ⟨(some 82), (.faddr 0 (.tmp 81)), none⟩, ⟨none, (.store 1 (.tmp 82) (.tmp 80)), none⟩])
 (.seq (.reg [⟨(some 84), (.bin .eql .plain (.tmp 74) (.con (.int .i64 1))), none⟩, ⟨(some 83), (.mv (.tmp 84)), none⟩])
 (.cond (.tmp 83)
 (.dreg [⟨(some 85), (.faddr 0 (.tmp 16)), none⟩, ⟨(some 86), (.load false 1 (.tmp 85)), none⟩, ⟨(some 87), (.mv (.tmp 17)), none⟩, ⟨(some 88), (.bslice 1 0 [(.str [])] []), none⟩, ⟨(some 89), (.faddr 0 (.tmp 16)), none⟩, ⟨(some 90), (.load false 1 (.tmp 89)), none⟩, ⟨(some 91), (.mv (.tmp 17)), none⟩, ⟨(some 92), (.iaddr 3 (.tmp 90) (.tmp 91)), none⟩, ⟨(some 93), (.faddr 1 (.tmp 92)), none⟩, ⟨(some 94), (.load false 1 (.tmp 93)), none⟩, ⟨(some 95), (.append 1 16 (.tmp 88) (.tmp 94)), none⟩, ⟨(some 96), (.mv (.tmp 6)), none⟩, ⟨(some 97), (.bslice 1 1 [(.str [])] [(0, 1, (.tmp 96))]), none⟩, ⟨(some 98), (.append 1 16 (.tmp 95) (.tmp 97)), none⟩, ⟨(some 99), (.iaddr 3 (.tmp 86) (.tmp 87)), none⟩, ⟨(some 100), (.faddr 1 (.tmp 99)), none⟩, ⟨none, (.store 1 (.tmp 100) (.tmp 98)), none⟩] [10, 13, 16] [0, 1, 0, 0, 0, 16, 0, 112, 240, 496, 1016, 0, 2048, 8184, 16383, 32767, 65535] [3, 12])
 (.seq (.reg [⟨(some 102), (.bin .eql .plain (.tmp 74) (.con (.int .i64 2))), none⟩, ⟨(some 101), (.mv (.tmp 102)), none⟩])
 (.cond (.tmp 101)
 (.dreg [⟨(some 103), (.faddr 0 (.tmp 16)), none⟩, ⟨(some 104), (.load false 1 (.tmp 103)), none⟩, ⟨(some 105), (.mv (.tmp 17)), none⟩, ⟨(some 106), (.bslice 4 0 [(.str []), (.int .i64 0), (.int .i64 0), (.str [])] []), none⟩, ⟨(some 107), (.faddr 0 (.tmp 16)), none⟩, ⟨(some 108), (.load false 1 (.tmp 107)), none⟩, ⟨(some 109), (.mv (.tmp 17)), none⟩, ⟨(some 110), (.iaddr 3 (.tmp 108) (.tmp 109)), none⟩, ⟨(some 111), (.faddr 2 (.tmp 110)), none⟩, ⟨(some 112), (.load false 1 (.tmp 111)), none⟩, ⟨(some 113), (.append 4 48 (.tmp 106) (.tmp 112)), none⟩, ⟨(some 114), (.load true 4 (.tmp 12)), none⟩, ⟨(some 115), (.bslice 4 1 [(.str []), (.int .i64 0), (.int .i64 0), (.str [])] [(0, 4, (.tmp 114))]), none⟩, ⟨(some 116), (.append 4 48 (.tmp 113) (.tmp 115)), none⟩, ⟨(some 117), (.iaddr 3 (.tmp 104) (.tmp 105)), none⟩, ⟨(some 118), (.faddr 2 (.tmp 117)), none⟩, ⟨none, (.store 1 (.tmp 118) (.tmp 116)), none⟩] [10, 13, 16] [0, 1, 0, 0, 0, 16, 0, 112, 240, 496, 1016, 0, 2048, 8184, 16383, 32767, 65535] [3, 12])
 (.seq (.reg [⟨(some 120), (.bin .eql .plain (.tmp 74) (.con (.int .i64 3))), none⟩, ⟨(some 119), (.mv (.tmp 120)), none⟩])
 (.cond (.tmp 119)
 (.dreg [⟨(some 121), (.faddr 0 (.tmp 16)), none⟩, ⟨(some 122), (.load false 1 (.tmp 121)), none⟩, ⟨(some 123), (.faddr 0 (.tmp 16)), none⟩, ⟨(some 124), (.load false 1 (.tmp 123)), none⟩, ⟨(some 125), (.mv (.tmp 17)), none⟩, ⟨(some 126), (.iaddr 3 (.tmp 124) (.tmp 125)), none⟩, ⟨(some 127), (.load true 3 (.tmp 126)), none⟩, ⟨(some 128), (.bslice 3 1 [(.str []), .nils, .nils] [(0, 3, (.tmp 127))]), none⟩, ⟨(some 129), (.append 3 64 (.tmp 122) (.tmp 128)), none⟩, ⟨(some 130), (.faddr 0 (.tmp 16)), none⟩, ⟨none, (.store 1 (.tmp 130) (.tmp 129)), none⟩] [7, 8, 10] [0, 1, 0, 4, 0, 28, 60, 124, 255, 511, 1023] [])
 (.seq (.reg [⟨(some 132), (.bin .eql .plain (.tmp 74) (.con (.int .i64 4))), none⟩, ⟨(some 131), (.mv (.tmp 132)), none⟩])
 (.cond (.tmp 131)
 (.dreg [⟨(some 133), (.faddr 1 (.tmp 16)), none⟩, ⟨(some 134), (.load false 1 (.tmp 133)), none⟩, ⟨(some 135), (.mv (.tmp 6)), none⟩, ⟨(some 136), (.faddr 0 (.tmp 16)), none⟩, ⟨(some 137), (.load false 1 (.tmp 136)), none⟩, ⟨(some 138), (.mv (.tmp 17)), none⟩, ⟨(some 139), (.iaddr 3 (.tmp 137) (.tmp 138)), none⟩, ⟨(some 140), (.faddr 0 (.tmp 139)), none⟩, ⟨(some 141), (.load false 1 (.tmp 140)), none⟩, ⟨(some 142), (.bslice 1 1 [(.str [])] [(0, 1, (.tmp 141))]), none⟩, ⟨(some 143), (.bslice 1 1 [(.str [])] [(0, 1, (.con (.str [68, 111, 99])))]), none⟩, ⟨(some 144), (.build [(.str []), .nils, .nils] [(0, 1, (.tmp 135)), (1, 1, (.tmp 142)), (2, 1, (.tmp 143))]), none⟩, ⟨(some 145), (.bslice 3 1 [(.str []), .nils, .nils] [(0, 3, (.tmp 144))]), none⟩, ⟨(some 146), (.append 3 64 (.tmp 134) (.tmp 145)), none⟩, ⟨(some 147), (.faddr 1 (.tmp 16)), none⟩, ⟨none, (.store 1 (.tmp 147) (.tmp 146)), none⟩] [12, 13, 15] [0, 1, 0, 0, 8, 0, 56, 120, 248, 504, 0, 2044, 4092, 8191, 16383, 32767] [9, 10])
 (.seq (.reg [⟨(some 149), (.bin .eql .plain (.tmp 74) (.con (.int .i64 5))), none⟩, ⟨(some 148), (.mv (.tmp 149)), none⟩])
 (.cond (.tmp 148)
 (.dreg [⟨(some 150), (.faddr 0 (.tmp 16)), none⟩, ⟨(some 151), (.load false 1 (.tmp 150)), none⟩, ⟨(some 152), (.mv (.tmp 17)), none⟩, ⟨(some 153), (.iaddr 3 (.tmp 151) (.tmp 152)), none⟩, ⟨(some 154), (.faddr 0 (.tmp 153)), none⟩, ⟨(some 155), (.load false 1 (.tmp 154)), none⟩, ⟨(some 156), (.bslice 1 1 [(.str [])] [(0, 1, (.tmp 155))]), none⟩, ⟨(some 157), (.build [(.str []), .nils, .nils] [(0, 1, (.con (.str [97, 97]))), (1, 1, (.tmp 156))]), none⟩, ⟨(some 158), (.bslice 3 1 [(.str []), .nils, .nils] [(0, 3, (.tmp 157))]), none⟩, ⟨(some 159), (.faddr 1 (.tmp 16)), none⟩, ⟨(some 160), (.load false 1 (.tmp 159)), none⟩, ⟨(some 161), (.append 3 64 (.tmp 158) (.tmp 160)), none⟩, ⟨(some 162), (.faddr 1 (.tmp 16)), none⟩, ⟨none, (.store 1 (.tmp 162) (.tmp 161)), none⟩] [6, 8, 11, 13] [0, 1, 0, 7, 15, 31, 63, 127, 255, 0, 512, 2047, 4095, 8191] [])
 (.seq (.reg [⟨(some 164), (.bin .eql .plain (.tmp 74) (.con (.int .i64 6))), none⟩, ⟨(some 163), (.mv (.tmp 164)), none⟩])
 (.cond (.tmp 163)
 (.dreg [⟨(some 165), (.bslice 3 0 [(.str []), .nils, .nils] []), none⟩, ⟨(some 166), (.faddr 0 (.tmp 16)), none⟩, ⟨(some 167), (.load false 1 (.tmp 166)), none⟩, ⟨(some 168), (.mv (.tmp 17)), none⟩, ⟨(some 169), (.slSl 3 (.tmp 167) none (some (.tmp 168)) none), none⟩, ⟨(some 170), (.append 3 64 (.tmp 165) (.tmp 169)), none⟩, ⟨(some 171), (.faddr 0 (.tmp 16)), none⟩, ⟨(some 172), (.load false 1 (.tmp 171)), none⟩, ⟨(some 173), (.mv (.tmp 17)), none⟩, ⟨(some 174), (.bin .add .plain (.tmp 173) (.con (.int .i64 1))), none⟩, ⟨(some 175), (.slSl 3 (.tmp 172) (some (.tmp 174)) none none), none⟩, ⟨(some 176), (.append 3 64 (.tmp 170) (.tmp 175)), none⟩, ⟨(some 177), (.faddr 0 (.tmp 16)), none⟩, ⟨none, (.store 1 (.tmp 177) (.tmp 176)), none⟩] [0, 5, 11, 13] [0, 0, 2, 0, 14, 31, 0, 64, 0, 256, 960, 2047, 4095, 8191] [])
 .skip))))))))))))))))
 (.seq (.dreg [⟨(some 178), (.load true 2 (.tmp 16)), none⟩, ⟨(some 179), (.call 12 [(.tmp 178)]), none⟩, ⟨(some 180), (.load true 2 (.tmp 16)), none⟩, ⟨(some 181), (.call 13 [(.tmp 180)]), none⟩, ⟨(some 182), (.bin .eql .plain (.tmp 179) (.tmp 181)), none⟩, ⟨(some 14), (.mv (.tmp 182)), none⟩] [1, 3] [0, 1, 0, 7, 15, 31] [])
 .ret))))))))))
def ac3 : AFun := ⟨7, 183, ab3, [(.tmp 14)]⟩
theorem cf3 : compF Try.prog Try.f3 = some ac3 := by kernel_rfl
theorem cl3 : callable Try.prog 3 = true := by kernel_rfl
theorem fn3 : Try.prog.funcs[3]? = some Try.f3 := by kernel_rfl
/- chancel/chancellaw10.SchemaTypes -/
def ab4 : ACode := (.seq (.reg [⟨(some 8), (.mv (.con (.bool false))), none⟩])
 (.seq (.seq (.reg [⟨(some 13), (.call 8 []), none⟩, ⟨(some 14), (.un .not (.tmp 13)), none⟩])
 (.cond (.tmp 14)
 (.seq (.reg [⟨(some 8), (.mv (.con (.bool false))), none⟩])
 .ret)
 .skip))
 (.seq (.reg [⟨(some 15), (.mv (.tmp 0)), none⟩, ⟨(some 16), (.call 14 [(.tmp 15), (.con (.int .i64 8))]), none⟩, ⟨(some 17), (.bin .sub .plain (.tmp 16) (.con (.int .i64 1))), none⟩, ⟨(some 18), (.mv (.tmp 1)), none⟩, ⟨(some 19), (.call 14 [(.tmp 18), (.con (.int .i64 7))]), none⟩, ⟨(some 20), (.bin .sub .plain (.tmp 19) (.con (.int .i64 1))), none⟩, ⟨(some 21), (.bslice 1 4 [(.str [])] [(0, 1, (.con (.str []))), (1, 1, (.con (.str [65]))), (2, 1, (.con (.str [66]))), (3, 1, (.con (.str [97])))]), none⟩, ⟨(some 22), (.mv (.tmp 2)), none⟩, ⟨(some 23), (.call 14 [(.tmp 22), (.con (.int .i64 4))]), none⟩, ⟨(some 24), (.iaddr 1 (.tmp 21) (.tmp 23)), none⟩, ⟨(some 25), (.load false 1 (.tmp 24)), none⟩, ⟨(some 26), (.build [(.int .i64 0), (.int .i64 0), (.str [])] [(0, 1, (.tmp 17)), (1, 1, (.tmp 20)), (2, 1, (.tmp 25))]), none⟩, ⟨(some 9), (.alloc [(.int .i64 0), (.int .i64 0), (.str [])]), none⟩, ⟨none, (.store 3 (.tmp 9) (.tmp 26)), none⟩])
 (.seq (.seq (.reg [⟨(some 27), (.mv (.tmp 3)), none⟩, ⟨(some 28), (.mv (.tmp 27)), none⟩, ⟨(some 29), (.faddr 0 (.tmp 9)), (some (28, true))⟩, ⟨(some 30), (.load false 1 (.tmp 29)), (some (28, true))⟩, ⟨(some 31), (.bin .neq .plain (.tmp 30) (.con (.int .i64 5))), (some (28, true))⟩, ⟨(some 32), (.pick (.tmp 28) (.tmp 31) (.con (.bool false))), none⟩])
 (.cond (.tmp 32)
 (.reg [⟨(some 33), (.faddr 1 (.tmp 9)), none⟩, ⟨none, (.store 1 (.tmp 33) (.con (.int .i64 0))), none⟩])
 .skip))
 (.seq (.reg [⟨(some 34), (.load true 3 (.tmp 9)), none⟩, ⟨(some 35), (.build [(.str []), (.int .i64 0), (.int .i64 0), (.str [])] [(0, 1, (.con (.str [102]))), (1, 3, (.tmp 34))]), none⟩, ⟨(some 36), (.bslice 4 1 [(.str []), (.int .i64 0), (.int .i64 0), (.str [])] [(0, 4, (.tmp 35))]), none⟩, ⟨(some 37), (.build [(.str []), .nils, .nils] [(0, 1, (.con (.str [65]))), (2, 1, (.tmp 36))]), none⟩, ⟨(some 38), (.build [(.str []), .nils, .nils] [(0, 1, (.con (.str [66])))]), none⟩, ⟨(some 39), (.bslice 3 2 [(.str []), .nils, .nils] [(0, 3, (.tmp 37)), (3, 3, (.tmp 38))]), none⟩, ⟨(some 40), (.build [.nils, .nils] [(0, 1, (.tmp 39))]), none⟩, ⟨(some 10), (.alloc [.nils, .nils]), none⟩, ⟨none, (.store 2 (.tmp 10) (.tmp 40)), none⟩])
 (.seq (.reg [⟨(some 11), (.mv (.con (.int .i64 0))), none⟩])
 (.seq (.reg [⟨(some 41), (.faddr 0 (.tmp 9)), none⟩, ⟨(some 42), (.load false 1 (.tmp 41)), none⟩, ⟨(some 43), (.bin .eql .plain (.tmp 42) (.con (.int .i64 4))), none⟩, ⟨(some 44), (.mv (.tmp 43)), none⟩, ⟨(some 45), (.faddr 0 (.tmp 9)), (some (44, false))⟩, ⟨(some 46), (.load false 1 (.tmp 45)), (some (44, false))⟩, ⟨(some 47), (.bin .eql .plain (.tmp 46) (.con (.int .i64 5))), (some (44, false))⟩, ⟨(some 48), (.mv (.tmp 47)), (some (44, false))⟩, ⟨(some 49), (.faddr 1 (.tmp 9)), (some (48, true))⟩, ⟨(some 50), (.load false 1 (.tmp 49)), (some (48, true))⟩, ⟨(some 51), (.bin .eql .plain (.tmp 50) (.con (.int .i64 4))), (some (48, true))⟩, ⟨(some 52), (.pick (.tmp 48) (.tmp 51) (.con (.bool false))), (some (44, false))⟩, ⟨(some 53), (.pick (.tmp 44) (.con (.bool true)) (.tmp 52)), none⟩, ⟨(some 12), (.mv (.tmp 53)), none⟩])
 (.seq (.block 0
 (.seq (.reg [⟨(some 55), (.faddr 0 (.tmp 9)), none⟩, ⟨(some 56), (.load false 1 (.tmp 55)), none⟩, ⟨(some 57), (.bin .lss .plain (.tmp 56) (.con (.int .i64 1))), none⟩, ⟨(some 58), (.mv (.tmp 57)), none⟩, ⟨(some 59), (.faddr 0 (.tmp 9)), (some (58, false))⟩, ⟨(some 60), (.load false 1 (.tmp 59)), (some (58, false))⟩, ⟨(some 61), (.bin .gtr .plain (.tmp 60) (.con (.int .i64 5))), (some (58, false))⟩, ⟨(some 62), (.pick (.tmp 58) (.con (.bool true)) (.tmp 61)), none⟩, ⟨(some 63), (.mv (.tmp 62)), none⟩, ⟨(some 64), (.faddr 0 (.tmp 9)), (some (63, false))⟩, ⟨(some 65), (.load false 1 (.tmp 64)), (some (63, false))⟩, ⟨(some 66), (.bin .eql .plain (.tmp 65) (.con (.int .i64 5))), (some (63, false))⟩, ⟨(some 67), (.mv (.tmp 66)), (some (63, false))⟩, ⟨(some 68), (.faddr 1 (.tmp 9)), (some (67, true))⟩, ⟨(some 69), (.load false 1 (.tmp 68)), (some (67, true))⟩, ⟨(some 70), (.bin .lss .plain (.tmp 69) (.con (.int .i64 1))), (some (67, true))⟩, ⟨(some 71), (.mv (.tmp 70)), (some (67, true))⟩, ⟨(some 72), (.faddr 1 (.tmp 9)), (some (71, false))⟩, ⟨(some 73), (.load false 1 (.tmp 72)), (some (71, false))⟩, ⟨(some 74), (.bin .gtr .plain (.tmp 73) (.con (.int .i64 4))), (some (71, false))⟩, ⟨(some 75), (.pick (.tmp 71) (.con (.bool true)) (.tmp 74)), (some (67, true))⟩, ⟨(some 76), (.pick (.tmp 67) (.tmp 75) (.con (.bool false))), (some (63, false))⟩, ⟨(some 77), (.pick (.tmp 63) (.con (.bool true)) (.tmp 76)), none⟩, ⟨(some 54), (.mv (.tmp 77)), none⟩])
 (.cond (.tmp 54)
 (.reg [⟨(some 11), (.mv (.con (.int .i64 3))), none⟩])
 (.seq (.reg [⟨(some 79), (.faddr 0 (.tmp 9)), none⟩, ⟨(some 80), (.load false 1 (.tmp 79)), none⟩, ⟨(some 81), (.bin .neq .plain (.tmp 80) (.con (.int .i64 5))), none⟩, ⟨(some 82), (.mv (.tmp 81)), none⟩, ⟨(some 83), (.faddr 1 (.tmp 9)), (some (82, true))⟩, ⟨(some 84), (.load false 1 (.tmp 83)), (some (82, true))⟩, ⟨(some 85), (.bin .neq .plain (.tmp 84) (.con (.int .i64 0))), (some (82, true))⟩, ⟨(some 86), (.pick (.tmp 82) (.tmp 85) (.con (.bool false))), none⟩, ⟨(some 87), (.mv (.tmp 86)), none⟩, ⟨(some 88), (.mv (.tmp 12)), (some (87, false))⟩, ⟨(some 89), (.un .not (.tmp 88)), (some (87, false))⟩, ⟨(some 90), (.mv (.tmp 89)), (some (87, false))⟩, ⟨(some 91), (.faddr 2 (.tmp 9)), (some (90, true))⟩, ⟨(some 92), (.load false 1 (.tmp 91)), (some (90, true))⟩, ⟨(some 93), (.bin .neq .plain (.tmp 92) (.con (.str []))), (some (90, true))⟩, ⟨(some 94), (.pick (.tmp 90) (.tmp 93) (.con (.bool false))), (some (87, false))⟩, ⟨(some 95), (.pick (.tmp 87) (.con (.bool true)) (.tmp 94)), none⟩, ⟨(some 78), (.mv (.tmp 95)), none⟩])
 (.cond (.tmp 78)
 (.reg [⟨(some 11), (.mv (.con (.int .i64 1))), none⟩])
 (.seq (.reg [⟨(some 97), (.mv (.tmp 12)), none⟩, ⟨(some 98), (.mv (.tmp 97)), none⟩, ⟨(some 99), (.faddr 2 (.tmp 9)), (some (98, true))⟩, ⟨(some 100), (.load false 1 (.tmp 99)), (some (98, true))⟩, ⟨(some 101), (.bin .neq .plain (.tmp 100) (.con (.str [65]))), (some (98, true))⟩, ⟨(some 102), (.pick (.tmp 98) (.tmp 101) (.con (.bool false))), none⟩, ⟨(some 103), (.mv (.tmp 102)), none⟩, ⟨(some 104), (.faddr 2 (.tmp 9)), (some (103, true))⟩, ⟨(some 105), (.load false 1 (.tmp 104)), (some (103, true))⟩, ⟨(some 106), (.bin .neq .plain (.tmp 105) (.con (.str [66]))), (some (103, true))⟩, ⟨(some 107), (.pick (.tmp 103) (.tmp 106) (.con (.bool false))), none⟩, ⟨(some 96), (.mv (.tmp 107)), none⟩])
 (.cond (.tmp 96)
 (.reg [⟨(some 11), (.mv (.con (.int .i64 2))), none⟩])
 .skip)))))))
 (.seq (.reg [⟨(some 108), (.load true 2 (.tmp 10)), none⟩, ⟨(some 109), (.call 12 [(.tmp 108)]), none⟩, ⟨(some 110), (.mv (.tmp 11)), none⟩, ⟨(some 111), (.bin .eql .plain (.tmp 109) (.tmp 110)), none⟩, ⟨(some 8), (.mv (.tmp 111)), none⟩])
 .ret)))))))))
def ac4 : AFun := ⟨4, 112, ab4, [(.tmp 8)]⟩
theorem cf4 : compF Try.prog Try.f4 = some ac4 := by kernel_rfl
theorem cl4 : callable Try.prog 4 = true := by kernel_rfl
theorem fn4 : Try.prog.funcs[4]? = some Try.f4 := by kernel_rfl
/- chancel/chancellaw10.SchemaBounds -/
def ab5 : ACode := (.seq (.reg [⟨(some 4), (.mv (.con (.bool false))), none⟩])
 (.seq (.seq (.reg [⟨(some 13), (.call 8 []), none⟩, ⟨(some 14), (.un .not (.tmp 13)), none⟩])
 (.cond (.tmp 14)
 (.seq (.reg [⟨(some 4), (.mv (.con (.bool false))), none⟩])
 .ret)
 .skip))
 (.seq (.reg [⟨(some 15), (.mv (.tmp 1)), none⟩, ⟨(some 16), (.call 14 [(.tmp 15), (.con (.int .i64 4))]), none⟩, ⟨(some 1), (.mv (.tmp 16)), none⟩])
 (.seq (.reg [⟨(some 5), (.alloc [.nils, .nils]), none⟩])
 (.seq (.reg [⟨(some 17), (.build [(.str []), .nils, .nils] [(0, 1, (.con (.str [65])))]), none⟩, ⟨(some 18), (.bslice 3 1 [(.str []), .nils, .nils] [(0, 3, (.tmp 17))]), none⟩, ⟨(some 19), (.faddr 0 (.tmp 5)), none⟩, ⟨none, (.store 1 (.tmp 19) (.tmp 18)), none⟩])
 (.seq (.seq (.reg [⟨(some 20), (.mv (.tmp 0)), none⟩, ⟨(some 21), (.call 14 [(.tmp 20), (.con (.int .i64 5))]), none⟩])
 (.block 0
 (.seq (.reg [⟨(some 23), (.bin .eql .plain (.tmp 21) (.con (.int .i64 0))), none⟩, ⟨(some 22), (.mv (.tmp 23)), none⟩])
 (.cond (.tmp 22)
 (.seq (.reg [⟨(some 24), (.faddr 0 (.tmp 5)), none⟩, ⟨none, (.store 1 (.tmp 24) (.con .nils)), none⟩])
 (.seq (.reg [⟨(some 6), (.mv (.con (.int .i64 0))), none⟩])
 (.block 1
 (.loop (.seq (.seq (.reg [⟨(some 25), (.mv (.tmp 6)), none⟩, ⟨(some 26), (.mv (.tmp 1)), none⟩, ⟨(some 27), (.bin .add .plain (.con (.int .i64 5)) (.tmp 26)), none⟩, ⟨(some 28), (.bin .lss .plain (.tmp 25) (.tmp 27)), none⟩])
 (.cond (.tmp 28)
 .skip
 (.exit 1)))
 (.seq (.block 2
 (.reg [⟨(some 31), (.faddr 0 (.tmp 5)), none⟩, ⟨(some 32), (.load false 1 (.tmp 31)), none⟩, ⟨(some 33), (.mv (.tmp 6)), none⟩, ⟨(some 34), (.bin .add .plain (.con (.int .i64 97)) (.tmp 33)), none⟩, ⟨(some 35), (.cvInt .u8 (.tmp 34)), none⟩, ⟨(some 36), (.bslice 1 1 [(.int .u8 0)] [(0, 1, (.tmp 35))]), none⟩, ⟨(some 37), (.cvBS (.tmp 36)), none⟩, ⟨(some 38), (.build [(.str []), .nils, .nils] [(0, 1, (.tmp 37))]), none⟩, ⟨(some 39), (.bslice 3 1 [(.str []), .nils, .nils] [(0, 3, (.tmp 38))]), none⟩, ⟨(some 40), (.append 3 64 (.tmp 32) (.tmp 39)), none⟩, ⟨(some 41), (.faddr 0 (.tmp 5)), none⟩, ⟨none, (.store 1 (.tmp 41) (.tmp 40)), none⟩]))
 (.reg [⟨(some 29), (.mv (.tmp 6)), none⟩, ⟨(some 30), (.bin .add .plain (.tmp 29) (.con (.int .i64 1))), none⟩, ⟨(some 6), (.mv (.tmp 30)), none⟩])))))))
 (.seq (.reg [⟨(some 43), (.bin .eql .plain (.tmp 21) (.con (.int .i64 1))), none⟩, ⟨(some 42), (.mv (.tmp 43)), none⟩])
 (.cond (.tmp 42)
 (.seq (.reg [⟨(some 7), (.mv (.con (.int .i64 0))), none⟩])
 (.block 3
 (.loop (.seq (.seq (.reg [⟨(some 44), (.mv (.tmp 7)), none⟩, ⟨(some 45), (.mv (.tmp 1)), none⟩, ⟨(some 46), (.bin .add .plain (.con (.int .i64 5)) (.tmp 45)), none⟩, ⟨(some 47), (.bin .lss .plain (.tmp 44) (.tmp 46)), none⟩])
 (.cond (.tmp 47)
 .skip
 (.exit 3)))
 (.seq (.block 4
 (.reg [⟨(some 50), (.faddr 1 (.tmp 5)), none⟩, ⟨(some 51), (.load false 1 (.tmp 50)), none⟩, ⟨(some 52), (.mv (.tmp 7)), none⟩, ⟨(some 53), (.bin .add .plain (.con (.int .i64 97)) (.tmp 52)), none⟩, ⟨(some 54), (.cvInt .u8 (.tmp 53)), none⟩, ⟨(some 55), (.bslice 1 1 [(.int .u8 0)] [(0, 1, (.tmp 54))]), none⟩, ⟨(some 56), (.cvBS (.tmp 55)), none⟩, ⟨(some 57), (.bslice 1 1 [(.str [])] [(0, 1, (.con (.str [65])))]), none⟩, ⟨(some 58), (.bslice 1 1 [(.str [])] [(0, 1, (.con (.str [65])))]), none⟩, ⟨(some 59), (.build [(.str []), .nils, .nils] [(0, 1, (.tmp 56)), (1, 1, (.tmp 57)), (2, 1, (.tmp 58))]), none⟩, ⟨(some 60), (.bslice 3 1 [(.str []), .nils, .nils] [(0, 3, (.tmp 59))]), none⟩, ⟨(some 61), (.append 3 64 (.tmp 51) (.tmp 60)), none⟩, ⟨(some 62), (.faddr 1 (.tmp 5)), none⟩, ⟨none, (.store 1 (.tmp 62) (.tmp 61)), none⟩]))
 (.reg [⟨(some 48), (.mv (.tmp 7)), none⟩, ⟨(some 49), (.bin .add .plain (.tmp 48) (.con (.int .i64 1))), none⟩, ⟨(some 7), (.mv (.tmp 49)), none⟩]))))))
 (.seq (.reg [⟨(some 64), (.bin .eql .plain (.tmp 21) (.con (.int .i64 2))), none⟩, ⟨(some 63), (.mv (.tmp 64)), none⟩])
 (.cond (.tmp 63)
 (.seq (.reg [⟨(some 8), (.mv (.con (.int .i64 0))), none⟩])
 (.block 5
 (.loop (.seq (.seq (.reg [⟨(some 65), (.mv (.tmp 8)), none⟩, ⟨(some 66), (.mv (.tmp 1)), none⟩, ⟨(some 67), (.bin .add .plain (.con (.int .i64 4)) (.tmp 66)), none⟩, ⟨(some 68), (.bin .lss .plain (.tmp 65) (.tmp 67)), none⟩])
 (.cond (.tmp 68)
 .skip
 (.exit 5)))
 (.seq (.block 6
 (.dreg [⟨(some 71), (.faddr 0 (.tmp 5)), none⟩, ⟨(some 72), (.load false 1 (.tmp 71)), none⟩, ⟨(some 73), (.faddr 0 (.tmp 5)), none⟩, ⟨(some 74), (.load false 1 (.tmp 73)), none⟩, ⟨(some 75), (.iaddr 3 (.tmp 74) (.con (.int .i64 0))), none⟩, ⟨(some 76), (.faddr 2 (.tmp 75)), none⟩, ⟨(some 77), (.load false 1 (.tmp 76)), none⟩, ⟨(some 78), (.mv (.tmp 8)), none⟩, ⟨(some 79), (.bin .add .plain (.con (.int .i64 97)) (.tmp 78)), none⟩, ⟨(some 80), (.cvInt .u8 (.tmp 79)), none⟩, ⟨(some 81), (.bslice 1 1 [(.int .u8 0)] [(0, 1, (.tmp 80))]), none⟩, ⟨(some 82), (.cvBS (.tmp 81)), none⟩, ⟨(some 83), (.build [(.int .i64 0), (.int .i64 0), (.str [])] [(0, 1, (.con (.int .i64 1)))]), none⟩, ⟨(some 84), (.build [(.str []), (.int .i64 0), (.int .i64 0), (.str [])] [(0, 1, (.tmp 82)), (1, 3, (.tmp 83))]), none⟩, ⟨(some 85), (.bslice 4 1 [(.str []), (.int .i64 0), (.int .i64 0), (.str [])] [(0, 4, (.tmp 84))]), none⟩, ⟨(some 86), (.append 4 48 (.tmp 77) (.tmp 85)), none⟩, ⟨(some 87), (.iaddr 3 (.tmp 72) (.con (.int .i64 0))), none⟩, ⟨(some 88), (.faddr 2 (.tmp 87)), none⟩, ⟨none, (.store 1 (.tmp 88) (.tmp 86)), none⟩] [10, 14, 15, 18] [0, 1, 0, 4, 12, 28, 60, 0, 128, 384, 896, 1920, 0, 8064, 16256, 32764, 65535, 131071, 262143] []))
 (.reg [⟨(some 69), (.mv (.tmp 8)), none⟩, ⟨(some 70), (.bin .add .plain (.tmp 69) (.con (.int .i64 1))), none⟩, ⟨(some 8), (.mv (.tmp 70)), none⟩]))))))
 (.seq (.reg [⟨(some 90), (.bin .eql .plain (.tmp 21) (.con (.int .i64 3))), none⟩, ⟨(some 89), (.mv (.tmp 90)), none⟩])
 (.cond (.tmp 89)
 (.seq (.reg [⟨(some 9), (.mv (.con (.int .i64 0))), none⟩])
 (.block 7
 (.loop (.seq (.seq (.reg [⟨(some 91), (.mv (.tmp 9)), none⟩, ⟨(some 92), (.mv (.tmp 1)), none⟩, ⟨(some 93), (.bin .add .plain (.con (.int .i64 3)) (.tmp 92)), none⟩, ⟨(some 94), (.bin .lss .plain (.tmp 91) (.tmp 93)), none⟩])
 (.cond (.tmp 94)
 .skip
 (.exit 7)))
 (.seq (.block 8
 (.dreg [⟨(some 97), (.faddr 0 (.tmp 5)), none⟩, ⟨(some 98), (.load false 1 (.tmp 97)), none⟩, ⟨(some 99), (.faddr 0 (.tmp 5)), none⟩, ⟨(some 100), (.load false 1 (.tmp 99)), none⟩, ⟨(some 101), (.iaddr 3 (.tmp 100) (.con (.int .i64 0))), none⟩, ⟨(some 102), (.faddr 1 (.tmp 101)), none⟩, ⟨(some 103), (.load false 1 (.tmp 102)), none⟩, ⟨(some 104), (.bslice 1 1 [(.str [])] [(0, 1, (.con (.str [65])))]), none⟩, ⟨(some 105), (.append 1 16 (.tmp 103) (.tmp 104)), none⟩, ⟨(some 106), (.iaddr 3 (.tmp 98) (.con (.int .i64 0))), none⟩, ⟨(some 107), (.faddr 1 (.tmp 106)), none⟩, ⟨none, (.store 1 (.tmp 107) (.tmp 105)), none⟩] [7, 8, 11] [0, 1, 0, 4, 12, 28, 60, 0, 252, 511, 1023, 2047] []))
 (.reg [⟨(some 95), (.mv (.tmp 9)), none⟩, ⟨(some 96), (.bin .add .plain (.tmp 95) (.con (.int .i64 1))), none⟩, ⟨(some 9), (.mv (.tmp 96)), none⟩]))))))
 (.seq (.reg [⟨(some 109), (.bin .eql .plain (.tmp 21) (.con (.int .i64 4))), none⟩, ⟨(some 108), (.mv (.tmp 109)), none⟩])
 (.cond (.tmp 108)
 (.seq (.reg [⟨(some 110), (.bslice 1 1 [(.str [])] [(0, 1, (.con (.str [65])))]), none⟩, ⟨(some 111), (.build [(.str []), .nils, .nils] [(0, 1, (.con (.str [120]))), (2, 1, (.tmp 110))]), none⟩, ⟨(some 10), (.alloc [(.str []), .nils, .nils]), none⟩, ⟨none, (.store 3 (.tmp 10) (.tmp 111)), none⟩])
 (.seq (.seq (.reg [⟨(some 11), (.mv (.con (.int .i64 0))), none⟩])
 (.block 9
 (.loop (.seq (.seq (.reg [⟨(some 112), (.mv (.tmp 11)), none⟩, ⟨(some 113), (.mv (.tmp 1)), none⟩, ⟨(some 114), (.bin .add .plain (.con (.int .i64 5)) (.tmp 113)), none⟩, ⟨(some 115), (.bin .lss .plain (.tmp 112) (.tmp 114)), none⟩])
 (.cond (.tmp 115)
 .skip
 (.exit 9)))
 (.seq (.block 10
 (.reg [⟨(some 118), (.faddr 1 (.tmp 10)), none⟩, ⟨(some 119), (.load false 1 (.tmp 118)), none⟩, ⟨(some 120), (.bslice 1 1 [(.str [])] [(0, 1, (.con (.str [65])))]), none⟩, ⟨(some 121), (.append 1 16 (.tmp 119) (.tmp 120)), none⟩, ⟨(some 122), (.faddr 1 (.tmp 10)), none⟩, ⟨none, (.store 1 (.tmp 122) (.tmp 121)), none⟩]))
 (.reg [⟨(some 116), (.mv (.tmp 11)), none⟩, ⟨(some 117), (.bin .add .plain (.tmp 116) (.con (.int .i64 1))), none⟩, ⟨(some 11), (.mv (.tmp 117)), none⟩]))))))
 (.reg [⟨(some 123), (.load true 3 (.tmp 10)), none⟩, ⟨(some 124), (.bslice 3 1 [(.str []), .nils, .nils] [(0, 3, (.tmp 123))]), none⟩, ⟨(some 125), (.faddr 1 (.tmp 5)), none⟩, ⟨none, (.store 1 (.tmp 125) (.tmp 124)), none⟩])))
 .skip))))))))))))
 (.seq (.reg [⟨(some 12), (.mv (.con (.int .i64 0))), none⟩])
 (.seq (.seq (.reg [⟨(some 126), (.mv (.tmp 1)), none⟩, ⟨(some 127), (.bin .gtr .plain (.tmp 126) (.con (.int .i64 1))), none⟩])
 (.cond (.tmp 127)
 (.reg [⟨(some 12), (.mv (.con (.int .i64 4))), none⟩])
 .skip))
 (.seq (.reg [⟨(some 128), (.load true 2 (.tmp 5)), none⟩, ⟨(some 129), (.call 12 [(.tmp 128)]), none⟩, ⟨(some 130), (.mv (.tmp 12)), none⟩, ⟨(some 131), (.bin .eql .plain (.tmp 129) (.tmp 130)), none⟩, ⟨(some 4), (.mv (.tmp 131)), none⟩])
 .ret)))))))))
def ac5 : AFun := ⟨2, 132, ab5, [(.tmp 4)]⟩
theorem cf5 : compF Try.prog Try.f5 = some ac5 := by kernel_rfl
theorem cl5 : callable Try.prog 5 = true := by kernel_rfl
theorem fn5 : Try.prog.funcs[5]? = some Try.f5 := by kernel_rfl
/- chancel/chancellaw10.SchemaFits -/
def ab6 : ACode := (.seq (.reg [⟨(some 12), (.mv (.con (.bool false))), none⟩])
 (.seq (.seq (.reg [⟨(some 22), (.call 8 []), none⟩, ⟨(some 23), (.un .not (.tmp 22)), none⟩])
 (.cond (.tmp 23)
 (.seq (.reg [⟨(some 12), (.mv (.con (.bool false))), none⟩])
 .ret)
 .skip))
 (.seq (.reg [⟨(some 24), (.mv (.tmp 0)), none⟩, ⟨(some 25), (.mv (.tmp 1)), none⟩, ⟨(some 26), (.call 11 [(.tmp 24), (.tmp 25)]), none⟩, ⟨(some 13), (.alloc [.nils, .nils]), none⟩, ⟨none, (.store 2 (.tmp 13) (.tmp 26)), none⟩])
 (.seq (.dreg [⟨(some 27), (.mv (.tmp 2)), none⟩, ⟨(some 28), (.call 15 [(.tmp 27), (.con .nils)]), none⟩, ⟨(some 29), (.bslice 1 4 [(.str [])] [(0, 1, (.con (.str [114, 101, 97, 100]))), (1, 1, (.con (.str [119, 114, 105, 116, 101]))), (2, 1, (.con (.str [111, 119, 110]))), (3, 1, (.con (.str [120])))]), none⟩, ⟨(some 30), (.mv (.tmp 3)), none⟩, ⟨(some 31), (.call 14 [(.tmp 30), (.con (.int .i64 4))]), none⟩, ⟨(some 32), (.iaddr 1 (.tmp 29) (.tmp 31)), none⟩, ⟨(some 33), (.load false 1 (.tmp 32)), none⟩, ⟨(some 34), (.build [(.str []), (.str [])] [(0, 1, (.con (.str [65, 99, 116, 105, 111, 110]))), (1, 1, (.tmp 33))]), none⟩, ⟨(some 35), (.mv (.tmp 4)), none⟩, ⟨(some 36), (.call 15 [(.tmp 35), (.con .nils)]), none⟩, ⟨(some 37), (.build [(.str []), (.str []), (.str []), (.str []), (.str []), (.str [])] [(0, 2, (.tmp 28)), (2, 2, (.tmp 34)), (4, 2, (.tmp 36))]), none⟩, ⟨(some 14), (.alloc [(.str []), (.str []), (.str []), (.str []), (.str []), (.str [])]), none⟩, ⟨none, (.store 6 (.tmp 14) (.tmp 37)), none⟩] [1, 4, 9, 12] [0, 1, 0, 0, 11, 31, 63, 127, 0, 283, 1023, 0, 4095] [2, 11])
 (.seq (.seq (.reg [⟨(some 38), (.mv (.tmp 5)), none⟩])
 (.cond (.tmp 38)
 (.reg [⟨(some 39), (.faddr 2 (.tmp 14)), none⟩, ⟨(some 40), (.faddr 0 (.tmp 39)), none⟩, ⟨none, (.store 1 (.tmp 40) (.con (.str [85, 115, 101, 114]))), none⟩])
 .skip))
 (.seq (.reg [⟨(some 42), (.load true 2 (.tmp 13)), none⟩, ⟨(some 43), (.faddr 2 (.tmp 14)), none⟩, ⟨(some 44), (.faddr 1 (.tmp 43)), none⟩, ⟨(some 45), (.load false 1 (.tmp 44)), none⟩, ⟨(some 46), (.call 16 [(.tmp 42), (.tmp 45)]), none⟩, ⟨(some 41), (.mv (.tmp 46)), none⟩, ⟨(some 47), (.ext (.tmp 41) 0), none⟩, ⟨(some 48), (.ext (.tmp 41) 1), none⟩, ⟨(some 15), (.alloc [(.str []), .nils, .nils]), none⟩, ⟨none, (.store 3 (.tmp 15) (.tmp 47)), none⟩, ⟨(some 16), (.mv (.tmp 48)), none⟩])
 (.seq (.reg [⟨(some 17), (.mv (.con (.bool false))), none⟩, ⟨(some 18), (.mv (.con (.bool false))), none⟩])
 (.seq (.seq (.reg [⟨(some 19), (.mv (.con (.int .i64 0))), none⟩])
 (.block 0
 (.loop (.seq (.seq (.reg [⟨(some 49), (.mv (.tmp 19)), none⟩, ⟨(some 50), (.faddr 1 (.tmp 15)), none⟩, ⟨(some 51), (.load false 1 (.tmp 50)), none⟩, ⟨(some 52), (.lenL (.tmp 51)), none⟩, ⟨(some 53), (.bin .lss .plain (.tmp 49) (.tmp 52)), none⟩])
 (.cond (.tmp 53)
 .skip
 (.exit 0)))
 (.seq (.block 1
 (.dreg [⟨(some 56), (.mv (.tmp 17)), none⟩, ⟨(some 57), (.mv (.tmp 56)), none⟩, ⟨(some 58), (.faddr 1 (.tmp 15)), (some (57, false))⟩, ⟨(some 59), (.load false 1 (.tmp 58)), (some (57, false))⟩, ⟨(some 60), (.mv (.tmp 19)), (some (57, false))⟩, ⟨(some 61), (.iaddr 1 (.tmp 59) (.tmp 60)), (some (57, false))⟩, ⟨(some 62), (.load false 1 (.tmp 61)), (some (57, false))⟩, ⟨(some 63), (.faddr 0 (.tmp 14)), (some (57, false))⟩, ⟨(some 64), (.faddr 0 (.tmp 63)), (some (57, false))⟩, ⟨(some 65), (.load false 1 (.tmp 64)), (some (57, false))⟩, ⟨(some 66), (.bin .eql .plain (.tmp 62) (.tmp 65)), (some (57, false))⟩, ⟨(some 67), (.pick (.tmp 57) (.con (.bool true)) (.tmp 66)), none⟩, ⟨(some 17), (.mv (.tmp 67)), none⟩] [] [0, 1, 3, 7, 3, 31, 63, 3, 131, 387, 1023, 2047, 4095] []))
 (.reg [⟨(some 54), (.mv (.tmp 19)), none⟩, ⟨(some 55), (.bin .add .plain (.tmp 54) (.con (.int .i64 1))), none⟩, ⟨(some 19), (.mv (.tmp 55)), none⟩]))))))
 (.seq (.seq (.reg [⟨(some 20), (.mv (.con (.int .i64 0))), none⟩])
 (.block 2
 (.loop (.seq (.seq (.reg [⟨(some 68), (.mv (.tmp 20)), none⟩, ⟨(some 69), (.faddr 2 (.tmp 15)), none⟩, ⟨(some 70), (.load false 1 (.tmp 69)), none⟩, ⟨(some 71), (.lenL (.tmp 70)), none⟩, ⟨(some 72), (.bin .lss .plain (.tmp 68) (.tmp 71)), none⟩])
 (.cond (.tmp 72)
 .skip
 (.exit 2)))
 (.seq (.block 3
 (.dreg [⟨(some 75), (.mv (.tmp 18)), none⟩, ⟨(some 76), (.mv (.tmp 75)), none⟩, ⟨(some 77), (.faddr 2 (.tmp 15)), (some (76, false))⟩, ⟨(some 78), (.load false 1 (.tmp 77)), (some (76, false))⟩, ⟨(some 79), (.mv (.tmp 20)), (some (76, false))⟩, ⟨(some 80), (.iaddr 1 (.tmp 78) (.tmp 79)), (some (76, false))⟩, ⟨(some 81), (.load false 1 (.tmp 80)), (some (76, false))⟩, ⟨(some 82), (.faddr 4 (.tmp 14)), (some (76, false))⟩, ⟨(some 83), (.faddr 0 (.tmp 82)), (some (76, false))⟩, ⟨(some 84), (.load false 1 (.tmp 83)), (some (76, false))⟩, ⟨(some 85), (.bin .eql .plain (.tmp 81) (.tmp 84)), (some (76, false))⟩, ⟨(some 86), (.pick (.tmp 76) (.con (.bool true)) (.tmp 85)), none⟩, ⟨(some 18), (.mv (.tmp 86)), none⟩] [] [0, 1, 3, 7, 3, 31, 63, 3, 131, 387, 1023, 2047, 4095] []))
 (.reg [⟨(some 73), (.mv (.tmp 20)), none⟩, ⟨(some 74), (.bin .add .plain (.tmp 73) (.con (.int .i64 1))), none⟩, ⟨(some 20), (.mv (.tmp 74)), none⟩]))))))
 (.seq (.reg [⟨(some 21), (.mv (.con (.int .i64 0))), none⟩])
 (.seq (.block 4
 (.seq (.reg [⟨(some 88), (.mv (.tmp 5)), none⟩, ⟨(some 89), (.mv (.tmp 88)), none⟩, ⟨(some 90), (.mv (.tmp 16)), (some (89, false))⟩, ⟨(some 91), (.un .not (.tmp 90)), (some (89, false))⟩, ⟨(some 92), (.pick (.tmp 89) (.con (.bool true)) (.tmp 91)), none⟩, ⟨(some 87), (.mv (.tmp 92)), none⟩])
 (.cond (.tmp 87)
 (.reg [⟨(some 21), (.mv (.con (.int .i64 15))), none⟩])
 (.seq (.reg [⟨(some 94), (.mv (.tmp 17)), none⟩, ⟨(some 95), (.un .not (.tmp 94)), none⟩, ⟨(some 96), (.mv (.tmp 95)), none⟩, ⟨(some 97), (.mv (.tmp 18)), (some (96, false))⟩, ⟨(some 98), (.un .not (.tmp 97)), (some (96, false))⟩, ⟨(some 99), (.pick (.tmp 96) (.con (.bool true)) (.tmp 98)), none⟩, ⟨(some 93), (.mv (.tmp 99)), none⟩])
 (.cond (.tmp 93)
 (.reg [⟨(some 21), (.mv (.con (.int .i64 16))), none⟩])
 .skip)))))
 (.seq (.reg [⟨(some 100), (.load true 2 (.tmp 13)), none⟩, ⟨(some 101), (.load true 6 (.tmp 14)), none⟩, ⟨(some 102), (.call 17 [(.tmp 100), (.tmp 101)]), none⟩, ⟨(some 103), (.mv (.tmp 21)), none⟩, ⟨(some 104), (.bin .eql .plain (.tmp 102) (.tmp 103)), none⟩, ⟨(some 12), (.mv (.tmp 104)), none⟩])
 .ret))))))))))))
def ac6 : AFun := ⟨6, 105, ab6, [(.tmp 12)]⟩
theorem cf6 : compF Try.prog Try.f6 = some ac6 := by kernel_rfl
theorem cl6 : callable Try.prog 6 = true := by kernel_rfl
theorem fn6 : Try.prog.funcs[6]? = some Try.f6 := by kernel_rfl
/- chancel/chancellaw10.SchemaAsks -/
def ab7 : ACode := (.seq (.reg [⟨(some 10), (.mv (.con (.bool false))), none⟩])
 (.seq (.seq (.reg [⟨(some 29), (.call 8 []), none⟩, ⟨(some 30), (.un .not (.tmp 29)), none⟩])
 (.cond (.tmp 30)
 (.seq (.reg [⟨(some 10), (.mv (.con (.bool false))), none⟩])
 .ret)
 .skip))
 (.seq (.seq (.reg [⟨(some 31), (.mv (.tmp 3)), none⟩, ⟨(some 32), (.lenL (.tmp 31)), none⟩, ⟨(some 33), (.bin .gtr .plain (.tmp 32) (.con (.int .i64 10))), none⟩])
 (.cond (.tmp 33)
 (.seq (.reg [⟨(some 10), (.mv (.con (.bool true))), none⟩])
 .ret)
 .skip))
 (.seq (.reg [⟨(some 34), (.mv (.tmp 0)), none⟩, ⟨(some 35), (.mv (.tmp 1)), none⟩, ⟨(some 36), (.call 11 [(.tmp 34), (.tmp 35)]), none⟩, ⟨(some 37), (.mv (.tmp 2)), none⟩, ⟨(some 38), (.mv (.tmp 1)), none⟩, ⟨(some 39), (.call 11 [(.tmp 37), (.tmp 38)]), none⟩, ⟨(some 11), (.alloc [.nils, .nils]), none⟩, ⟨(some 12), (.alloc [.nils, .nils]), none⟩, ⟨none, (.store 2 (.tmp 11) (.tmp 36)), none⟩, ⟨none, (.store 2 (.tmp 12) (.tmp 39)), none⟩])
 (.seq (.seq (.dreg [⟨(some 40), (.load true 2 (.tmp 11)), none⟩, ⟨(some 41), (.load true 2 (.tmp 12)), none⟩, ⟨(some 42), (.call 18 [(.tmp 40), (.tmp 41)]), none⟩, ⟨(some 43), (.load true 2 (.tmp 11)), none⟩, ⟨(some 44), (.load true 2 (.tmp 12)), none⟩, ⟨(some 45), (.call 19 [(.tmp 43), (.tmp 44)]), none⟩, ⟨(some 46), (.bin .neq .bool (.tmp 42) (.tmp 45)), none⟩, ⟨(some 47), (.mv (.tmp 46)), none⟩, ⟨(some 48), (.load true 2 (.tmp 11)), (some (47, false))⟩, ⟨(some 49), (.load true 2 (.tmp 11)), (some (47, false))⟩, ⟨(some 50), (.call 18 [(.tmp 48), (.tmp 49)]), (some (47, false))⟩, ⟨(some 51), (.un .not (.tmp 50)), (some (47, false))⟩, ⟨(some 52), (.pick (.tmp 47) (.con (.bool true)) (.tmp 51)), none⟩] [2, 5, 10] [0, 0, 3, 0, 0, 31, 63, 127, 255, 255, 1023, 2047, 4095] [])
 (.cond (.tmp 52)
 (.seq (.reg [⟨(some 10), (.mv (.con (.bool false))), none⟩])
 .ret)
 .skip))
 (.seq (.reg [⟨(some 53), (.bslice 1 9 [(.str [])] [(0, 1, (.con (.str [85, 115, 101, 114]))), (1, 1, (.con (.str [71, 114, 111, 117, 112]))), (2, 1, (.con (.str [68, 111, 99]))), (3, 1, (.con (.str [84, 101, 97, 109]))), (4, 1, (.con (.str [114, 101, 97, 100]))), (5, 1, (.con (.str [111, 119, 110]))), (6, 1, (.con (.str [97]))), (7, 1, (.con (.str [97, 103, 101]))), (8, 1, (.con (.str [])))]), none⟩, ⟨(some 54), (.mv (.tmp 3)), none⟩, ⟨(some 55), (.append 1 16 (.tmp 53) (.tmp 54)), none⟩, ⟨(some 13), (.mv (.tmp 55)), none⟩])
 (.seq (.seq (.reg [⟨(some 14), (.mv (.con (.int .i64 0))), none⟩])
 (.block 0
 (.loop (.seq (.seq (.reg [⟨(some 56), (.mv (.tmp 14)), none⟩, ⟨(some 57), (.mv (.tmp 13)), none⟩, ⟨(some 58), (.lenL (.tmp 57)), none⟩, ⟨(some 59), (.bin .lss .plain (.tmp 56) (.tmp 58)), none⟩])
 (.cond (.tmp 59)
 .skip
 (.exit 0)))
 (.seq (.block 1
 (.seq (.dreg [⟨(some 63), (.load true 2 (.tmp 11)), none⟩, ⟨(some 64), (.mv (.tmp 13)), none⟩, ⟨(some 65), (.mv (.tmp 14)), none⟩, ⟨(some 66), (.iaddr 1 (.tmp 64) (.tmp 65)), none⟩, ⟨(some 67), (.load false 1 (.tmp 66)), none⟩, ⟨(some 68), (.call 20 [(.tmp 63), (.tmp 67)]), none⟩, ⟨(some 62), (.mv (.tmp 68)), none⟩, ⟨(some 69), (.ext (.tmp 62) 0), none⟩, ⟨(some 70), (.ext (.tmp 62) 1), none⟩, ⟨(some 15), (.alloc [(.str []), .nils, .nils]), none⟩, ⟨none, (.store 3 (.tmp 15) (.tmp 69)), none⟩, ⟨(some 16), (.mv (.tmp 70)), none⟩] [5, 10] [0, 0, 0, 6, 14, 31, 63, 127, 127, 0, 767, 2047] [9])
 (.seq (.dreg [⟨(some 72), (.load true 2 (.tmp 11)), none⟩, ⟨(some 73), (.mv (.tmp 13)), none⟩, ⟨(some 74), (.mv (.tmp 14)), none⟩, ⟨(some 75), (.iaddr 1 (.tmp 73) (.tmp 74)), none⟩, ⟨(some 76), (.load false 1 (.tmp 75)), none⟩, ⟨(some 77), (.call 21 [(.tmp 72), (.tmp 76)]), none⟩, ⟨(some 71), (.mv (.tmp 77)), none⟩, ⟨(some 78), (.ext (.tmp 71) 0), none⟩, ⟨(some 79), (.ext (.tmp 71) 1), none⟩, ⟨(some 17), (.alloc [(.str []), .nils, .nils]), none⟩, ⟨none, (.store 3 (.tmp 17) (.tmp 78)), none⟩, ⟨(some 18), (.mv (.tmp 79)), none⟩] [5, 10] [0, 0, 0, 6, 14, 31, 63, 127, 127, 0, 767, 2047] [9])
 (.seq (.dreg [⟨(some 81), (.load true 2 (.tmp 11)), none⟩, ⟨(some 82), (.mv (.tmp 13)), none⟩, ⟨(some 83), (.mv (.tmp 14)), none⟩, ⟨(some 84), (.iaddr 1 (.tmp 82) (.tmp 83)), none⟩, ⟨(some 85), (.load false 1 (.tmp 84)), none⟩, ⟨(some 86), (.call 22 [(.tmp 81), (.tmp 85)]), none⟩, ⟨(some 80), (.mv (.tmp 86)), none⟩, ⟨(some 87), (.ext (.tmp 80) 0), none⟩, ⟨(some 88), (.ext (.tmp 80) 1), none⟩, ⟨(some 19), (.alloc [(.str []), .nils, .nils]), none⟩, ⟨none, (.store 3 (.tmp 19) (.tmp 87)), none⟩, ⟨(some 20), (.mv (.tmp 88)), none⟩] [5, 10] [0, 0, 0, 6, 14, 31, 63, 127, 127, 0, 767, 2047] [9])
 (.seq (.dreg [⟨(some 90), (.load true 2 (.tmp 11)), none⟩, ⟨(some 91), (.mv (.tmp 13)), none⟩, ⟨(some 92), (.mv (.tmp 14)), none⟩, ⟨(some 93), (.iaddr 1 (.tmp 91) (.tmp 92)), none⟩, ⟨(some 94), (.load false 1 (.tmp 93)), none⟩, ⟨(some 95), (.call 16 [(.tmp 90), (.tmp 94)]), none⟩, ⟨(some 89), (.mv (.tmp 95)), none⟩, ⟨(some 96), (.ext (.tmp 89) 0), none⟩, ⟨(some 97), (.ext (.tmp 89) 1), none⟩, ⟨(some 21), (.alloc [(.str []), .nils, .nils]), none⟩, ⟨none, (.store 3 (.tmp 21) (.tmp 96)), none⟩, ⟨(some 22), (.mv (.tmp 97)), none⟩] [5, 10] [0, 0, 0, 6, 14, 31, 63, 127, 127, 0, 767, 2047] [9])
 (.seq (.seq (.reg [⟨(some 98), (.mv (.tmp 16)), none⟩, ⟨(some 99), (.mv (.tmp 18)), none⟩, ⟨(some 100), (.bin .neq .bool (.tmp 98) (.tmp 99)), none⟩, ⟨(some 101), (.mv (.tmp 100)), none⟩, ⟨(some 102), (.mv (.tmp 20)), (some (101, false))⟩, ⟨(some 103), (.mv (.tmp 22)), (some (101, false))⟩, ⟨(some 104), (.bin .neq .bool (.tmp 102) (.tmp 103)), (some (101, false))⟩, ⟨(some 105), (.pick (.tmp 101) (.con (.bool true)) (.tmp 104)), none⟩, ⟨(some 106), (.mv (.tmp 105)), none⟩, ⟨(some 107), (.load true 3 (.tmp 15)), (some (106, false))⟩, ⟨(some 108), (.bslice 3 1 [(.str []), .nils, .nils] [(0, 3, (.tmp 107))]), (some (106, false))⟩, ⟨(some 109), (.load true 3 (.tmp 19)), (some (106, false))⟩, ⟨(some 110), (.bslice 3 1 [(.str []), .nils, .nils] [(0, 3, (.tmp 109))]), (some (106, false))⟩, ⟨(some 111), (.build [.nils, .nils] [(0, 1, (.tmp 108)), (1, 1, (.tmp 110))]), (some (106, false))⟩, ⟨(some 112), (.load true 3 (.tmp 17)), (some (106, false))⟩, ⟨(some 113), (.bslice 3 1 [(.str []), .nils, .nils] [(0, 3, (.tmp 112))]), (some (106, false))⟩, ⟨(some 114), (.load true 3 (.tmp 21)), (some (106, false))⟩, ⟨(some 115), (.bslice 3 1 [(.str []), .nils, .nils] [(0, 3, (.tmp 114))]), (some (106, false))⟩, ⟨(some 116), (.build [.nils, .nils] [(0, 1, (.tmp 113)), (1, 1, (.tmp 115))]), (some (106, false))⟩, ⟨(some 117), (.call 19 [(.tmp 111), (.tmp 116)]), (some (106, false))⟩, ⟨(some 118), (.un .not (.tmp 117)), (some (106, false))⟩, ⟨(some 119), (.pick (.tmp 106) (.con (.bool true)) (.tmp 118)), none⟩])
 (.cond (.tmp 119)
 (.seq (.reg [⟨(some 10), (.mv (.con (.bool false))), none⟩])
 .ret)
 .skip))
 (.seq (.reg [⟨(some 23), (.mv (.con (.int .i64 0))), none⟩])
 (.block 2
 (.loop (.seq (.seq (.reg [⟨(some 120), (.mv (.tmp 23)), none⟩, ⟨(some 121), (.faddr 0 (.tmp 11)), none⟩, ⟨(some 122), (.load false 1 (.tmp 121)), none⟩, ⟨(some 123), (.lenL (.tmp 122)), none⟩, ⟨(some 124), (.bin .lss .plain (.tmp 120) (.tmp 123)), none⟩])
 (.cond (.tmp 124)
 .skip
 (.exit 2)))
 (.seq (.block 3
 (.seq (.dreg [⟨(some 128), (.faddr 0 (.tmp 11)), none⟩, ⟨(some 129), (.load false 1 (.tmp 128)), none⟩, ⟨(some 130), (.mv (.tmp 23)), none⟩, ⟨(some 131), (.iaddr 3 (.tmp 129) (.tmp 130)), none⟩, ⟨(some 132), (.load true 3 (.tmp 131)), none⟩, ⟨(some 133), (.mv (.tmp 13)), none⟩, ⟨(some 134), (.mv (.tmp 14)), none⟩, ⟨(some 135), (.iaddr 1 (.tmp 133) (.tmp 134)), none⟩, ⟨(some 136), (.load false 1 (.tmp 135)), none⟩, ⟨(some 137), (.call 23 [(.tmp 132), (.tmp 136)]), none⟩, ⟨(some 127), (.mv (.tmp 137)), none⟩, ⟨(some 138), (.ext (.tmp 127) 0), none⟩, ⟨(some 139), (.ext (.tmp 127) 1), none⟩, ⟨(some 24), (.alloc [(.int .i64 0), (.int .i64 0), (.str [])]), none⟩, ⟨none, (.store 3 (.tmp 24) (.tmp 138)), none⟩, ⟨(some 25), (.mv (.tmp 139)), none⟩] [9, 14] [0, 1, 0, 7, 15, 0, 0, 96, 224, 511, 1023, 2047, 2047, 0, 12287, 32767] [13])
 (.seq (.dreg [⟨(some 141), (.faddr 0 (.tmp 11)), none⟩, ⟨(some 142), (.load false 1 (.tmp 141)), none⟩, ⟨(some 143), (.mv (.tmp 23)), none⟩, ⟨(some 144), (.iaddr 3 (.tmp 142) (.tmp 143)), none⟩, ⟨(some 145), (.load true 3 (.tmp 144)), none⟩, ⟨(some 146), (.mv (.tmp 13)), none⟩, ⟨(some 147), (.mv (.tmp 14)), none⟩, ⟨(some 148), (.iaddr 1 (.tmp 146) (.tmp 147)), none⟩, ⟨(some 149), (.load false 1 (.tmp 148)), none⟩, ⟨(some 150), (.call 24 [(.tmp 145), (.tmp 149)]), none⟩, ⟨(some 140), (.mv (.tmp 150)), none⟩, ⟨(some 151), (.ext (.tmp 140) 0), none⟩, ⟨(some 152), (.ext (.tmp 140) 1), none⟩, ⟨(some 26), (.alloc [(.int .i64 0), (.int .i64 0), (.str [])]), none⟩, ⟨none, (.store 3 (.tmp 26) (.tmp 151)), none⟩, ⟨(some 27), (.mv (.tmp 152)), none⟩] [9, 14] [0, 1, 0, 7, 15, 0, 0, 96, 224, 511, 1023, 2047, 2047, 0, 12287, 32767] [13])
 (.seq (.reg [⟨(some 153), (.load true 3 (.tmp 24)), none⟩, ⟨(some 154), (.load true 3 (.tmp 26)), none⟩, ⟨(some 155), (.bin .neq (.agg [.i, .i, .s]) (.tmp 153) (.tmp 154)), none⟩, ⟨(some 156), (.mv (.tmp 155)), none⟩, ⟨(some 157), (.mv (.tmp 25)), (some (156, false))⟩, ⟨(some 158), (.mv (.tmp 27)), (some (156, false))⟩, ⟨(some 159), (.bin .neq .bool (.tmp 157) (.tmp 158)), (some (156, false))⟩, ⟨(some 160), (.pick (.tmp 156) (.con (.bool true)) (.tmp 159)), none⟩])
 (.cond (.tmp 160)
 (.seq (.reg [⟨(some 10), (.mv (.con (.bool false))), none⟩])
 .ret)
 .skip)))))
 (.reg [⟨(some 125), (.mv (.tmp 23)), none⟩, ⟨(some 126), (.bin .add .plain (.tmp 125) (.con (.int .i64 1))), none⟩, ⟨(some 23), (.mv (.tmp 126)), none⟩]))))))))))))
 (.reg [⟨(some 60), (.mv (.tmp 14)), none⟩, ⟨(some 61), (.bin .add .plain (.tmp 60) (.con (.int .i64 1))), none⟩, ⟨(some 14), (.mv (.tmp 61)), none⟩]))))))
 (.seq (.seq (.reg [⟨(some 161), (.mv (.tmp 4)), none⟩, ⟨(some 162), (.lenL (.tmp 161)), none⟩, ⟨(some 163), (.bin .lss .plain (.tmp 162) (.con (.int .i64 4))), none⟩])
 (.cond (.tmp 163)
 (.seq (.reg [⟨(some 10), (.mv (.con (.bool true))), none⟩])
 .ret)
 .skip))
 (.seq (.dreg [⟨(some 164), (.mv (.tmp 4)), none⟩, ⟨(some 165), (.iaddr 1 (.tmp 164) (.con (.int .i64 0))), none⟩, ⟨(some 166), (.load false 1 (.tmp 165)), none⟩, ⟨(some 167), (.call 15 [(.tmp 166), (.con .nils)]), none⟩, ⟨(some 168), (.bslice 1 4 [(.str [])] [(0, 1, (.con (.str [114, 101, 97, 100]))), (1, 1, (.con (.str [119, 114, 105, 116, 101]))), (2, 1, (.con (.str [111, 119, 110]))), (3, 1, (.con (.str [120])))]), none⟩, ⟨(some 169), (.mv (.tmp 4)), none⟩, ⟨(some 170), (.iaddr 1 (.tmp 169) (.con (.int .i64 1))), none⟩, ⟨(some 171), (.load false 1 (.tmp 170)), none⟩, ⟨(some 172), (.call 14 [(.tmp 171), (.con (.int .i64 4))]), none⟩, ⟨(some 173), (.iaddr 1 (.tmp 168) (.tmp 172)), none⟩, ⟨(some 174), (.load false 1 (.tmp 173)), none⟩, ⟨(some 175), (.build [(.str []), (.str [])] [(0, 1, (.con (.str [65, 99, 116, 105, 111, 110]))), (1, 1, (.tmp 174))]), none⟩, ⟨(some 176), (.mv (.tmp 4)), none⟩, ⟨(some 177), (.iaddr 1 (.tmp 176) (.con (.int .i64 2))), none⟩, ⟨(some 178), (.load false 1 (.tmp 177)), none⟩, ⟨(some 179), (.call 15 [(.tmp 178), (.con .nils)]), none⟩, ⟨(some 180), (.build [(.str []), (.str []), (.str []), (.str []), (.str []), (.str [])] [(0, 2, (.tmp 167)), (2, 2, (.tmp 175)), (4, 2, (.tmp 179))]), none⟩, ⟨(some 28), (.alloc [(.str []), (.str []), (.str []), (.str []), (.str []), (.str [])]), none⟩, ⟨none, (.store 6 (.tmp 28) (.tmp 180)), none⟩] [3, 8, 15, 18] [0, 1, 3, 7, 0, 0, 32, 96, 239, 511, 1023, 2047, 0, 4096, 12288, 29167, 65535, 0, 262143] [4, 17])
 (.seq (.seq (.reg [⟨(some 181), (.mv (.tmp 4)), none⟩, ⟨(some 182), (.iaddr 1 (.tmp 181) (.con (.int .i64 3))), none⟩, ⟨(some 183), (.load false 1 (.tmp 182)), none⟩, ⟨(some 184), (.bin .rem .plain (.tmp 183) (.con (.int .i64 9))), none⟩, ⟨(some 185), (.bin .eql .plain (.tmp 184) (.con (.int .i64 8))), none⟩])
 (.cond (.tmp 185)
 (.reg [⟨(some 186), (.faddr 2 (.tmp 28)), none⟩, ⟨(some 187), (.faddr 0 (.tmp 186)), none⟩, ⟨none, (.store 1 (.tmp 187) (.con (.str [85, 115, 101, 114]))), none⟩])
 .skip))
 (.seq (.dreg [⟨(some 188), (.load true 2 (.tmp 11)), none⟩, ⟨(some 189), (.load true 6 (.tmp 28)), none⟩, ⟨(some 190), (.call 17 [(.tmp 188), (.tmp 189)]), none⟩, ⟨(some 191), (.load true 2 (.tmp 11)), none⟩, ⟨(some 192), (.load true 6 (.tmp 28)), none⟩, ⟨(some 193), (.call 25 [(.tmp 191), (.tmp 192)]), none⟩, ⟨(some 194), (.bin .eql .plain (.tmp 190) (.tmp 193)), none⟩, ⟨(some 10), (.mv (.tmp 194)), none⟩] [2, 5] [0, 0, 3, 0, 0, 31, 63, 127] [])
 .ret)))))))))))
def ac7 : AFun := ⟨5, 195, ab7, [(.tmp 10)]⟩
theorem cf7 : compF Try.prog Try.f7 = some ac7 := by kernel_rfl
theorem cl7 : callable Try.prog 7 = true := by kernel_rfl
theorem fn7 : Try.prog.funcs[7]? = some Try.f7 := by kernel_rfl
/- chancel/chancellaw10.known -/
def ab8 : ACode := (.seq (.reg [⟨(some 0), (.mv (.con (.bool false))), none⟩])
 (.seq (.reg [⟨(some 1), (.build [.nils, .nils] []), none⟩, ⟨(some 2), (.call 12 [(.tmp 1)]), none⟩, ⟨(some 3), (.bin .eql .plain (.tmp 2) (.con (.int .i64 0))), none⟩, ⟨(some 4), (.mv (.tmp 3)), none⟩, ⟨(some 5), (.build [(.str []), .nils, .nils] [(0, 1, (.con (.str [66, 111, 111, 108])))]), (some (4, true))⟩, ⟨(some 6), (.bslice 3 1 [(.str []), .nils, .nils] [(0, 3, (.tmp 5))]), (some (4, true))⟩, ⟨(some 7), (.build [.nils, .nils] [(0, 1, (.tmp 6))]), (some (4, true))⟩, ⟨(some 8), (.call 12 [(.tmp 7)]), (some (4, true))⟩, ⟨(some 9), (.bin .eql .plain (.tmp 8) (.con (.int .i64 15))), (some (4, true))⟩, ⟨(some 10), (.pick (.tmp 4) (.tmp 9) (.con (.bool false))), none⟩, ⟨(some 0), (.mv (.tmp 10)), none⟩])
 .ret))
def ac8 : AFun := ⟨0, 11, ab8, [(.tmp 0)]⟩
theorem cf8 : compF Try.prog Try.f8 = some ac8 := by kernel_rfl
theorem cl8 : callable Try.prog 8 = true := by kernel_rfl
theorem fn8 : Try.prog.funcs[8]? = some Try.f8 := by kernel_rfl
/- chancel/chancellaw10.few -/
def ab9 : ACode := (.seq (.reg [⟨(some 1), (.box (.tmp 0)), none⟩, ⟨(some 2), (.mv (.con (.bool false))), none⟩])
 (.seq (.reg [⟨(some 3), (.mv (.con (.int .i64 0))), none⟩])
 (.seq (.seq (.reg [⟨(some 4), (.mv (.con (.int .i64 0))), none⟩])
 (.block 0
 (.loop (.seq (.seq (.reg [⟨(some 6), (.mv (.tmp 4)), none⟩, ⟨(some 7), (.faddr 0 (.tmp 1)), none⟩, ⟨(some 8), (.load false 1 (.tmp 7)), none⟩, ⟨(some 9), (.lenL (.tmp 8)), none⟩, ⟨(some 10), (.bin .lss .plain (.tmp 6) (.tmp 9)), none⟩, ⟨(some 11), (.mv (.tmp 10)), none⟩, ⟨(some 12), (.mv (.tmp 4)), (some (11, true))⟩, ⟨(some 13), (.bin .lss .plain (.tmp 12) (.con (.int .i64 20))), (some (11, true))⟩, ⟨(some 14), (.pick (.tmp 11) (.tmp 13) (.con (.bool false))), none⟩])
 (.cond (.tmp 14)
 .skip
 (.exit 0)))
 (.seq (.block 1
 (.dreg [⟨(some 17), (.mv (.tmp 3)), none⟩, ⟨(some 18), (.faddr 0 (.tmp 1)), none⟩, ⟨(some 19), (.load false 1 (.tmp 18)), none⟩, ⟨(some 20), (.mv (.tmp 4)), none⟩, ⟨(some 21), (.iaddr 3 (.tmp 19) (.tmp 20)), none⟩, ⟨(some 22), (.faddr 0 (.tmp 21)), none⟩, ⟨(some 23), (.load false 1 (.tmp 22)), none⟩, ⟨(some 24), (.lenS (.tmp 23)), none⟩, ⟨(some 25), (.bin .add .plain (.tmp 17) (.tmp 24)), none⟩, ⟨(some 26), (.faddr 0 (.tmp 1)), none⟩, ⟨(some 27), (.load false 1 (.tmp 26)), none⟩, ⟨(some 28), (.mv (.tmp 4)), none⟩, ⟨(some 29), (.iaddr 3 (.tmp 27) (.tmp 28)), none⟩, ⟨(some 30), (.faddr 2 (.tmp 29)), none⟩, ⟨(some 31), (.load false 1 (.tmp 30)), none⟩, ⟨(some 32), (.lenL (.tmp 31)), none⟩, ⟨(some 33), (.bin .mul .plain (.con (.int .i64 20)) (.tmp 32)), none⟩, ⟨(some 34), (.bin .add .plain (.tmp 25) (.tmp 33)), none⟩, ⟨(some 35), (.faddr 0 (.tmp 1)), none⟩, ⟨(some 36), (.load false 1 (.tmp 35)), none⟩, ⟨(some 37), (.mv (.tmp 4)), none⟩, ⟨(some 38), (.iaddr 3 (.tmp 36) (.tmp 37)), none⟩, ⟨(some 39), (.faddr 1 (.tmp 38)), none⟩, ⟨(some 40), (.load false 1 (.tmp 39)), none⟩, ⟨(some 41), (.lenL (.tmp 40)), none⟩, ⟨(some 42), (.bin .mul .plain (.con (.int .i64 20)) (.tmp 41)), none⟩, ⟨(some 43), (.bin .add .plain (.tmp 34) (.tmp 42)), none⟩, ⟨(some 3), (.mv (.tmp 43)), none⟩] [] [0, 0, 2, 0, 14, 30, 62, 126, 255, 0, 512, 0, 3584, 7680, 15872, 32256, 65024, 131071, 0, 262144, 0, 1835008, 3932160, 8126464, 16515072, 33292288, 67108863, 134217727] []))
 (.reg [⟨(some 15), (.mv (.tmp 4)), none⟩, ⟨(some 16), (.bin .add .plain (.tmp 15) (.con (.int .i64 1))), none⟩, ⟨(some 4), (.mv (.tmp 16)), none⟩]))))))
 (.seq (.seq (.reg [⟨(some 5), (.mv (.con (.int .i64 0))), none⟩])
 (.block 2
 (.loop (.seq (.seq (.reg [⟨(some 44), (.mv (.tmp 5)), none⟩, ⟨(some 45), (.faddr 1 (.tmp 1)), none⟩, ⟨(some 46), (.load false 1 (.tmp 45)), none⟩, ⟨(some 47), (.lenL (.tmp 46)), none⟩, ⟨(some 48), (.bin .lss .plain (.tmp 44) (.tmp 47)), none⟩, ⟨(some 49), (.mv (.tmp 48)), none⟩, ⟨(some 50), (.mv (.tmp 5)), (some (49, true))⟩, ⟨(some 51), (.bin .lss .plain (.tmp 50) (.con (.int .i64 20))), (some (49, true))⟩, ⟨(some 52), (.pick (.tmp 49) (.tmp 51) (.con (.bool false))), none⟩])
 (.cond (.tmp 52)
 .skip
 (.exit 2)))
 (.seq (.block 3
 (.dreg [⟨(some 55), (.mv (.tmp 3)), none⟩, ⟨(some 56), (.faddr 1 (.tmp 1)), none⟩, ⟨(some 57), (.load false 1 (.tmp 56)), none⟩, ⟨(some 58), (.mv (.tmp 5)), none⟩, ⟨(some 59), (.iaddr 3 (.tmp 57) (.tmp 58)), none⟩, ⟨(some 60), (.faddr 0 (.tmp 59)), none⟩, ⟨(some 61), (.load false 1 (.tmp 60)), none⟩, ⟨(some 62), (.lenS (.tmp 61)), none⟩, ⟨(some 63), (.bin .add .plain (.tmp 55) (.tmp 62)), none⟩, ⟨(some 64), (.faddr 1 (.tmp 1)), none⟩, ⟨(some 65), (.load false 1 (.tmp 64)), none⟩, ⟨(some 66), (.mv (.tmp 5)), none⟩, ⟨(some 67), (.iaddr 3 (.tmp 65) (.tmp 66)), none⟩, ⟨(some 68), (.faddr 1 (.tmp 67)), none⟩, ⟨(some 69), (.load false 1 (.tmp 68)), none⟩, ⟨(some 70), (.lenL (.tmp 69)), none⟩, ⟨(some 71), (.bin .mul .plain (.con (.int .i64 20)) (.tmp 70)), none⟩, ⟨(some 72), (.bin .add .plain (.tmp 63) (.tmp 71)), none⟩, ⟨(some 73), (.faddr 1 (.tmp 1)), none⟩, ⟨(some 74), (.load false 1 (.tmp 73)), none⟩, ⟨(some 75), (.mv (.tmp 5)), none⟩, ⟨(some 76), (.iaddr 3 (.tmp 74) (.tmp 75)), none⟩, ⟨(some 77), (.faddr 2 (.tmp 76)), none⟩, ⟨(some 78), (.load false 1 (.tmp 77)), none⟩, ⟨(some 79), (.lenL (.tmp 78)), none⟩, ⟨(some 80), (.bin .mul .plain (.con (.int .i64 20)) (.tmp 79)), none⟩, ⟨(some 81), (.bin .add .plain (.tmp 72) (.tmp 80)), none⟩, ⟨(some 3), (.mv (.tmp 81)), none⟩] [] [0, 0, 2, 0, 14, 30, 62, 126, 255, 0, 512, 0, 3584, 7680, 15872, 32256, 65024, 131071, 0, 262144, 0, 1835008, 3932160, 8126464, 16515072, 33292288, 67108863, 134217727] []))
 (.reg [⟨(some 53), (.mv (.tmp 5)), none⟩, ⟨(some 54), (.bin .add .plain (.tmp 53) (.con (.int .i64 1))), none⟩, ⟨(some 5), (.mv (.tmp 54)), none⟩]))))))
 (.seq (.reg [⟨(some 82), (.mv (.tmp 3)), none⟩, ⟨(some 83), (.bin .lss .plain (.tmp 82) (.con (.int .i64 3000))), none⟩, ⟨(some 84), (.mv (.tmp 83)), none⟩, ⟨(some 85), (.faddr 0 (.tmp 1)), (some (84, true))⟩, ⟨(some 86), (.load false 1 (.tmp 85)), (some (84, true))⟩, ⟨(some 87), (.lenL (.tmp 86)), (some (84, true))⟩, ⟨(some 88), (.bin .lss .plain (.tmp 87) (.con (.int .i64 20))), (some (84, true))⟩, ⟨(some 89), (.pick (.tmp 84) (.tmp 88) (.con (.bool false))), none⟩, ⟨(some 90), (.mv (.tmp 89)), none⟩, ⟨(some 91), (.faddr 1 (.tmp 1)), (some (90, true))⟩, ⟨(some 92), (.load false 1 (.tmp 91)), (some (90, true))⟩, ⟨(some 93), (.lenL (.tmp 92)), (some (90, true))⟩, ⟨(some 94), (.bin .lss .plain (.tmp 93) (.con (.int .i64 20))), (some (90, true))⟩, ⟨(some 95), (.pick (.tmp 90) (.tmp 94) (.con (.bool false))), none⟩, ⟨(some 2), (.mv (.tmp 95)), none⟩])
 .ret)))))
def ac9 : AFun := ⟨1, 96, ab9, [(.tmp 2)]⟩
theorem cf9 : compF Try.prog Try.f9 = some ac9 := by kernel_rfl
theorem cl9 : callable Try.prog 9 = true := by kernel_rfl
theorem fn9 : Try.prog.funcs[9]? = some Try.f9 := by kernel_rfl
end Go.Proofs.Ytaokfpjjaejjgaa.Va
