/- Functions of the program as resolved code (printed by gen.py from the kernel's own value). Conditions: none. -/
import Derived.Test.YtcdbpmmomgehfaaProg
import Derived.Test.YtcdbpmmomgehfaaVaF
import Derived.KernelRfl
set_option maxRecDepth 100000
set_option maxHeartbeats 4000000
set_option linter.all false
namespace Go.Proofs.Ytcdbpmmomgehfaa.Va
open Go.Proofs
/- chancel/chancelref11.need -/
def ab67 : ACode := (.seq (.reg [⟨(some 6), (.alloc [(.int .i64 0), (.int .i64 0), (.str [])]), none⟩, ⟨(some 7), (.mv (.con (.int .i64 0))), none⟩])
 (.seq (.seq (.reg [⟨(some 8), (.mv (.con (.int .i64 0))), none⟩])
 (.block 0
 (.loop (.seq (.seq (.reg [⟨(some 9), (.mv (.tmp 8)), none⟩, ⟨(some 10), (.mv (.tmp 0)), none⟩, ⟨(some 11), (.lenL (.tmp 10)), none⟩, ⟨(some 12), (.bin .lss .plain (.tmp 9) (.tmp 11)), none⟩])
 (.cond (.tmp 12)
 .skip
 (.exit 0)))
 (.seq (.block 1
 (.seq (.reg [⟨(some 15), (.mv (.tmp 0)), none⟩, ⟨(some 16), (.mv (.tmp 8)), none⟩, ⟨(some 17), (.iaddr 3 (.tmp 15) (.tmp 16)), none⟩, ⟨(some 18), (.faddr 0 (.tmp 17)), none⟩, ⟨(some 19), (.load false 1 (.tmp 18)), none⟩, ⟨(some 20), (.mv (.tmp 1)), none⟩, ⟨(some 21), (.bin .neq .plain (.tmp 19) (.tmp 20)), none⟩])
 (.cond (.tmp 21)
 (.seq (.reg [⟨(some 22), (.build [(.int .i64 0), (.int .i64 0), (.str [])] []), none⟩, ⟨none, (.store 3 (.tmp 6) (.tmp 22)), none⟩, ⟨(some 7), (.mv (.con (.int .i64 16))), none⟩])
 .ret)
 .skip)))
 (.reg [⟨(some 13), (.mv (.tmp 8)), none⟩, ⟨(some 14), (.bin .add .plain (.tmp 13) (.con (.int .i64 1))), none⟩, ⟨(some 8), (.mv (.tmp 14)), none⟩]))))))
 (.seq (.reg [⟨(some 23), (.mv (.tmp 2)), none⟩, ⟨(some 24), (.call 65 [(.tmp 23)]), none⟩, ⟨none, (.store 3 (.tmp 6) (.tmp 24)), none⟩, ⟨(some 7), (.mv (.con (.int .i64 0))), none⟩])
 .ret)))
def ac67 : AFun := ⟨3, 25, ab67, [(.cell 6 true 3), (.tmp 7)]⟩
theorem cf67 : compF Try.prog Try.f67 = some ac67 := by kernel_rfl
theorem cl67 : callable Try.prog 67 = true := by kernel_rfl
theorem fn67 : Try.prog.funcs[67]? = some Try.f67 := by kernel_rfl
/- (chancel/chancellaw11.Typed).kid -/
def ab68 : ACode := (.seq (.reg [⟨(some 2), (.box (.tmp 0)), none⟩, ⟨(some 4), (.alloc [(.int .i64 0), (.int .i64 0), .nils, .nils]), none⟩])
 (.seq (.seq (.reg [⟨(some 5), (.faddr 3 (.tmp 2)), none⟩, ⟨(some 6), (.load false 1 (.tmp 5)), none⟩, ⟨(some 7), (.lenL (.tmp 6)), none⟩, ⟨(some 8), (.bin .eql .plain (.tmp 7) (.con (.int .i64 0))), none⟩])
 (.cond (.tmp 8)
 (.seq (.reg [⟨(some 9), (.faddr 0 (.tmp 2)), none⟩, ⟨(some 10), (.load false 1 (.tmp 9)), none⟩, ⟨(some 11), (.mv (.tmp 1)), none⟩, ⟨(some 12), (.bin .mul .plain (.con (.int .i64 7)) (.tmp 11)), none⟩, ⟨(some 13), (.bin .add .plain (.tmp 10) (.tmp 12)), none⟩, ⟨(some 14), (.bin .add .plain (.tmp 13) (.con (.int .i64 1))), none⟩, ⟨(some 15), (.faddr 1 (.tmp 2)), none⟩, ⟨(some 16), (.load false 1 (.tmp 15)), none⟩, ⟨(some 17), (.mv (.tmp 1)), none⟩, ⟨(some 18), (.bin .add .plain (.tmp 16) (.tmp 17)), none⟩, ⟨(some 19), (.faddr 2 (.tmp 2)), none⟩, ⟨(some 20), (.load false 1 (.tmp 19)), none⟩, ⟨(some 21), (.build [(.int .i64 0), (.int .i64 0), .nils, .nils] [(0, 1, (.tmp 14)), (1, 1, (.tmp 18)), (2, 1, (.tmp 20))]), none⟩, ⟨none, (.store 4 (.tmp 4) (.tmp 21)), none⟩])
 .ret)
 .skip))
 (.seq (.dreg [⟨(some 22), (.faddr 3 (.tmp 2)), none⟩, ⟨(some 23), (.load false 1 (.tmp 22)), none⟩, ⟨(some 24), (.mv (.tmp 1)), none⟩, ⟨(some 25), (.faddr 3 (.tmp 2)), none⟩, ⟨(some 26), (.load false 1 (.tmp 25)), none⟩, ⟨(some 27), (.lenL (.tmp 26)), none⟩, ⟨(some 28), (.bin .rem .plain (.tmp 24) (.tmp 27)), none⟩, ⟨(some 29), (.iaddr 4 (.tmp 23) (.tmp 28)), none⟩, ⟨(some 30), (.load true 4 (.tmp 29)), none⟩, ⟨none, (.store 4 (.tmp 4) (.tmp 30)), none⟩] [9] [0, 1, 0, 0, 8, 24, 60, 127, 255, 511] [])
 .ret)))
def ac68 : AFun := ⟨2, 31, ab68, [(.cell 4 true 4)]⟩
theorem cf68 : compF Try.prog Try.f68 = some ac68 := by kernel_rfl
theorem cl68 : callable Try.prog 68 = true := by kernel_rfl
theorem fn68 : Try.prog.funcs[68]? = some Try.f68 := by kernel_rfl
/- (chancel/chancellaw11.maker).truth -/
def ab69 : ACode := (.seq (.reg [⟨(some 3), (.box (.tmp 0)), none⟩, ⟨(some 4), (.box (.tmp 1)), none⟩, ⟨(some 6), (.alloc [(.int .i64 0), (.bool false), (.int .i64 0), (.str []), (.str []), (.str []), .nils]), none⟩])
 (.seq (.reg [⟨(some 9), (.faddr 2 (.tmp 3)), none⟩, ⟨(some 10), (.faddr 0 (.tmp 9)), none⟩, ⟨(some 11), (.load false 1 (.tmp 10)), none⟩, ⟨(some 12), (.build [(.int .i64 0), (.int .i64 0), (.str [])] [(0, 1, (.con (.int .i64 4))), (2, 1, (.tmp 11))]), none⟩, ⟨(some 7), (.alloc [(.int .i64 0), (.int .i64 0), (.str [])]), none⟩, ⟨none, (.store 3 (.tmp 7) (.tmp 12)), none⟩])
 (.seq (.reg [⟨(some 13), (.load true 6 (.tmp 3)), none⟩, ⟨(some 14), (.faddr 1 (.tmp 4)), none⟩, ⟨(some 15), (.load false 1 (.tmp 14)), none⟩, ⟨(some 16), (.call 18 [(.tmp 13), (.tmp 15)]), none⟩, ⟨(some 8), (.alloc [(.int .i64 0), (.int .i64 0), (.str [])]), none⟩, ⟨none, (.store 3 (.tmp 8) (.tmp 16)), none⟩])
 (.seq (.seq (.reg [⟨(some 17), (.mv (.tmp 2)), none⟩])
 (.block 0
 (.seq (.reg [⟨(some 19), (.bin .eql .plain (.tmp 17) (.con (.int .i64 4))), none⟩, ⟨(some 18), (.mv (.tmp 19)), none⟩])
 (.cond (.tmp 18)
 (.seq (.dreg [⟨(some 20), (.load true 6 (.tmp 3)), none⟩, ⟨(some 21), (.build [(.int .i64 0), (.int .i64 0), (.str [])] [(0, 1, (.con (.int .i64 1)))]), none⟩, ⟨(some 22), (.load true 4 (.tmp 4)), none⟩, ⟨(some 23), (.call 68 [(.tmp 22), (.con (.int .i64 0))]), none⟩, ⟨(some 24), (.call 19 [(.tmp 20), (.tmp 21), (.tmp 23)]), none⟩, ⟨(some 25), (.bslice 7 1 [(.int .i64 0), (.bool false), (.int .i64 0), (.str []), (.str []), (.str []), .nils] [(0, 7, (.tmp 24))]), none⟩, ⟨(some 26), (.build [(.int .i64 0), (.bool false), (.int .i64 0), (.str []), (.str []), (.str []), .nils] [(0, 1, (.con (.int .i64 11))), (6, 1, (.tmp 25))]), none⟩, ⟨none, (.store 7 (.tmp 6) (.tmp 26)), none⟩] [3, 4, 5, 7] [0, 0, 0, 4, 15, 31, 63, 127] [])
 .ret)
 (.seq (.reg [⟨(some 28), (.bin .eql .plain (.tmp 17) (.con (.int .i64 5))), none⟩, ⟨(some 27), (.mv (.tmp 28)), none⟩])
 (.cond (.tmp 27)
 (.seq (.dreg [⟨(some 29), (.bslice 1 2 [(.int .i64 0)] [(0, 1, (.con (.int .i64 23))), (1, 1, (.con (.int .i64 24)))]), none⟩, ⟨(some 30), (.faddr 1 (.tmp 4)), none⟩, ⟨(some 31), (.load false 1 (.tmp 30)), none⟩, ⟨(some 32), (.call 21 [(.tmp 31), (.con (.int .i64 2))]), none⟩, ⟨(some 33), (.iaddr 1 (.tmp 29) (.tmp 32)), none⟩, ⟨(some 34), (.load false 1 (.tmp 33)), none⟩, ⟨(some 35), (.load true 6 (.tmp 3)), none⟩, ⟨(some 36), (.build [(.int .i64 0), (.int .i64 0), (.str [])] [(0, 1, (.con (.int .i64 1)))]), none⟩, ⟨(some 37), (.load true 4 (.tmp 4)), none⟩, ⟨(some 38), (.call 68 [(.tmp 37), (.con (.int .i64 0))]), none⟩, ⟨(some 39), (.call 19 [(.tmp 35), (.tmp 36), (.tmp 38)]), none⟩, ⟨(some 40), (.load true 6 (.tmp 3)), none⟩, ⟨(some 41), (.build [(.int .i64 0), (.int .i64 0), (.str [])] [(0, 1, (.con (.int .i64 1)))]), none⟩, ⟨(some 42), (.load true 4 (.tmp 4)), none⟩, ⟨(some 43), (.call 68 [(.tmp 42), (.con (.int .i64 1))]), none⟩, ⟨(some 44), (.call 19 [(.tmp 40), (.tmp 41), (.tmp 43)]), none⟩, ⟨(some 45), (.bslice 7 2 [(.int .i64 0), (.bool false), (.int .i64 0), (.str []), (.str []), (.str []), .nils] [(0, 7, (.tmp 39)), (7, 7, (.tmp 44))]), none⟩, ⟨(some 46), (.build [(.int .i64 0), (.bool false), (.int .i64 0), (.str []), (.str []), (.str []), .nils] [(0, 1, (.tmp 34)), (6, 1, (.tmp 45))]), none⟩, ⟨none, (.store 7 (.tmp 6) (.tmp 46)), none⟩] [3, 9, 10, 14, 15, 18] [0, 0, 2, 6, 15, 31, 0, 0, 0, 270, 974, 0, 0, 0, 10190, 32718, 65486, 131071, 262143] [0, 16])
 .ret)
 (.seq (.reg [⟨(some 48), (.bin .eql .plain (.tmp 17) (.con (.int .i64 6))), none⟩, ⟨(some 47), (.mv (.tmp 48)), none⟩])
 (.cond (.tmp 47)
 (.seq (.dreg [⟨(some 49), (.faddr 1 (.tmp 4)), none⟩, ⟨(some 50), (.load false 1 (.tmp 49)), none⟩, ⟨(some 51), (.call 21 [(.tmp 50), (.con (.int .i64 4))]), none⟩, ⟨(some 52), (.bin .add .plain (.con (.int .i64 16)) (.tmp 51)), none⟩, ⟨(some 53), (.load true 6 (.tmp 3)), none⟩, ⟨(some 54), (.build [(.int .i64 0), (.int .i64 0), (.str [])] [(0, 1, (.con (.int .i64 2)))]), none⟩, ⟨(some 55), (.load true 4 (.tmp 4)), none⟩, ⟨(some 56), (.call 68 [(.tmp 55), (.con (.int .i64 0))]), none⟩, ⟨(some 57), (.call 19 [(.tmp 53), (.tmp 54), (.tmp 56)]), none⟩, ⟨(some 58), (.load true 6 (.tmp 3)), none⟩, ⟨(some 59), (.build [(.int .i64 0), (.int .i64 0), (.str [])] [(0, 1, (.con (.int .i64 2)))]), none⟩, ⟨(some 60), (.load true 4 (.tmp 4)), none⟩, ⟨(some 61), (.call 68 [(.tmp 60), (.con (.int .i64 1))]), none⟩, ⟨(some 62), (.call 19 [(.tmp 58), (.tmp 59), (.tmp 61)]), none⟩, ⟨(some 63), (.bslice 7 2 [(.int .i64 0), (.bool false), (.int .i64 0), (.str []), (.str []), (.str []), .nils] [(0, 7, (.tmp 57)), (7, 7, (.tmp 62))]), none⟩, ⟨(some 64), (.build [(.int .i64 0), (.bool false), (.int .i64 0), (.str []), (.str []), (.str []), .nils] [(0, 1, (.tmp 52)), (6, 1, (.tmp 63))]), none⟩, ⟨none, (.store 7 (.tmp 6) (.tmp 64)), none⟩] [2, 7, 8, 12, 13, 14, 16] [0, 1, 3, 7, 0, 0, 0, 71, 247, 0, 0, 0, 2551, 8183, 16375, 32767, 65535] [])
 .ret)
 (.seq (.reg [⟨(some 66), (.bin .eql .plain (.tmp 17) (.con (.int .i64 7))), none⟩, ⟨(some 65), (.mv (.tmp 66)), none⟩])
 (.cond (.tmp 65)
 (.seq (.dreg [⟨(some 67), (.faddr 1 (.tmp 4)), none⟩, ⟨(some 68), (.load false 1 (.tmp 67)), none⟩, ⟨(some 69), (.call 21 [(.tmp 68), (.con (.int .i64 2))]), none⟩, ⟨(some 70), (.bin .add .plain (.con (.int .i64 20)) (.tmp 69)), none⟩, ⟨(some 71), (.load true 6 (.tmp 3)), none⟩, ⟨(some 72), (.load true 3 (.tmp 8)), none⟩, ⟨(some 73), (.load true 4 (.tmp 4)), none⟩, ⟨(some 74), (.call 68 [(.tmp 73), (.con (.int .i64 0))]), none⟩, ⟨(some 75), (.call 19 [(.tmp 71), (.tmp 72), (.tmp 74)]), none⟩, ⟨(some 76), (.load true 6 (.tmp 3)), none⟩, ⟨(some 77), (.load true 3 (.tmp 8)), none⟩, ⟨(some 78), (.load true 4 (.tmp 4)), none⟩, ⟨(some 79), (.call 68 [(.tmp 78), (.con (.int .i64 1))]), none⟩, ⟨(some 80), (.call 19 [(.tmp 76), (.tmp 77), (.tmp 79)]), none⟩, ⟨(some 81), (.bslice 7 2 [(.int .i64 0), (.bool false), (.int .i64 0), (.str []), (.str []), (.str []), .nils] [(0, 7, (.tmp 75)), (7, 7, (.tmp 80))]), none⟩, ⟨(some 82), (.build [(.int .i64 0), (.bool false), (.int .i64 0), (.str []), (.str []), (.str []), .nils] [(0, 1, (.tmp 70)), (6, 1, (.tmp 81))]), none⟩, ⟨none, (.store 7 (.tmp 6) (.tmp 82)), none⟩] [2, 7, 8, 12, 13, 14, 16] [0, 1, 3, 7, 0, 0, 0, 71, 247, 0, 0, 0, 2551, 8183, 16375, 32767, 65535] [])
 .ret)
 (.seq (.reg [⟨(some 84), (.bin .eql .plain (.tmp 17) (.con (.int .i64 8))), none⟩, ⟨(some 83), (.mv (.tmp 84)), none⟩])
 (.cond (.tmp 83)
 (.seq (.dreg [⟨(some 85), (.load true 6 (.tmp 3)), none⟩, ⟨(some 86), (.load true 3 (.tmp 7)), none⟩, ⟨(some 87), (.load true 4 (.tmp 4)), none⟩, ⟨(some 88), (.call 68 [(.tmp 87), (.con (.int .i64 0))]), none⟩, ⟨(some 89), (.call 19 [(.tmp 85), (.tmp 86), (.tmp 88)]), none⟩, ⟨(some 90), (.load true 6 (.tmp 3)), none⟩, ⟨(some 91), (.faddr 2 (.tmp 3)), none⟩, ⟨(some 92), (.faddr 2 (.tmp 91)), none⟩, ⟨(some 93), (.load false 1 (.tmp 92)), none⟩, ⟨(some 94), (.build [(.int .i64 0), (.int .i64 0), (.str [])] [(0, 1, (.con (.int .i64 4))), (2, 1, (.tmp 93))]), none⟩, ⟨(some 95), (.load true 4 (.tmp 4)), none⟩, ⟨(some 96), (.call 68 [(.tmp 95), (.con (.int .i64 1))]), none⟩, ⟨(some 97), (.call 19 [(.tmp 90), (.tmp 94), (.tmp 96)]), none⟩, ⟨(some 98), (.bslice 7 2 [(.int .i64 0), (.bool false), (.int .i64 0), (.str []), (.str []), (.str []), .nils] [(0, 7, (.tmp 89)), (7, 7, (.tmp 97))]), none⟩, ⟨(some 99), (.build [(.int .i64 0), (.bool false), (.int .i64 0), (.str []), (.str []), (.str []), .nils] [(0, 1, (.con (.int .i64 22))), (6, 1, (.tmp 98))]), none⟩, ⟨none, (.store 7 (.tmp 6) (.tmp 99)), none⟩] [3, 4, 11, 12, 13, 15] [0, 0, 0, 4, 15, 0, 0, 64, 192, 448, 0, 1055, 4095, 8191, 16383, 32767] [])
 .ret)
 (.seq (.reg [⟨(some 101), (.bin .eql .plain (.tmp 17) (.con (.int .i64 9))), none⟩, ⟨(some 100), (.mv (.tmp 101)), none⟩])
 (.cond (.tmp 100)
 (.seq (.dreg [⟨(some 102), (.load true 6 (.tmp 3)), none⟩, ⟨(some 103), (.load true 3 (.tmp 7)), none⟩, ⟨(some 104), (.load true 4 (.tmp 4)), none⟩, ⟨(some 105), (.call 68 [(.tmp 104), (.con (.int .i64 0))]), none⟩, ⟨(some 106), (.call 19 [(.tmp 102), (.tmp 103), (.tmp 105)]), none⟩, ⟨(some 107), (.load true 6 (.tmp 3)), none⟩, ⟨(some 108), (.faddr 2 (.tmp 3)), none⟩, ⟨(some 109), (.faddr 2 (.tmp 108)), none⟩, ⟨(some 110), (.load false 1 (.tmp 109)), none⟩, ⟨(some 111), (.build [(.int .i64 0), (.int .i64 0), (.str [])] [(0, 1, (.con (.int .i64 5))), (1, 1, (.con (.int .i64 4))), (2, 1, (.tmp 110))]), none⟩, ⟨(some 112), (.load true 4 (.tmp 4)), none⟩, ⟨(some 113), (.call 68 [(.tmp 112), (.con (.int .i64 1))]), none⟩, ⟨(some 114), (.call 19 [(.tmp 107), (.tmp 111), (.tmp 113)]), none⟩, ⟨(some 115), (.bslice 7 2 [(.int .i64 0), (.bool false), (.int .i64 0), (.str []), (.str []), (.str []), .nils] [(0, 7, (.tmp 106)), (7, 7, (.tmp 114))]), none⟩, ⟨(some 116), (.build [(.int .i64 0), (.bool false), (.int .i64 0), (.str []), (.str []), (.str []), .nils] [(0, 1, (.con (.int .i64 22))), (6, 1, (.tmp 115))]), none⟩, ⟨none, (.store 7 (.tmp 6) (.tmp 116)), none⟩] [3, 4, 11, 12, 13, 15] [0, 0, 0, 4, 15, 0, 0, 64, 192, 448, 0, 1055, 4095, 8191, 16383, 32767] [])
 .ret)
 (.seq (.reg [⟨(some 118), (.bin .eql .plain (.tmp 17) (.con (.int .i64 10))), none⟩, ⟨(some 117), (.mv (.tmp 118)), none⟩])
 (.cond (.tmp 117)
 (.seq (.dreg [⟨(some 119), (.load true 6 (.tmp 3)), none⟩, ⟨(some 120), (.faddr 0 (.tmp 8)), none⟩, ⟨(some 121), (.load false 1 (.tmp 120)), none⟩, ⟨(some 122), (.faddr 2 (.tmp 8)), none⟩, ⟨(some 123), (.load false 1 (.tmp 122)), none⟩, ⟨(some 124), (.build [(.int .i64 0), (.int .i64 0), (.str [])] [(0, 1, (.con (.int .i64 5))), (1, 1, (.tmp 121)), (2, 1, (.tmp 123))]), none⟩, ⟨(some 125), (.load true 4 (.tmp 4)), none⟩, ⟨(some 126), (.call 68 [(.tmp 125), (.con (.int .i64 0))]), none⟩, ⟨(some 127), (.call 19 [(.tmp 119), (.tmp 124), (.tmp 126)]), none⟩, ⟨(some 128), (.load true 6 (.tmp 3)), none⟩, ⟨(some 129), (.load true 3 (.tmp 8)), none⟩, ⟨(some 130), (.load true 4 (.tmp 4)), none⟩, ⟨(some 131), (.call 68 [(.tmp 130), (.con (.int .i64 1))]), none⟩, ⟨(some 132), (.call 19 [(.tmp 128), (.tmp 129), (.tmp 131)]), none⟩, ⟨(some 133), (.bslice 7 2 [(.int .i64 0), (.bool false), (.int .i64 0), (.str []), (.str []), (.str []), .nils] [(0, 7, (.tmp 127)), (7, 7, (.tmp 132))]), none⟩, ⟨(some 134), (.build [(.int .i64 0), (.bool false), (.int .i64 0), (.str []), (.str []), (.str []), .nils] [(0, 1, (.con (.int .i64 9))), (6, 1, (.tmp 133))]), none⟩, ⟨none, (.store 7 (.tmp 6) (.tmp 134)), none⟩] [7, 8, 12, 13, 14, 16] [0, 0, 2, 0, 8, 30, 0, 64, 255, 0, 0, 0, 2559, 8191, 16383, 32767, 65535] [])
 .ret)
 .skip))))))))))))))))
 (.seq (.seq (.reg [⟨(some 135), (.faddr 1 (.tmp 4)), none⟩, ⟨(some 136), (.load false 1 (.tmp 135)), none⟩, ⟨(some 137), (.bin .rem .plain (.tmp 136) (.con (.int .i64 2))), none⟩, ⟨(some 138), (.bin .eql .plain (.tmp 137) (.con (.int .i64 0))), none⟩])
 (.cond (.tmp 138)
 (.seq (.dreg [⟨(some 139), (.load true 6 (.tmp 3)), none⟩, ⟨(some 140), (.build [(.int .i64 0), (.int .i64 0), (.str [])] [(0, 1, (.con (.int .i64 3)))]), none⟩, ⟨(some 141), (.load true 4 (.tmp 4)), none⟩, ⟨(some 142), (.call 68 [(.tmp 141), (.con (.int .i64 0))]), none⟩, ⟨(some 143), (.call 19 [(.tmp 139), (.tmp 140), (.tmp 142)]), none⟩, ⟨(some 144), (.bslice 7 1 [(.int .i64 0), (.bool false), (.int .i64 0), (.str []), (.str []), (.str []), .nils] [(0, 7, (.tmp 143))]), none⟩, ⟨(some 145), (.build [(.int .i64 0), (.bool false), (.int .i64 0), (.str []), (.str []), (.str []), .nils] [(0, 1, (.con (.int .i64 10))), (3, 1, (.con (.str [97, 42]))), (6, 1, (.tmp 144))]), none⟩, ⟨none, (.store 7 (.tmp 6) (.tmp 145)), none⟩] [3, 4, 5, 7] [0, 0, 0, 4, 15, 31, 63, 127] [])
 .ret)
 .skip))
 (.seq (.dreg [⟨(some 146), (.load true 6 (.tmp 3)), none⟩, ⟨(some 147), (.load true 3 (.tmp 7)), none⟩, ⟨(some 148), (.load true 4 (.tmp 4)), none⟩, ⟨(some 149), (.call 68 [(.tmp 148), (.con (.int .i64 0))]), none⟩, ⟨(some 150), (.call 19 [(.tmp 146), (.tmp 147), (.tmp 149)]), none⟩, ⟨(some 151), (.bslice 7 1 [(.int .i64 0), (.bool false), (.int .i64 0), (.str []), (.str []), (.str []), .nils] [(0, 7, (.tmp 150))]), none⟩, ⟨(some 152), (.build [(.int .i64 0), (.bool false), (.int .i64 0), (.str []), (.str []), (.str []), .nils] [(0, 1, (.con (.int .i64 8))), (3, 1, (.con (.str [97, 103, 101]))), (6, 1, (.tmp 151))]), none⟩, ⟨none, (.store 7 (.tmp 6) (.tmp 152)), none⟩] [3, 4, 5, 7] [0, 0, 0, 4, 15, 31, 63, 127] [])
 .ret))))))
def ac69 : AFun := ⟨3, 153, ab69, [(.cell 6 true 7)]⟩
theorem cf69 : compF Try.prog Try.f69 = some ac69 := by kernel_rfl
theorem cl69 : callable Try.prog 69 = true := by kernel_rfl
theorem fn69 : Try.prog.funcs[69]? = some Try.f69 := by kernel_rfl
/- slices.ContainsFunc[[]chancel/api.Type,chancel/api.Type] -/
def ab70 : ACode := (.seq (.reg [⟨(some 4), (.mv (.con (.bool false))), none⟩])
 (.seq (.reg [⟨(some 5), (.mv (.tmp 0)), none⟩, ⟨(some 6), (.mv (.tmp 1)), none⟩, ⟨(some 7), (.call 78 [(.tmp 5), (.tmp 6)]), none⟩, ⟨(some 8), (.bin .geq .plain (.tmp 7) (.con (.int .i64 0))), none⟩, ⟨(some 4), (.mv (.tmp 8)), none⟩])
 .ret))
def ac70 : AFun := ⟨2, 9, ab70, [(.tmp 4)]⟩
theorem cf70 : compF Try.prog Try.f70 = some ac70 := by kernel_rfl
theorem cl70 : callable Try.prog 70 = true := by kernel_rfl
theorem fn70 : Try.prog.funcs[70]? = some Try.f70 := by kernel_rfl
/- chancel/types.alike$1 -/
def ab71 : ACode := (.seq (.reg [⟨(some 2), (.box (.tmp 0)), none⟩, ⟨(some 3), (.mv (.con (.bool false))), none⟩])
 (.seq (.dreg [⟨(some 4), (.load true 3 (.tmp 2)), none⟩, ⟨(some 5), (.load false 1 (.tmp 1)), none⟩, ⟨(some 6), (.iaddr 3 (.tmp 5) (.con (.int .i64 0))), none⟩, ⟨(some 7), (.load true 3 (.tmp 6)), none⟩, ⟨(some 8), (.bin .neq (.agg [.i, .i, .s]) (.tmp 4) (.tmp 7)), none⟩, ⟨(some 3), (.mv (.tmp 8)), none⟩] [] [0, 0, 2, 6, 15, 31] [])
 .ret))
def ac71 : AFun := ⟨2, 9, ab71, [(.tmp 3)]⟩
theorem cf71 : compF Try.prog Try.f71 = some ac71 := by kernel_rfl
theorem cl71 : callable Try.prog 71 = true := by kernel_rfl
theorem fn71 : Try.prog.funcs[71]? = some Try.f71 := by kernel_rfl
/- chancel/schema.Field -/
def ab72 : ACode := (.seq (.reg [⟨(some 2), (.box (.tmp 0)), none⟩, ⟨(some 4), (.alloc [(.int .i64 0), (.int .i64 0), (.str [])]), none⟩, ⟨(some 5), (.mv (.con (.bool false))), none⟩])
 (.seq (.seq (.reg [⟨(some 8), (.faddr 2 (.tmp 2)), none⟩, ⟨(some 9), (.load false 1 (.tmp 8)), none⟩, ⟨(some 10), (.lenL (.tmp 9)), none⟩, ⟨(some 11), (.mv (.con (.int .i64 0))), none⟩])
 (.block 0
 (.loop (.seq (.reg [⟨(some 12), (.bin .lss .plain (.tmp 11) (.tmp 10)), none⟩])
 (.seq (.cond (.tmp 12)
 .skip
 (.exit 0))
 (.seq (.block 1
 (.seq (.reg [⟨(some 13), (.iaddr 4 (.tmp 9) (.tmp 11)), none⟩, ⟨(some 14), (.load true 4 (.tmp 13)), none⟩, ⟨(some 7), (.alloc [(.str []), (.int .i64 0), (.int .i64 0), (.str [])]), none⟩, ⟨none, (.store 4 (.tmp 7) (.tmp 14)), none⟩])
 (.seq (.reg [⟨(some 15), (.faddr 0 (.tmp 7)), none⟩, ⟨(some 16), (.load false 1 (.tmp 15)), none⟩, ⟨(some 17), (.mv (.tmp 1)), none⟩, ⟨(some 18), (.bin .eql .plain (.tmp 16) (.tmp 17)), none⟩])
 (.cond (.tmp 18)
 (.seq (.reg [⟨(some 19), (.faddr 1 (.tmp 7)), none⟩, ⟨(some 20), (.load true 3 (.tmp 19)), none⟩, ⟨none, (.store 3 (.tmp 4) (.tmp 20)), none⟩, ⟨(some 5), (.mv (.con (.bool true))), none⟩])
 .ret)
 .skip))))
 (.reg [⟨(some 21), (.bin .add .plain (.tmp 11) (.con (.int .i64 1))), none⟩, ⟨(some 11), (.mv (.tmp 21)), none⟩])))))))
 (.seq (.reg [⟨(some 22), (.build [(.int .i64 0), (.int .i64 0), (.str [])] []), none⟩, ⟨none, (.store 3 (.tmp 4) (.tmp 22)), none⟩, ⟨(some 5), (.mv (.con (.bool false))), none⟩])
 .ret)))
def ac72 : AFun := ⟨2, 23, ab72, [(.cell 4 true 3), (.tmp 5)]⟩
theorem cf72 : compF Try.prog Try.f72 = some ac72 := by kernel_rfl
theorem cl72 : callable Try.prog 72 = true := by kernel_rfl
theorem fn72 : Try.prog.funcs[72]? = some Try.f72 := by kernel_rfl
/- chancel/types.all$1 -/
def ab73 : ACode := (.seq (.reg [⟨(some 2), (.box (.tmp 0)), none⟩, ⟨(some 3), (.mv (.con (.bool false))), none⟩])
 (.seq (.reg [⟨(some 4), (.faddr 0 (.tmp 2)), none⟩, ⟨(some 5), (.load false 1 (.tmp 4)), none⟩, ⟨(some 6), (.load false 1 (.tmp 1)), none⟩, ⟨(some 7), (.bin .neq .plain (.tmp 5) (.tmp 6)), none⟩, ⟨(some 3), (.mv (.tmp 7)), none⟩])
 .ret))
def ac73 : AFun := ⟨2, 8, ab73, [(.tmp 3)]⟩
theorem cf73 : compF Try.prog Try.f73 = some ac73 := by kernel_rfl
theorem cl73 : callable Try.prog 73 = true := by kernel_rfl
theorem fn73 : Try.prog.funcs[73]? = some Try.f73 := by kernel_rfl
/- slices.Clone[[]string,string] -/
def ab74 : ACode := (.seq (.reg [⟨(some 2), (.mv (.con .nils)), none⟩])
 (.seq (.seq (.reg [⟨(some 3), (.mv (.tmp 0)), none⟩, ⟨(some 4), (.bin .eql .slice (.tmp 3) (.con .nils)), none⟩])
 (.cond (.tmp 4)
 (.seq (.reg [⟨(some 2), (.mv (.con .nils)), none⟩])
 .ret)
 .skip))
 (.seq (.reg [⟨(some 5), (.bslice 1 0 [(.str [])] []), none⟩, ⟨(some 6), (.mv (.tmp 0)), none⟩, ⟨(some 7), (.append 1 16 (.tmp 5) (.tmp 6)), none⟩, ⟨(some 2), (.mv (.tmp 7)), none⟩])
 .ret)))
def ac74 : AFun := ⟨1, 8, ab74, [(.tmp 2)]⟩
theorem cf74 : compF Try.prog Try.f74 = some ac74 := by kernel_rfl
theorem cl74 : callable Try.prog 74 = true := by kernel_rfl
theorem fn74 : Try.prog.funcs[74]? = some Try.f74 := by kernel_rfl
/- slices.Clone[[]chancel/api.Field,chancel/api.Field] -/
def ab75 : ACode := (.seq (.reg [⟨(some 2), (.mv (.con .nils)), none⟩])
 (.seq (.seq (.reg [⟨(some 3), (.mv (.tmp 0)), none⟩, ⟨(some 4), (.bin .eql .slice (.tmp 3) (.con .nils)), none⟩])
 (.cond (.tmp 4)
 (.seq (.reg [⟨(some 2), (.mv (.con .nils)), none⟩])
 .ret)
 .skip))
 (.seq (.reg [⟨(some 5), (.bslice 4 0 [(.str []), (.int .i64 0), (.int .i64 0), (.str [])] []), none⟩, ⟨(some 6), (.mv (.tmp 0)), none⟩, ⟨(some 7), (.append 4 48 (.tmp 5) (.tmp 6)), none⟩, ⟨(some 2), (.mv (.tmp 7)), none⟩])
 .ret)))
def ac75 : AFun := ⟨1, 8, ab75, [(.tmp 2)]⟩
theorem cf75 : compF Try.prog Try.f75 = some ac75 := by kernel_rfl
theorem cl75 : callable Try.prog 75 = true := by kernel_rfl
theorem fn75 : Try.prog.funcs[75]? = some Try.f75 := by kernel_rfl
/- chancel/chancelref1.Is -/
def ab76 : ACode := (.seq (.reg [⟨(some 2), (.mv (.con (.bool false))), none⟩])
 (.seq (.reg [⟨(some 3), (.mv (.tmp 0)), none⟩, ⟨(some 4), (.bin .geq .plain (.tmp 3) (.con (.int .i32 0))), none⟩, ⟨(some 5), (.mv (.tmp 4)), none⟩, ⟨(some 6), (.mv (.tmp 0)), (some (5, true))⟩, ⟨(some 7), (.bin .leq .plain (.tmp 6) (.con (.int .i32 1114111))), (some (5, true))⟩, ⟨(some 8), (.pick (.tmp 5) (.tmp 7) (.con (.bool false))), none⟩, ⟨(some 9), (.mv (.tmp 8)), none⟩, ⟨(some 10), (.mv (.tmp 0)), (some (9, true))⟩, ⟨(some 11), (.bin .lss .plain (.tmp 10) (.con (.int .i32 55296))), (some (9, true))⟩, ⟨(some 12), (.mv (.tmp 11)), (some (9, true))⟩, ⟨(some 13), (.mv (.tmp 0)), (some (12, false))⟩, ⟨(some 14), (.bin .gtr .plain (.tmp 13) (.con (.int .i32 57343))), (some (12, false))⟩, ⟨(some 15), (.pick (.tmp 12) (.con (.bool true)) (.tmp 14)), (some (9, true))⟩, ⟨(some 16), (.pick (.tmp 9) (.tmp 15) (.con (.bool false))), none⟩, ⟨(some 2), (.mv (.tmp 16)), none⟩])
 .ret))
def ac76 : AFun := ⟨1, 17, ab76, [(.tmp 2)]⟩
theorem cf76 : compF Try.prog Try.f76 = some ac76 := by kernel_rfl
theorem cl76 : callable Try.prog 76 = true := by kernel_rfl
theorem fn76 : Try.prog.funcs[76]? = some Try.f76 := by kernel_rfl
/- chancel/chancelref1.put -/
def ab77 : ACode := (.seq (.reg [⟨(some 4), (.mv (.con .nils)), none⟩])
 (.seq (.block 0
 (.seq (.reg [⟨(some 6), (.mv (.tmp 1)), none⟩, ⟨(some 7), (.bin .lss .plain (.tmp 6) (.con (.int .i32 128))), none⟩, ⟨(some 5), (.mv (.tmp 7)), none⟩])
 (.cond (.tmp 5)
 (.seq (.reg [⟨(some 8), (.mv (.tmp 0)), none⟩, ⟨(some 9), (.mv (.tmp 1)), none⟩, ⟨(some 10), (.cvInt .u8 (.tmp 9)), none⟩, ⟨(some 11), (.bslice 1 1 [(.int .u8 0)] [(0, 1, (.tmp 10))]), none⟩, ⟨(some 12), (.append 1 1 (.tmp 8) (.tmp 11)), none⟩, ⟨(some 4), (.mv (.tmp 12)), none⟩])
 .ret)
 (.seq (.reg [⟨(some 14), (.mv (.tmp 1)), none⟩, ⟨(some 15), (.bin .lss .plain (.tmp 14) (.con (.int .i32 2048))), none⟩, ⟨(some 13), (.mv (.tmp 15)), none⟩])
 (.cond (.tmp 13)
 (.seq (.reg [⟨(some 16), (.mv (.tmp 0)), none⟩, ⟨(some 17), (.mv (.tmp 1)), none⟩, ⟨(some 18), (.bin .shr .plain (.tmp 17) (.con (.int .u64 6))), none⟩, ⟨(some 19), (.cvInt .u8 (.tmp 18)), none⟩, ⟨(some 20), (.bin .or .plain (.con (.int .u8 192)) (.tmp 19)), none⟩, ⟨(some 21), (.mv (.tmp 1)), none⟩, ⟨(some 22), (.bin .and .plain (.tmp 21) (.con (.int .i32 63))), none⟩, ⟨(some 23), (.cvInt .u8 (.tmp 22)), none⟩, ⟨(some 24), (.bin .or .plain (.con (.int .u8 128)) (.tmp 23)), none⟩, ⟨(some 25), (.bslice 1 2 [(.int .u8 0)] [(0, 1, (.tmp 20)), (1, 1, (.tmp 24))]), none⟩, ⟨(some 26), (.append 1 1 (.tmp 16) (.tmp 25)), none⟩, ⟨(some 4), (.mv (.tmp 26)), none⟩])
 .ret)
 (.seq (.reg [⟨(some 28), (.mv (.tmp 1)), none⟩, ⟨(some 29), (.bin .lss .plain (.tmp 28) (.con (.int .i32 65536))), none⟩, ⟨(some 27), (.mv (.tmp 29)), none⟩])
 (.cond (.tmp 27)
 (.seq (.reg [⟨(some 30), (.mv (.tmp 0)), none⟩, ⟨(some 31), (.mv (.tmp 1)), none⟩, ⟨(some 32), (.bin .shr .plain (.tmp 31) (.con (.int .u64 12))), none⟩, ⟨(some 33), (.cvInt .u8 (.tmp 32)), none⟩, ⟨(some 34), (.bin .or .plain (.con (.int .u8 224)) (.tmp 33)), none⟩, ⟨(some 35), (.mv (.tmp 1)), none⟩, ⟨(some 36), (.bin .shr .plain (.tmp 35) (.con (.int .u64 6))), none⟩, ⟨(some 37), (.bin .and .plain (.tmp 36) (.con (.int .i32 63))), none⟩, ⟨(some 38), (.cvInt .u8 (.tmp 37)), none⟩, ⟨(some 39), (.bin .or .plain (.con (.int .u8 128)) (.tmp 38)), none⟩, ⟨(some 40), (.mv (.tmp 1)), none⟩, ⟨(some 41), (.bin .and .plain (.tmp 40) (.con (.int .i32 63))), none⟩, ⟨(some 42), (.cvInt .u8 (.tmp 41)), none⟩, ⟨(some 43), (.bin .or .plain (.con (.int .u8 128)) (.tmp 42)), none⟩, ⟨(some 44), (.bslice 1 3 [(.int .u8 0)] [(0, 1, (.tmp 34)), (1, 1, (.tmp 39)), (2, 1, (.tmp 43))]), none⟩, ⟨(some 45), (.append 1 1 (.tmp 30) (.tmp 44)), none⟩, ⟨(some 4), (.mv (.tmp 45)), none⟩])
 .ret)
 .skip)))))))
 (.seq (.reg [⟨(some 46), (.mv (.tmp 0)), none⟩, ⟨(some 47), (.mv (.tmp 1)), none⟩, ⟨(some 48), (.bin .shr .plain (.tmp 47) (.con (.int .u64 18))), none⟩, ⟨(some 49), (.cvInt .u8 (.tmp 48)), none⟩, ⟨(some 50), (.bin .or .plain (.con (.int .u8 240)) (.tmp 49)), none⟩, ⟨(some 51), (.mv (.tmp 1)), none⟩, ⟨(some 52), (.bin .shr .plain (.tmp 51) (.con (.int .u64 12))), none⟩, ⟨(some 53), (.bin .and .plain (.tmp 52) (.con (.int .i32 63))), none⟩, ⟨(some 54), (.cvInt .u8 (.tmp 53)), none⟩, ⟨(some 55), (.bin .or .plain (.con (.int .u8 128)) (.tmp 54)), none⟩, ⟨(some 56), (.mv (.tmp 1)), none⟩, ⟨(some 57), (.bin .shr .plain (.tmp 56) (.con (.int .u64 6))), none⟩, ⟨(some 58), (.bin .and .plain (.tmp 57) (.con (.int .i32 63))), none⟩, ⟨(some 59), (.cvInt .u8 (.tmp 58)), none⟩, ⟨(some 60), (.bin .or .plain (.con (.int .u8 128)) (.tmp 59)), none⟩, ⟨(some 61), (.mv (.tmp 1)), none⟩, ⟨(some 62), (.bin .and .plain (.tmp 61) (.con (.int .i32 63))), none⟩, ⟨(some 63), (.cvInt .u8 (.tmp 62)), none⟩, ⟨(some 64), (.bin .or .plain (.con (.int .u8 128)) (.tmp 63)), none⟩, ⟨(some 65), (.bslice 1 4 [(.int .u8 0)] [(0, 1, (.tmp 50)), (1, 1, (.tmp 55)), (2, 1, (.tmp 60)), (3, 1, (.tmp 64))]), none⟩, ⟨(some 66), (.append 1 1 (.tmp 46) (.tmp 65)), none⟩, ⟨(some 4), (.mv (.tmp 66)), none⟩])
 .ret)))
def ac77 : AFun := ⟨2, 67, ab77, [(.tmp 4)]⟩
theorem cf77 : compF Try.prog Try.f77 = some ac77 := by kernel_rfl
theorem cl77 : callable Try.prog 77 = true := by kernel_rfl
theorem fn77 : Try.prog.funcs[77]? = some Try.f77 := by kernel_rfl
/- slices.IndexFunc[[]chancel/api.Type,chancel/api.Type] -/
def ab78 : ACode := (.seq (.reg [⟨(some 4), (.mv (.con (.int .i64 0))), none⟩])
 (.seq (.seq (.reg [⟨(some 6), (.mv (.tmp 0)), none⟩, ⟨(some 7), (.lenL (.tmp 6)), none⟩, ⟨(some 8), (.mv (.con (.int .i64 0))), none⟩])
 (.block 0
 (.loop (.seq (.reg [⟨(some 9), (.bin .lss .plain (.tmp 8) (.tmp 7)), none⟩])
 (.seq (.cond (.tmp 9)
 .skip
 (.exit 0))
 (.seq (.block 1
 (.seq (.reg [⟨(some 10), (.mv (.tmp 8)), none⟩, ⟨(some 5), (.mv (.tmp 10)), none⟩])
 (.seq (.reg [⟨(some 11), (.mv (.tmp 1)), none⟩, ⟨(some 12), (.mv (.tmp 0)), none⟩, ⟨(some 13), (.mv (.tmp 5)), none⟩, ⟨(some 14), (.iaddr 3 (.tmp 12) (.tmp 13)), none⟩, ⟨(some 15), (.load true 3 (.tmp 14)), none⟩, ⟨(some 16), (.callv (.tmp 11) [(.tmp 15)]), none⟩])
 (.cond (.tmp 16)
 (.seq (.reg [⟨(some 17), (.mv (.tmp 5)), none⟩, ⟨(some 4), (.mv (.tmp 17)), none⟩])
 .ret)
 .skip))))
 (.reg [⟨(some 18), (.bin .add .plain (.tmp 8) (.con (.int .i64 1))), none⟩, ⟨(some 8), (.mv (.tmp 18)), none⟩])))))))
 (.seq (.reg [⟨(some 4), (.mv (.con (.int .i64 (-1)))), none⟩])
 .ret)))
def ac78 : AFun := ⟨2, 19, ab78, [(.tmp 4)]⟩
theorem cf78 : compF Try.prog Try.f78 = some ac78 := by kernel_rfl
theorem cl78 : callable Try.prog 78 = true := by kernel_rfl
theorem fn78 : Try.prog.funcs[78]? = some Try.f78 := by kernel_rfl
end Go.Proofs.Ytcdbpmmomgehfaa.Va
