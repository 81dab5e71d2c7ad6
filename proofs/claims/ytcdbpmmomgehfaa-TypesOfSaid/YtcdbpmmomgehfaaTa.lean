/- Functions of the program as resolved code (printed by gen.py from the kernel's own value). Conditions: none. -/
import Derived.Test.YtcdbpmmomgehfaaProg
import Derived.Test.YtcdbpmmomgehfaaVaF
import Derived.KernelRfl
set_option maxRecDepth 100000
set_option maxHeartbeats 4000000
set_option linter.all false
namespace Go.Proofs.Ytcdbpmmomgehfaa.Va
open Go.Proofs
/- gosem.cut.init -/
def ab2 : ACode := (.reg [⟨(some 0), (.call 1 []), none⟩])
def ac2 : AFun := ⟨0, 1, ab2, []⟩
theorem cf2 : compF Try.prog Try.f2 = some ac2 := by kernel_rfl
theorem cl2 : callable Try.prog 2 = true := by kernel_rfl
theorem fn2 : Try.prog.funcs[2]? = some Try.f2 := by kernel_rfl
/- chancel/chancellaw11.TypesOf -/
def ab3 : ACode := (.seq (.reg [⟨(some 8), (.box (.tmp 2)), none⟩, ⟨(some 12), (.mv (.con (.bool false))), none⟩])
 (.seq (.seq (.reg [⟨(some 17), (.call 11 []), none⟩, ⟨(some 18), (.un .not (.tmp 17)), none⟩])
 (.cond (.tmp 18)
 (.seq (.reg [⟨(some 12), (.mv (.con (.bool false))), none⟩])
 .ret)
 .skip))
 (.seq (.seq (.reg [⟨(some 19), (.load true 4 (.tmp 8)), none⟩, ⟨(some 20), (.call 12 [(.tmp 19), (.con (.int .i64 150))]), none⟩, ⟨(some 21), (.bin .eql .plain (.tmp 20) (.con (.int .i64 0))), none⟩, ⟨(some 22), (.mv (.tmp 21)), none⟩, ⟨(some 23), (.mv (.tmp 4)), (some (22, false))⟩, ⟨(some 24), (.lenS (.tmp 23)), (some (22, false))⟩, ⟨(some 25), (.mv (.tmp 5)), (some (22, false))⟩, ⟨(some 26), (.lenS (.tmp 25)), (some (22, false))⟩, ⟨(some 27), (.bin .add .plain (.tmp 24) (.tmp 26)), (some (22, false))⟩, ⟨(some 28), (.bin .gtr .plain (.tmp 27) (.con (.int .i64 100))), (some (22, false))⟩, ⟨(some 29), (.pick (.tmp 22) (.con (.bool true)) (.tmp 28)), none⟩])
 (.cond (.tmp 29)
 (.seq (.reg [⟨(some 12), (.mv (.con (.bool true))), none⟩])
 .ret)
 .skip))
 (.seq (.reg [⟨(some 30), (.mv (.tmp 0)), none⟩, ⟨(some 31), (.mv (.tmp 1)), none⟩, ⟨(some 32), (.call 13 [(.tmp 30), (.tmp 31)]), none⟩, ⟨(some 13), (.alloc [.nils, .nils]), none⟩, ⟨none, (.store 2 (.tmp 13) (.tmp 32)), none⟩])
 (.seq (.reg [⟨(some 33), (.load true 4 (.tmp 8)), none⟩, ⟨(some 34), (.call 14 [(.tmp 33), (.con (.int .i64 10))]), none⟩, ⟨(some 14), (.alloc [(.int .i64 0), (.bool false), (.int .i64 0), (.str []), (.str []), (.str []), .nils]), none⟩, ⟨none, (.store 7 (.tmp 14) (.tmp 34)), none⟩])
 (.seq (.reg [⟨(some 36), (.load true 2 (.tmp 13)), none⟩, ⟨(some 37), (.mv (.tmp 3)), none⟩, ⟨(some 38), (.call 15 [(.tmp 36), (.tmp 37)]), none⟩, ⟨(some 35), (.mv (.tmp 38)), none⟩, ⟨(some 39), (.ext (.tmp 35) 0), none⟩, ⟨(some 40), (.ext (.tmp 35) 1), none⟩, ⟨(some 15), (.alloc [(.str []), (.str []), (.str [])]), none⟩, ⟨none, (.store 3 (.tmp 15) (.tmp 39)), none⟩, ⟨(some 16), (.mv (.tmp 40)), none⟩])
 (.seq (.reg [⟨(some 41), (.load true 2 (.tmp 13)), none⟩, ⟨(some 42), (.mv (.tmp 4)), none⟩, ⟨(some 43), (.mv (.tmp 5)), none⟩, ⟨(some 44), (.build [(.str []), (.str []), (.str [])] [(0, 1, (.tmp 42)), (2, 1, (.tmp 43))]), none⟩, ⟨(some 45), (.load true 7 (.tmp 14)), none⟩, ⟨(some 46), (.call 16 [(.tmp 41), (.tmp 44), (.tmp 45)]), none⟩, ⟨(some 47), (.mv (.tmp 46)), none⟩, ⟨(some 48), (.mv (.tmp 16)), (some (47, true))⟩, ⟨(some 49), (.un .not (.tmp 48)), (some (47, true))⟩, ⟨(some 50), (.mv (.tmp 49)), (some (47, true))⟩, ⟨(some 51), (.load true 2 (.tmp 13)), (some (50, false))⟩, ⟨(some 52), (.load true 3 (.tmp 15)), (some (50, false))⟩, ⟨(some 53), (.load true 7 (.tmp 14)), (some (50, false))⟩, ⟨(some 54), (.call 16 [(.tmp 51), (.tmp 52), (.tmp 53)]), (some (50, false))⟩, ⟨(some 55), (.pick (.tmp 50) (.con (.bool true)) (.tmp 54)), (some (47, true))⟩, ⟨(some 56), (.pick (.tmp 47) (.tmp 55) (.con (.bool false))), none⟩, ⟨(some 12), (.mv (.tmp 56)), none⟩])
 .ret)))))))
def ac3 : AFun := ⟨6, 57, ab3, [(.tmp 12)]⟩
theorem cf3 : compF Try.prog Try.f3 = some ac3 := by kernel_rfl
theorem cl3 : callable Try.prog 3 = true := by kernel_rfl
theorem fn3 : Try.prog.funcs[3]? = some Try.f3 := by kernel_rfl
/- chancel/chancellaw11.TypesMade -/
def ab4 : ACode := (.seq (.reg [⟨(some 10), (.box (.tmp 4)), none⟩, ⟨(some 11), (.box (.tmp 5)), none⟩, ⟨(some 12), (.mv (.con (.bool false))), none⟩])
 (.seq (.seq (.reg [⟨(some 23), (.call 11 []), none⟩, ⟨(some 24), (.un .not (.tmp 23)), none⟩])
 (.cond (.tmp 24)
 (.seq (.reg [⟨(some 12), (.mv (.con (.bool false))), none⟩])
 .ret)
 .skip))
 (.seq (.reg [⟨(some 25), (.mv (.tmp 0)), none⟩, ⟨(some 26), (.mv (.tmp 1)), none⟩, ⟨(some 27), (.call 13 [(.tmp 25), (.tmp 26)]), none⟩, ⟨(some 13), (.alloc [.nils, .nils]), none⟩, ⟨none, (.store 2 (.tmp 13) (.tmp 27)), none⟩])
 (.seq (.reg [⟨(some 29), (.load true 2 (.tmp 13)), none⟩, ⟨(some 30), (.mv (.tmp 2)), none⟩, ⟨(some 31), (.call 15 [(.tmp 29), (.tmp 30)]), none⟩, ⟨(some 28), (.mv (.tmp 31)), none⟩, ⟨(some 32), (.ext (.tmp 28) 0), none⟩, ⟨(some 33), (.ext (.tmp 28) 1), none⟩, ⟨(some 14), (.alloc [(.str []), (.str []), (.str [])]), none⟩, ⟨none, (.store 3 (.tmp 14) (.tmp 32)), none⟩, ⟨(some 15), (.mv (.tmp 33)), none⟩])
 (.seq (.seq (.reg [⟨(some 34), (.mv (.tmp 15)), none⟩, ⟨(some 35), (.un .not (.tmp 34)), none⟩, ⟨(some 36), (.mv (.tmp 35)), none⟩, ⟨(some 37), (.load true 4 (.tmp 10)), (some (36, false))⟩, ⟨(some 38), (.call 17 [(.tmp 37), (.con (.int .i64 60))]), (some (36, false))⟩, ⟨(some 39), (.bin .eql .plain (.tmp 38) (.con (.int .i64 0))), (some (36, false))⟩, ⟨(some 40), (.pick (.tmp 36) (.con (.bool true)) (.tmp 39)), none⟩, ⟨(some 41), (.mv (.tmp 40)), none⟩, ⟨(some 42), (.load true 4 (.tmp 11)), (some (41, false))⟩, ⟨(some 43), (.call 17 [(.tmp 42), (.con (.int .i64 60))]), (some (41, false))⟩, ⟨(some 44), (.bin .eql .plain (.tmp 43) (.con (.int .i64 0))), (some (41, false))⟩, ⟨(some 45), (.pick (.tmp 41) (.con (.bool true)) (.tmp 44)), none⟩])
 (.cond (.tmp 45)
 (.seq (.reg [⟨(some 12), (.mv (.con (.bool true))), none⟩])
 .ret)
 .skip))
 (.seq (.reg [⟨(some 46), (.load true 2 (.tmp 13)), none⟩, ⟨(some 47), (.load true 3 (.tmp 14)), none⟩, ⟨(some 48), (.build [.nils, .nils, (.str []), (.str []), (.str []), (.int .i64 0)] [(0, 2, (.tmp 46)), (2, 3, (.tmp 47)), (5, 1, (.con (.int .i64 6)))]), none⟩, ⟨(some 16), (.alloc [.nils, .nils, (.str []), (.str []), (.str []), (.int .i64 0)]), none⟩, ⟨none, (.store 6 (.tmp 16) (.tmp 48)), none⟩])
 (.seq (.reg [⟨(some 49), (.load true 6 (.tmp 16)), none⟩, ⟨(some 50), (.mv (.tmp 3)), none⟩, ⟨(some 51), (.call 18 [(.tmp 49), (.tmp 50)]), none⟩, ⟨(some 17), (.alloc [(.int .i64 0), (.int .i64 0), (.str [])]), none⟩, ⟨none, (.store 3 (.tmp 17) (.tmp 51)), none⟩])
 (.seq (.seq (.reg [⟨(some 52), (.mv (.tmp 3)), none⟩, ⟨(some 53), (.bin .rem .plain (.tmp 52) (.con (.int .i64 6))), none⟩, ⟨(some 54), (.bin .eql .plain (.tmp 53) (.con (.int .i64 5))), none⟩])
 (.cond (.tmp 54)
 (.reg [⟨(some 55), (.faddr 0 (.tmp 17)), none⟩, ⟨(some 56), (.load false 1 (.tmp 55)), none⟩, ⟨(some 57), (.faddr 2 (.tmp 17)), none⟩, ⟨(some 58), (.load false 1 (.tmp 57)), none⟩, ⟨(some 59), (.build [(.int .i64 0), (.int .i64 0), (.str [])] [(0, 1, (.con (.int .i64 5))), (1, 1, (.tmp 56)), (2, 1, (.tmp 58))]), none⟩, ⟨none, (.store 3 (.tmp 17) (.tmp 59)), none⟩])
 .skip))
 (.seq (.dreg [⟨(some 60), (.load true 6 (.tmp 16)), none⟩, ⟨(some 61), (.load true 3 (.tmp 17)), none⟩, ⟨(some 62), (.load true 4 (.tmp 10)), none⟩, ⟨(some 63), (.call 19 [(.tmp 60), (.tmp 61), (.tmp 62)]), none⟩, ⟨(some 64), (.load true 6 (.tmp 16)), none⟩, ⟨(some 65), (.load true 6 (.tmp 16)), none⟩, ⟨(some 66), (.mv (.tmp 3)), none⟩, ⟨(some 67), (.bin .quo .plain (.tmp 66) (.con (.int .i64 5))), none⟩, ⟨(some 68), (.call 18 [(.tmp 65), (.tmp 67)]), none⟩, ⟨(some 69), (.load true 4 (.tmp 11)), none⟩, ⟨(some 70), (.call 19 [(.tmp 64), (.tmp 68), (.tmp 69)]), none⟩, ⟨(some 18), (.alloc [(.int .i64 0), (.bool false), (.int .i64 0), (.str []), (.str []), (.str []), .nils]), none⟩, ⟨(some 19), (.alloc [(.int .i64 0), (.bool false), (.int .i64 0), (.str []), (.str []), (.str []), .nils]), none⟩, ⟨none, (.store 7 (.tmp 18) (.tmp 63)), none⟩, ⟨none, (.store 7 (.tmp 19) (.tmp 70)), none⟩] [3, 8, 10, 13, 14] [0, 0, 0, 7, 0, 0, 0, 64, 239, 0, 1023, 0, 0, 8191, 16383] [11, 12])
 (.seq (.reg [⟨(some 72), (.load true 2 (.tmp 13)), none⟩, ⟨(some 73), (.faddr 0 (.tmp 14)), none⟩, ⟨(some 74), (.load false 1 (.tmp 73)), none⟩, ⟨(some 75), (.faddr 1 (.tmp 14)), none⟩, ⟨(some 76), (.load false 1 (.tmp 75)), none⟩, ⟨(some 77), (.faddr 2 (.tmp 14)), none⟩, ⟨(some 78), (.load false 1 (.tmp 77)), none⟩, ⟨(some 79), (.build [(.str []), (.str []), (.str [])] [(0, 1, (.tmp 74)), (1, 1, (.tmp 76)), (2, 1, (.tmp 78))]), none⟩, ⟨(some 80), (.load true 7 (.tmp 18)), none⟩, ⟨(some 81), (.call 20 [(.tmp 72), (.tmp 79), (.tmp 80)]), none⟩, ⟨(some 71), (.mv (.tmp 81)), none⟩, ⟨(some 82), (.ext (.tmp 71) 0), none⟩, ⟨(some 83), (.ext (.tmp 71) 1), none⟩, ⟨(some 20), (.alloc [(.int .i64 0), (.int .i64 0), (.str [])]), none⟩, ⟨none, (.store 3 (.tmp 20) (.tmp 82)), none⟩, ⟨(some 21), (.mv (.tmp 83)), none⟩])
 (.seq (.seq (.reg [⟨(some 84), (.mv (.tmp 21)), none⟩, ⟨(some 85), (.bin .neq .plain (.tmp 84) (.con (.int .i64 0))), none⟩, ⟨(some 86), (.mv (.tmp 85)), none⟩, ⟨(some 87), (.load true 3 (.tmp 20)), (some (86, false))⟩, ⟨(some 88), (.load true 3 (.tmp 17)), (some (86, false))⟩, ⟨(some 89), (.bin .neq (.agg [.i, .i, .s]) (.tmp 87) (.tmp 88)), (some (86, false))⟩, ⟨(some 90), (.pick (.tmp 86) (.con (.bool true)) (.tmp 89)), none⟩])
 (.cond (.tmp 90)
 (.seq (.reg [⟨(some 12), (.mv (.con (.bool false))), none⟩])
 .ret)
 .skip))
 (.seq (.seq (.reg [⟨(some 91), (.faddr 6 (.tmp 18)), none⟩, ⟨(some 92), (.load false 1 (.tmp 91)), none⟩, ⟨(some 93), (.lenL (.tmp 92)), none⟩, ⟨(some 94), (.bin .gtr .plain (.tmp 93) (.con (.int .i64 0))), none⟩])
 (.cond (.tmp 94)
 (.seq (.reg [⟨(some 95), (.bslice 7 0 [(.int .i64 0), (.bool false), (.int .i64 0), (.str []), (.str []), (.str []), .nils] []), none⟩, ⟨(some 96), (.faddr 6 (.tmp 18)), none⟩, ⟨(some 97), (.load false 1 (.tmp 96)), none⟩, ⟨(some 98), (.append 7 96 (.tmp 95) (.tmp 97)), none⟩, ⟨(some 22), (.mv (.tmp 98)), none⟩])
 (.seq (.dreg [⟨(some 99), (.mv (.tmp 22)), none⟩, ⟨(some 100), (.mv (.tmp 2)), none⟩, ⟨(some 101), (.bin .quo .plain (.tmp 100) (.con (.int .i64 7))), none⟩, ⟨(some 102), (.mv (.tmp 22)), none⟩, ⟨(some 103), (.lenL (.tmp 102)), none⟩, ⟨(some 104), (.call 21 [(.tmp 101), (.tmp 103)]), none⟩, ⟨(some 105), (.load true 7 (.tmp 19)), none⟩, ⟨(some 106), (.iaddr 7 (.tmp 99) (.tmp 104)), none⟩, ⟨none, (.store 7 (.tmp 106) (.tmp 105)), none⟩] [5, 8] [0, 0, 2, 0, 8, 30, 0, 127, 255] [])
 (.reg [⟨(some 107), (.mv (.tmp 22)), none⟩, ⟨(some 108), (.faddr 6 (.tmp 18)), none⟩, ⟨none, (.store 1 (.tmp 108) (.tmp 107)), none⟩])))
 .skip))
 (.seq (.reg [⟨(some 109), (.load true 2 (.tmp 13)), none⟩, ⟨(some 110), (.load true 3 (.tmp 14)), none⟩, ⟨(some 111), (.load true 7 (.tmp 18)), none⟩, ⟨(some 112), (.call 16 [(.tmp 109), (.tmp 110), (.tmp 111)]), none⟩, ⟨(some 12), (.mv (.tmp 112)), none⟩])
 .ret)))))))))))))
def ac4 : AFun := ⟨6, 113, ab4, [(.tmp 12)]⟩
theorem cf4 : compF Try.prog Try.f4 = some ac4 := by kernel_rfl
theorem cl4 : callable Try.prog 4 = true := by kernel_rfl
theorem fn4 : Try.prog.funcs[4]? = some Try.f4 := by kernel_rfl
/- chancel/chancellaw11.TypesOps -/
def ab5 : ACode := (.seq (.reg [⟨(some 8), (.mv (.con (.bool false))), none⟩])
 (.seq (.seq (.reg [⟨(some 18), (.call 11 []), none⟩, ⟨(some 19), (.un .not (.tmp 18)), none⟩])
 (.cond (.tmp 19)
 (.seq (.reg [⟨(some 8), (.mv (.con (.bool false))), none⟩])
 .ret)
 .skip))
 (.seq (.reg [⟨(some 20), (.build [(.int .i64 0), (.bool false), (.int .i64 0), (.str []), (.str []), (.str []), .nils] [(0, 1, (.con (.int .i64 1)))]), none⟩, ⟨(some 21), (.build [(.int .i64 0), (.bool false), (.int .i64 0), (.str []), (.str []), (.str []), .nils] [(0, 1, (.con (.int .i64 2)))]), none⟩, ⟨(some 22), (.build [(.int .i64 0), (.bool false), (.int .i64 0), (.str []), (.str []), (.str []), .nils] [(0, 1, (.con (.int .i64 3)))]), none⟩, ⟨(some 23), (.build [(.int .i64 0), (.bool false), (.int .i64 0), (.str []), (.str []), (.str []), .nils] [(0, 1, (.con (.int .i64 5))), (3, 1, (.con (.str [112, 114, 105, 110, 99, 105, 112, 97, 108])))]), none⟩, ⟨(some 24), (.build [(.int .i64 0), (.bool false), (.int .i64 0), (.str []), (.str []), (.str []), .nils] [(0, 1, (.con (.int .i64 2)))]), none⟩, ⟨(some 25), (.bslice 7 1 [(.int .i64 0), (.bool false), (.int .i64 0), (.str []), (.str []), (.str []), .nils] [(0, 7, (.tmp 24))]), none⟩, ⟨(some 26), (.build [(.int .i64 0), (.bool false), (.int .i64 0), (.str []), (.str []), (.str []), .nils] [(0, 1, (.con (.int .i64 6))), (6, 1, (.tmp 25))]), none⟩, ⟨(some 27), (.build [(.int .i64 0), (.bool false), (.int .i64 0), (.str []), (.str []), (.str []), .nils] [(0, 1, (.con (.int .i64 5))), (3, 1, (.con (.str [114, 101, 115, 111, 117, 114, 99, 101])))]), none⟩, ⟨(some 28), (.bslice 7 1 [(.int .i64 0), (.bool false), (.int .i64 0), (.str []), (.str []), (.str []), .nils] [(0, 7, (.tmp 27))]), none⟩, ⟨(some 29), (.build [(.int .i64 0), (.bool false), (.int .i64 0), (.str []), (.str []), (.str []), .nils] [(0, 1, (.con (.int .i64 6))), (6, 1, (.tmp 28))]), none⟩, ⟨(some 30), (.bslice 7 6 [(.int .i64 0), (.bool false), (.int .i64 0), (.str []), (.str []), (.str []), .nils] [(0, 7, (.tmp 20)), (7, 7, (.tmp 21)), (14, 7, (.tmp 22)), (21, 7, (.tmp 23)), (28, 7, (.tmp 26)), (35, 7, (.tmp 29))]), none⟩, ⟨(some 9), (.mv (.tmp 30)), none⟩])
 (.seq (.reg [⟨(some 31), (.bslice 1 6 [(.int .i64 0)] [(0, 1, (.con (.int .i64 1))), (1, 1, (.con (.int .i64 2))), (2, 1, (.con (.int .i64 3))), (3, 1, (.con (.int .i64 4))), (4, 1, (.con (.int .i64 5))), (5, 1, (.con (.int .i64 5)))]), none⟩, ⟨(some 10), (.mv (.tmp 31)), none⟩])
 (.seq (.reg [⟨(some 32), (.mv (.tmp 1)), none⟩, ⟨(some 33), (.call 21 [(.tmp 32), (.con (.int .i64 6))]), none⟩, ⟨(some 34), (.mv (.tmp 2)), none⟩, ⟨(some 35), (.call 21 [(.tmp 34), (.con (.int .i64 6))]), none⟩, ⟨(some 36), (.mv (.tmp 3)), none⟩, ⟨(some 37), (.call 21 [(.tmp 36), (.con (.int .i64 6))]), none⟩, ⟨(some 1), (.mv (.tmp 33)), none⟩, ⟨(some 2), (.mv (.tmp 35)), none⟩, ⟨(some 3), (.mv (.tmp 37)), none⟩])
 (.seq (.reg [⟨(some 38), (.mv (.tmp 0)), none⟩, ⟨(some 39), (.call 21 [(.tmp 38), (.con (.int .i64 17))]), none⟩, ⟨(some 40), (.bin .add .plain (.con (.int .i64 9)) (.tmp 39)), none⟩, ⟨(some 41), (.build [(.int .i64 0), (.bool false), (.int .i64 0), (.str []), (.str []), (.str []), .nils] [(0, 1, (.tmp 40))]), none⟩, ⟨(some 11), (.alloc [(.int .i64 0), (.bool false), (.int .i64 0), (.str []), (.str []), (.str []), .nils]), none⟩, ⟨none, (.store 7 (.tmp 11) (.tmp 41)), none⟩])
 (.seq (.reg [⟨(some 12), (.mv (.con (.int .i64 1))), none⟩, ⟨(some 13), (.mv (.con (.bool false))), none⟩])
 (.seq (.dreg [⟨(some 42), (.mv (.tmp 9)), none⟩, ⟨(some 43), (.mv (.tmp 1)), none⟩, ⟨(some 44), (.iaddr 7 (.tmp 42) (.tmp 43)), none⟩, ⟨(some 45), (.load true 7 (.tmp 44)), none⟩, ⟨(some 46), (.mv (.tmp 9)), none⟩, ⟨(some 47), (.mv (.tmp 2)), none⟩, ⟨(some 48), (.iaddr 7 (.tmp 46) (.tmp 47)), none⟩, ⟨(some 49), (.load true 7 (.tmp 48)), none⟩, ⟨(some 50), (.bslice 7 2 [(.int .i64 0), (.bool false), (.int .i64 0), (.str []), (.str []), (.str []), .nils] [(0, 7, (.tmp 45)), (7, 7, (.tmp 49))]), none⟩, ⟨(some 51), (.faddr 6 (.tmp 11)), none⟩, ⟨none, (.store 1 (.tmp 51) (.tmp 50)), none⟩] [8, 10] [0, 0, 3, 7, 0, 0, 48, 112, 255, 511, 1023] [])
 (.seq (.seq (.reg [⟨(some 52), (.faddr 0 (.tmp 11)), none⟩, ⟨(some 53), (.load false 1 (.tmp 52)), none⟩, ⟨(some 14), (.mv (.tmp 53)), none⟩])
 (.block 0
 (.seq (.reg [⟨(some 55), (.mv (.tmp 14)), none⟩, ⟨(some 56), (.bin .eql .plain (.tmp 55) (.con (.int .i64 9))), none⟩, ⟨(some 54), (.mv (.tmp 56)), none⟩])
 (.cond (.tmp 54)
 (.reg [⟨(some 57), (.mv (.tmp 1)), none⟩, ⟨(some 58), (.bin .eql .plain (.tmp 57) (.con (.int .i64 4))), none⟩, ⟨(some 59), (.mv (.tmp 58)), none⟩, ⟨(some 60), (.mv (.tmp 2)), (some (59, true))⟩, ⟨(some 61), (.bin .eql .plain (.tmp 60) (.con (.int .i64 1))), (some (59, true))⟩, ⟨(some 62), (.pick (.tmp 59) (.tmp 61) (.con (.bool false))), none⟩, ⟨(some 63), (.mv (.tmp 62)), none⟩, ⟨(some 64), (.mv (.tmp 1)), (some (63, false))⟩, ⟨(some 65), (.bin .eql .plain (.tmp 64) (.con (.int .i64 5))), (some (63, false))⟩, ⟨(some 66), (.mv (.tmp 65)), (some (63, false))⟩, ⟨(some 67), (.mv (.tmp 2)), (some (66, true))⟩, ⟨(some 68), (.bin .eql .plain (.tmp 67) (.con (.int .i64 3))), (some (66, true))⟩, ⟨(some 69), (.pick (.tmp 66) (.tmp 68) (.con (.bool false))), (some (63, false))⟩, ⟨(some 70), (.pick (.tmp 63) (.con (.bool true)) (.tmp 69)), none⟩, ⟨(some 13), (.mv (.tmp 70)), none⟩])
 (.seq (.reg [⟨(some 72), (.mv (.tmp 14)), none⟩, ⟨(some 73), (.bin .eql .plain (.tmp 72) (.con (.int .i64 10))), none⟩, ⟨(some 71), (.mv (.tmp 73)), none⟩])
 (.cond (.tmp 71)
 (.reg [⟨(some 74), (.faddr 6 (.tmp 11)), none⟩, ⟨(some 75), (.load false 1 (.tmp 74)), none⟩, ⟨(some 76), (.slSl 7 (.tmp 75) none (some (.con (.int .i64 1))) none), none⟩, ⟨(some 77), (.mv (.tmp 1)), none⟩, ⟨(some 78), (.bin .eql .plain (.tmp 77) (.con (.int .i64 2))), none⟩, ⟨(some 79), (.faddr 6 (.tmp 11)), none⟩, ⟨none, (.store 1 (.tmp 79) (.tmp 76)), none⟩, ⟨(some 13), (.mv (.tmp 78)), none⟩])
 (.seq (.reg [⟨(some 81), (.mv (.tmp 14)), none⟩, ⟨(some 82), (.bin .eql .plain (.tmp 81) (.con (.int .i64 11))), none⟩, ⟨(some 80), (.mv (.tmp 82)), none⟩])
 (.cond (.tmp 80)
 (.reg [⟨(some 83), (.faddr 6 (.tmp 11)), none⟩, ⟨(some 84), (.load false 1 (.tmp 83)), none⟩, ⟨(some 85), (.slSl 7 (.tmp 84) none (some (.con (.int .i64 1))) none), none⟩, ⟨(some 86), (.mv (.tmp 1)), none⟩, ⟨(some 87), (.bin .eql .plain (.tmp 86) (.con (.int .i64 0))), none⟩, ⟨(some 88), (.faddr 6 (.tmp 11)), none⟩, ⟨none, (.store 1 (.tmp 88) (.tmp 85)), none⟩, ⟨(some 13), (.mv (.tmp 87)), none⟩])
 (.seq (.reg [⟨(some 90), (.mv (.tmp 14)), none⟩, ⟨(some 91), (.bin .eql .plain (.tmp 90) (.con (.int .i64 12))), none⟩, ⟨(some 89), (.mv (.tmp 91)), none⟩])
 (.cond (.tmp 89)
 (.reg [⟨(some 92), (.faddr 6 (.tmp 11)), none⟩, ⟨(some 93), (.load false 1 (.tmp 92)), none⟩, ⟨(some 94), (.slSl 7 (.tmp 93) none (some (.con (.int .i64 1))) none), none⟩, ⟨(some 95), (.mv (.tmp 1)), none⟩, ⟨(some 96), (.bin .eql .plain (.tmp 95) (.con (.int .i64 1))), none⟩, ⟨(some 97), (.faddr 6 (.tmp 11)), none⟩, ⟨none, (.store 1 (.tmp 97) (.tmp 94)), none⟩, ⟨(some 13), (.mv (.tmp 96)), none⟩, ⟨(some 12), (.mv (.con (.int .i64 2))), none⟩])
 (.seq (.reg [⟨(some 99), (.mv (.tmp 14)), none⟩, ⟨(some 100), (.bin .geq .plain (.tmp 99) (.con (.int .i64 13))), none⟩, ⟨(some 101), (.mv (.tmp 100)), none⟩, ⟨(some 102), (.mv (.tmp 14)), (some (101, true))⟩, ⟨(some 103), (.bin .leq .plain (.tmp 102) (.con (.int .i64 15))), (some (101, true))⟩, ⟨(some 104), (.pick (.tmp 101) (.tmp 103) (.con (.bool false))), none⟩, ⟨(some 98), (.mv (.tmp 104)), none⟩])
 (.cond (.tmp 98)
 (.reg [⟨(some 105), (.mv (.tmp 1)), none⟩, ⟨(some 106), (.bin .eql .plain (.tmp 105) (.con (.int .i64 1))), none⟩, ⟨(some 107), (.mv (.tmp 106)), none⟩, ⟨(some 108), (.mv (.tmp 2)), (some (107, true))⟩, ⟨(some 109), (.bin .eql .plain (.tmp 108) (.con (.int .i64 1))), (some (107, true))⟩, ⟨(some 110), (.pick (.tmp 107) (.tmp 109) (.con (.bool false))), none⟩, ⟨(some 13), (.mv (.tmp 110)), none⟩, ⟨(some 12), (.mv (.con (.int .i64 2))), none⟩])
 (.seq (.reg [⟨(some 112), (.mv (.tmp 14)), none⟩, ⟨(some 113), (.bin .geq .plain (.tmp 112) (.con (.int .i64 16))), none⟩, ⟨(some 114), (.mv (.tmp 113)), none⟩, ⟨(some 115), (.mv (.tmp 14)), (some (114, true))⟩, ⟨(some 116), (.bin .leq .plain (.tmp 115) (.con (.int .i64 19))), (some (114, true))⟩, ⟨(some 117), (.pick (.tmp 114) (.tmp 116) (.con (.bool false))), none⟩, ⟨(some 111), (.mv (.tmp 117)), none⟩])
 (.cond (.tmp 111)
 (.reg [⟨(some 118), (.mv (.tmp 1)), none⟩, ⟨(some 119), (.bin .eql .plain (.tmp 118) (.con (.int .i64 1))), none⟩, ⟨(some 120), (.mv (.tmp 119)), none⟩, ⟨(some 121), (.mv (.tmp 2)), (some (120, true))⟩, ⟨(some 122), (.bin .eql .plain (.tmp 121) (.con (.int .i64 1))), (some (120, true))⟩, ⟨(some 123), (.pick (.tmp 120) (.tmp 122) (.con (.bool false))), none⟩, ⟨(some 13), (.mv (.tmp 123)), none⟩])
 (.seq (.reg [⟨(some 125), (.mv (.tmp 14)), none⟩, ⟨(some 126), (.bin .eql .plain (.tmp 125) (.con (.int .i64 20))), none⟩, ⟨(some 127), (.mv (.tmp 126)), none⟩, ⟨(some 128), (.mv (.tmp 14)), (some (127, false))⟩, ⟨(some 129), (.bin .eql .plain (.tmp 128) (.con (.int .i64 21))), (some (127, false))⟩, ⟨(some 130), (.pick (.tmp 127) (.con (.bool true)) (.tmp 129)), none⟩, ⟨(some 124), (.mv (.tmp 130)), none⟩])
 (.cond (.tmp 124)
 (.reg [⟨(some 131), (.mv (.tmp 1)), none⟩, ⟨(some 132), (.mv (.tmp 2)), none⟩, ⟨(some 133), (.bin .eql .plain (.tmp 131) (.tmp 132)), none⟩, ⟨(some 13), (.mv (.tmp 133)), none⟩])
 (.seq (.reg [⟨(some 135), (.mv (.tmp 14)), none⟩, ⟨(some 136), (.bin .eql .plain (.tmp 135) (.con (.int .i64 22))), none⟩, ⟨(some 134), (.mv (.tmp 136)), none⟩])
 (.cond (.tmp 134)
 (.reg [⟨(some 137), (.mv (.tmp 1)), none⟩, ⟨(some 138), (.bin .eql .plain (.tmp 137) (.con (.int .i64 3))), none⟩, ⟨(some 139), (.mv (.tmp 138)), none⟩, ⟨(some 140), (.mv (.tmp 2)), (some (139, true))⟩, ⟨(some 141), (.bin .eql .plain (.tmp 140) (.con (.int .i64 3))), (some (139, true))⟩, ⟨(some 142), (.mv (.tmp 141)), (some (139, true))⟩, ⟨(some 143), (.mv (.tmp 2)), (some (142, false))⟩, ⟨(some 144), (.bin .eql .plain (.tmp 143) (.con (.int .i64 5))), (some (142, false))⟩, ⟨(some 145), (.pick (.tmp 142) (.con (.bool true)) (.tmp 144)), (some (139, true))⟩, ⟨(some 146), (.pick (.tmp 139) (.tmp 145) (.con (.bool false))), none⟩, ⟨(some 13), (.mv (.tmp 146)), none⟩])
 (.seq (.reg [⟨(some 148), (.mv (.tmp 14)), none⟩, ⟨(some 149), (.bin .eql .plain (.tmp 148) (.con (.int .i64 23))), none⟩, ⟨(some 150), (.mv (.tmp 149)), none⟩, ⟨(some 151), (.mv (.tmp 14)), (some (150, false))⟩, ⟨(some 152), (.bin .eql .plain (.tmp 151) (.con (.int .i64 24))), (some (150, false))⟩, ⟨(some 153), (.pick (.tmp 150) (.con (.bool true)) (.tmp 152)), none⟩, ⟨(some 147), (.mv (.tmp 153)), none⟩])
 (.cond (.tmp 147)
 (.reg [⟨(some 154), (.mv (.tmp 1)), none⟩, ⟨(some 155), (.bin .eql .plain (.tmp 154) (.con (.int .i64 0))), none⟩, ⟨(some 156), (.mv (.tmp 155)), none⟩, ⟨(some 157), (.mv (.tmp 2)), (some (156, true))⟩, ⟨(some 158), (.bin .eql .plain (.tmp 157) (.con (.int .i64 0))), (some (156, true))⟩, ⟨(some 159), (.pick (.tmp 156) (.tmp 158) (.con (.bool false))), none⟩, ⟨(some 13), (.mv (.tmp 159)), none⟩])
 (.seq (.reg [⟨(some 161), (.mv (.tmp 14)), none⟩, ⟨(some 162), (.bin .eql .plain (.tmp 161) (.con (.int .i64 25))), none⟩, ⟨(some 160), (.mv (.tmp 162)), none⟩])
 (.cond (.tmp 160)
 (.seq (.dreg [⟨(some 163), (.faddr 6 (.tmp 11)), none⟩, ⟨(some 164), (.load false 1 (.tmp 163)), none⟩, ⟨(some 165), (.mv (.tmp 9)), none⟩, ⟨(some 166), (.mv (.tmp 3)), none⟩, ⟨(some 167), (.iaddr 7 (.tmp 165) (.tmp 166)), none⟩, ⟨(some 168), (.load true 7 (.tmp 167)), none⟩, ⟨(some 169), (.bslice 7 1 [(.int .i64 0), (.bool false), (.int .i64 0), (.str []), (.str []), (.str []), .nils] [(0, 7, (.tmp 168))]), none⟩, ⟨(some 170), (.append 7 96 (.tmp 164) (.tmp 169)), none⟩, ⟨(some 171), (.faddr 6 (.tmp 11)), none⟩, ⟨none, (.store 1 (.tmp 171) (.tmp 170)), none⟩] [6, 7, 9] [0, 1, 0, 0, 12, 28, 60, 127, 255, 511] [])
 (.dreg [⟨(some 172), (.mv (.tmp 1)), none⟩, ⟨(some 173), (.bin .eql .plain (.tmp 172) (.con (.int .i64 0))), none⟩, ⟨(some 174), (.mv (.tmp 173)), none⟩, ⟨(some 175), (.mv (.tmp 2)), (some (174, true))⟩, ⟨(some 176), (.mv (.tmp 3)), (some (174, true))⟩, ⟨(some 177), (.bin .eql .plain (.tmp 175) (.tmp 176)), (some (174, true))⟩, ⟨(some 178), (.pick (.tmp 174) (.tmp 177) (.con (.bool false))), none⟩, ⟨(some 179), (.mv (.tmp 10)), none⟩, ⟨(some 180), (.mv (.tmp 2)), none⟩, ⟨(some 181), (.iaddr 1 (.tmp 179) (.tmp 180)), none⟩, ⟨(some 182), (.load false 1 (.tmp 181)), none⟩, ⟨(some 13), (.mv (.tmp 178)), none⟩, ⟨(some 12), (.mv (.tmp 182)), none⟩] [] [0, 1, 3, 7, 7, 31, 63, 0, 0, 384, 896, 127, 4095] []))
 .skip))))))))))))))))))))))
 (.seq (.reg [⟨(some 183), (.build [(.str []), .nils, .nils] [(0, 1, (.con (.str [65])))]), none⟩, ⟨(some 184), (.bslice 3 1 [(.str []), .nils, .nils] [(0, 3, (.tmp 183))]), none⟩, ⟨(some 185), (.build [.nils, .nils] [(0, 1, (.tmp 184))]), none⟩, ⟨(some 15), (.alloc [.nils, .nils]), none⟩, ⟨none, (.store 2 (.tmp 15) (.tmp 185)), none⟩])
 (.seq (.reg [⟨(some 187), (.load true 2 (.tmp 15)), none⟩, ⟨(some 188), (.build [(.str []), (.str []), (.str [])] [(0, 1, (.con (.str [65]))), (2, 1, (.con (.str [65])))]), none⟩, ⟨(some 189), (.load true 7 (.tmp 11)), none⟩, ⟨(some 190), (.call 20 [(.tmp 187), (.tmp 188), (.tmp 189)]), none⟩, ⟨(some 186), (.mv (.tmp 190)), none⟩, ⟨(some 191), (.ext (.tmp 186) 0), none⟩, ⟨(some 192), (.ext (.tmp 186) 1), none⟩, ⟨(some 16), (.alloc [(.int .i64 0), (.int .i64 0), (.str [])]), none⟩, ⟨none, (.store 3 (.tmp 16) (.tmp 191)), none⟩, ⟨(some 17), (.mv (.tmp 192)), none⟩])
 (.seq (.seq (.reg [⟨(some 193), (.mv (.tmp 13)), none⟩, ⟨(some 194), (.un .not (.tmp 193)), none⟩])
 (.cond (.tmp 194)
 (.seq (.reg [⟨(some 195), (.mv (.tmp 17)), none⟩, ⟨(some 196), (.bin .eql .plain (.tmp 195) (.con (.int .i64 16))), none⟩, ⟨(some 197), (.mv (.tmp 196)), none⟩, ⟨(some 198), (.load true 3 (.tmp 16)), (some (197, true))⟩, ⟨(some 199), (.build [(.int .i64 0), (.int .i64 0), (.str [])] []), (some (197, true))⟩, ⟨(some 200), (.bin .eql (.agg [.i, .i, .s]) (.tmp 198) (.tmp 199)), (some (197, true))⟩, ⟨(some 201), (.pick (.tmp 197) (.tmp 200) (.con (.bool false))), none⟩, ⟨(some 8), (.mv (.tmp 201)), none⟩])
 .ret)
 .skip))
 (.seq (.reg [⟨(some 202), (.mv (.tmp 17)), none⟩, ⟨(some 203), (.bin .eql .plain (.tmp 202) (.con (.int .i64 0))), none⟩, ⟨(some 204), (.mv (.tmp 203)), none⟩, ⟨(some 205), (.faddr 0 (.tmp 16)), (some (204, true))⟩, ⟨(some 206), (.load false 1 (.tmp 205)), (some (204, true))⟩, ⟨(some 207), (.mv (.tmp 12)), (some (204, true))⟩, ⟨(some 208), (.bin .eql .plain (.tmp 206) (.tmp 207)), (some (204, true))⟩, ⟨(some 209), (.pick (.tmp 204) (.tmp 208) (.con (.bool false))), none⟩, ⟨(some 8), (.mv (.tmp 209)), none⟩])
 .ret)))))))))))))
def ac5 : AFun := ⟨4, 210, ab5, [(.tmp 8)]⟩
theorem cf5 : compF Try.prog Try.f5 = some ac5 := by kernel_rfl
theorem cl5 : callable Try.prog 5 = true := by kernel_rfl
theorem fn5 : Try.prog.funcs[5]? = some Try.f5 := by kernel_rfl
/- chancel/chancellaw11.TypesFirst -/
def ab6 : ACode := (.seq (.reg [⟨(some 6), (.mv (.con (.bool false))), none⟩])
 (.seq (.seq (.reg [⟨(some 16), (.call 11 []), none⟩, ⟨(some 17), (.un .not (.tmp 16)), none⟩])
 (.cond (.tmp 17)
 (.seq (.reg [⟨(some 6), (.mv (.con (.bool false))), none⟩])
 .ret)
 .skip))
 (.seq (.reg [⟨(some 18), (.build [(.str []), (.str [])] [(0, 1, (.con (.str [78, 111, 112, 101]))), (1, 1, (.con (.str [120])))]), none⟩, ⟨(some 19), (.build [(.int .i64 0), (.bool false), (.int .i64 0), (.str []), (.str []), (.str []), .nils] [(0, 1, (.con (.int .i64 4))), (4, 2, (.tmp 18))]), none⟩, ⟨(some 20), (.build [(.int .i64 0), (.bool false), (.int .i64 0), (.str []), (.str []), (.str []), .nils] [(0, 1, (.con (.int .i64 2)))]), none⟩, ⟨(some 21), (.bslice 7 1 [(.int .i64 0), (.bool false), (.int .i64 0), (.str []), (.str []), (.str []), .nils] [(0, 7, (.tmp 20))]), none⟩, ⟨(some 22), (.build [(.int .i64 0), (.bool false), (.int .i64 0), (.str []), (.str []), (.str []), .nils] [(0, 1, (.con (.int .i64 11))), (6, 1, (.tmp 21))]), none⟩, ⟨(some 23), (.build [(.int .i64 0), (.bool false), (.int .i64 0), (.str []), (.str []), (.str []), .nils] [(0, 1, (.con (.int .i64 6)))]), none⟩, ⟨(some 24), (.build [(.str []), (.str [])] [(0, 1, (.con (.str [65, 99, 116, 105, 111, 110]))), (1, 1, (.con (.str [110, 111, 112, 101])))]), none⟩, ⟨(some 25), (.build [(.int .i64 0), (.bool false), (.int .i64 0), (.str []), (.str []), (.str []), .nils] [(0, 1, (.con (.int .i64 4))), (4, 2, (.tmp 24))]), none⟩, ⟨(some 26), (.bslice 7 4 [(.int .i64 0), (.bool false), (.int .i64 0), (.str []), (.str []), (.str []), .nils] [(0, 7, (.tmp 19)), (7, 7, (.tmp 22)), (14, 7, (.tmp 23)), (21, 7, (.tmp 25))]), none⟩, ⟨(some 7), (.mv (.tmp 26)), none⟩])
 (.seq (.reg [⟨(some 27), (.bslice 1 4 [(.int .i64 0)] [(0, 1, (.con (.int .i64 15))), (1, 1, (.con (.int .i64 16))), (2, 1, (.con (.int .i64 16))), (3, 1, (.con (.int .i64 15)))]), none⟩, ⟨(some 8), (.mv (.tmp 27)), none⟩])
 (.seq (.reg [⟨(some 28), (.mv (.tmp 0)), none⟩, ⟨(some 29), (.call 21 [(.tmp 28), (.con (.int .i64 4))]), none⟩, ⟨(some 30), (.mv (.tmp 1)), none⟩, ⟨(some 31), (.call 21 [(.tmp 30), (.con (.int .i64 4))]), none⟩, ⟨(some 9), (.mv (.tmp 29)), none⟩, ⟨(some 10), (.mv (.tmp 31)), none⟩])
 (.seq (.dreg [⟨(some 32), (.mv (.tmp 2)), none⟩, ⟨(some 33), (.call 21 [(.tmp 32), (.con (.int .i64 12))]), none⟩, ⟨(some 34), (.bin .add .plain (.con (.int .i64 13)) (.tmp 33)), none⟩, ⟨(some 35), (.mv (.tmp 7)), none⟩, ⟨(some 36), (.mv (.tmp 9)), none⟩, ⟨(some 37), (.iaddr 7 (.tmp 35) (.tmp 36)), none⟩, ⟨(some 38), (.load true 7 (.tmp 37)), none⟩, ⟨(some 39), (.mv (.tmp 7)), none⟩, ⟨(some 40), (.mv (.tmp 10)), none⟩, ⟨(some 41), (.iaddr 7 (.tmp 39) (.tmp 40)), none⟩, ⟨(some 42), (.load true 7 (.tmp 41)), none⟩, ⟨(some 43), (.bslice 7 2 [(.int .i64 0), (.bool false), (.int .i64 0), (.str []), (.str []), (.str []), .nils] [(0, 7, (.tmp 38)), (7, 7, (.tmp 42))]), none⟩, ⟨(some 44), (.build [(.int .i64 0), (.bool false), (.int .i64 0), (.str []), (.str []), (.str []), .nils] [(0, 1, (.tmp 34)), (6, 1, (.tmp 43))]), none⟩, ⟨(some 11), (.alloc [(.int .i64 0), (.bool false), (.int .i64 0), (.str []), (.str []), (.str []), .nils]), none⟩, ⟨none, (.store 7 (.tmp 11) (.tmp 44)), none⟩] [1, 14] [0, 1, 3, 0, 0, 24, 56, 0, 0, 384, 896, 2040, 4095, 0, 16383] [11, 13])
 (.seq (.reg [⟨(some 46), (.build [.nils, .nils] []), none⟩, ⟨(some 47), (.build [(.str []), (.str []), (.str [])] []), none⟩, ⟨(some 48), (.load true 7 (.tmp 11)), none⟩, ⟨(some 49), (.call 20 [(.tmp 46), (.tmp 47), (.tmp 48)]), none⟩, ⟨(some 45), (.mv (.tmp 49)), none⟩, ⟨(some 50), (.ext (.tmp 45) 0), none⟩, ⟨(some 51), (.ext (.tmp 45) 1), none⟩, ⟨(some 12), (.alloc [(.int .i64 0), (.int .i64 0), (.str [])]), none⟩, ⟨none, (.store 3 (.tmp 12) (.tmp 50)), none⟩, ⟨(some 13), (.mv (.tmp 51)), none⟩])
 (.seq (.dreg [⟨(some 53), (.build [.nils, .nils] []), none⟩, ⟨(some 54), (.build [(.str []), (.str []), (.str [])] []), none⟩, ⟨(some 55), (.build [(.int .i64 0), (.bool false), (.int .i64 0), (.str []), (.str []), (.str []), .nils] [(0, 1, (.con (.int .i64 2)))]), none⟩, ⟨(some 56), (.mv (.tmp 7)), none⟩, ⟨(some 57), (.mv (.tmp 9)), none⟩, ⟨(some 58), (.iaddr 7 (.tmp 56) (.tmp 57)), none⟩, ⟨(some 59), (.load true 7 (.tmp 58)), none⟩, ⟨(some 60), (.mv (.tmp 7)), none⟩, ⟨(some 61), (.mv (.tmp 10)), none⟩, ⟨(some 62), (.iaddr 7 (.tmp 60) (.tmp 61)), none⟩, ⟨(some 63), (.load true 7 (.tmp 62)), none⟩, ⟨(some 64), (.bslice 7 3 [(.int .i64 0), (.bool false), (.int .i64 0), (.str []), (.str []), (.str []), .nils] [(0, 7, (.tmp 55)), (7, 7, (.tmp 59)), (14, 7, (.tmp 63))]), none⟩, ⟨(some 65), (.build [(.int .i64 0), (.bool false), (.int .i64 0), (.str []), (.str []), (.str []), .nils] [(0, 1, (.con (.int .i64 6))), (6, 1, (.tmp 64))]), none⟩, ⟨(some 66), (.call 20 [(.tmp 53), (.tmp 54), (.tmp 65)]), none⟩, ⟨(some 52), (.mv (.tmp 66)), none⟩, ⟨(some 67), (.ext (.tmp 52) 0), none⟩, ⟨(some 68), (.ext (.tmp 52) 1), none⟩, ⟨(some 14), (.alloc [(.int .i64 0), (.int .i64 0), (.str [])]), none⟩, ⟨none, (.store 3 (.tmp 14) (.tmp 67)), none⟩, ⟨(some 15), (.mv (.tmp 68)), none⟩] [13, 18] [0, 0, 0, 0, 0, 24, 56, 0, 0, 384, 896, 2044, 4092, 8191, 16383, 32767, 32767, 0, 196607, 524287] [11, 17])
 (.seq (.reg [⟨(some 69), (.mv (.tmp 13)), none⟩, ⟨(some 70), (.mv (.tmp 8)), none⟩, ⟨(some 71), (.mv (.tmp 9)), none⟩, ⟨(some 72), (.iaddr 1 (.tmp 70) (.tmp 71)), none⟩, ⟨(some 73), (.load false 1 (.tmp 72)), none⟩, ⟨(some 74), (.bin .eql .plain (.tmp 69) (.tmp 73)), none⟩, ⟨(some 75), (.mv (.tmp 74)), none⟩, ⟨(some 76), (.mv (.tmp 15)), (some (75, true))⟩, ⟨(some 77), (.mv (.tmp 8)), (some (75, true))⟩, ⟨(some 78), (.mv (.tmp 9)), (some (75, true))⟩, ⟨(some 79), (.iaddr 1 (.tmp 77) (.tmp 78)), (some (75, true))⟩, ⟨(some 80), (.load false 1 (.tmp 79)), (some (75, true))⟩, ⟨(some 81), (.bin .eql .plain (.tmp 76) (.tmp 80)), (some (75, true))⟩, ⟨(some 82), (.pick (.tmp 75) (.tmp 81) (.con (.bool false))), none⟩, ⟨(some 6), (.mv (.tmp 82)), none⟩])
 .ret)))))))))
def ac6 : AFun := ⟨3, 83, ab6, [(.tmp 6)]⟩
theorem cf6 : compF Try.prog Try.f6 = some ac6 := by kernel_rfl
theorem cl6 : callable Try.prog 6 = true := by kernel_rfl
theorem fn6 : Try.prog.funcs[6]? = some Try.f6 := by kernel_rfl
/- chancel/chancellaw11.TypesFields -/
def ab7 : ACode := (.seq (.reg [⟨(some 10), (.mv (.con (.bool false))), none⟩])
 (.seq (.seq (.reg [⟨(some 25), (.call 11 []), none⟩, ⟨(some 26), (.un .not (.tmp 25)), none⟩])
 (.cond (.tmp 26)
 (.seq (.reg [⟨(some 10), (.mv (.con (.bool false))), none⟩])
 .ret)
 .skip))
 (.seq (.reg [⟨(some 27), (.mv (.tmp 0)), none⟩, ⟨(some 28), (.mv (.tmp 1)), none⟩, ⟨(some 29), (.call 13 [(.tmp 27), (.tmp 28)]), none⟩, ⟨(some 11), (.alloc [.nils, .nils]), none⟩, ⟨none, (.store 2 (.tmp 11) (.tmp 29)), none⟩])
 (.seq (.reg [⟨(some 31), (.load true 2 (.tmp 11)), none⟩, ⟨(some 32), (.mv (.tmp 2)), none⟩, ⟨(some 33), (.call 15 [(.tmp 31), (.tmp 32)]), none⟩, ⟨(some 30), (.mv (.tmp 33)), none⟩, ⟨(some 34), (.ext (.tmp 30) 0), none⟩, ⟨(some 35), (.ext (.tmp 30) 1), none⟩, ⟨(some 12), (.alloc [(.str []), (.str []), (.str [])]), none⟩, ⟨none, (.store 3 (.tmp 12) (.tmp 34)), none⟩, ⟨(some 13), (.mv (.tmp 35)), none⟩])
 (.seq (.seq (.reg [⟨(some 36), (.mv (.tmp 13)), none⟩, ⟨(some 37), (.un .not (.tmp 36)), none⟩])
 (.cond (.tmp 37)
 (.seq (.reg [⟨(some 10), (.mv (.con (.bool true))), none⟩])
 .ret)
 .skip))
 (.seq (.dreg [⟨(some 38), (.faddr 0 (.tmp 11)), none⟩, ⟨(some 39), (.load false 1 (.tmp 38)), none⟩, ⟨(some 40), (.mv (.tmp 3)), none⟩, ⟨(some 41), (.faddr 0 (.tmp 11)), none⟩, ⟨(some 42), (.load false 1 (.tmp 41)), none⟩, ⟨(some 43), (.lenL (.tmp 42)), none⟩, ⟨(some 44), (.call 21 [(.tmp 40), (.tmp 43)]), none⟩, ⟨(some 45), (.iaddr 3 (.tmp 39) (.tmp 44)), none⟩, ⟨(some 46), (.load true 3 (.tmp 45)), none⟩, ⟨(some 14), (.alloc [(.str []), .nils, .nils]), none⟩, ⟨none, (.store 3 (.tmp 14) (.tmp 46)), none⟩] [6, 10] [0, 1, 0, 0, 8, 24, 60, 127, 255, 0, 1023] [9])
 (.seq (.reg [⟨(some 47), (.bslice 1 7 [(.str [])] [(0, 1, (.con (.str [97]))), (1, 1, (.con (.str [97, 103, 101]))), (2, 1, (.con (.str [105, 102]))), (3, 1, (.con (.str [99, 111, 110, 116, 97, 105, 110, 115]))), (4, 1, (.con (.str [112, 114, 105, 110, 99, 105, 112, 97, 108]))), (5, 1, (.con (.str [95, 120]))), (6, 1, (.con (.str [110, 97, 109, 101])))]), none⟩, ⟨(some 48), (.mv (.tmp 4)), none⟩, ⟨(some 49), (.call 21 [(.tmp 48), (.con (.int .i64 7))]), none⟩, ⟨(some 50), (.iaddr 1 (.tmp 47) (.tmp 49)), none⟩, ⟨(some 51), (.load false 1 (.tmp 50)), none⟩, ⟨(some 15), (.mv (.tmp 51)), none⟩])
 (.seq (.reg [⟨(some 52), (.faddr 0 (.tmp 12)), none⟩, ⟨(some 53), (.load false 1 (.tmp 52)), none⟩, ⟨(some 54), (.faddr 1 (.tmp 12)), none⟩, ⟨(some 55), (.load false 1 (.tmp 54)), none⟩, ⟨(some 56), (.faddr 2 (.tmp 12)), none⟩, ⟨(some 57), (.load false 1 (.tmp 56)), none⟩, ⟨(some 58), (.build [(.str []), (.str []), (.str [])] [(0, 1, (.tmp 53)), (1, 1, (.tmp 55)), (2, 1, (.tmp 57))]), none⟩, ⟨(some 16), (.alloc [(.str []), (.str []), (.str [])]), none⟩, ⟨none, (.store 3 (.tmp 16) (.tmp 58)), none⟩])
 (.seq (.reg [⟨(some 59), (.faddr 0 (.tmp 14)), none⟩, ⟨(some 60), (.load false 1 (.tmp 59)), none⟩, ⟨(some 61), (.build [(.str []), (.str [])] [(0, 1, (.tmp 60)), (1, 1, (.con (.str [122])))]), none⟩, ⟨(some 62), (.build [(.int .i64 0), (.bool false), (.int .i64 0), (.str []), (.str []), (.str []), .nils] [(0, 1, (.con (.int .i64 4))), (4, 2, (.tmp 61))]), none⟩, ⟨(some 17), (.alloc [(.int .i64 0), (.bool false), (.int .i64 0), (.str []), (.str []), (.str []), .nils]), none⟩, ⟨none, (.store 7 (.tmp 17) (.tmp 62)), none⟩])
 (.seq (.reg [⟨(some 64), (.load true 2 (.tmp 11)), none⟩, ⟨(some 65), (.load true 3 (.tmp 16)), none⟩, ⟨(some 66), (.mv (.tmp 15)), none⟩, ⟨(some 67), (.load true 7 (.tmp 17)), none⟩, ⟨(some 68), (.bslice 7 1 [(.int .i64 0), (.bool false), (.int .i64 0), (.str []), (.str []), (.str []), .nils] [(0, 7, (.tmp 67))]), none⟩, ⟨(some 69), (.build [(.int .i64 0), (.bool false), (.int .i64 0), (.str []), (.str []), (.str []), .nils] [(0, 1, (.con (.int .i64 7))), (3, 1, (.tmp 66)), (6, 1, (.tmp 68))]), none⟩, ⟨(some 70), (.call 20 [(.tmp 64), (.tmp 65), (.tmp 69)]), none⟩, ⟨(some 63), (.mv (.tmp 70)), none⟩, ⟨(some 71), (.ext (.tmp 63) 0), none⟩, ⟨(some 72), (.ext (.tmp 63) 1), none⟩, ⟨(some 18), (.alloc [(.int .i64 0), (.int .i64 0), (.str [])]), none⟩, ⟨none, (.store 3 (.tmp 18) (.tmp 71)), none⟩, ⟨(some 19), (.mv (.tmp 72)), none⟩])
 (.seq (.reg [⟨(some 74), (.load true 2 (.tmp 11)), none⟩, ⟨(some 75), (.load true 3 (.tmp 16)), none⟩, ⟨(some 76), (.mv (.tmp 15)), none⟩, ⟨(some 77), (.load true 7 (.tmp 17)), none⟩, ⟨(some 78), (.bslice 7 1 [(.int .i64 0), (.bool false), (.int .i64 0), (.str []), (.str []), (.str []), .nils] [(0, 7, (.tmp 77))]), none⟩, ⟨(some 79), (.build [(.int .i64 0), (.bool false), (.int .i64 0), (.str []), (.str []), (.str []), .nils] [(0, 1, (.con (.int .i64 8))), (3, 1, (.tmp 76)), (6, 1, (.tmp 78))]), none⟩, ⟨(some 80), (.call 20 [(.tmp 74), (.tmp 75), (.tmp 79)]), none⟩, ⟨(some 73), (.mv (.tmp 80)), none⟩, ⟨(some 81), (.ext (.tmp 73) 0), none⟩, ⟨(some 82), (.ext (.tmp 73) 1), none⟩, ⟨(some 20), (.alloc [(.int .i64 0), (.int .i64 0), (.str [])]), none⟩, ⟨none, (.store 3 (.tmp 20) (.tmp 81)), none⟩, ⟨(some 21), (.mv (.tmp 82)), none⟩])
 (.seq (.reg [⟨(some 84), (.load true 2 (.tmp 11)), none⟩, ⟨(some 85), (.load true 3 (.tmp 16)), none⟩, ⟨(some 86), (.mv (.tmp 15)), none⟩, ⟨(some 87), (.build [(.int .i64 0), (.bool false), (.int .i64 0), (.str []), (.str []), (.str []), .nils] [(0, 1, (.con (.int .i64 5))), (3, 1, (.con (.str [97, 99, 116, 105, 111, 110])))]), none⟩, ⟨(some 88), (.bslice 7 1 [(.int .i64 0), (.bool false), (.int .i64 0), (.str []), (.str []), (.str []), .nils] [(0, 7, (.tmp 87))]), none⟩, ⟨(some 89), (.build [(.int .i64 0), (.bool false), (.int .i64 0), (.str []), (.str []), (.str []), .nils] [(0, 1, (.con (.int .i64 7))), (3, 1, (.tmp 86)), (6, 1, (.tmp 88))]), none⟩, ⟨(some 90), (.call 20 [(.tmp 84), (.tmp 85), (.tmp 89)]), none⟩, ⟨(some 83), (.mv (.tmp 90)), none⟩, ⟨(some 91), (.ext (.tmp 83) 0), none⟩, ⟨(some 92), (.ext (.tmp 83) 1), none⟩, ⟨(some 22), (.alloc [(.int .i64 0), (.int .i64 0), (.str [])]), none⟩, ⟨none, (.store 3 (.tmp 22) (.tmp 91)), none⟩, ⟨(some 23), (.mv (.tmp 92)), none⟩])
 (.seq (.seq (.reg [⟨(some 93), (.mv (.tmp 21)), none⟩, ⟨(some 94), (.bin .neq .plain (.tmp 93) (.con (.int .i64 0))), none⟩, ⟨(some 95), (.mv (.tmp 94)), none⟩, ⟨(some 96), (.faddr 0 (.tmp 20)), (some (95, false))⟩, ⟨(some 97), (.load false 1 (.tmp 96)), (some (95, false))⟩, ⟨(some 98), (.bin .neq .plain (.tmp 97) (.con (.int .i64 1))), (some (95, false))⟩, ⟨(some 99), (.pick (.tmp 95) (.con (.bool true)) (.tmp 98)), none⟩, ⟨(some 100), (.mv (.tmp 99)), none⟩, ⟨(some 101), (.mv (.tmp 23)), (some (100, false))⟩, ⟨(some 102), (.bin .neq .plain (.tmp 101) (.con (.int .i64 15))), (some (100, false))⟩, ⟨(some 103), (.pick (.tmp 100) (.con (.bool true)) (.tmp 102)), none⟩])
 (.cond (.tmp 103)
 (.seq (.reg [⟨(some 10), (.mv (.con (.bool false))), none⟩])
 .ret)
 .skip))
 (.seq (.seq (.reg [⟨(some 24), (.mv (.con (.int .i64 0))), none⟩])
 (.block 0
 (.loop (.seq (.seq (.reg [⟨(some 104), (.mv (.tmp 24)), none⟩, ⟨(some 105), (.faddr 2 (.tmp 14)), none⟩, ⟨(some 106), (.load false 1 (.tmp 105)), none⟩, ⟨(some 107), (.lenL (.tmp 106)), none⟩, ⟨(some 108), (.bin .lss .plain (.tmp 104) (.tmp 107)), none⟩])
 (.cond (.tmp 108)
 .skip
 (.exit 0)))
 (.seq (.block 1
 (.seq (.reg [⟨(some 111), (.faddr 2 (.tmp 14)), none⟩, ⟨(some 112), (.load false 1 (.tmp 111)), none⟩, ⟨(some 113), (.mv (.tmp 24)), none⟩, ⟨(some 114), (.iaddr 4 (.tmp 112) (.tmp 113)), none⟩, ⟨(some 115), (.faddr 0 (.tmp 114)), none⟩, ⟨(some 116), (.load false 1 (.tmp 115)), none⟩, ⟨(some 117), (.mv (.tmp 15)), none⟩, ⟨(some 118), (.bin .eql .plain (.tmp 116) (.tmp 117)), none⟩])
 (.cond (.tmp 118)
 (.seq (.dreg [⟨(some 119), (.mv (.tmp 19)), none⟩, ⟨(some 120), (.bin .eql .plain (.tmp 119) (.con (.int .i64 0))), none⟩, ⟨(some 121), (.mv (.tmp 120)), none⟩, ⟨(some 122), (.load true 3 (.tmp 18)), (some (121, true))⟩, ⟨(some 123), (.faddr 2 (.tmp 14)), (some (121, true))⟩, ⟨(some 124), (.load false 1 (.tmp 123)), (some (121, true))⟩, ⟨(some 125), (.mv (.tmp 24)), (some (121, true))⟩, ⟨(some 126), (.iaddr 4 (.tmp 124) (.tmp 125)), (some (121, true))⟩, ⟨(some 127), (.faddr 1 (.tmp 126)), (some (121, true))⟩, ⟨(some 128), (.load true 3 (.tmp 127)), (some (121, true))⟩, ⟨(some 129), (.bin .eql (.agg [.i, .i, .s]) (.tmp 122) (.tmp 128)), (some (121, true))⟩, ⟨(some 130), (.pick (.tmp 121) (.tmp 129) (.con (.bool false))), none⟩, ⟨(some 10), (.mv (.tmp 130)), none⟩] [] [0, 1, 3, 7, 7, 23, 7, 119, 247, 503, 1023, 2047, 4095] [])
 .ret)
 .skip)))
 (.reg [⟨(some 109), (.mv (.tmp 24)), none⟩, ⟨(some 110), (.bin .add .plain (.tmp 109) (.con (.int .i64 1))), none⟩, ⟨(some 24), (.mv (.tmp 110)), none⟩]))))))
 (.seq (.reg [⟨(some 131), (.mv (.tmp 19)), none⟩, ⟨(some 132), (.bin .eql .plain (.tmp 131) (.con (.int .i64 15))), none⟩, ⟨(some 10), (.mv (.tmp 132)), none⟩])
 .ret)))))))))))))))
def ac7 : AFun := ⟨5, 133, ab7, [(.tmp 10)]⟩
theorem cf7 : compF Try.prog Try.f7 = some ac7 := by kernel_rfl
theorem cl7 : callable Try.prog 7 = true := by kernel_rfl
theorem fn7 : Try.prog.funcs[7]? = some Try.f7 := by kernel_rfl
/- chancel/chancellaw11.TypesEnvs -/
def ab8 : ACode := (.seq (.reg [⟨(some 8), (.mv (.con (.bool false))), none⟩])
 (.seq (.seq (.reg [⟨(some 18), (.call 11 []), none⟩, ⟨(some 19), (.un .not (.tmp 18)), none⟩])
 (.cond (.tmp 19)
 (.seq (.reg [⟨(some 8), (.mv (.con (.bool false))), none⟩])
 .ret)
 .skip))
 (.seq (.reg [⟨(some 20), (.mv (.tmp 0)), none⟩, ⟨(some 21), (.mv (.tmp 1)), none⟩, ⟨(some 22), (.call 13 [(.tmp 20), (.tmp 21)]), none⟩, ⟨(some 9), (.alloc [.nils, .nils]), none⟩, ⟨none, (.store 2 (.tmp 9) (.tmp 22)), none⟩])
 (.seq (.reg [⟨(some 23), (.load true 2 (.tmp 9)), none⟩, ⟨(some 24), (.build [(.bool false), (.int .i64 0), (.str []), (.str []), (.int .i64 0), (.str []), (.str []), (.int .i64 0), (.str []), (.str []), .nils] []), none⟩, ⟨(some 25), (.call 22 [(.tmp 23), (.tmp 24)]), none⟩, ⟨(some 10), (.mv (.tmp 25)), none⟩])
 (.seq (.reg [⟨(some 11), (.mv (.con (.int .i64 0))), none⟩])
 (.seq (.seq (.reg [⟨(some 12), (.mv (.con (.int .i64 0))), none⟩])
 (.block 0
 (.loop (.seq (.seq (.reg [⟨(some 26), (.mv (.tmp 12)), none⟩, ⟨(some 27), (.faddr 1 (.tmp 9)), none⟩, ⟨(some 28), (.load false 1 (.tmp 27)), none⟩, ⟨(some 29), (.lenL (.tmp 28)), none⟩, ⟨(some 30), (.bin .lss .plain (.tmp 26) (.tmp 29)), none⟩])
 (.cond (.tmp 30)
 .skip
 (.exit 0)))
 (.seq (.block 1
 (.dreg [⟨(some 33), (.mv (.tmp 11)), none⟩, ⟨(some 34), (.faddr 1 (.tmp 9)), none⟩, ⟨(some 35), (.load false 1 (.tmp 34)), none⟩, ⟨(some 36), (.mv (.tmp 12)), none⟩, ⟨(some 37), (.iaddr 3 (.tmp 35) (.tmp 36)), none⟩, ⟨(some 38), (.faddr 1 (.tmp 37)), none⟩, ⟨(some 39), (.load false 1 (.tmp 38)), none⟩, ⟨(some 40), (.lenL (.tmp 39)), none⟩, ⟨(some 41), (.faddr 1 (.tmp 9)), none⟩, ⟨(some 42), (.load false 1 (.tmp 41)), none⟩, ⟨(some 43), (.mv (.tmp 12)), none⟩, ⟨(some 44), (.iaddr 3 (.tmp 42) (.tmp 43)), none⟩, ⟨(some 45), (.faddr 2 (.tmp 44)), none⟩, ⟨(some 46), (.load false 1 (.tmp 45)), none⟩, ⟨(some 47), (.lenL (.tmp 46)), none⟩, ⟨(some 48), (.bin .mul .plain (.tmp 40) (.tmp 47)), none⟩, ⟨(some 49), (.bin .add .plain (.tmp 33) (.tmp 48)), none⟩, ⟨(some 11), (.mv (.tmp 49)), none⟩] [] [0, 0, 2, 0, 14, 30, 62, 126, 0, 256, 0, 1792, 3840, 7936, 16128, 32766, 65535, 131071] []))
 (.reg [⟨(some 31), (.mv (.tmp 12)), none⟩, ⟨(some 32), (.bin .add .plain (.tmp 31) (.con (.int .i64 1))), none⟩, ⟨(some 12), (.mv (.tmp 32)), none⟩]))))))
 (.seq (.reg [⟨(some 50), (.mv (.tmp 2)), none⟩, ⟨(some 51), (.mv (.tmp 3)), none⟩, ⟨(some 52), (.call 23 [(.tmp 50), (.tmp 51)]), none⟩, ⟨(some 13), (.alloc [(.str []), (.str [])]), none⟩, ⟨none, (.store 2 (.tmp 13) (.tmp 52)), none⟩])
 (.seq (.reg [⟨(some 53), (.load true 2 (.tmp 9)), none⟩, ⟨(some 54), (.load true 2 (.tmp 13)), none⟩, ⟨(some 55), (.build [(.int .i64 0), (.str []), (.str [])] [(0, 1, (.con (.int .i64 2))), (1, 2, (.tmp 54))]), none⟩, ⟨(some 56), (.load true 2 (.tmp 13)), none⟩, ⟨(some 57), (.build [(.int .i64 0), (.str []), (.str [])] [(0, 1, (.con (.int .i64 2))), (1, 2, (.tmp 56))]), none⟩, ⟨(some 58), (.build [(.bool false), (.int .i64 0), (.str []), (.str []), (.int .i64 0), (.str []), (.str []), (.int .i64 0), (.str []), (.str []), .nils] [(1, 3, (.tmp 55)), (7, 3, (.tmp 57))]), none⟩, ⟨(some 59), (.call 22 [(.tmp 53), (.tmp 58)]), none⟩, ⟨(some 14), (.mv (.tmp 59)), none⟩])
 (.seq (.reg [⟨(some 60), (.load true 2 (.tmp 9)), none⟩, ⟨(some 61), (.load true 2 (.tmp 13)), none⟩, ⟨(some 62), (.build [(.int .i64 0), (.str []), (.str [])] [(0, 1, (.con (.int .i64 1))), (1, 2, (.tmp 61))]), none⟩, ⟨(some 63), (.build [(.bool false), (.int .i64 0), (.str []), (.str []), (.int .i64 0), (.str []), (.str []), (.int .i64 0), (.str []), (.str []), .nils] [(1, 3, (.tmp 62))]), none⟩, ⟨(some 64), (.call 22 [(.tmp 60), (.tmp 63)]), none⟩, ⟨(some 15), (.mv (.tmp 64)), none⟩])
 (.seq (.reg [⟨(some 16), (.mv (.con (.int .i64 0))), none⟩])
 (.seq (.seq (.reg [⟨(some 17), (.mv (.con (.int .i64 0))), none⟩])
 (.block 2
 (.loop (.seq (.seq (.reg [⟨(some 65), (.mv (.tmp 17)), none⟩, ⟨(some 66), (.mv (.tmp 10)), none⟩, ⟨(some 67), (.lenL (.tmp 66)), none⟩, ⟨(some 68), (.bin .lss .plain (.tmp 65) (.tmp 67)), none⟩])
 (.cond (.tmp 68)
 .skip
 (.exit 2)))
 (.seq (.block 3
 (.seq (.dreg [⟨(some 71), (.mv (.tmp 10)), none⟩, ⟨(some 72), (.mv (.tmp 17)), none⟩, ⟨(some 73), (.iaddr 3 (.tmp 71) (.tmp 72)), none⟩, ⟨(some 74), (.faddr 0 (.tmp 73)), none⟩, ⟨(some 75), (.load false 1 (.tmp 74)), none⟩, ⟨(some 76), (.faddr 0 (.tmp 13)), none⟩, ⟨(some 77), (.load false 1 (.tmp 76)), none⟩, ⟨(some 78), (.bin .eql .plain (.tmp 75) (.tmp 77)), none⟩] [] [0, 0, 3, 7, 15, 0, 32, 127] [])
 (.cond (.tmp 78)
 (.seq (.seq (.dreg [⟨(some 79), (.mv (.tmp 16)), none⟩, ⟨(some 80), (.mv (.tmp 15)), none⟩, ⟨(some 81), (.lenL (.tmp 80)), none⟩, ⟨(some 82), (.bin .geq .plain (.tmp 79) (.tmp 81)), none⟩, ⟨(some 83), (.mv (.tmp 82)), none⟩, ⟨(some 84), (.mv (.tmp 15)), (some (83, false))⟩, ⟨(some 85), (.mv (.tmp 16)), (some (83, false))⟩, ⟨(some 86), (.iaddr 3 (.tmp 84) (.tmp 85)), (some (83, false))⟩, ⟨(some 87), (.load true 3 (.tmp 86)), (some (83, false))⟩, ⟨(some 88), (.mv (.tmp 10)), (some (83, false))⟩, ⟨(some 89), (.mv (.tmp 17)), (some (83, false))⟩, ⟨(some 90), (.iaddr 3 (.tmp 88) (.tmp 89)), (some (83, false))⟩, ⟨(some 91), (.load true 3 (.tmp 90)), (some (83, false))⟩, ⟨(some 92), (.bin .neq (.agg [.s, .s, .s]) (.tmp 87) (.tmp 91)), (some (83, false))⟩, ⟨(some 93), (.pick (.tmp 83) (.con (.bool true)) (.tmp 92)), none⟩] [] [0, 0, 2, 7, 15, 31, 31, 127, 255, 31, 31, 1567, 3615, 8191, 16383] [])
 (.cond (.tmp 93)
 (.seq (.reg [⟨(some 8), (.mv (.con (.bool false))), none⟩])
 .ret)
 .skip))
 (.reg [⟨(some 94), (.mv (.tmp 16)), none⟩, ⟨(some 95), (.bin .add .plain (.tmp 94) (.con (.int .i64 1))), none⟩, ⟨(some 16), (.mv (.tmp 95)), none⟩]))
 .skip)))
 (.reg [⟨(some 69), (.mv (.tmp 17)), none⟩, ⟨(some 70), (.bin .add .plain (.tmp 69) (.con (.int .i64 1))), none⟩, ⟨(some 17), (.mv (.tmp 70)), none⟩]))))))
 (.seq (.reg [⟨(some 96), (.mv (.tmp 10)), none⟩, ⟨(some 97), (.lenL (.tmp 96)), none⟩, ⟨(some 98), (.mv (.tmp 11)), none⟩, ⟨(some 99), (.bin .eql .plain (.tmp 97) (.tmp 98)), none⟩, ⟨(some 100), (.mv (.tmp 99)), none⟩, ⟨(some 101), (.mv (.tmp 14)), (some (100, true))⟩, ⟨(some 102), (.lenL (.tmp 101)), (some (100, true))⟩, ⟨(some 103), (.mv (.tmp 11)), (some (100, true))⟩, ⟨(some 104), (.bin .eql .plain (.tmp 102) (.tmp 103)), (some (100, true))⟩, ⟨(some 105), (.pick (.tmp 100) (.tmp 104) (.con (.bool false))), none⟩, ⟨(some 106), (.mv (.tmp 105)), none⟩, ⟨(some 107), (.mv (.tmp 16)), (some (106, true))⟩, ⟨(some 108), (.mv (.tmp 15)), (some (106, true))⟩, ⟨(some 109), (.lenL (.tmp 108)), (some (106, true))⟩, ⟨(some 110), (.bin .eql .plain (.tmp 107) (.tmp 109)), (some (106, true))⟩, ⟨(some 111), (.pick (.tmp 106) (.tmp 110) (.con (.bool false))), none⟩, ⟨(some 8), (.mv (.tmp 111)), none⟩])
 .ret))))))))))))
def ac8 : AFun := ⟨4, 112, ab8, [(.tmp 8)]⟩
theorem cf8 : compF Try.prog Try.f8 = some ac8 := by kernel_rfl
theorem cl8 : callable Try.prog 8 = true := by kernel_rfl
theorem fn8 : Try.prog.funcs[8]? = some Try.f8 := by kernel_rfl
/- chancel/chancellaw11.TypesChecks -/
def ab9 : ACode := (.seq (.reg [⟨(some 14), (.mv (.con (.bool false))), none⟩])
 (.seq (.seq (.reg [⟨(some 22), (.call 11 []), none⟩, ⟨(some 23), (.un .not (.tmp 22)), none⟩])
 (.cond (.tmp 23)
 (.seq (.reg [⟨(some 14), (.mv (.con (.bool false))), none⟩])
 .ret)
 .skip))
 (.seq (.seq (.reg [⟨(some 24), (.mv (.tmp 5)), none⟩, ⟨(some 25), (.lenL (.tmp 24)), none⟩, ⟨(some 26), (.bin .gtr .plain (.tmp 25) (.con (.int .i64 4))), none⟩, ⟨(some 27), (.mv (.tmp 26)), none⟩, ⟨(some 28), (.mv (.tmp 6)), (some (27, false))⟩, ⟨(some 29), (.lenL (.tmp 28)), (some (27, false))⟩, ⟨(some 30), (.bin .gtr .plain (.tmp 29) (.con (.int .i64 4))), (some (27, false))⟩, ⟨(some 31), (.pick (.tmp 27) (.con (.bool true)) (.tmp 30)), none⟩])
 (.cond (.tmp 31)
 (.seq (.reg [⟨(some 14), (.mv (.con (.bool true))), none⟩])
 .ret)
 .skip))
 (.seq (.seq (.reg [⟨(some 15), (.mv (.con (.int .i64 0))), none⟩])
 (.block 0
 (.loop (.seq (.seq (.reg [⟨(some 32), (.mv (.tmp 15)), none⟩, ⟨(some 33), (.mv (.tmp 5)), none⟩, ⟨(some 34), (.lenL (.tmp 33)), none⟩, ⟨(some 35), (.bin .lss .plain (.tmp 32) (.tmp 34)), none⟩])
 (.cond (.tmp 35)
 .skip
 (.exit 0)))
 (.seq (.block 1
 (.seq (.reg [⟨(some 38), (.mv (.tmp 5)), none⟩, ⟨(some 39), (.mv (.tmp 15)), none⟩, ⟨(some 40), (.iaddr 4 (.tmp 38) (.tmp 39)), none⟩, ⟨(some 41), (.load true 4 (.tmp 40)), none⟩, ⟨(some 42), (.call 12 [(.tmp 41), (.con (.int .i64 60))]), none⟩, ⟨(some 43), (.bin .eql .plain (.tmp 42) (.con (.int .i64 0))), none⟩])
 (.cond (.tmp 43)
 (.seq (.reg [⟨(some 14), (.mv (.con (.bool true))), none⟩])
 .ret)
 .skip)))
 (.reg [⟨(some 36), (.mv (.tmp 15)), none⟩, ⟨(some 37), (.bin .add .plain (.tmp 36) (.con (.int .i64 1))), none⟩, ⟨(some 15), (.mv (.tmp 37)), none⟩]))))))
 (.seq (.reg [⟨(some 44), (.mv (.tmp 0)), none⟩, ⟨(some 45), (.mv (.tmp 1)), none⟩, ⟨(some 46), (.call 13 [(.tmp 44), (.tmp 45)]), none⟩, ⟨(some 16), (.alloc [.nils, .nils]), none⟩, ⟨none, (.store 2 (.tmp 16) (.tmp 46)), none⟩])
 (.seq (.reg [⟨(some 47), (.mv (.tmp 2)), none⟩, ⟨(some 48), (.mv (.tmp 3)), none⟩, ⟨(some 49), (.mv (.tmp 4)), none⟩, ⟨(some 50), (.mv (.tmp 5)), none⟩, ⟨(some 51), (.call 24 [(.tmp 47), (.tmp 48), (.tmp 49), (.tmp 50)]), none⟩, ⟨(some 17), (.alloc [(.bool false), (.int .i64 0), (.str []), (.str []), (.int .i64 0), (.str []), (.str []), (.int .i64 0), (.str []), (.str []), .nils]), none⟩, ⟨none, (.store 11 (.tmp 17) (.tmp 51)), none⟩])
 (.seq (.seq (.reg [⟨(some 18), (.mv (.con (.int .i64 0))), none⟩])
 (.block 2
 (.loop (.seq (.seq (.reg [⟨(some 52), (.mv (.tmp 18)), none⟩, ⟨(some 53), (.bin .lss .plain (.tmp 52) (.con (.int .i64 2))), none⟩])
 (.cond (.tmp 53)
 .skip
 (.exit 2)))
 (.seq (.block 3
 (.seq (.dreg [⟨(some 56), (.load true 2 (.tmp 16)), none⟩, ⟨(some 57), (.load true 11 (.tmp 17)), none⟩, ⟨(some 58), (.call 22 [(.tmp 56), (.tmp 57)]), none⟩, ⟨(some 59), (.load true 2 (.tmp 16)), none⟩, ⟨(some 60), (.load true 11 (.tmp 17)), none⟩, ⟨(some 61), (.call 25 [(.tmp 59), (.tmp 60)]), none⟩, ⟨(some 19), (.mv (.tmp 58)), none⟩, ⟨(some 20), (.mv (.tmp 61)), none⟩] [2, 5] [0, 0, 3, 0, 0, 31, 63, 127] [])
 (.seq (.seq (.dreg [⟨(some 62), (.mv (.tmp 19)), none⟩, ⟨(some 63), (.lenL (.tmp 62)), none⟩, ⟨(some 64), (.mv (.tmp 20)), none⟩, ⟨(some 65), (.lenL (.tmp 64)), none⟩, ⟨(some 66), (.bin .neq .plain (.tmp 63) (.tmp 65)), none⟩, ⟨(some 67), (.mv (.tmp 66)), none⟩, ⟨(some 68), (.load true 2 (.tmp 16)), (some (67, false))⟩, ⟨(some 69), (.load true 11 (.tmp 17)), (some (67, false))⟩, ⟨(some 70), (.call 26 [(.tmp 68), (.tmp 69)]), (some (67, false))⟩, ⟨(some 71), (.load true 2 (.tmp 16)), (some (67, false))⟩, ⟨(some 72), (.load true 11 (.tmp 17)), (some (67, false))⟩, ⟨(some 73), (.call 27 [(.tmp 71), (.tmp 72)]), (some (67, false))⟩, ⟨(some 74), (.bin .neq .plain (.tmp 70) (.tmp 73)), (some (67, false))⟩, ⟨(some 75), (.pick (.tmp 67) (.con (.bool true)) (.tmp 74)), none⟩] [8, 11] [0, 1, 0, 4, 15, 31, 63, 63, 255, 63, 63, 2047, 4095, 8191] [])
 (.cond (.tmp 75)
 (.seq (.reg [⟨(some 14), (.mv (.con (.bool false))), none⟩])
 .ret)
 .skip))
 (.seq (.seq (.reg [⟨(some 21), (.mv (.con (.int .i64 0))), none⟩])
 (.block 4
 (.loop (.seq (.seq (.reg [⟨(some 76), (.mv (.tmp 21)), none⟩, ⟨(some 77), (.mv (.tmp 19)), none⟩, ⟨(some 78), (.lenL (.tmp 77)), none⟩, ⟨(some 79), (.bin .lss .plain (.tmp 76) (.tmp 78)), none⟩])
 (.cond (.tmp 79)
 .skip
 (.exit 4)))
 (.seq (.block 5
 (.seq (.dreg [⟨(some 82), (.mv (.tmp 19)), none⟩, ⟨(some 83), (.mv (.tmp 21)), none⟩, ⟨(some 84), (.iaddr 3 (.tmp 82) (.tmp 83)), none⟩, ⟨(some 85), (.faddr 0 (.tmp 84)), none⟩, ⟨(some 86), (.load false 1 (.tmp 85)), none⟩, ⟨(some 87), (.mv (.tmp 20)), none⟩, ⟨(some 88), (.mv (.tmp 21)), none⟩, ⟨(some 89), (.iaddr 3 (.tmp 87) (.tmp 88)), none⟩, ⟨(some 90), (.faddr 0 (.tmp 89)), none⟩, ⟨(some 91), (.load false 1 (.tmp 90)), none⟩, ⟨(some 92), (.bin .neq .plain (.tmp 86) (.tmp 91)), none⟩, ⟨(some 93), (.mv (.tmp 92)), none⟩, ⟨(some 94), (.mv (.tmp 19)), (some (93, false))⟩, ⟨(some 95), (.mv (.tmp 21)), (some (93, false))⟩, ⟨(some 96), (.iaddr 3 (.tmp 94) (.tmp 95)), (some (93, false))⟩, ⟨(some 97), (.faddr 1 (.tmp 96)), (some (93, false))⟩, ⟨(some 98), (.load false 1 (.tmp 97)), (some (93, false))⟩, ⟨(some 99), (.mv (.tmp 20)), (some (93, false))⟩, ⟨(some 100), (.mv (.tmp 21)), (some (93, false))⟩, ⟨(some 101), (.iaddr 3 (.tmp 99) (.tmp 100)), (some (93, false))⟩, ⟨(some 102), (.faddr 1 (.tmp 101)), (some (93, false))⟩, ⟨(some 103), (.load false 1 (.tmp 102)), (some (93, false))⟩, ⟨(some 104), (.bin .neq .plain (.tmp 98) (.tmp 103)), (some (93, false))⟩, ⟨(some 105), (.pick (.tmp 93) (.con (.bool true)) (.tmp 104)), none⟩, ⟨(some 106), (.mv (.tmp 105)), none⟩, ⟨(some 107), (.mv (.tmp 19)), (some (106, false))⟩, ⟨(some 108), (.mv (.tmp 21)), (some (106, false))⟩, ⟨(some 109), (.iaddr 3 (.tmp 107) (.tmp 108)), (some (106, false))⟩, ⟨(some 110), (.faddr 2 (.tmp 109)), (some (106, false))⟩, ⟨(some 111), (.load false 1 (.tmp 110)), (some (106, false))⟩, ⟨(some 112), (.mv (.tmp 20)), (some (106, false))⟩, ⟨(some 113), (.mv (.tmp 21)), (some (106, false))⟩, ⟨(some 114), (.iaddr 3 (.tmp 112) (.tmp 113)), (some (106, false))⟩, ⟨(some 115), (.faddr 2 (.tmp 114)), (some (106, false))⟩, ⟨(some 116), (.load false 1 (.tmp 115)), (some (106, false))⟩, ⟨(some 117), (.bin .neq .plain (.tmp 111) (.tmp 116)), (some (106, false))⟩, ⟨(some 118), (.pick (.tmp 106) (.con (.bool true)) (.tmp 117)), none⟩] [] [0, 0, 3, 7, 15, 0, 0, 96, 224, 480, 1023, 2047, 4095, 4095, 16383, 32767, 65535, 4095, 4095, 397311, 921599, 1970175, 4194303, 8388607, 16777215, 33554431, 33554431, 134217727, 268435455, 536870911, 33554431, 33554431, 3254779903, 7549747199, 16139681791, 34359738367, 68719476735] [])
 (.cond (.tmp 118)
 (.seq (.reg [⟨(some 14), (.mv (.con (.bool false))), none⟩])
 .ret)
 .skip)))
 (.reg [⟨(some 80), (.mv (.tmp 21)), none⟩, ⟨(some 81), (.bin .add .plain (.tmp 80) (.con (.int .i64 1))), none⟩, ⟨(some 21), (.mv (.tmp 81)), none⟩]))))))
 (.reg [⟨(some 119), (.load true 2 (.tmp 16)), none⟩, ⟨(some 120), (.mv (.tmp 2)), none⟩, ⟨(some 121), (.mv (.tmp 3)), none⟩, ⟨(some 122), (.mv (.tmp 6)), none⟩, ⟨(some 123), (.call 28 [(.tmp 119), (.tmp 120), (.tmp 121), (.tmp 122)]), none⟩, ⟨none, (.store 11 (.tmp 17) (.tmp 123)), none⟩])))))
 (.reg [⟨(some 54), (.mv (.tmp 18)), none⟩, ⟨(some 55), (.bin .add .plain (.tmp 54) (.con (.int .i64 1))), none⟩, ⟨(some 18), (.mv (.tmp 55)), none⟩]))))))
 (.seq (.reg [⟨(some 14), (.mv (.con (.bool true))), none⟩])
 .ret))))))))
def ac9 : AFun := ⟨7, 124, ab9, [(.tmp 14)]⟩
theorem cf9 : compF Try.prog Try.f9 = some ac9 := by kernel_rfl
theorem cl9 : callable Try.prog 9 = true := by kernel_rfl
theorem fn9 : Try.prog.funcs[9]? = some Try.f9 := by kernel_rfl
/- chancel/chancellaw11.TypesRefuses -/
def ab10 : ACode := (.seq (.reg [⟨(some 4), (.mv (.con (.bool false))), none⟩])
 (.seq (.seq (.reg [⟨(some 8), (.call 11 []), none⟩, ⟨(some 9), (.un .not (.tmp 8)), none⟩])
 (.cond (.tmp 9)
 (.seq (.reg [⟨(some 4), (.mv (.con (.bool false))), none⟩])
 .ret)
 .skip))
 (.seq (.reg [⟨(some 10), (.build [(.str []), .nils, .nils] [(0, 1, (.con (.str [68, 111, 99])))]), none⟩, ⟨(some 11), (.build [(.str []), .nils, .nils] [(0, 1, (.con (.str [85, 115, 101, 114])))]), none⟩, ⟨(some 12), (.bslice 3 2 [(.str []), .nils, .nils] [(0, 3, (.tmp 10)), (3, 3, (.tmp 11))]), none⟩, ⟨(some 13), (.bslice 1 1 [(.str [])] [(0, 1, (.con (.str [85, 115, 101, 114])))]), none⟩, ⟨(some 14), (.bslice 1 1 [(.str [])] [(0, 1, (.con (.str [68, 111, 99])))]), none⟩, ⟨(some 15), (.build [(.str []), .nils, .nils] [(0, 1, (.con (.str [114, 101, 97, 100]))), (1, 1, (.tmp 13)), (2, 1, (.tmp 14))]), none⟩, ⟨(some 16), (.bslice 3 1 [(.str []), .nils, .nils] [(0, 3, (.tmp 15))]), none⟩, ⟨(some 17), (.build [.nils, .nils] [(0, 1, (.tmp 12)), (1, 1, (.tmp 16))]), none⟩, ⟨(some 5), (.alloc [.nils, .nils]), none⟩, ⟨none, (.store 2 (.tmp 5) (.tmp 17)), none⟩])
 (.seq (.reg [⟨(some 18), (.mv (.tmp 1)), none⟩, ⟨(some 19), (.bin .rem .plain (.tmp 18) (.con (.int .i64 2))), none⟩, ⟨(some 20), (.bin .eql .plain (.tmp 19) (.con (.int .i64 0))), none⟩, ⟨(some 21), (.build [(.bool false), (.int .i64 0), (.str []), (.str []), (.int .i64 0), (.str []), (.str []), (.int .i64 0), (.str []), (.str []), .nils] [(0, 1, (.tmp 20))]), none⟩, ⟨(some 6), (.alloc [(.bool false), (.int .i64 0), (.str []), (.str []), (.int .i64 0), (.str []), (.str []), (.int .i64 0), (.str []), (.str []), .nils]), none⟩, ⟨none, (.store 11 (.tmp 6) (.tmp 21)), none⟩])
 (.seq (.reg [⟨(some 7), (.mv (.con (.int .i64 0))), none⟩])
 (.seq (.seq (.reg [⟨(some 22), (.mv (.tmp 0)), none⟩, ⟨(some 23), (.call 21 [(.tmp 22), (.con (.int .i64 8))]), none⟩])
 (.block 0
 (.seq (.reg [⟨(some 25), (.bin .eql .plain (.tmp 23) (.con (.int .i64 1))), none⟩, ⟨(some 24), (.mv (.tmp 25)), none⟩])
 (.cond (.tmp 24)
 (.reg [⟨(some 26), (.build [(.int .i64 0), (.bool false), (.int .i64 0), (.str []), (.str []), (.str []), .nils] [(0, 1, (.con (.int .i64 2)))]), none⟩, ⟨(some 27), (.build [(.bool false), (.int .i64 0), (.bool false), (.int .i64 0), (.str []), (.str []), (.str []), .nils] [(1, 7, (.tmp 26))]), none⟩, ⟨(some 28), (.bslice 8 1 [(.bool false), (.int .i64 0), (.bool false), (.int .i64 0), (.str []), (.str []), (.str []), .nils] [(0, 8, (.tmp 27))]), none⟩, ⟨(some 29), (.faddr 10 (.tmp 6)), none⟩, ⟨none, (.store 1 (.tmp 29) (.tmp 28)), none⟩, ⟨(some 7), (.mv (.con (.int .i64 16))), none⟩])
 (.seq (.reg [⟨(some 31), (.bin .eql .plain (.tmp 23) (.con (.int .i64 2))), none⟩, ⟨(some 30), (.mv (.tmp 31)), none⟩])
 (.cond (.tmp 30)
 (.reg [⟨(some 32), (.build [(.str []), (.str [])] [(0, 1, (.con (.str [68, 111, 99]))), (1, 1, (.con (.str [100])))]), none⟩, ⟨(some 33), (.build [(.int .i64 0), (.str []), (.str [])] [(0, 1, (.con (.int .i64 1))), (1, 2, (.tmp 32))]), none⟩, ⟨(some 34), (.faddr 1 (.tmp 6)), none⟩, ⟨none, (.store 3 (.tmp 34) (.tmp 33)), none⟩, ⟨(some 7), (.mv (.con (.int .i64 2))), none⟩])
 (.seq (.reg [⟨(some 36), (.bin .eql .plain (.tmp 23) (.con (.int .i64 3))), none⟩, ⟨(some 35), (.mv (.tmp 36)), none⟩])
 (.cond (.tmp 35)
 (.reg [⟨(some 37), (.build [(.str []), (.str [])] [(0, 1, (.con (.str [78, 111, 112, 101]))), (1, 1, (.con (.str [100])))]), none⟩, ⟨(some 38), (.build [(.int .i64 0), (.str []), (.str [])] [(0, 1, (.con (.int .i64 2))), (1, 2, (.tmp 37))]), none⟩, ⟨(some 39), (.faddr 1 (.tmp 6)), none⟩, ⟨none, (.store 3 (.tmp 39) (.tmp 38)), none⟩, ⟨(some 7), (.mv (.con (.int .i64 15))), none⟩])
 (.seq (.reg [⟨(some 41), (.bin .eql .plain (.tmp 23) (.con (.int .i64 4))), none⟩, ⟨(some 40), (.mv (.tmp 41)), none⟩])
 (.cond (.tmp 40)
 (.reg [⟨(some 42), (.build [(.str []), (.str [])] [(0, 1, (.con (.str [65, 99, 116, 105, 111, 110]))), (1, 1, (.con (.str [110, 111, 112, 101])))]), none⟩, ⟨(some 43), (.build [(.int .i64 0), (.str []), (.str [])] [(0, 1, (.con (.int .i64 1))), (1, 2, (.tmp 42))]), none⟩, ⟨(some 44), (.faddr 4 (.tmp 6)), none⟩, ⟨none, (.store 3 (.tmp 44) (.tmp 43)), none⟩, ⟨(some 7), (.mv (.con (.int .i64 15))), none⟩])
 (.seq (.reg [⟨(some 46), (.bin .eql .plain (.tmp 23) (.con (.int .i64 5))), none⟩, ⟨(some 45), (.mv (.tmp 46)), none⟩])
 (.cond (.tmp 45)
 (.reg [⟨(some 47), (.build [(.str []), (.str [])] [(0, 1, (.con (.str [85, 115, 101, 114]))), (1, 1, (.con (.str [117])))]), none⟩, ⟨(some 48), (.build [(.int .i64 0), (.str []), (.str [])] [(0, 1, (.con (.int .i64 2))), (1, 2, (.tmp 47))]), none⟩, ⟨(some 49), (.faddr 4 (.tmp 6)), none⟩, ⟨none, (.store 3 (.tmp 49) (.tmp 48)), none⟩, ⟨(some 7), (.mv (.con (.int .i64 2))), none⟩])
 (.seq (.reg [⟨(some 51), (.bin .eql .plain (.tmp 23) (.con (.int .i64 6))), none⟩, ⟨(some 50), (.mv (.tmp 51)), none⟩])
 (.cond (.tmp 50)
 (.reg [⟨(some 52), (.build [(.str []), (.str [])] [(0, 1, (.con (.str [68, 111, 99]))), (1, 1, (.con (.str [100])))]), none⟩, ⟨(some 53), (.build [(.int .i64 0), (.str []), (.str [])] [(0, 1, (.con (.int .i64 2))), (1, 2, (.tmp 52))]), none⟩, ⟨(some 54), (.faddr 1 (.tmp 6)), none⟩, ⟨none, (.store 3 (.tmp 54) (.tmp 53)), none⟩])
 (.seq (.reg [⟨(some 56), (.bin .eql .plain (.tmp 23) (.con (.int .i64 7))), none⟩, ⟨(some 55), (.mv (.tmp 56)), none⟩])
 (.cond (.tmp 55)
 (.reg [⟨(some 57), (.mv (.tmp 1)), none⟩, ⟨(some 58), (.bin .rem .plain (.tmp 57) (.con (.int .i64 3))), none⟩, ⟨(some 59), (.bin .eql .plain (.tmp 58) (.con (.int .i64 0))), none⟩, ⟨(some 60), (.build [(.int .i64 0), (.bool false), (.int .i64 0), (.str []), (.str []), (.str []), .nils] [(0, 1, (.con (.int .i64 1))), (1, 1, (.tmp 59))]), none⟩, ⟨(some 61), (.build [(.bool false), (.int .i64 0), (.bool false), (.int .i64 0), (.str []), (.str []), (.str []), .nils] [(0, 1, (.con (.bool true))), (1, 7, (.tmp 60))]), none⟩, ⟨(some 62), (.bslice 8 1 [(.bool false), (.int .i64 0), (.bool false), (.int .i64 0), (.str []), (.str []), (.str []), .nils] [(0, 8, (.tmp 61))]), none⟩, ⟨(some 63), (.faddr 10 (.tmp 6)), none⟩, ⟨none, (.store 1 (.tmp 63) (.tmp 62)), none⟩])
 .skip))))))))))))))))
 (.seq (.reg [⟨(some 64), (.load true 2 (.tmp 5)), none⟩, ⟨(some 65), (.load true 11 (.tmp 6)), none⟩, ⟨(some 66), (.call 26 [(.tmp 64), (.tmp 65)]), none⟩, ⟨(some 67), (.mv (.tmp 7)), none⟩, ⟨(some 68), (.bin .eql .plain (.tmp 66) (.tmp 67)), none⟩, ⟨(some 4), (.mv (.tmp 68)), none⟩])
 .ret)))))))
def ac10 : AFun := ⟨2, 69, ab10, [(.tmp 4)]⟩
theorem cf10 : compF Try.prog Try.f10 = some ac10 := by kernel_rfl
theorem cl10 : callable Try.prog 10 = true := by kernel_rfl
theorem fn10 : Try.prog.funcs[10]? = some Try.f10 := by kernel_rfl
end Go.Proofs.Ytcdbpmmomgehfaa.Va
