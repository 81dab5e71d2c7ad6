/- Functions of the program as resolved code (printed by gen.py from the kernel's own value). Conditions: none. -/
import Derived.Test.YtaokfpjjaejjgaaProg
import Derived.Test.YtaokfpjjaejjgaaVaF
import Derived.KernelRfl
set_option maxRecDepth 100000
set_option maxHeartbeats 4000000
set_option linter.all false
namespace Go.Proofs.Ytaokfpjjaejjgaa.Va
open Go.Proofs
/- chancel/chancellaw5.Schema -/
def ab10 : ACode := (.seq (.reg [⟨(some 4), (.alloc [.nils, .nils]), none⟩])
 (.seq (.reg [⟨(some 5), (.alloc [.nils, .nils]), none⟩])
 (.seq (.seq (.reg [⟨(some 6), (.mv (.con (.int .i64 0))), none⟩])
 (.block 0
 (.loop (.seq (.seq (.reg [⟨(some 16), (.mv (.tmp 6)), none⟩, ⟨(some 17), (.mv (.tmp 0)), none⟩, ⟨(some 18), (.lenL (.tmp 17)), none⟩, ⟨(some 19), (.bin .lss .plain (.tmp 16) (.tmp 18)), none⟩, ⟨(some 20), (.mv (.tmp 19)), none⟩, ⟨(some 21), (.mv (.tmp 6)), (some (20, true))⟩, ⟨(some 22), (.bin .lss .plain (.tmp 21) (.con (.int .i64 5))), (some (20, true))⟩, ⟨(some 23), (.pick (.tmp 20) (.tmp 22) (.con (.bool false))), none⟩])
 (.cond (.tmp 23)
 .skip
 (.exit 0)))
 (.seq (.block 1
 (.seq (.reg [⟨(some 26), (.mv (.tmp 0)), none⟩, ⟨(some 27), (.mv (.tmp 6)), none⟩, ⟨(some 28), (.iaddr 3 (.tmp 26) (.tmp 27)), none⟩, ⟨(some 29), (.faddr 0 (.tmp 28)), none⟩, ⟨(some 30), (.load false 1 (.tmp 29)), none⟩, ⟨(some 31), (.call 26 [(.tmp 30)]), none⟩, ⟨(some 32), (.build [(.str []), .nils, .nils] [(0, 1, (.tmp 31))]), none⟩, ⟨(some 7), (.alloc [(.str []), .nils, .nils]), none⟩, ⟨none, (.store 3 (.tmp 7) (.tmp 32)), none⟩])
 (.seq (.seq (.reg [⟨(some 8), (.mv (.con (.int .i64 0))), none⟩])
 (.block 2
 (.loop (.seq (.seq (.reg [⟨(some 33), (.mv (.tmp 8)), none⟩, ⟨(some 34), (.mv (.tmp 0)), none⟩, ⟨(some 35), (.mv (.tmp 6)), none⟩, ⟨(some 36), (.iaddr 3 (.tmp 34) (.tmp 35)), none⟩, ⟨(some 37), (.faddr 1 (.tmp 36)), none⟩, ⟨(some 38), (.load false 1 (.tmp 37)), none⟩, ⟨(some 39), (.lenL (.tmp 38)), none⟩, ⟨(some 40), (.bin .lss .plain (.tmp 33) (.tmp 39)), none⟩, ⟨(some 41), (.mv (.tmp 40)), none⟩, ⟨(some 42), (.mv (.tmp 8)), (some (41, true))⟩, ⟨(some 43), (.bin .lss .plain (.tmp 42) (.con (.int .i64 3))), (some (41, true))⟩, ⟨(some 44), (.pick (.tmp 41) (.tmp 43) (.con (.bool false))), none⟩])
 (.cond (.tmp 44)
 .skip
 (.exit 2)))
 (.seq (.block 3
 (.dreg [⟨(some 47), (.faddr 1 (.tmp 7)), none⟩, ⟨(some 48), (.load false 1 (.tmp 47)), none⟩, ⟨(some 49), (.mv (.tmp 0)), none⟩, ⟨(some 50), (.mv (.tmp 6)), none⟩, ⟨(some 51), (.iaddr 3 (.tmp 49) (.tmp 50)), none⟩, ⟨(some 52), (.faddr 1 (.tmp 51)), none⟩, ⟨(some 53), (.load false 1 (.tmp 52)), none⟩, ⟨(some 54), (.mv (.tmp 8)), none⟩, ⟨(some 55), (.iaddr 1 (.tmp 53) (.tmp 54)), none⟩, ⟨(some 56), (.load false 1 (.tmp 55)), none⟩, ⟨(some 57), (.call 26 [(.tmp 56)]), none⟩, ⟨(some 58), (.bslice 1 1 [(.str [])] [(0, 1, (.tmp 57))]), none⟩, ⟨(some 59), (.append 1 16 (.tmp 48) (.tmp 58)), none⟩, ⟨(some 60), (.faddr 1 (.tmp 7)), none⟩, ⟨none, (.store 1 (.tmp 60) (.tmp 59)), none⟩] [10, 11, 12, 14] [0, 1, 0, 0, 12, 28, 60, 0, 252, 508, 1020, 2044, 4095, 8191, 16383] []))
 (.reg [⟨(some 45), (.mv (.tmp 8)), none⟩, ⟨(some 46), (.bin .add .plain (.tmp 45) (.con (.int .i64 1))), none⟩, ⟨(some 8), (.mv (.tmp 46)), none⟩]))))))
 (.seq (.seq (.reg [⟨(some 9), (.mv (.con (.int .i64 0))), none⟩])
 (.block 4
 (.loop (.seq (.seq (.reg [⟨(some 61), (.mv (.tmp 9)), none⟩, ⟨(some 62), (.mv (.tmp 0)), none⟩, ⟨(some 63), (.mv (.tmp 6)), none⟩, ⟨(some 64), (.iaddr 3 (.tmp 62) (.tmp 63)), none⟩, ⟨(some 65), (.faddr 2 (.tmp 64)), none⟩, ⟨(some 66), (.load false 1 (.tmp 65)), none⟩, ⟨(some 67), (.lenL (.tmp 66)), none⟩, ⟨(some 68), (.bin .lss .plain (.tmp 61) (.tmp 67)), none⟩, ⟨(some 69), (.mv (.tmp 68)), none⟩, ⟨(some 70), (.mv (.tmp 9)), (some (69, true))⟩, ⟨(some 71), (.bin .lss .plain (.tmp 70) (.con (.int .i64 4))), (some (69, true))⟩, ⟨(some 72), (.pick (.tmp 69) (.tmp 71) (.con (.bool false))), none⟩])
 (.cond (.tmp 72)
 .skip
 (.exit 4)))
 (.seq (.block 5
 (.seq (.reg [⟨(some 75), (.mv (.tmp 0)), none⟩, ⟨(some 76), (.mv (.tmp 6)), none⟩, ⟨(some 77), (.iaddr 3 (.tmp 75) (.tmp 76)), none⟩, ⟨(some 78), (.faddr 2 (.tmp 77)), none⟩, ⟨(some 79), (.load false 1 (.tmp 78)), none⟩, ⟨(some 80), (.mv (.tmp 9)), none⟩, ⟨(some 81), (.iaddr 4 (.tmp 79) (.tmp 80)), none⟩, ⟨(some 82), (.load true 4 (.tmp 81)), none⟩, ⟨(some 10), (.alloc [(.int .i64 0), (.int .i64 0), (.int .i64 0), (.int .i64 0)]), none⟩, ⟨none, (.store 4 (.tmp 10) (.tmp 82)), none⟩])
 (.seq (.reg [⟨(some 83), (.faddr 1 (.tmp 10)), none⟩, ⟨(some 84), (.load false 1 (.tmp 83)), none⟩, ⟨(some 85), (.call 27 [(.tmp 84), (.con (.int .i64 5))]), none⟩, ⟨(some 86), (.bin .add .plain (.con (.int .i64 1)) (.tmp 85)), none⟩, ⟨(some 87), (.build [(.int .i64 0), (.int .i64 0), (.str [])] [(0, 1, (.tmp 86))]), none⟩, ⟨(some 11), (.alloc [(.int .i64 0), (.int .i64 0), (.str [])]), none⟩, ⟨none, (.store 3 (.tmp 11) (.tmp 87)), none⟩])
 (.seq (.seq (.reg [⟨(some 88), (.faddr 0 (.tmp 11)), none⟩, ⟨(some 89), (.load false 1 (.tmp 88)), none⟩, ⟨(some 90), (.bin .eql .plain (.tmp 89) (.con (.int .i64 5))), none⟩])
 (.cond (.tmp 90)
 (.reg [⟨(some 91), (.faddr 2 (.tmp 10)), none⟩, ⟨(some 92), (.load false 1 (.tmp 91)), none⟩, ⟨(some 93), (.call 27 [(.tmp 92), (.con (.int .i64 4))]), none⟩, ⟨(some 94), (.bin .add .plain (.con (.int .i64 1)) (.tmp 93)), none⟩, ⟨(some 95), (.faddr 1 (.tmp 11)), none⟩, ⟨none, (.store 1 (.tmp 95) (.tmp 94)), none⟩])
 .skip))
 (.seq (.seq (.reg [⟨(some 96), (.faddr 0 (.tmp 11)), none⟩, ⟨(some 97), (.load false 1 (.tmp 96)), none⟩, ⟨(some 98), (.bin .eql .plain (.tmp 97) (.con (.int .i64 4))), none⟩, ⟨(some 99), (.mv (.tmp 98)), none⟩, ⟨(some 100), (.faddr 1 (.tmp 11)), (some (99, false))⟩, ⟨(some 101), (.load false 1 (.tmp 100)), (some (99, false))⟩, ⟨(some 102), (.bin .eql .plain (.tmp 101) (.con (.int .i64 4))), (some (99, false))⟩, ⟨(some 103), (.pick (.tmp 99) (.con (.bool true)) (.tmp 102)), none⟩])
 (.cond (.tmp 103)
 (.reg [⟨(some 104), (.faddr 3 (.tmp 10)), none⟩, ⟨(some 105), (.load false 1 (.tmp 104)), none⟩, ⟨(some 106), (.call 26 [(.tmp 105)]), none⟩, ⟨(some 107), (.faddr 2 (.tmp 11)), none⟩, ⟨none, (.store 1 (.tmp 107) (.tmp 106)), none⟩])
 .skip))
 (.dreg [⟨(some 108), (.faddr 2 (.tmp 7)), none⟩, ⟨(some 109), (.load false 1 (.tmp 108)), none⟩, ⟨(some 110), (.faddr 0 (.tmp 10)), none⟩, ⟨(some 111), (.load false 1 (.tmp 110)), none⟩, ⟨(some 112), (.call 28 [(.tmp 111)]), none⟩, ⟨(some 113), (.load true 3 (.tmp 11)), none⟩, ⟨(some 114), (.build [(.str []), (.int .i64 0), (.int .i64 0), (.str [])] [(0, 1, (.tmp 112)), (1, 3, (.tmp 113))]), none⟩, ⟨(some 115), (.bslice 4 1 [(.str []), (.int .i64 0), (.int .i64 0), (.str [])] [(0, 4, (.tmp 114))]), none⟩, ⟨(some 116), (.append 4 48 (.tmp 109) (.tmp 115)), none⟩, ⟨(some 117), (.faddr 2 (.tmp 7)), none⟩, ⟨none, (.store 1 (.tmp 117) (.tmp 116)), none⟩] [4, 7, 8, 10] [0, 1, 0, 4, 12, 0, 60, 124, 255, 511, 1023] []))))))
 (.reg [⟨(some 73), (.mv (.tmp 9)), none⟩, ⟨(some 74), (.bin .add .plain (.tmp 73) (.con (.int .i64 1))), none⟩, ⟨(some 9), (.mv (.tmp 74)), none⟩]))))))
 (.reg [⟨(some 118), (.faddr 0 (.tmp 5)), none⟩, ⟨(some 119), (.load false 1 (.tmp 118)), none⟩, ⟨(some 120), (.load true 3 (.tmp 7)), none⟩, ⟨(some 121), (.bslice 3 1 [(.str []), .nils, .nils] [(0, 3, (.tmp 120))]), none⟩, ⟨(some 122), (.append 3 64 (.tmp 119) (.tmp 121)), none⟩, ⟨(some 123), (.faddr 0 (.tmp 5)), none⟩, ⟨none, (.store 1 (.tmp 123) (.tmp 122)), none⟩])))))
 (.reg [⟨(some 24), (.mv (.tmp 6)), none⟩, ⟨(some 25), (.bin .add .plain (.tmp 24) (.con (.int .i64 1))), none⟩, ⟨(some 6), (.mv (.tmp 25)), none⟩]))))))
 (.seq (.seq (.reg [⟨(some 12), (.mv (.con (.int .i64 0))), none⟩])
 (.block 6
 (.loop (.seq (.seq (.reg [⟨(some 124), (.mv (.tmp 12)), none⟩, ⟨(some 125), (.mv (.tmp 1)), none⟩, ⟨(some 126), (.lenL (.tmp 125)), none⟩, ⟨(some 127), (.bin .lss .plain (.tmp 124) (.tmp 126)), none⟩, ⟨(some 128), (.mv (.tmp 127)), none⟩, ⟨(some 129), (.mv (.tmp 12)), (some (128, true))⟩, ⟨(some 130), (.bin .lss .plain (.tmp 129) (.con (.int .i64 5))), (some (128, true))⟩, ⟨(some 131), (.pick (.tmp 128) (.tmp 130) (.con (.bool false))), none⟩])
 (.cond (.tmp 131)
 .skip
 (.exit 6)))
 (.seq (.block 7
 (.seq (.reg [⟨(some 134), (.bslice 1 3 [(.str [])] [(0, 1, (.con (.str [114, 101, 97, 100]))), (1, 1, (.con (.str [119, 114, 105, 116, 101]))), (2, 1, (.con (.str [111, 119, 110])))]), none⟩, ⟨(some 135), (.mv (.tmp 1)), none⟩, ⟨(some 136), (.mv (.tmp 12)), none⟩, ⟨(some 137), (.iaddr 3 (.tmp 135) (.tmp 136)), none⟩, ⟨(some 138), (.faddr 0 (.tmp 137)), none⟩, ⟨(some 139), (.load false 1 (.tmp 138)), none⟩, ⟨(some 140), (.call 27 [(.tmp 139), (.con (.int .i64 3))]), none⟩, ⟨(some 141), (.iaddr 1 (.tmp 134) (.tmp 140)), none⟩, ⟨(some 142), (.load false 1 (.tmp 141)), none⟩, ⟨(some 143), (.bslice 1 1 [(.str [])] [(0, 1, (.con (.str [85, 115, 101, 114])))]), none⟩, ⟨(some 144), (.bslice 1 1 [(.str [])] [(0, 1, (.con (.str [68, 111, 99])))]), none⟩, ⟨(some 145), (.build [(.str []), .nils, .nils] [(0, 1, (.tmp 142)), (1, 1, (.tmp 143)), (2, 1, (.tmp 144))]), none⟩, ⟨(some 13), (.alloc [(.str []), .nils, .nils]), none⟩, ⟨none, (.store 3 (.tmp 13) (.tmp 145)), none⟩])
 (.seq (.seq (.reg [⟨(some 14), (.mv (.con (.int .i64 0))), none⟩])
 (.block 8
 (.loop (.seq (.seq (.reg [⟨(some 146), (.mv (.tmp 14)), none⟩, ⟨(some 147), (.mv (.tmp 1)), none⟩, ⟨(some 148), (.mv (.tmp 12)), none⟩, ⟨(some 149), (.iaddr 3 (.tmp 147) (.tmp 148)), none⟩, ⟨(some 150), (.faddr 1 (.tmp 149)), none⟩, ⟨(some 151), (.load false 1 (.tmp 150)), none⟩, ⟨(some 152), (.lenL (.tmp 151)), none⟩, ⟨(some 153), (.bin .lss .plain (.tmp 146) (.tmp 152)), none⟩, ⟨(some 154), (.mv (.tmp 153)), none⟩, ⟨(some 155), (.mv (.tmp 14)), (some (154, true))⟩, ⟨(some 156), (.bin .lss .plain (.tmp 155) (.con (.int .i64 3))), (some (154, true))⟩, ⟨(some 157), (.pick (.tmp 154) (.tmp 156) (.con (.bool false))), none⟩])
 (.cond (.tmp 157)
 .skip
 (.exit 8)))
 (.seq (.block 9
 (.dreg [⟨(some 160), (.faddr 1 (.tmp 13)), none⟩, ⟨(some 161), (.load false 1 (.tmp 160)), none⟩, ⟨(some 162), (.mv (.tmp 1)), none⟩, ⟨(some 163), (.mv (.tmp 12)), none⟩, ⟨(some 164), (.iaddr 3 (.tmp 162) (.tmp 163)), none⟩, ⟨(some 165), (.faddr 1 (.tmp 164)), none⟩, ⟨(some 166), (.load false 1 (.tmp 165)), none⟩, ⟨(some 167), (.mv (.tmp 14)), none⟩, ⟨(some 168), (.iaddr 1 (.tmp 166) (.tmp 167)), none⟩, ⟨(some 169), (.load false 1 (.tmp 168)), none⟩, ⟨(some 170), (.call 26 [(.tmp 169)]), none⟩, ⟨(some 171), (.bslice 1 1 [(.str [])] [(0, 1, (.tmp 170))]), none⟩, ⟨(some 172), (.append 1 16 (.tmp 161) (.tmp 171)), none⟩, ⟨(some 173), (.faddr 1 (.tmp 13)), none⟩, ⟨none, (.store 1 (.tmp 173) (.tmp 172)), none⟩] [10, 11, 12, 14] [0, 1, 0, 0, 12, 28, 60, 0, 252, 508, 1020, 2044, 4095, 8191, 16383] []))
 (.reg [⟨(some 158), (.mv (.tmp 14)), none⟩, ⟨(some 159), (.bin .add .plain (.tmp 158) (.con (.int .i64 1))), none⟩, ⟨(some 14), (.mv (.tmp 159)), none⟩]))))))
 (.seq (.seq (.reg [⟨(some 15), (.mv (.con (.int .i64 0))), none⟩])
 (.block 10
 (.loop (.seq (.seq (.reg [⟨(some 174), (.mv (.tmp 15)), none⟩, ⟨(some 175), (.mv (.tmp 1)), none⟩, ⟨(some 176), (.mv (.tmp 12)), none⟩, ⟨(some 177), (.iaddr 3 (.tmp 175) (.tmp 176)), none⟩, ⟨(some 178), (.faddr 2 (.tmp 177)), none⟩, ⟨(some 179), (.load false 1 (.tmp 178)), none⟩, ⟨(some 180), (.lenL (.tmp 179)), none⟩, ⟨(some 181), (.bin .lss .plain (.tmp 174) (.tmp 180)), none⟩, ⟨(some 182), (.mv (.tmp 181)), none⟩, ⟨(some 183), (.mv (.tmp 15)), (some (182, true))⟩, ⟨(some 184), (.bin .lss .plain (.tmp 183) (.con (.int .i64 3))), (some (182, true))⟩, ⟨(some 185), (.pick (.tmp 182) (.tmp 184) (.con (.bool false))), none⟩])
 (.cond (.tmp 185)
 .skip
 (.exit 10)))
 (.seq (.block 11
 (.dreg [⟨(some 188), (.faddr 2 (.tmp 13)), none⟩, ⟨(some 189), (.load false 1 (.tmp 188)), none⟩, ⟨(some 190), (.mv (.tmp 1)), none⟩, ⟨(some 191), (.mv (.tmp 12)), none⟩, ⟨(some 192), (.iaddr 3 (.tmp 190) (.tmp 191)), none⟩, ⟨(some 193), (.faddr 2 (.tmp 192)), none⟩, ⟨(some 194), (.load false 1 (.tmp 193)), none⟩, ⟨(some 195), (.mv (.tmp 15)), none⟩, ⟨(some 196), (.iaddr 1 (.tmp 194) (.tmp 195)), none⟩, ⟨(some 197), (.load false 1 (.tmp 196)), none⟩, ⟨(some 198), (.call 26 [(.tmp 197)]), none⟩, ⟨(some 199), (.bslice 1 1 [(.str [])] [(0, 1, (.tmp 198))]), none⟩, ⟨(some 200), (.append 1 16 (.tmp 189) (.tmp 199)), none⟩, ⟨(some 201), (.faddr 2 (.tmp 13)), none⟩, ⟨none, (.store 1 (.tmp 201) (.tmp 200)), none⟩] [10, 11, 12, 14] [0, 1, 0, 0, 12, 28, 60, 0, 252, 508, 1020, 2044, 4095, 8191, 16383] []))
 (.reg [⟨(some 186), (.mv (.tmp 15)), none⟩, ⟨(some 187), (.bin .add .plain (.tmp 186) (.con (.int .i64 1))), none⟩, ⟨(some 15), (.mv (.tmp 187)), none⟩]))))))
 (.reg [⟨(some 202), (.faddr 1 (.tmp 5)), none⟩, ⟨(some 203), (.load false 1 (.tmp 202)), none⟩, ⟨(some 204), (.load true 3 (.tmp 13)), none⟩, ⟨(some 205), (.bslice 3 1 [(.str []), .nils, .nils] [(0, 3, (.tmp 204))]), none⟩, ⟨(some 206), (.append 3 64 (.tmp 203) (.tmp 205)), none⟩, ⟨(some 207), (.faddr 1 (.tmp 5)), none⟩, ⟨none, (.store 1 (.tmp 207) (.tmp 206)), none⟩])))))
 (.reg [⟨(some 132), (.mv (.tmp 12)), none⟩, ⟨(some 133), (.bin .add .plain (.tmp 132) (.con (.int .i64 1))), none⟩, ⟨(some 12), (.mv (.tmp 133)), none⟩]))))))
 (.seq (.reg [⟨(some 208), (.load true 2 (.tmp 5)), none⟩, ⟨none, (.store 2 (.tmp 4) (.tmp 208)), none⟩])
 .ret)))))
def ac10 : AFun := ⟨2, 209, ab10, [(.cell 4 true 2)]⟩
theorem cf10 : compF Try.prog Try.f10 = some ac10 := by kernel_rfl
theorem cl10 : callable Try.prog 10 = true := by kernel_rfl
theorem fn10 : Try.prog.funcs[10]? = some Try.f10 := by kernel_rfl
/- chancel/chancellaw10.Good -/
def ab11 : ACode := (.seq (.reg [⟨(some 4), (.alloc [.nils, .nils]), none⟩])
 (.seq (.reg [⟨(some 15), (.mv (.tmp 0)), none⟩, ⟨(some 16), (.mv (.tmp 1)), none⟩, ⟨(some 17), (.call 10 [(.tmp 15), (.tmp 16)]), none⟩, ⟨(some 5), (.alloc [.nils, .nils]), none⟩, ⟨none, (.store 2 (.tmp 5) (.tmp 17)), none⟩])
 (.seq (.reg [⟨(some 6), (.alloc [.nils, .nils]), none⟩])
 (.seq (.reg [⟨(some 18), (.bslice 1 4 [(.str [])] [(0, 1, (.con (.str [68, 111, 99]))), (1, 1, (.con (.str [71, 114, 111, 117, 112]))), (2, 1, (.con (.str [84, 101, 97, 109]))), (3, 1, (.con (.str [85, 115, 101, 114])))]), none⟩, ⟨(some 7), (.mv (.tmp 18)), none⟩])
 (.seq (.seq (.reg [⟨(some 8), (.mv (.con (.int .i64 0))), none⟩])
 (.block 0
 (.loop (.seq (.seq (.reg [⟨(some 19), (.mv (.tmp 8)), none⟩, ⟨(some 20), (.bin .lss .plain (.tmp 19) (.con (.int .i64 4))), none⟩])
 (.cond (.tmp 20)
 .skip
 (.exit 0)))
 (.seq (.block 1
 (.seq (.reg [⟨(some 9), (.mv (.con (.int .i64 0))), none⟩])
 (.block 2
 (.loop (.seq (.seq (.reg [⟨(some 23), (.mv (.tmp 9)), none⟩, ⟨(some 24), (.faddr 0 (.tmp 5)), none⟩, ⟨(some 25), (.load false 1 (.tmp 24)), none⟩, ⟨(some 26), (.lenL (.tmp 25)), none⟩, ⟨(some 27), (.bin .lss .plain (.tmp 23) (.tmp 26)), none⟩])
 (.cond (.tmp 27)
 .skip
 (.exit 2)))
 (.seq (.block 3
 (.seq (.dreg [⟨(some 30), (.faddr 0 (.tmp 5)), none⟩, ⟨(some 31), (.load false 1 (.tmp 30)), none⟩, ⟨(some 32), (.mv (.tmp 9)), none⟩, ⟨(some 33), (.iaddr 3 (.tmp 31) (.tmp 32)), none⟩, ⟨(some 34), (.faddr 0 (.tmp 33)), none⟩, ⟨(some 35), (.load false 1 (.tmp 34)), none⟩, ⟨(some 36), (.mv (.tmp 7)), none⟩, ⟨(some 37), (.mv (.tmp 8)), none⟩, ⟨(some 38), (.iaddr 1 (.tmp 36) (.tmp 37)), none⟩, ⟨(some 39), (.load false 1 (.tmp 38)), none⟩, ⟨(some 40), (.bin .eql .plain (.tmp 35) (.tmp 39)), none⟩, ⟨(some 41), (.mv (.tmp 40)), none⟩, ⟨(some 42), (.faddr 0 (.tmp 6)), (some (41, true))⟩, ⟨(some 43), (.load false 1 (.tmp 42)), (some (41, true))⟩, ⟨(some 44), (.lenL (.tmp 43)), (some (41, true))⟩, ⟨(some 45), (.bin .eql .plain (.tmp 44) (.con (.int .i64 0))), (some (41, true))⟩, ⟨(some 46), (.mv (.tmp 45)), (some (41, true))⟩, ⟨(some 47), (.faddr 0 (.tmp 6)), (some (46, false))⟩, ⟨(some 48), (.load false 1 (.tmp 47)), (some (46, false))⟩, ⟨(some 49), (.faddr 0 (.tmp 6)), (some (46, false))⟩, ⟨(some 50), (.load false 1 (.tmp 49)), (some (46, false))⟩, ⟨(some 51), (.lenL (.tmp 50)), (some (46, false))⟩, ⟨(some 52), (.bin .sub .plain (.tmp 51) (.con (.int .i64 1))), (some (46, false))⟩, ⟨(some 53), (.iaddr 3 (.tmp 48) (.tmp 52)), (some (46, false))⟩, ⟨(some 54), (.faddr 0 (.tmp 53)), (some (46, false))⟩, ⟨(some 55), (.load false 1 (.tmp 54)), (some (46, false))⟩, ⟨(some 56), (.mv (.tmp 7)), (some (46, false))⟩, ⟨(some 57), (.mv (.tmp 8)), (some (46, false))⟩, ⟨(some 58), (.iaddr 1 (.tmp 56) (.tmp 57)), (some (46, false))⟩, ⟨(some 59), (.load false 1 (.tmp 58)), (some (46, false))⟩, ⟨(some 60), (.bin .neq .plain (.tmp 55) (.tmp 59)), (some (46, false))⟩, ⟨(some 61), (.pick (.tmp 46) (.con (.bool true)) (.tmp 60)), (some (41, true))⟩, ⟨(some 62), (.pick (.tmp 41) (.tmp 61) (.con (.bool false))), none⟩] [] [0, 1, 0, 7, 15, 31, 0, 0, 192, 448, 1023, 2047, 4095, 8191, 16383, 32767, 65535, 131071, 262143, 131071, 655359, 1703935, 3801087, 8388607, 16777215, 33554431, 131071, 131071, 201457663, 469893119, 1073741823, 2147483647, 4294967295] [])
 (.cond (.tmp 62)
 (.dreg [⟨(some 63), (.faddr 0 (.tmp 6)), none⟩, ⟨(some 64), (.load false 1 (.tmp 63)), none⟩, ⟨(some 65), (.faddr 0 (.tmp 5)), none⟩, ⟨(some 66), (.load false 1 (.tmp 65)), none⟩, ⟨(some 67), (.mv (.tmp 9)), none⟩, ⟨(some 68), (.iaddr 3 (.tmp 66) (.tmp 67)), none⟩, ⟨(some 69), (.load true 3 (.tmp 68)), none⟩, ⟨(some 70), (.bslice 3 1 [(.str []), .nils, .nils] [(0, 3, (.tmp 69))]), none⟩, ⟨(some 71), (.append 3 64 (.tmp 64) (.tmp 70)), none⟩, ⟨(some 72), (.faddr 0 (.tmp 6)), none⟩, ⟨none, (.store 1 (.tmp 72) (.tmp 71)), none⟩] [7, 8, 10] [0, 1, 0, 4, 0, 28, 60, 124, 255, 511, 1023] [])
 .skip)))
 (.reg [⟨(some 28), (.mv (.tmp 9)), none⟩, ⟨(some 29), (.bin .add .plain (.tmp 28) (.con (.int .i64 1))), none⟩, ⟨(some 9), (.mv (.tmp 29)), none⟩])))))))
 (.reg [⟨(some 21), (.mv (.tmp 8)), none⟩, ⟨(some 22), (.bin .add .plain (.tmp 21) (.con (.int .i64 1))), none⟩, ⟨(some 8), (.mv (.tmp 22)), none⟩]))))))
 (.seq (.seq (.reg [⟨(some 10), (.mv (.con (.int .i64 0))), none⟩])
 (.block 4
 (.loop (.seq (.seq (.reg [⟨(some 73), (.mv (.tmp 10)), none⟩, ⟨(some 74), (.faddr 0 (.tmp 6)), none⟩, ⟨(some 75), (.load false 1 (.tmp 74)), none⟩, ⟨(some 76), (.lenL (.tmp 75)), none⟩, ⟨(some 77), (.bin .lss .plain (.tmp 73) (.tmp 76)), none⟩])
 (.cond (.tmp 77)
 .skip
 (.exit 4)))
 (.seq (.block 5
 (.dreg [⟨(some 80), (.faddr 0 (.tmp 6)), none⟩, ⟨(some 81), (.load false 1 (.tmp 80)), none⟩, ⟨(some 82), (.mv (.tmp 10)), none⟩, ⟨(some 83), (.load true 2 (.tmp 6)), none⟩, ⟨(some 84), (.faddr 0 (.tmp 6)), none⟩, ⟨(some 85), (.load false 1 (.tmp 84)), none⟩, ⟨(some 86), (.mv (.tmp 10)), none⟩, ⟨(some 87), (.iaddr 3 (.tmp 85) (.tmp 86)), none⟩, ⟨(some 88), (.load true 3 (.tmp 87)), none⟩, ⟨(some 89), (.call 29 [(.tmp 83), (.tmp 88)]), none⟩, ⟨(some 90), (.iaddr 3 (.tmp 81) (.tmp 82)), none⟩, ⟨none, (.store 3 (.tmp 90) (.tmp 89)), none⟩] [9, 11] [0, 1, 0, 0, 0, 16, 0, 112, 240, 504, 1023, 2047] []))
 (.reg [⟨(some 78), (.mv (.tmp 10)), none⟩, ⟨(some 79), (.bin .add .plain (.tmp 78) (.con (.int .i64 1))), none⟩, ⟨(some 10), (.mv (.tmp 79)), none⟩]))))))
 (.seq (.reg [⟨(some 91), (.bslice 1 3 [(.str [])] [(0, 1, (.con (.str [111, 119, 110]))), (1, 1, (.con (.str [114, 101, 97, 100]))), (2, 1, (.con (.str [119, 114, 105, 116, 101])))]), none⟩, ⟨(some 11), (.mv (.tmp 91)), none⟩])
 (.seq (.seq (.reg [⟨(some 12), (.mv (.con (.int .i64 0))), none⟩])
 (.block 6
 (.loop (.seq (.seq (.reg [⟨(some 92), (.mv (.tmp 12)), none⟩, ⟨(some 93), (.bin .lss .plain (.tmp 92) (.con (.int .i64 3))), none⟩])
 (.cond (.tmp 93)
 .skip
 (.exit 6)))
 (.seq (.block 7
 (.seq (.reg [⟨(some 13), (.mv (.con (.int .i64 0))), none⟩])
 (.block 8
 (.loop (.seq (.seq (.reg [⟨(some 96), (.mv (.tmp 13)), none⟩, ⟨(some 97), (.faddr 1 (.tmp 5)), none⟩, ⟨(some 98), (.load false 1 (.tmp 97)), none⟩, ⟨(some 99), (.lenL (.tmp 98)), none⟩, ⟨(some 100), (.bin .lss .plain (.tmp 96) (.tmp 99)), none⟩])
 (.cond (.tmp 100)
 .skip
 (.exit 8)))
 (.seq (.block 9
 (.seq (.reg [⟨(some 103), (.faddr 1 (.tmp 5)), none⟩, ⟨(some 104), (.load false 1 (.tmp 103)), none⟩, ⟨(some 105), (.mv (.tmp 13)), none⟩, ⟨(some 106), (.iaddr 3 (.tmp 104) (.tmp 105)), none⟩, ⟨(some 107), (.load true 3 (.tmp 106)), none⟩, ⟨(some 14), (.alloc [(.str []), .nils, .nils]), none⟩, ⟨none, (.store 3 (.tmp 14) (.tmp 107)), none⟩])
 (.seq (.seq (.dreg [⟨(some 108), (.faddr 0 (.tmp 14)), none⟩, ⟨(some 109), (.load false 1 (.tmp 108)), none⟩, ⟨(some 110), (.mv (.tmp 11)), none⟩, ⟨(some 111), (.mv (.tmp 12)), none⟩, ⟨(some 112), (.iaddr 1 (.tmp 110) (.tmp 111)), none⟩, ⟨(some 113), (.load false 1 (.tmp 112)), none⟩, ⟨(some 114), (.bin .neq .plain (.tmp 109) (.tmp 113)), none⟩, ⟨(some 115), (.mv (.tmp 114)), none⟩, ⟨(some 116), (.faddr 1 (.tmp 6)), (some (115, false))⟩, ⟨(some 117), (.load false 1 (.tmp 116)), (some (115, false))⟩, ⟨(some 118), (.lenL (.tmp 117)), (some (115, false))⟩, ⟨(some 119), (.bin .gtr .plain (.tmp 118) (.con (.int .i64 0))), (some (115, false))⟩, ⟨(some 120), (.mv (.tmp 119)), (some (115, false))⟩, ⟨(some 121), (.faddr 1 (.tmp 6)), (some (120, true))⟩, ⟨(some 122), (.load false 1 (.tmp 121)), (some (120, true))⟩, ⟨(some 123), (.faddr 1 (.tmp 6)), (some (120, true))⟩, ⟨(some 124), (.load false 1 (.tmp 123)), (some (120, true))⟩, ⟨(some 125), (.lenL (.tmp 124)), (some (120, true))⟩, ⟨(some 126), (.bin .sub .plain (.tmp 125) (.con (.int .i64 1))), (some (120, true))⟩, ⟨(some 127), (.iaddr 3 (.tmp 122) (.tmp 126)), (some (120, true))⟩, ⟨(some 128), (.faddr 0 (.tmp 127)), (some (120, true))⟩, ⟨(some 129), (.load false 1 (.tmp 128)), (some (120, true))⟩, ⟨(some 130), (.mv (.tmp 11)), (some (120, true))⟩, ⟨(some 131), (.mv (.tmp 12)), (some (120, true))⟩, ⟨(some 132), (.iaddr 1 (.tmp 130) (.tmp 131)), (some (120, true))⟩, ⟨(some 133), (.load false 1 (.tmp 132)), (some (120, true))⟩, ⟨(some 134), (.bin .eql .plain (.tmp 129) (.tmp 133)), (some (120, true))⟩, ⟨(some 135), (.pick (.tmp 120) (.tmp 134) (.con (.bool false))), (some (115, false))⟩, ⟨(some 136), (.pick (.tmp 115) (.con (.bool true)) (.tmp 135)), none⟩] [] [0, 1, 0, 0, 12, 28, 63, 127, 255, 511, 1023, 2047, 4095, 8191, 16383, 8191, 40959, 106495, 237567, 524287, 1048575, 2097151, 8191, 8191, 12591103, 29368319, 67108863, 134217727, 268435455] [])
 (.cond (.tmp 136)
 (.exit 9)
 .skip))
 (.seq (.dreg [⟨(some 137), (.load true 2 (.tmp 6)), none⟩, ⟨(some 138), (.faddr 1 (.tmp 14)), none⟩, ⟨(some 139), (.load false 1 (.tmp 138)), none⟩, ⟨(some 140), (.call 30 [(.tmp 137), (.tmp 139)]), none⟩, ⟨(some 141), (.load true 2 (.tmp 6)), none⟩, ⟨(some 142), (.faddr 2 (.tmp 14)), none⟩, ⟨(some 143), (.load false 1 (.tmp 142)), none⟩, ⟨(some 144), (.call 30 [(.tmp 141), (.tmp 143)]), none⟩, ⟨(some 145), (.faddr 1 (.tmp 14)), none⟩, ⟨none, (.store 1 (.tmp 145) (.tmp 140)), none⟩, ⟨(some 146), (.faddr 2 (.tmp 14)), none⟩, ⟨none, (.store 1 (.tmp 146) (.tmp 144)), none⟩] [3, 7, 9, 11] [0, 0, 2, 7, 0, 0, 32, 127, 111, 511, 1023, 2047] [])
 (.seq (.reg [⟨(some 147), (.faddr 1 (.tmp 14)), none⟩, ⟨(some 148), (.load false 1 (.tmp 147)), none⟩, ⟨(some 149), (.lenL (.tmp 148)), none⟩, ⟨(some 150), (.bin .gtr .plain (.tmp 149) (.con (.int .i64 0))), none⟩, ⟨(some 151), (.mv (.tmp 150)), none⟩, ⟨(some 152), (.faddr 2 (.tmp 14)), (some (151, true))⟩, ⟨(some 153), (.load false 1 (.tmp 152)), (some (151, true))⟩, ⟨(some 154), (.lenL (.tmp 153)), (some (151, true))⟩, ⟨(some 155), (.bin .gtr .plain (.tmp 154) (.con (.int .i64 0))), (some (151, true))⟩, ⟨(some 156), (.pick (.tmp 151) (.tmp 155) (.con (.bool false))), none⟩])
 (.cond (.tmp 156)
 (.reg [⟨(some 157), (.faddr 1 (.tmp 6)), none⟩, ⟨(some 158), (.load false 1 (.tmp 157)), none⟩, ⟨(some 159), (.load true 3 (.tmp 14)), none⟩, ⟨(some 160), (.bslice 3 1 [(.str []), .nils, .nils] [(0, 3, (.tmp 159))]), none⟩, ⟨(some 161), (.append 3 64 (.tmp 158) (.tmp 160)), none⟩, ⟨(some 162), (.faddr 1 (.tmp 6)), none⟩, ⟨none, (.store 1 (.tmp 162) (.tmp 161)), none⟩])
 .skip))))))
 (.reg [⟨(some 101), (.mv (.tmp 13)), none⟩, ⟨(some 102), (.bin .add .plain (.tmp 101) (.con (.int .i64 1))), none⟩, ⟨(some 13), (.mv (.tmp 102)), none⟩])))))))
 (.reg [⟨(some 94), (.mv (.tmp 12)), none⟩, ⟨(some 95), (.bin .add .plain (.tmp 94) (.con (.int .i64 1))), none⟩, ⟨(some 12), (.mv (.tmp 95)), none⟩]))))))
 (.seq (.reg [⟨(some 163), (.load true 2 (.tmp 6)), none⟩, ⟨none, (.store 2 (.tmp 4) (.tmp 163)), none⟩])
 .ret)))))))))
def ac11 : AFun := ⟨2, 164, ab11, [(.cell 4 true 2)]⟩
theorem cf11 : compF Try.prog Try.f11 = some ac11 := by kernel_rfl
theorem cl11 : callable Try.prog 11 = true := by kernel_rfl
theorem fn11 : Try.prog.funcs[11]? = some Try.f11 := by kernel_rfl
/- chancel/schema.Check -/
def ab12 : ACode := (.seq (.reg [⟨(some 1), (.box (.tmp 0)), none⟩, ⟨(some 2), (.mv (.con (.int .i64 0))), none⟩])
 (.seq (.seq (.reg [⟨(some 10), (.faddr 0 (.tmp 1)), none⟩, ⟨(some 11), (.load false 1 (.tmp 10)), none⟩, ⟨(some 12), (.lenL (.tmp 11)), none⟩, ⟨(some 13), (.bin .gtr .plain (.tmp 12) (.con (.int .i64 6))), none⟩, ⟨(some 14), (.mv (.tmp 13)), none⟩, ⟨(some 15), (.faddr 1 (.tmp 1)), (some (14, false))⟩, ⟨(some 16), (.load false 1 (.tmp 15)), (some (14, false))⟩, ⟨(some 17), (.lenL (.tmp 16)), (some (14, false))⟩, ⟨(some 18), (.bin .gtr .plain (.tmp 17) (.con (.int .i64 6))), (some (14, false))⟩, ⟨(some 19), (.pick (.tmp 14) (.con (.bool true)) (.tmp 18)), none⟩])
 (.cond (.tmp 19)
 (.seq (.reg [⟨(some 2), (.mv (.con (.int .i64 4))), none⟩])
 .ret)
 .skip))
 (.seq (.reg [⟨(some 3), (.mv (.con (.str []))), none⟩])
 (.seq (.seq (.reg [⟨(some 20), (.faddr 0 (.tmp 1)), none⟩, ⟨(some 21), (.load false 1 (.tmp 20)), none⟩, ⟨(some 22), (.lenL (.tmp 21)), none⟩, ⟨(some 23), (.mv (.con (.int .i64 0))), none⟩])
 (.block 0
 (.loop (.seq (.reg [⟨(some 24), (.bin .lss .plain (.tmp 23) (.tmp 22)), none⟩])
 (.seq (.cond (.tmp 24)
 .skip
 (.exit 0))
 (.seq (.block 1
 (.seq (.reg [⟨(some 25), (.iaddr 3 (.tmp 21) (.tmp 23)), none⟩, ⟨(some 26), (.load true 3 (.tmp 25)), none⟩, ⟨(some 5), (.alloc [(.str []), .nils, .nils]), none⟩, ⟨none, (.store 3 (.tmp 5) (.tmp 26)), none⟩])
 (.seq (.seq (.reg [⟨(some 27), (.load true 2 (.tmp 1)), none⟩, ⟨(some 28), (.load true 3 (.tmp 5)), none⟩, ⟨(some 29), (.mv (.tmp 3)), none⟩, ⟨(some 30), (.call 31 [(.tmp 27), (.tmp 28), (.tmp 29)]), none⟩, ⟨(some 6), (.mv (.tmp 30)), none⟩])
 (.seq (.reg [⟨(some 31), (.mv (.tmp 6)), none⟩, ⟨(some 32), (.bin .neq .plain (.tmp 31) (.con (.int .i64 0))), none⟩])
 (.cond (.tmp 32)
 (.seq (.reg [⟨(some 33), (.mv (.tmp 6)), none⟩, ⟨(some 2), (.mv (.tmp 33)), none⟩])
 .ret)
 .skip)))
 (.reg [⟨(some 34), (.faddr 0 (.tmp 5)), none⟩, ⟨(some 35), (.load false 1 (.tmp 34)), none⟩, ⟨(some 3), (.mv (.tmp 35)), none⟩]))))
 (.reg [⟨(some 36), (.bin .add .plain (.tmp 23) (.con (.int .i64 1))), none⟩, ⟨(some 23), (.mv (.tmp 36)), none⟩])))))))
 (.seq (.reg [⟨(some 3), (.mv (.con (.str []))), none⟩])
 (.seq (.seq (.reg [⟨(some 37), (.faddr 1 (.tmp 1)), none⟩, ⟨(some 38), (.load false 1 (.tmp 37)), none⟩, ⟨(some 39), (.lenL (.tmp 38)), none⟩, ⟨(some 40), (.mv (.con (.int .i64 0))), none⟩])
 (.block 2
 (.loop (.seq (.reg [⟨(some 41), (.bin .lss .plain (.tmp 40) (.tmp 39)), none⟩])
 (.seq (.cond (.tmp 41)
 .skip
 (.exit 2))
 (.seq (.block 3
 (.seq (.reg [⟨(some 42), (.iaddr 3 (.tmp 38) (.tmp 40)), none⟩, ⟨(some 43), (.load true 3 (.tmp 42)), none⟩, ⟨(some 8), (.alloc [(.str []), .nils, .nils]), none⟩, ⟨none, (.store 3 (.tmp 8) (.tmp 43)), none⟩])
 (.seq (.seq (.reg [⟨(some 44), (.load true 2 (.tmp 1)), none⟩, ⟨(some 45), (.load true 3 (.tmp 8)), none⟩, ⟨(some 46), (.mv (.tmp 3)), none⟩, ⟨(some 47), (.call 32 [(.tmp 44), (.tmp 45), (.tmp 46)]), none⟩, ⟨(some 9), (.mv (.tmp 47)), none⟩])
 (.seq (.reg [⟨(some 48), (.mv (.tmp 9)), none⟩, ⟨(some 49), (.bin .neq .plain (.tmp 48) (.con (.int .i64 0))), none⟩])
 (.cond (.tmp 49)
 (.seq (.reg [⟨(some 50), (.mv (.tmp 9)), none⟩, ⟨(some 2), (.mv (.tmp 50)), none⟩])
 .ret)
 .skip)))
 (.reg [⟨(some 51), (.faddr 0 (.tmp 8)), none⟩, ⟨(some 52), (.load false 1 (.tmp 51)), none⟩, ⟨(some 3), (.mv (.tmp 52)), none⟩]))))
 (.reg [⟨(some 53), (.bin .add .plain (.tmp 40) (.con (.int .i64 1))), none⟩, ⟨(some 40), (.mv (.tmp 53)), none⟩])))))))
 (.seq (.reg [⟨(some 2), (.mv (.con (.int .i64 0))), none⟩])
 .ret)))))))
def ac12 : AFun := ⟨1, 54, ab12, [(.tmp 2)]⟩
theorem cf12 : compF Try.prog Try.f12 = some ac12 := by kernel_rfl
theorem cl12 : callable Try.prog 12 = true := by kernel_rfl
theorem fn12 : Try.prog.funcs[12]? = some Try.f12 := by kernel_rfl
/- chancel/chancelref10.Check -/
def ab13 : ACode := (.seq (.reg [⟨(some 1), (.box (.tmp 0)), none⟩, ⟨(some 2), (.mv (.con (.int .i64 0))), none⟩])
 (.seq (.seq (.reg [⟨(some 7), (.faddr 0 (.tmp 1)), none⟩, ⟨(some 8), (.load false 1 (.tmp 7)), none⟩, ⟨(some 9), (.lenL (.tmp 8)), none⟩, ⟨(some 10), (.bin .gtr .plain (.tmp 9) (.con (.int .i64 6))), none⟩, ⟨(some 11), (.mv (.tmp 10)), none⟩, ⟨(some 12), (.faddr 1 (.tmp 1)), (some (11, false))⟩, ⟨(some 13), (.load false 1 (.tmp 12)), (some (11, false))⟩, ⟨(some 14), (.lenL (.tmp 13)), (some (11, false))⟩, ⟨(some 15), (.bin .gtr .plain (.tmp 14) (.con (.int .i64 6))), (some (11, false))⟩, ⟨(some 16), (.pick (.tmp 11) (.con (.bool true)) (.tmp 15)), none⟩])
 (.cond (.tmp 16)
 (.seq (.reg [⟨(some 2), (.mv (.con (.int .i64 4))), none⟩])
 .ret)
 .skip))
 (.seq (.seq (.reg [⟨(some 3), (.mv (.con (.int .i64 0))), none⟩])
 (.block 0
 (.loop (.seq (.seq (.reg [⟨(some 17), (.mv (.tmp 3)), none⟩, ⟨(some 18), (.faddr 0 (.tmp 1)), none⟩, ⟨(some 19), (.load false 1 (.tmp 18)), none⟩, ⟨(some 20), (.lenL (.tmp 19)), none⟩, ⟨(some 21), (.bin .lss .plain (.tmp 17) (.tmp 20)), none⟩])
 (.cond (.tmp 21)
 .skip
 (.exit 0)))
 (.seq (.block 1
 (.seq (.reg [⟨(some 24), (.faddr 0 (.tmp 1)), none⟩, ⟨(some 25), (.load false 1 (.tmp 24)), none⟩, ⟨(some 26), (.mv (.tmp 3)), none⟩, ⟨(some 27), (.iaddr 3 (.tmp 25) (.tmp 26)), none⟩, ⟨(some 28), (.faddr 0 (.tmp 27)), none⟩, ⟨(some 29), (.load false 1 (.tmp 28)), none⟩, ⟨(some 4), (.mv (.tmp 29)), none⟩])
 (.block 2
 (.seq (.reg [⟨(some 31), (.mv (.tmp 4)), none⟩, ⟨(some 32), (.call 33 [(.tmp 31)]), none⟩, ⟨(some 33), (.un .not (.tmp 32)), none⟩, ⟨(some 34), (.mv (.tmp 33)), none⟩, ⟨(some 35), (.mv (.tmp 4)), (some (34, false))⟩, ⟨(some 36), (.bin .eql .plain (.tmp 35) (.con (.str [65, 99, 116, 105, 111, 110]))), (some (34, false))⟩, ⟨(some 37), (.pick (.tmp 34) (.con (.bool true)) (.tmp 36)), none⟩, ⟨(some 38), (.mv (.tmp 37)), none⟩, ⟨(some 39), (.mv (.tmp 4)), (some (38, false))⟩, ⟨(some 40), (.bin .eql .plain (.tmp 39) (.con (.str [66, 111, 111, 108]))), (some (38, false))⟩, ⟨(some 41), (.pick (.tmp 38) (.con (.bool true)) (.tmp 40)), none⟩, ⟨(some 42), (.mv (.tmp 41)), none⟩, ⟨(some 43), (.mv (.tmp 4)), (some (42, false))⟩, ⟨(some 44), (.bin .eql .plain (.tmp 43) (.con (.str [76, 111, 110, 103]))), (some (42, false))⟩, ⟨(some 45), (.pick (.tmp 42) (.con (.bool true)) (.tmp 44)), none⟩, ⟨(some 46), (.mv (.tmp 45)), none⟩, ⟨(some 47), (.mv (.tmp 4)), (some (46, false))⟩, ⟨(some 48), (.bin .eql .plain (.tmp 47) (.con (.str [83, 116, 114, 105, 110, 103]))), (some (46, false))⟩, ⟨(some 49), (.pick (.tmp 46) (.con (.bool true)) (.tmp 48)), none⟩, ⟨(some 50), (.mv (.tmp 49)), none⟩, ⟨(some 51), (.mv (.tmp 4)), (some (50, false))⟩, ⟨(some 52), (.bin .eql .plain (.tmp 51) (.con (.str [83, 101, 116]))), (some (50, false))⟩, ⟨(some 53), (.pick (.tmp 50) (.con (.bool true)) (.tmp 52)), none⟩, ⟨(some 30), (.mv (.tmp 53)), none⟩])
 (.cond (.tmp 30)
 (.seq (.reg [⟨(some 2), (.mv (.con (.int .i64 15))), none⟩])
 .ret)
 (.seq (.reg [⟨(some 55), (.mv (.tmp 3)), none⟩, ⟨(some 56), (.bin .gtr .plain (.tmp 55) (.con (.int .i64 0))), none⟩, ⟨(some 57), (.mv (.tmp 56)), none⟩, ⟨(some 58), (.mv (.tmp 4)), (some (57, true))⟩, ⟨(some 59), (.faddr 0 (.tmp 1)), (some (57, true))⟩, ⟨(some 60), (.load false 1 (.tmp 59)), (some (57, true))⟩, ⟨(some 61), (.mv (.tmp 3)), (some (57, true))⟩, ⟨(some 62), (.bin .sub .plain (.tmp 61) (.con (.int .i64 1))), (some (57, true))⟩, ⟨(some 63), (.iaddr 3 (.tmp 60) (.tmp 62)), (some (57, true))⟩, ⟨(some 64), (.faddr 0 (.tmp 63)), (some (57, true))⟩, ⟨(some 65), (.load false 1 (.tmp 64)), (some (57, true))⟩, ⟨(some 66), (.bin .leq .plain (.tmp 58) (.tmp 65)), (some (57, true))⟩, ⟨(some 67), (.pick (.tmp 57) (.tmp 66) (.con (.bool false))), none⟩, ⟨(some 54), (.mv (.tmp 67)), none⟩])
 (.cond (.tmp 54)
 (.seq (.reg [⟨(some 2), (.mv (.con (.int .i64 7))), none⟩])
 .ret)
 (.seq (.dreg [⟨(some 69), (.load true 2 (.tmp 1)), none⟩, ⟨(some 70), (.faddr 0 (.tmp 1)), none⟩, ⟨(some 71), (.load false 1 (.tmp 70)), none⟩, ⟨(some 72), (.mv (.tmp 3)), none⟩, ⟨(some 73), (.iaddr 3 (.tmp 71) (.tmp 72)), none⟩, ⟨(some 74), (.load true 3 (.tmp 73)), none⟩, ⟨(some 75), (.call 34 [(.tmp 69), (.tmp 74)]), none⟩, ⟨(some 76), (.bin .neq .plain (.tmp 75) (.con (.int .i64 0))), none⟩, ⟨(some 68), (.mv (.tmp 76)), none⟩] [6] [0, 0, 2, 0, 14, 30, 63, 127, 255] [])
 (.cond (.tmp 68)
 (.seq (.dreg [⟨(some 77), (.load true 2 (.tmp 1)), none⟩, ⟨(some 78), (.faddr 0 (.tmp 1)), none⟩, ⟨(some 79), (.load false 1 (.tmp 78)), none⟩, ⟨(some 80), (.mv (.tmp 3)), none⟩, ⟨(some 81), (.iaddr 3 (.tmp 79) (.tmp 80)), none⟩, ⟨(some 82), (.load true 3 (.tmp 81)), none⟩, ⟨(some 83), (.call 34 [(.tmp 77), (.tmp 82)]), none⟩, ⟨(some 2), (.mv (.tmp 83)), none⟩] [6] [0, 0, 2, 0, 14, 30, 63, 127] [])
 .ret)
 .skip)))))))))
 (.reg [⟨(some 22), (.mv (.tmp 3)), none⟩, ⟨(some 23), (.bin .add .plain (.tmp 22) (.con (.int .i64 1))), none⟩, ⟨(some 3), (.mv (.tmp 23)), none⟩]))))))
 (.seq (.seq (.reg [⟨(some 5), (.mv (.con (.int .i64 0))), none⟩])
 (.block 3
 (.loop (.seq (.seq (.reg [⟨(some 84), (.mv (.tmp 5)), none⟩, ⟨(some 85), (.faddr 1 (.tmp 1)), none⟩, ⟨(some 86), (.load false 1 (.tmp 85)), none⟩, ⟨(some 87), (.lenL (.tmp 86)), none⟩, ⟨(some 88), (.bin .lss .plain (.tmp 84) (.tmp 87)), none⟩])
 (.cond (.tmp 88)
 .skip
 (.exit 3)))
 (.seq (.block 4
 (.seq (.reg [⟨(some 91), (.faddr 1 (.tmp 1)), none⟩, ⟨(some 92), (.load false 1 (.tmp 91)), none⟩, ⟨(some 93), (.mv (.tmp 5)), none⟩, ⟨(some 94), (.iaddr 3 (.tmp 92) (.tmp 93)), none⟩, ⟨(some 95), (.load true 3 (.tmp 94)), none⟩, ⟨(some 6), (.alloc [(.str []), .nils, .nils]), none⟩, ⟨none, (.store 3 (.tmp 6) (.tmp 95)), none⟩])
 (.block 5
 (.seq (.reg [⟨(some 97), (.faddr 0 (.tmp 6)), none⟩, ⟨(some 98), (.load false 1 (.tmp 97)), none⟩, ⟨(some 99), (.call 33 [(.tmp 98)]), none⟩, ⟨(some 100), (.un .not (.tmp 99)), none⟩, ⟨(some 96), (.mv (.tmp 100)), none⟩])
 (.cond (.tmp 96)
 (.seq (.reg [⟨(some 2), (.mv (.con (.int .i64 15))), none⟩])
 .ret)
 (.seq (.dreg [⟨(some 102), (.mv (.tmp 5)), none⟩, ⟨(some 103), (.bin .gtr .plain (.tmp 102) (.con (.int .i64 0))), none⟩, ⟨(some 104), (.mv (.tmp 103)), none⟩, ⟨(some 105), (.faddr 0 (.tmp 6)), (some (104, true))⟩, ⟨(some 106), (.load false 1 (.tmp 105)), (some (104, true))⟩, ⟨(some 107), (.faddr 1 (.tmp 1)), (some (104, true))⟩, ⟨(some 108), (.load false 1 (.tmp 107)), (some (104, true))⟩, ⟨(some 109), (.mv (.tmp 5)), (some (104, true))⟩, ⟨(some 110), (.bin .sub .plain (.tmp 109) (.con (.int .i64 1))), (some (104, true))⟩, ⟨(some 111), (.iaddr 3 (.tmp 108) (.tmp 110)), (some (104, true))⟩, ⟨(some 112), (.faddr 0 (.tmp 111)), (some (104, true))⟩, ⟨(some 113), (.load false 1 (.tmp 112)), (some (104, true))⟩, ⟨(some 114), (.bin .leq .plain (.tmp 106) (.tmp 113)), (some (104, true))⟩, ⟨(some 115), (.pick (.tmp 104) (.tmp 114) (.con (.bool false))), none⟩, ⟨(some 101), (.mv (.tmp 115)), none⟩] [] [0, 1, 3, 7, 15, 7, 39, 7, 135, 487, 999, 2023, 4095, 8191, 16383] [])
 (.cond (.tmp 101)
 (.seq (.reg [⟨(some 2), (.mv (.con (.int .i64 7))), none⟩])
 .ret)
 (.seq (.reg [⟨(some 117), (.faddr 1 (.tmp 6)), none⟩, ⟨(some 118), (.load false 1 (.tmp 117)), none⟩, ⟨(some 119), (.lenL (.tmp 118)), none⟩, ⟨(some 120), (.bin .eql .plain (.tmp 119) (.con (.int .i64 0))), none⟩, ⟨(some 121), (.mv (.tmp 120)), none⟩, ⟨(some 122), (.faddr 2 (.tmp 6)), (some (121, false))⟩, ⟨(some 123), (.load false 1 (.tmp 122)), (some (121, false))⟩, ⟨(some 124), (.lenL (.tmp 123)), (some (121, false))⟩, ⟨(some 125), (.bin .eql .plain (.tmp 124) (.con (.int .i64 0))), (some (121, false))⟩, ⟨(some 126), (.pick (.tmp 121) (.con (.bool true)) (.tmp 125)), none⟩, ⟨(some 116), (.mv (.tmp 126)), none⟩])
 (.cond (.tmp 116)
 (.seq (.reg [⟨(some 2), (.mv (.con (.int .i64 13))), none⟩])
 .ret)
 (.seq (.reg [⟨(some 128), (.faddr 1 (.tmp 6)), none⟩, ⟨(some 129), (.load false 1 (.tmp 128)), none⟩, ⟨(some 130), (.lenL (.tmp 129)), none⟩, ⟨(some 131), (.bin .gtr .plain (.tmp 130) (.con (.int .i64 6))), none⟩, ⟨(some 132), (.mv (.tmp 131)), none⟩, ⟨(some 133), (.faddr 2 (.tmp 6)), (some (132, false))⟩, ⟨(some 134), (.load false 1 (.tmp 133)), (some (132, false))⟩, ⟨(some 135), (.lenL (.tmp 134)), (some (132, false))⟩, ⟨(some 136), (.bin .gtr .plain (.tmp 135) (.con (.int .i64 6))), (some (132, false))⟩, ⟨(some 137), (.pick (.tmp 132) (.con (.bool true)) (.tmp 136)), none⟩, ⟨(some 127), (.mv (.tmp 137)), none⟩])
 (.cond (.tmp 127)
 (.seq (.reg [⟨(some 2), (.mv (.con (.int .i64 4))), none⟩])
 .ret)
 (.seq (.reg [⟨(some 139), (.load true 2 (.tmp 1)), none⟩, ⟨(some 140), (.faddr 1 (.tmp 6)), none⟩, ⟨(some 141), (.load false 1 (.tmp 140)), none⟩, ⟨(some 142), (.call 35 [(.tmp 139), (.tmp 141)]), none⟩, ⟨(some 143), (.un .not (.tmp 142)), none⟩, ⟨(some 144), (.mv (.tmp 143)), none⟩, ⟨(some 145), (.load true 2 (.tmp 1)), (some (144, false))⟩, ⟨(some 146), (.faddr 2 (.tmp 6)), (some (144, false))⟩, ⟨(some 147), (.load false 1 (.tmp 146)), (some (144, false))⟩, ⟨(some 148), (.call 35 [(.tmp 145), (.tmp 147)]), (some (144, false))⟩, ⟨(some 149), (.un .not (.tmp 148)), (some (144, false))⟩, ⟨(some 150), (.pick (.tmp 144) (.con (.bool true)) (.tmp 149)), none⟩, ⟨(some 138), (.mv (.tmp 150)), none⟩])
 (.cond (.tmp 138)
 (.seq (.reg [⟨(some 2), (.mv (.con (.int .i64 2))), none⟩])
 .ret)
 .skip)))))))))))))
 (.reg [⟨(some 89), (.mv (.tmp 5)), none⟩, ⟨(some 90), (.bin .add .plain (.tmp 89) (.con (.int .i64 1))), none⟩, ⟨(some 5), (.mv (.tmp 90)), none⟩]))))))
 (.seq (.reg [⟨(some 2), (.mv (.con (.int .i64 0))), none⟩])
 .ret)))))
def ac13 : AFun := ⟨1, 151, ab13, [(.tmp 2)]⟩
theorem cf13 : compF Try.prog Try.f13 = some ac13 := by kernel_rfl
theorem cl13 : callable Try.prog 13 = true := by kernel_rfl
theorem fn13 : Try.prog.funcs[13]? = some Try.f13 := by kernel_rfl
/- chancel/chancellaw10.within -/
def ab14 : ACode := (.seq (.reg [⟨(some 4), (.mv (.con (.int .i64 0))), none⟩])
 (.seq (.reg [⟨(some 6), (.mv (.tmp 0)), none⟩, ⟨(some 7), (.mv (.tmp 1)), none⟩, ⟨(some 8), (.bin .rem .plain (.tmp 6) (.tmp 7)), none⟩, ⟨(some 5), (.mv (.tmp 8)), none⟩])
 (.seq (.seq (.reg [⟨(some 9), (.mv (.tmp 5)), none⟩, ⟨(some 10), (.bin .lss .plain (.tmp 9) (.con (.int .i64 0))), none⟩])
 (.cond (.tmp 10)
 (.reg [⟨(some 11), (.mv (.tmp 5)), none⟩, ⟨(some 12), (.mv (.tmp 1)), none⟩, ⟨(some 13), (.bin .add .plain (.tmp 11) (.tmp 12)), none⟩, ⟨(some 5), (.mv (.tmp 13)), none⟩])
 .skip))
 (.seq (.reg [⟨(some 14), (.mv (.tmp 5)), none⟩, ⟨(some 4), (.mv (.tmp 14)), none⟩])
 .ret))))
def ac14 : AFun := ⟨2, 15, ab14, [(.tmp 4)]⟩
theorem cf14 : compF Try.prog Try.f14 = some ac14 := by kernel_rfl
theorem cl14 : callable Try.prog 14 = true := by kernel_rfl
theorem fn14 : Try.prog.funcs[14]? = some Try.f14 := by kernel_rfl
/- chancel/chancellaw5.Uid -/
def ab15 : ACode := (.seq (.reg [⟨(some 4), (.alloc [(.str []), (.str [])]), none⟩])
 (.seq (.dreg [⟨(some 5), (.bslice 1 5 [(.str [])] [(0, 1, (.con (.str [85, 115, 101, 114]))), (1, 1, (.con (.str [71, 114, 111, 117, 112]))), (2, 1, (.con (.str [68, 111, 99]))), (3, 1, (.con (.str [65, 99, 116, 105, 111, 110]))), (4, 1, (.con (.str [105, 102])))]), none⟩, ⟨(some 6), (.mv (.tmp 0)), none⟩, ⟨(some 7), (.call 27 [(.tmp 6), (.con (.int .i64 5))]), none⟩, ⟨(some 8), (.iaddr 1 (.tmp 5) (.tmp 7)), none⟩, ⟨(some 9), (.load false 1 (.tmp 8)), none⟩, ⟨(some 10), (.mv (.tmp 1)), none⟩, ⟨(some 11), (.call 36 [(.tmp 10)]), none⟩, ⟨(some 12), (.build [(.str []), (.str [])] [(0, 1, (.tmp 9)), (1, 1, (.tmp 11))]), none⟩, ⟨none, (.store 2 (.tmp 4) (.tmp 12)), none⟩] [2, 6, 8] [0, 0, 2, 7, 15, 0, 38, 127, 255] [0])
 .ret))
def ac15 : AFun := ⟨2, 13, ab15, [(.cell 4 true 2)]⟩
theorem cf15 : compF Try.prog Try.f15 = some ac15 := by kernel_rfl
theorem cl15 : callable Try.prog 15 = true := by kernel_rfl
theorem fn15 : Try.prog.funcs[15]? = some Try.f15 := by kernel_rfl
/- chancel/chancelref10.Action -/
def ab16 : ACode := (.seq (.reg [⟨(some 2), (.box (.tmp 0)), none⟩, ⟨(some 4), (.alloc [(.str []), .nils, .nils]), none⟩, ⟨(some 5), (.mv (.con (.bool false))), none⟩])
 (.seq (.seq (.reg [⟨(some 6), (.mv (.con (.int .i64 0))), none⟩])
 (.block 0
 (.loop (.seq (.seq (.reg [⟨(some 7), (.mv (.tmp 6)), none⟩, ⟨(some 8), (.faddr 1 (.tmp 2)), none⟩, ⟨(some 9), (.load false 1 (.tmp 8)), none⟩, ⟨(some 10), (.lenL (.tmp 9)), none⟩, ⟨(some 11), (.bin .lss .plain (.tmp 7) (.tmp 10)), none⟩])
 (.cond (.tmp 11)
 .skip
 (.exit 0)))
 (.seq (.block 1
 (.seq (.reg [⟨(some 14), (.faddr 1 (.tmp 2)), none⟩, ⟨(some 15), (.load false 1 (.tmp 14)), none⟩, ⟨(some 16), (.mv (.tmp 6)), none⟩, ⟨(some 17), (.iaddr 3 (.tmp 15) (.tmp 16)), none⟩, ⟨(some 18), (.faddr 0 (.tmp 17)), none⟩, ⟨(some 19), (.load false 1 (.tmp 18)), none⟩, ⟨(some 20), (.mv (.tmp 1)), none⟩, ⟨(some 21), (.bin .eql .plain (.tmp 19) (.tmp 20)), none⟩])
 (.cond (.tmp 21)
 (.seq (.reg [⟨(some 22), (.faddr 1 (.tmp 2)), none⟩, ⟨(some 23), (.load false 1 (.tmp 22)), none⟩, ⟨(some 24), (.mv (.tmp 6)), none⟩, ⟨(some 25), (.iaddr 3 (.tmp 23) (.tmp 24)), none⟩, ⟨(some 26), (.load true 3 (.tmp 25)), none⟩, ⟨none, (.store 3 (.tmp 4) (.tmp 26)), none⟩, ⟨(some 5), (.mv (.con (.bool true))), none⟩])
 .ret)
 .skip)))
 (.reg [⟨(some 12), (.mv (.tmp 6)), none⟩, ⟨(some 13), (.bin .add .plain (.tmp 12) (.con (.int .i64 1))), none⟩, ⟨(some 6), (.mv (.tmp 13)), none⟩]))))))
 (.seq (.reg [⟨(some 27), (.build [(.str []), .nils, .nils] []), none⟩, ⟨none, (.store 3 (.tmp 4) (.tmp 27)), none⟩, ⟨(some 5), (.mv (.con (.bool false))), none⟩])
 .ret)))
def ac16 : AFun := ⟨2, 28, ab16, [(.cell 4 true 3), (.tmp 5)]⟩
theorem cf16 : compF Try.prog Try.f16 = some ac16 := by kernel_rfl
theorem cl16 : callable Try.prog 16 = true := by kernel_rfl
theorem fn16 : Try.prog.funcs[16]? = some Try.f16 := by kernel_rfl
/- chancel/schema.Fits -/
def ab17 : ACode := (.seq (.reg [⟨(some 2), (.box (.tmp 0)), none⟩, ⟨(some 3), (.box (.tmp 1)), none⟩, ⟨(some 4), (.mv (.con (.int .i64 0))), none⟩])
 (.seq (.reg [⟨(some 8), (.load true 2 (.tmp 2)), none⟩, ⟨(some 9), (.faddr 2 (.tmp 3)), none⟩, ⟨(some 10), (.faddr 1 (.tmp 9)), none⟩, ⟨(some 11), (.load false 1 (.tmp 10)), none⟩, ⟨(some 12), (.call 22 [(.tmp 8), (.tmp 11)]), none⟩, ⟨(some 7), (.mv (.tmp 12)), none⟩, ⟨(some 13), (.ext (.tmp 7) 0), none⟩, ⟨(some 14), (.ext (.tmp 7) 1), none⟩, ⟨(some 5), (.alloc [(.str []), .nils, .nils]), none⟩, ⟨none, (.store 3 (.tmp 5) (.tmp 13)), none⟩, ⟨(some 6), (.mv (.tmp 14)), none⟩])
 (.seq (.block 0
 (.seq (.reg [⟨(some 16), (.mv (.tmp 6)), none⟩, ⟨(some 17), (.un .not (.tmp 16)), none⟩, ⟨(some 18), (.mv (.tmp 17)), none⟩, ⟨(some 19), (.faddr 2 (.tmp 3)), (some (18, false))⟩, ⟨(some 20), (.faddr 0 (.tmp 19)), (some (18, false))⟩, ⟨(some 21), (.load false 1 (.tmp 20)), (some (18, false))⟩, ⟨(some 22), (.bin .neq .plain (.tmp 21) (.con (.str [65, 99, 116, 105, 111, 110]))), (some (18, false))⟩, ⟨(some 23), (.pick (.tmp 18) (.con (.bool true)) (.tmp 22)), none⟩, ⟨(some 15), (.mv (.tmp 23)), none⟩])
 (.cond (.tmp 15)
 (.seq (.reg [⟨(some 4), (.mv (.con (.int .i64 15))), none⟩])
 .ret)
 (.seq (.reg [⟨(some 25), (.faddr 1 (.tmp 5)), none⟩, ⟨(some 26), (.load false 1 (.tmp 25)), none⟩, ⟨(some 27), (.faddr 0 (.tmp 3)), none⟩, ⟨(some 28), (.faddr 0 (.tmp 27)), none⟩, ⟨(some 29), (.load false 1 (.tmp 28)), none⟩, ⟨(some 30), (.call 37 [(.tmp 26), (.tmp 29)]), none⟩, ⟨(some 31), (.un .not (.tmp 30)), none⟩, ⟨(some 32), (.mv (.tmp 31)), none⟩, ⟨(some 33), (.faddr 2 (.tmp 5)), (some (32, false))⟩, ⟨(some 34), (.load false 1 (.tmp 33)), (some (32, false))⟩, ⟨(some 35), (.faddr 4 (.tmp 3)), (some (32, false))⟩, ⟨(some 36), (.faddr 0 (.tmp 35)), (some (32, false))⟩, ⟨(some 37), (.load false 1 (.tmp 36)), (some (32, false))⟩, ⟨(some 38), (.call 37 [(.tmp 34), (.tmp 37)]), (some (32, false))⟩, ⟨(some 39), (.un .not (.tmp 38)), (some (32, false))⟩, ⟨(some 40), (.pick (.tmp 32) (.con (.bool true)) (.tmp 39)), none⟩, ⟨(some 24), (.mv (.tmp 40)), none⟩])
 (.cond (.tmp 24)
 (.seq (.reg [⟨(some 4), (.mv (.con (.int .i64 16))), none⟩])
 .ret)
 .skip)))))
 (.seq (.reg [⟨(some 4), (.mv (.con (.int .i64 0))), none⟩])
 .ret))))
def ac17 : AFun := ⟨2, 41, ab17, [(.tmp 4)]⟩
theorem cf17 : compF Try.prog Try.f17 = some ac17 := by kernel_rfl
theorem cl17 : callable Try.prog 17 = true := by kernel_rfl
theorem fn17 : Try.prog.funcs[17]? = some Try.f17 := by kernel_rfl
/- chancel/schema.Same -/
def ab18 : ACode := (.seq (.reg [⟨(some 2), (.box (.tmp 0)), none⟩, ⟨(some 3), (.box (.tmp 1)), none⟩, ⟨(some 4), (.mv (.con (.bool false))), none⟩])
 (.seq (.reg [⟨(some 5), (.faddr 0 (.tmp 2)), none⟩, ⟨(some 6), (.load false 1 (.tmp 5)), none⟩, ⟨(some 7), (.faddr 0 (.tmp 3)), none⟩, ⟨(some 8), (.load false 1 (.tmp 7)), none⟩, ⟨(some 9), (.call 38 [(.tmp 6), (.tmp 8), (.con (.fn 39 []))]), none⟩, ⟨(some 10), (.mv (.tmp 9)), none⟩, ⟨(some 11), (.faddr 1 (.tmp 2)), (some (10, true))⟩, ⟨(some 12), (.load false 1 (.tmp 11)), (some (10, true))⟩, ⟨(some 13), (.faddr 1 (.tmp 3)), (some (10, true))⟩, ⟨(some 14), (.load false 1 (.tmp 13)), (some (10, true))⟩, ⟨(some 15), (.call 42 [(.tmp 12), (.tmp 14), (.con (.fn 43 []))]), (some (10, true))⟩, ⟨(some 16), (.pick (.tmp 10) (.tmp 15) (.con (.bool false))), none⟩, ⟨(some 4), (.mv (.tmp 16)), none⟩])
 .ret))
def ac18 : AFun := ⟨2, 17, ab18, [(.tmp 4)]⟩
theorem cf18 : compF Try.prog Try.f18 = some ac18 := by kernel_rfl
theorem cl18 : callable Try.prog 18 = true := by kernel_rfl
theorem fn18 : Try.prog.funcs[18]? = some Try.f18 := by kernel_rfl
/- chancel/chancelref10.Same -/
def ab19 : ACode := (.seq (.reg [⟨(some 2), (.box (.tmp 0)), none⟩, ⟨(some 3), (.box (.tmp 1)), none⟩, ⟨(some 4), (.mv (.con (.bool false))), none⟩])
 (.seq (.seq (.reg [⟨(some 12), (.faddr 0 (.tmp 2)), none⟩, ⟨(some 13), (.load false 1 (.tmp 12)), none⟩, ⟨(some 14), (.lenL (.tmp 13)), none⟩, ⟨(some 15), (.faddr 0 (.tmp 3)), none⟩, ⟨(some 16), (.load false 1 (.tmp 15)), none⟩, ⟨(some 17), (.lenL (.tmp 16)), none⟩, ⟨(some 18), (.bin .neq .plain (.tmp 14) (.tmp 17)), none⟩, ⟨(some 19), (.mv (.tmp 18)), none⟩, ⟨(some 20), (.faddr 1 (.tmp 2)), (some (19, false))⟩, ⟨(some 21), (.load false 1 (.tmp 20)), (some (19, false))⟩, ⟨(some 22), (.lenL (.tmp 21)), (some (19, false))⟩, ⟨(some 23), (.faddr 1 (.tmp 3)), (some (19, false))⟩, ⟨(some 24), (.load false 1 (.tmp 23)), (some (19, false))⟩, ⟨(some 25), (.lenL (.tmp 24)), (some (19, false))⟩, ⟨(some 26), (.bin .neq .plain (.tmp 22) (.tmp 25)), (some (19, false))⟩, ⟨(some 27), (.pick (.tmp 19) (.con (.bool true)) (.tmp 26)), none⟩])
 (.cond (.tmp 27)
 (.seq (.reg [⟨(some 4), (.mv (.con (.bool false))), none⟩])
 .ret)
 .skip))
 (.seq (.seq (.reg [⟨(some 5), (.mv (.con (.int .i64 0))), none⟩])
 (.block 0
 (.loop (.seq (.seq (.reg [⟨(some 28), (.mv (.tmp 5)), none⟩, ⟨(some 29), (.faddr 0 (.tmp 2)), none⟩, ⟨(some 30), (.load false 1 (.tmp 29)), none⟩, ⟨(some 31), (.lenL (.tmp 30)), none⟩, ⟨(some 32), (.bin .lss .plain (.tmp 28) (.tmp 31)), none⟩])
 (.cond (.tmp 32)
 .skip
 (.exit 0)))
 (.seq (.block 1
 (.seq (.dreg [⟨(some 35), (.faddr 0 (.tmp 2)), none⟩, ⟨(some 36), (.load false 1 (.tmp 35)), none⟩, ⟨(some 37), (.mv (.tmp 5)), none⟩, ⟨(some 38), (.iaddr 3 (.tmp 36) (.tmp 37)), none⟩, ⟨(some 39), (.load true 3 (.tmp 38)), none⟩, ⟨(some 40), (.faddr 0 (.tmp 3)), none⟩, ⟨(some 41), (.load false 1 (.tmp 40)), none⟩, ⟨(some 42), (.mv (.tmp 5)), none⟩, ⟨(some 43), (.iaddr 3 (.tmp 41) (.tmp 42)), none⟩, ⟨(some 44), (.load true 3 (.tmp 43)), none⟩, ⟨(some 6), (.alloc [(.str []), .nils, .nils]), none⟩, ⟨(some 7), (.alloc [(.str []), .nils, .nils]), none⟩, ⟨none, (.store 3 (.tmp 6) (.tmp 39)), none⟩, ⟨none, (.store 3 (.tmp 7) (.tmp 44)), none⟩] [12, 13] [0, 1, 0, 7, 15, 0, 32, 0, 224, 480, 0, 0, 3103, 8191] [10, 11])
 (.seq (.seq (.reg [⟨(some 45), (.faddr 0 (.tmp 6)), none⟩, ⟨(some 46), (.load false 1 (.tmp 45)), none⟩, ⟨(some 47), (.faddr 0 (.tmp 7)), none⟩, ⟨(some 48), (.load false 1 (.tmp 47)), none⟩, ⟨(some 49), (.bin .neq .plain (.tmp 46) (.tmp 48)), none⟩, ⟨(some 50), (.mv (.tmp 49)), none⟩, ⟨(some 51), (.faddr 1 (.tmp 6)), (some (50, false))⟩, ⟨(some 52), (.load false 1 (.tmp 51)), (some (50, false))⟩, ⟨(some 53), (.faddr 1 (.tmp 7)), (some (50, false))⟩, ⟨(some 54), (.load false 1 (.tmp 53)), (some (50, false))⟩, ⟨(some 55), (.call 44 [(.tmp 52), (.tmp 54)]), (some (50, false))⟩, ⟨(some 56), (.un .not (.tmp 55)), (some (50, false))⟩, ⟨(some 57), (.pick (.tmp 50) (.con (.bool true)) (.tmp 56)), none⟩, ⟨(some 58), (.mv (.tmp 57)), none⟩, ⟨(some 59), (.faddr 2 (.tmp 6)), (some (58, false))⟩, ⟨(some 60), (.load false 1 (.tmp 59)), (some (58, false))⟩, ⟨(some 61), (.lenL (.tmp 60)), (some (58, false))⟩, ⟨(some 62), (.faddr 2 (.tmp 7)), (some (58, false))⟩, ⟨(some 63), (.load false 1 (.tmp 62)), (some (58, false))⟩, ⟨(some 64), (.lenL (.tmp 63)), (some (58, false))⟩, ⟨(some 65), (.bin .neq .plain (.tmp 61) (.tmp 64)), (some (58, false))⟩, ⟨(some 66), (.pick (.tmp 58) (.con (.bool true)) (.tmp 65)), none⟩])
 (.cond (.tmp 66)
 (.seq (.reg [⟨(some 4), (.mv (.con (.bool false))), none⟩])
 .ret)
 .skip))
 (.seq (.reg [⟨(some 8), (.mv (.con (.int .i64 0))), none⟩])
 (.block 2
 (.loop (.seq (.seq (.reg [⟨(some 67), (.mv (.tmp 8)), none⟩, ⟨(some 68), (.faddr 2 (.tmp 6)), none⟩, ⟨(some 69), (.load false 1 (.tmp 68)), none⟩, ⟨(some 70), (.lenL (.tmp 69)), none⟩, ⟨(some 71), (.bin .lss .plain (.tmp 67) (.tmp 70)), none⟩])
 (.cond (.tmp 71)
 .skip
 (.exit 2)))
 (.seq (.block 3
 (.seq (.dreg [⟨(some 74), (.faddr 2 (.tmp 6)), none⟩, ⟨(some 75), (.load false 1 (.tmp 74)), none⟩, ⟨(some 76), (.mv (.tmp 8)), none⟩, ⟨(some 77), (.iaddr 4 (.tmp 75) (.tmp 76)), none⟩, ⟨(some 78), (.load true 4 (.tmp 77)), none⟩, ⟨(some 79), (.faddr 2 (.tmp 7)), none⟩, ⟨(some 80), (.load false 1 (.tmp 79)), none⟩, ⟨(some 81), (.mv (.tmp 8)), none⟩, ⟨(some 82), (.iaddr 4 (.tmp 80) (.tmp 81)), none⟩, ⟨(some 83), (.load true 4 (.tmp 82)), none⟩, ⟨(some 84), (.bin .neq (.agg [.s, .i, .i, .s]) (.tmp 78) (.tmp 83)), none⟩] [] [0, 1, 0, 7, 15, 0, 32, 0, 224, 480, 1023] [])
 (.cond (.tmp 84)
 (.seq (.reg [⟨(some 4), (.mv (.con (.bool false))), none⟩])
 .ret)
 .skip)))
 (.reg [⟨(some 72), (.mv (.tmp 8)), none⟩, ⟨(some 73), (.bin .add .plain (.tmp 72) (.con (.int .i64 1))), none⟩, ⟨(some 8), (.mv (.tmp 73)), none⟩])))))))))
 (.reg [⟨(some 33), (.mv (.tmp 5)), none⟩, ⟨(some 34), (.bin .add .plain (.tmp 33) (.con (.int .i64 1))), none⟩, ⟨(some 5), (.mv (.tmp 34)), none⟩]))))))
 (.seq (.seq (.reg [⟨(some 9), (.mv (.con (.int .i64 0))), none⟩])
 (.block 4
 (.loop (.seq (.seq (.reg [⟨(some 85), (.mv (.tmp 9)), none⟩, ⟨(some 86), (.faddr 1 (.tmp 2)), none⟩, ⟨(some 87), (.load false 1 (.tmp 86)), none⟩, ⟨(some 88), (.lenL (.tmp 87)), none⟩, ⟨(some 89), (.bin .lss .plain (.tmp 85) (.tmp 88)), none⟩])
 (.cond (.tmp 89)
 .skip
 (.exit 4)))
 (.seq (.block 5
 (.seq (.dreg [⟨(some 92), (.faddr 1 (.tmp 2)), none⟩, ⟨(some 93), (.load false 1 (.tmp 92)), none⟩, ⟨(some 94), (.mv (.tmp 9)), none⟩, ⟨(some 95), (.iaddr 3 (.tmp 93) (.tmp 94)), none⟩, ⟨(some 96), (.load true 3 (.tmp 95)), none⟩, ⟨(some 97), (.faddr 1 (.tmp 3)), none⟩, ⟨(some 98), (.load false 1 (.tmp 97)), none⟩, ⟨(some 99), (.mv (.tmp 9)), none⟩, ⟨(some 100), (.iaddr 3 (.tmp 98) (.tmp 99)), none⟩, ⟨(some 101), (.load true 3 (.tmp 100)), none⟩, ⟨(some 10), (.alloc [(.str []), .nils, .nils]), none⟩, ⟨(some 11), (.alloc [(.str []), .nils, .nils]), none⟩, ⟨none, (.store 3 (.tmp 10) (.tmp 96)), none⟩, ⟨none, (.store 3 (.tmp 11) (.tmp 101)), none⟩] [12, 13] [0, 1, 0, 7, 15, 0, 32, 0, 224, 480, 0, 0, 3103, 8191] [10, 11])
 (.seq (.reg [⟨(some 102), (.faddr 0 (.tmp 10)), none⟩, ⟨(some 103), (.load false 1 (.tmp 102)), none⟩, ⟨(some 104), (.faddr 0 (.tmp 11)), none⟩, ⟨(some 105), (.load false 1 (.tmp 104)), none⟩, ⟨(some 106), (.bin .neq .plain (.tmp 103) (.tmp 105)), none⟩, ⟨(some 107), (.mv (.tmp 106)), none⟩, ⟨(some 108), (.faddr 1 (.tmp 10)), (some (107, false))⟩, ⟨(some 109), (.load false 1 (.tmp 108)), (some (107, false))⟩, ⟨(some 110), (.faddr 1 (.tmp 11)), (some (107, false))⟩, ⟨(some 111), (.load false 1 (.tmp 110)), (some (107, false))⟩, ⟨(some 112), (.call 44 [(.tmp 109), (.tmp 111)]), (some (107, false))⟩, ⟨(some 113), (.un .not (.tmp 112)), (some (107, false))⟩, ⟨(some 114), (.pick (.tmp 107) (.con (.bool true)) (.tmp 113)), none⟩, ⟨(some 115), (.mv (.tmp 114)), none⟩, ⟨(some 116), (.faddr 2 (.tmp 10)), (some (115, false))⟩, ⟨(some 117), (.load false 1 (.tmp 116)), (some (115, false))⟩, ⟨(some 118), (.faddr 2 (.tmp 11)), (some (115, false))⟩, ⟨(some 119), (.load false 1 (.tmp 118)), (some (115, false))⟩, ⟨(some 120), (.call 44 [(.tmp 117), (.tmp 119)]), (some (115, false))⟩, ⟨(some 121), (.un .not (.tmp 120)), (some (115, false))⟩, ⟨(some 122), (.pick (.tmp 115) (.con (.bool true)) (.tmp 121)), none⟩])
 (.cond (.tmp 122)
 (.seq (.reg [⟨(some 4), (.mv (.con (.bool false))), none⟩])
 .ret)
 .skip))))
 (.reg [⟨(some 90), (.mv (.tmp 9)), none⟩, ⟨(some 91), (.bin .add .plain (.tmp 90) (.con (.int .i64 1))), none⟩, ⟨(some 9), (.mv (.tmp 91)), none⟩]))))))
 (.seq (.reg [⟨(some 4), (.mv (.con (.bool true))), none⟩])
 .ret)))))
def ac19 : AFun := ⟨2, 123, ab19, [(.tmp 4)]⟩
theorem cf19 : compF Try.prog Try.f19 = some ac19 := by kernel_rfl
theorem cl19 : callable Try.prog 19 = true := by kernel_rfl
theorem fn19 : Try.prog.funcs[19]? = some Try.f19 := by kernel_rfl
/- chancel/schema.Kind -/
def ab20 : ACode := (.seq (.reg [⟨(some 2), (.box (.tmp 0)), none⟩, ⟨(some 4), (.alloc [(.str []), .nils, .nils]), none⟩, ⟨(some 5), (.mv (.con (.bool false))), none⟩])
 (.seq (.seq (.reg [⟨(some 8), (.faddr 0 (.tmp 2)), none⟩, ⟨(some 9), (.load false 1 (.tmp 8)), none⟩, ⟨(some 10), (.lenL (.tmp 9)), none⟩, ⟨(some 11), (.mv (.con (.int .i64 0))), none⟩])
 (.block 0
 (.loop (.seq (.reg [⟨(some 12), (.bin .lss .plain (.tmp 11) (.tmp 10)), none⟩])
 (.seq (.cond (.tmp 12)
 .skip
 (.exit 0))
 (.seq (.block 1
 (.seq (.reg [⟨(some 13), (.iaddr 3 (.tmp 9) (.tmp 11)), none⟩, ⟨(some 14), (.load true 3 (.tmp 13)), none⟩, ⟨(some 7), (.alloc [(.str []), .nils, .nils]), none⟩, ⟨none, (.store 3 (.tmp 7) (.tmp 14)), none⟩])
 (.seq (.reg [⟨(some 15), (.faddr 0 (.tmp 7)), none⟩, ⟨(some 16), (.load false 1 (.tmp 15)), none⟩, ⟨(some 17), (.mv (.tmp 1)), none⟩, ⟨(some 18), (.bin .eql .plain (.tmp 16) (.tmp 17)), none⟩])
 (.cond (.tmp 18)
 (.seq (.dreg [⟨(some 19), (.faddr 1 (.tmp 7)), none⟩, ⟨(some 20), (.load false 1 (.tmp 19)), none⟩, ⟨(some 21), (.call 45 [(.tmp 20)]), none⟩, ⟨(some 22), (.faddr 2 (.tmp 7)), none⟩, ⟨(some 23), (.load false 1 (.tmp 22)), none⟩, ⟨(some 24), (.call 46 [(.tmp 23)]), none⟩, ⟨(some 25), (.faddr 1 (.tmp 7)), none⟩, ⟨none, (.store 1 (.tmp 25) (.tmp 21)), none⟩, ⟨(some 26), (.faddr 2 (.tmp 7)), none⟩, ⟨none, (.store 1 (.tmp 26) (.tmp 24)), none⟩] [2, 5, 7, 9] [0, 1, 3, 0, 8, 31, 31, 127, 255, 511] [])
 (.seq (.reg [⟨(some 27), (.load true 3 (.tmp 7)), none⟩, ⟨none, (.store 3 (.tmp 4) (.tmp 27)), none⟩, ⟨(some 5), (.mv (.con (.bool true))), none⟩])
 .ret))
 .skip))))
 (.reg [⟨(some 28), (.bin .add .plain (.tmp 11) (.con (.int .i64 1))), none⟩, ⟨(some 11), (.mv (.tmp 28)), none⟩])))))))
 (.seq (.reg [⟨(some 29), (.build [(.str []), .nils, .nils] []), none⟩, ⟨none, (.store 3 (.tmp 4) (.tmp 29)), none⟩, ⟨(some 5), (.mv (.con (.bool false))), none⟩])
 .ret)))
def ac20 : AFun := ⟨2, 30, ab20, [(.cell 4 true 3), (.tmp 5)]⟩
theorem cf20 : compF Try.prog Try.f20 = some ac20 := by kernel_rfl
theorem cl20 : callable Try.prog 20 = true := by kernel_rfl
theorem fn20 : Try.prog.funcs[20]? = some Try.f20 := by kernel_rfl
/- chancel/chancelref10.Kind -/
def ab21 : ACode := (.seq (.reg [⟨(some 2), (.box (.tmp 0)), none⟩, ⟨(some 4), (.alloc [(.str []), .nils, .nils]), none⟩, ⟨(some 5), (.mv (.con (.bool false))), none⟩])
 (.seq (.seq (.reg [⟨(some 6), (.mv (.con (.int .i64 0))), none⟩])
 (.block 0
 (.loop (.seq (.seq (.reg [⟨(some 7), (.mv (.tmp 6)), none⟩, ⟨(some 8), (.faddr 0 (.tmp 2)), none⟩, ⟨(some 9), (.load false 1 (.tmp 8)), none⟩, ⟨(some 10), (.lenL (.tmp 9)), none⟩, ⟨(some 11), (.bin .lss .plain (.tmp 7) (.tmp 10)), none⟩])
 (.cond (.tmp 11)
 .skip
 (.exit 0)))
 (.seq (.block 1
 (.seq (.reg [⟨(some 14), (.faddr 0 (.tmp 2)), none⟩, ⟨(some 15), (.load false 1 (.tmp 14)), none⟩, ⟨(some 16), (.mv (.tmp 6)), none⟩, ⟨(some 17), (.iaddr 3 (.tmp 15) (.tmp 16)), none⟩, ⟨(some 18), (.faddr 0 (.tmp 17)), none⟩, ⟨(some 19), (.load false 1 (.tmp 18)), none⟩, ⟨(some 20), (.mv (.tmp 1)), none⟩, ⟨(some 21), (.bin .eql .plain (.tmp 19) (.tmp 20)), none⟩])
 (.cond (.tmp 21)
 (.seq (.reg [⟨(some 22), (.faddr 0 (.tmp 2)), none⟩, ⟨(some 23), (.load false 1 (.tmp 22)), none⟩, ⟨(some 24), (.mv (.tmp 6)), none⟩, ⟨(some 25), (.iaddr 3 (.tmp 23) (.tmp 24)), none⟩, ⟨(some 26), (.load true 3 (.tmp 25)), none⟩, ⟨none, (.store 3 (.tmp 4) (.tmp 26)), none⟩, ⟨(some 5), (.mv (.con (.bool true))), none⟩])
 .ret)
 .skip)))
 (.reg [⟨(some 12), (.mv (.tmp 6)), none⟩, ⟨(some 13), (.bin .add .plain (.tmp 12) (.con (.int .i64 1))), none⟩, ⟨(some 6), (.mv (.tmp 13)), none⟩]))))))
 (.seq (.reg [⟨(some 27), (.build [(.str []), .nils, .nils] []), none⟩, ⟨none, (.store 3 (.tmp 4) (.tmp 27)), none⟩, ⟨(some 5), (.mv (.con (.bool false))), none⟩])
 .ret)))
def ac21 : AFun := ⟨2, 28, ab21, [(.cell 4 true 3), (.tmp 5)]⟩
theorem cf21 : compF Try.prog Try.f21 = some ac21 := by kernel_rfl
theorem cl21 : callable Try.prog 21 = true := by kernel_rfl
theorem fn21 : Try.prog.funcs[21]? = some Try.f21 := by kernel_rfl
/- chancel/schema.Action -/
def ab22 : ACode := (.seq (.reg [⟨(some 2), (.box (.tmp 0)), none⟩, ⟨(some 4), (.alloc [(.str []), .nils, .nils]), none⟩, ⟨(some 5), (.mv (.con (.bool false))), none⟩])
 (.seq (.seq (.reg [⟨(some 8), (.faddr 1 (.tmp 2)), none⟩, ⟨(some 9), (.load false 1 (.tmp 8)), none⟩, ⟨(some 10), (.lenL (.tmp 9)), none⟩, ⟨(some 11), (.mv (.con (.int .i64 0))), none⟩])
 (.block 0
 (.loop (.seq (.reg [⟨(some 12), (.bin .lss .plain (.tmp 11) (.tmp 10)), none⟩])
 (.seq (.cond (.tmp 12)
 .skip
 (.exit 0))
 (.seq (.block 1
 (.seq (.reg [⟨(some 13), (.iaddr 3 (.tmp 9) (.tmp 11)), none⟩, ⟨(some 14), (.load true 3 (.tmp 13)), none⟩, ⟨(some 7), (.alloc [(.str []), .nils, .nils]), none⟩, ⟨none, (.store 3 (.tmp 7) (.tmp 14)), none⟩])
 (.seq (.reg [⟨(some 15), (.faddr 0 (.tmp 7)), none⟩, ⟨(some 16), (.load false 1 (.tmp 15)), none⟩, ⟨(some 17), (.mv (.tmp 1)), none⟩, ⟨(some 18), (.bin .eql .plain (.tmp 16) (.tmp 17)), none⟩])
 (.cond (.tmp 18)
 (.seq (.dreg [⟨(some 19), (.faddr 1 (.tmp 7)), none⟩, ⟨(some 20), (.load false 1 (.tmp 19)), none⟩, ⟨(some 21), (.call 45 [(.tmp 20)]), none⟩, ⟨(some 22), (.faddr 2 (.tmp 7)), none⟩, ⟨(some 23), (.load false 1 (.tmp 22)), none⟩, ⟨(some 24), (.call 45 [(.tmp 23)]), none⟩, ⟨(some 25), (.faddr 1 (.tmp 7)), none⟩, ⟨none, (.store 1 (.tmp 25) (.tmp 21)), none⟩, ⟨(some 26), (.faddr 2 (.tmp 7)), none⟩, ⟨none, (.store 1 (.tmp 26) (.tmp 24)), none⟩] [2, 5, 7, 9] [0, 1, 3, 0, 8, 31, 31, 127, 255, 511] [])
 (.seq (.reg [⟨(some 27), (.load true 3 (.tmp 7)), none⟩, ⟨none, (.store 3 (.tmp 4) (.tmp 27)), none⟩, ⟨(some 5), (.mv (.con (.bool true))), none⟩])
 .ret))
 .skip))))
 (.reg [⟨(some 28), (.bin .add .plain (.tmp 11) (.con (.int .i64 1))), none⟩, ⟨(some 11), (.mv (.tmp 28)), none⟩])))))))
 (.seq (.reg [⟨(some 29), (.build [(.str []), .nils, .nils] []), none⟩, ⟨none, (.store 3 (.tmp 4) (.tmp 29)), none⟩, ⟨(some 5), (.mv (.con (.bool false))), none⟩])
 .ret)))
def ac22 : AFun := ⟨2, 30, ab22, [(.cell 4 true 3), (.tmp 5)]⟩
theorem cf22 : compF Try.prog Try.f22 = some ac22 := by kernel_rfl
theorem cl22 : callable Try.prog 22 = true := by kernel_rfl
theorem fn22 : Try.prog.funcs[22]? = some Try.f22 := by kernel_rfl
/- chancel/schema.Field -/
def ab23 : ACode := (.seq (.reg [⟨(some 2), (.box (.tmp 0)), none⟩, ⟨(some 4), (.alloc [(.int .i64 0), (.int .i64 0), (.str [])]), none⟩, ⟨(some 5), (.mv (.con (.bool false))), none⟩])
 (.seq (.seq (.reg [⟨(some 8), (.faddr 2 (.tmp 2)), none⟩, ⟨(some 9), (.load false 1 (.tmp 8)), none⟩, ⟨(some 10), (.lenL (.tmp 9)), none⟩, ⟨(some 11), (.mv (.con (.int .i64 0))), none⟩])
 (.block 0
 (.loop (.seq (.reg [⟨(some 12), (.bin .lss .plain (.tmp 11) (.tmp 10)), none⟩])
 (.seq (.cond (.tmp 12)
 .skip
 (.exit 0))
 (.seq (.block 1
 (.seq (.reg [⟨(some 13), (.iaddr 4 (.tmp 9) (.tmp 11)), none⟩, ⟨(some 14), (.load true 4 (.tmp 13)), none⟩, ⟨(some 7), (.alloc [(.str []), (.int .i64 0), (.int .i64 0), (.str [])]), none⟩, ⟨none, (.store 4 (.tmp 7) (.tmp 14)), none⟩])
 (.seq (.reg [⟨(some 15), (.faddr 0 (.tmp 7)), none⟩, ⟨(some 16), (.load false 1 (.tmp 15)), none⟩, ⟨(some 17), (.mv (.tmp 1)), none⟩, ⟨(some 18), (.bin .eql .plain (.tmp 16) (.tmp 17)), none⟩])
 (.cond (.tmp 18)
 (.seq (.reg [⟨(some 19), (.faddr 1 (.tmp 7)), none⟩, ⟨(some 20), (.load true 3 (.tmp 19)), none⟩, ⟨none, (.store 3 (.tmp 4) (.tmp 20)), none⟩, ⟨(some 5), (.mv (.con (.bool true))), none⟩])
 .ret)
 .skip))))
 (.reg [⟨(some 21), (.bin .add .plain (.tmp 11) (.con (.int .i64 1))), none⟩, ⟨(some 11), (.mv (.tmp 21)), none⟩])))))))
 (.seq (.reg [⟨(some 22), (.build [(.int .i64 0), (.int .i64 0), (.str [])] []), none⟩, ⟨none, (.store 3 (.tmp 4) (.tmp 22)), none⟩, ⟨(some 5), (.mv (.con (.bool false))), none⟩])
 .ret)))
def ac23 : AFun := ⟨2, 23, ab23, [(.cell 4 true 3), (.tmp 5)]⟩
theorem cf23 : compF Try.prog Try.f23 = some ac23 := by kernel_rfl
theorem cl23 : callable Try.prog 23 = true := by kernel_rfl
theorem fn23 : Try.prog.funcs[23]? = some Try.f23 := by kernel_rfl
/- chancel/chancelref10.Field -/
def ab24 : ACode := (.seq (.reg [⟨(some 2), (.box (.tmp 0)), none⟩, ⟨(some 4), (.alloc [(.int .i64 0), (.int .i64 0), (.str [])]), none⟩, ⟨(some 5), (.mv (.con (.bool false))), none⟩])
 (.seq (.seq (.reg [⟨(some 6), (.mv (.con (.int .i64 0))), none⟩])
 (.block 0
 (.loop (.seq (.seq (.reg [⟨(some 7), (.mv (.tmp 6)), none⟩, ⟨(some 8), (.faddr 2 (.tmp 2)), none⟩, ⟨(some 9), (.load false 1 (.tmp 8)), none⟩, ⟨(some 10), (.lenL (.tmp 9)), none⟩, ⟨(some 11), (.bin .lss .plain (.tmp 7) (.tmp 10)), none⟩])
 (.cond (.tmp 11)
 .skip
 (.exit 0)))
 (.seq (.block 1
 (.seq (.reg [⟨(some 14), (.faddr 2 (.tmp 2)), none⟩, ⟨(some 15), (.load false 1 (.tmp 14)), none⟩, ⟨(some 16), (.mv (.tmp 6)), none⟩, ⟨(some 17), (.iaddr 4 (.tmp 15) (.tmp 16)), none⟩, ⟨(some 18), (.faddr 0 (.tmp 17)), none⟩, ⟨(some 19), (.load false 1 (.tmp 18)), none⟩, ⟨(some 20), (.mv (.tmp 1)), none⟩, ⟨(some 21), (.bin .eql .plain (.tmp 19) (.tmp 20)), none⟩])
 (.cond (.tmp 21)
 (.seq (.reg [⟨(some 22), (.faddr 2 (.tmp 2)), none⟩, ⟨(some 23), (.load false 1 (.tmp 22)), none⟩, ⟨(some 24), (.mv (.tmp 6)), none⟩, ⟨(some 25), (.iaddr 4 (.tmp 23) (.tmp 24)), none⟩, ⟨(some 26), (.faddr 1 (.tmp 25)), none⟩, ⟨(some 27), (.load true 3 (.tmp 26)), none⟩, ⟨none, (.store 3 (.tmp 4) (.tmp 27)), none⟩, ⟨(some 5), (.mv (.con (.bool true))), none⟩])
 .ret)
 .skip)))
 (.reg [⟨(some 12), (.mv (.tmp 6)), none⟩, ⟨(some 13), (.bin .add .plain (.tmp 12) (.con (.int .i64 1))), none⟩, ⟨(some 6), (.mv (.tmp 13)), none⟩]))))))
 (.seq (.reg [⟨(some 28), (.build [(.int .i64 0), (.int .i64 0), (.str [])] []), none⟩, ⟨none, (.store 3 (.tmp 4) (.tmp 28)), none⟩, ⟨(some 5), (.mv (.con (.bool false))), none⟩])
 .ret)))
def ac24 : AFun := ⟨2, 29, ab24, [(.cell 4 true 3), (.tmp 5)]⟩
theorem cf24 : compF Try.prog Try.f24 = some ac24 := by kernel_rfl
theorem cl24 : callable Try.prog 24 = true := by kernel_rfl
theorem fn24 : Try.prog.funcs[24]? = some Try.f24 := by kernel_rfl
end Go.Proofs.Ytaokfpjjaejjgaa.Va
