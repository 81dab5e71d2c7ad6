/- Functions of the program as resolved code (printed by gen.py from the kernel's own value). Conditions: none. -/
import Derived.Test.YthobpdfchhihnaaProg
import Derived.Test.YthobpdfchhihnaaVaF
import Derived.KernelRfl
set_option maxRecDepth 100000
set_option maxHeartbeats 4000000
set_option linter.all false
namespace Go.Proofs.Ythobpdfchhihnaa.Va
open Go.Proofs
/- chancel/chancelref7.wrong -/
def ab25 : ACode := (.seq (.reg [⟨(some 1), (.box (.tmp 0)), none⟩, ⟨(some 2), (.mv (.con (.int .i64 0))), none⟩])
 (.seq (.block 0
 (.seq (.reg [⟨(some 4), (.faddr 2 (.tmp 1)), none⟩, ⟨(some 5), (.load false 1 (.tmp 4)), none⟩, ⟨(some 6), (.bin .lss .plain (.tmp 5) (.con (.int .i64 1))), none⟩, ⟨(some 7), (.mv (.tmp 6)), none⟩, ⟨(some 8), (.faddr 2 (.tmp 1)), (some (7, false))⟩, ⟨(some 9), (.load false 1 (.tmp 8)), (some (7, false))⟩, ⟨(some 10), (.bin .gtr .plain (.tmp 9) (.con (.int .i64 5))), (some (7, false))⟩, ⟨(some 11), (.pick (.tmp 7) (.con (.bool true)) (.tmp 10)), none⟩, ⟨(some 3), (.mv (.tmp 11)), none⟩])
 (.cond (.tmp 3)
 (.seq (.reg [⟨(some 2), (.mv (.con (.int .i64 3))), none⟩])
 .ret)
 (.seq (.reg [⟨(some 13), (.faddr 0 (.tmp 1)), none⟩, ⟨(some 14), (.load false 1 (.tmp 13)), none⟩, ⟨(some 15), (.bin .lss .plain (.tmp 14) (.con (.int .i64 1))), none⟩, ⟨(some 16), (.mv (.tmp 15)), none⟩, ⟨(some 17), (.faddr 0 (.tmp 1)), (some (16, false))⟩, ⟨(some 18), (.load false 1 (.tmp 17)), (some (16, false))⟩, ⟨(some 19), (.bin .gtr .plain (.tmp 18) (.con (.int .i64 8))), (some (16, false))⟩, ⟨(some 20), (.pick (.tmp 16) (.con (.bool true)) (.tmp 19)), none⟩, ⟨(some 21), (.mv (.tmp 20)), none⟩, ⟨(some 22), (.faddr 1 (.tmp 1)), (some (21, false))⟩, ⟨(some 23), (.load false 1 (.tmp 22)), (some (21, false))⟩, ⟨(some 24), (.bin .lss .plain (.tmp 23) (.con (.int .i64 1))), (some (21, false))⟩, ⟨(some 25), (.pick (.tmp 21) (.con (.bool true)) (.tmp 24)), none⟩, ⟨(some 12), (.mv (.tmp 25)), none⟩])
 (.cond (.tmp 12)
 (.seq (.reg [⟨(some 2), (.mv (.con (.int .i64 1))), none⟩])
 .ret)
 (.seq (.reg [⟨(some 27), (.faddr 3 (.tmp 1)), none⟩, ⟨(some 28), (.load false 1 (.tmp 27)), none⟩, ⟨(some 29), (.lenS (.tmp 28)), none⟩, ⟨(some 30), (.bin .gtr .plain (.tmp 29) (.con (.int .i64 12))), none⟩, ⟨(some 31), (.mv (.tmp 30)), none⟩, ⟨(some 32), (.faddr 4 (.tmp 1)), (some (31, false))⟩, ⟨(some 33), (.load false 1 (.tmp 32)), (some (31, false))⟩, ⟨(some 34), (.lenS (.tmp 33)), (some (31, false))⟩, ⟨(some 35), (.bin .gtr .plain (.tmp 34) (.con (.int .i64 600))), (some (31, false))⟩, ⟨(some 36), (.pick (.tmp 31) (.con (.bool true)) (.tmp 35)), none⟩, ⟨(some 26), (.mv (.tmp 36)), none⟩])
 (.cond (.tmp 26)
 (.seq (.reg [⟨(some 2), (.mv (.con (.int .i64 5))), none⟩])
 .ret)
 .skip)))))))
 (.seq (.reg [⟨(some 2), (.mv (.con (.int .i64 0))), none⟩])
 .ret)))
def ac25 : AFun := ⟨1, 37, ab25, [(.tmp 2)]⟩
theorem cf25 : compF Try.prog Try.f25 = some ac25 := by kernel_rfl
theorem cl25 : callable Try.prog 25 = true := by kernel_rfl
theorem fn25 : Try.prog.funcs[25]? = some Try.f25 := by kernel_rfl
/- chancel/chancelref7.num -/
def ab26 : ACode := (.seq (.reg [⟨(some 4), (.mv (.con .nils)), none⟩])
 (.seq (.seq (.reg [⟨(some 5), (.mv (.con (.int .i64 7))), none⟩])
 (.block 0
 (.loop (.seq (.seq (.reg [⟨(some 6), (.mv (.tmp 5)), none⟩, ⟨(some 7), (.bin .geq .plain (.tmp 6) (.con (.int .i64 0))), none⟩])
 (.cond (.tmp 7)
 .skip
 (.exit 0)))
 (.seq (.block 1
 (.reg [⟨(some 10), (.mv (.tmp 0)), none⟩, ⟨(some 11), (.mv (.tmp 1)), none⟩, ⟨(some 12), (.cvInt .u64 (.tmp 11)), none⟩, ⟨(some 13), (.mv (.tmp 5)), none⟩, ⟨(some 14), (.bin .mul .plain (.con (.int .i64 8)) (.tmp 13)), none⟩, ⟨(some 15), (.bin .shr .plain (.tmp 12) (.tmp 14)), none⟩, ⟨(some 16), (.cvInt .u8 (.tmp 15)), none⟩, ⟨(some 17), (.bslice 1 1 [(.int .u8 0)] [(0, 1, (.tmp 16))]), none⟩, ⟨(some 18), (.append 1 1 (.tmp 10) (.tmp 17)), none⟩, ⟨(some 0), (.mv (.tmp 18)), none⟩]))
 (.reg [⟨(some 8), (.mv (.tmp 5)), none⟩, ⟨(some 9), (.bin .sub .plain (.tmp 8) (.con (.int .i64 1))), none⟩, ⟨(some 5), (.mv (.tmp 9)), none⟩]))))))
 (.seq (.reg [⟨(some 19), (.mv (.tmp 0)), none⟩, ⟨(some 4), (.mv (.tmp 19)), none⟩])
 .ret)))
def ac26 : AFun := ⟨2, 20, ab26, [(.tmp 4)]⟩
theorem cf26 : compF Try.prog Try.f26 = some ac26 := by kernel_rfl
theorem cl26 : callable Try.prog 26 = true := by kernel_rfl
theorem fn26 : Try.prog.funcs[26]? = some Try.f26 := by kernel_rfl
/- chancel/chancelref7.bytes -/
def ab27 : ACode := (.seq (.reg [⟨(some 4), (.mv (.con .nils)), none⟩])
 (.seq (.reg [⟨(some 5), (.mv (.tmp 0)), none⟩, ⟨(some 6), (.mv (.tmp 1)), none⟩, ⟨(some 7), (.lenL (.tmp 6)), none⟩, ⟨(some 8), (.bin .shr .plain (.tmp 7) (.con (.int .u64 8))), none⟩, ⟨(some 9), (.cvInt .u8 (.tmp 8)), none⟩, ⟨(some 10), (.mv (.tmp 1)), none⟩, ⟨(some 11), (.lenL (.tmp 10)), none⟩, ⟨(some 12), (.cvInt .u8 (.tmp 11)), none⟩, ⟨(some 13), (.bslice 1 2 [(.int .u8 0)] [(0, 1, (.tmp 9)), (1, 1, (.tmp 12))]), none⟩, ⟨(some 14), (.append 1 1 (.tmp 5) (.tmp 13)), none⟩, ⟨(some 15), (.mv (.tmp 1)), none⟩, ⟨(some 16), (.append 1 1 (.tmp 14) (.tmp 15)), none⟩, ⟨(some 4), (.mv (.tmp 16)), none⟩])
 .ret))
def ac27 : AFun := ⟨2, 17, ab27, [(.tmp 4)]⟩
theorem cf27 : compF Try.prog Try.f27 = some ac27 := by kernel_rfl
theorem cl27 : callable Try.prog 27 = true := by kernel_rfl
theorem fn27 : Try.prog.funcs[27]? = some Try.f27 := by kernel_rfl
/- (*chancel/pack.reader).byte -/
def ab28 : ACode := (.seq (.reg [⟨(some 2), (.mv (.con (.int .i64 0))), none⟩])
 (.seq (.seq (.reg [⟨(some 5), (.mv (.tmp 0)), none⟩, ⟨(some 6), (.call 37 [(.tmp 5), (.con (.int .i64 1))]), none⟩, ⟨(some 7), (.lenL (.tmp 6)), none⟩, ⟨(some 8), (.mv (.con (.int .i64 0))), none⟩])
 (.block 0
 (.loop (.seq (.reg [⟨(some 9), (.bin .lss .plain (.tmp 8) (.tmp 7)), none⟩])
 (.seq (.cond (.tmp 9)
 .skip
 (.exit 0))
 (.seq (.block 1
 (.seq (.reg [⟨(some 10), (.iaddr 1 (.tmp 6) (.tmp 8)), none⟩, ⟨(some 11), (.load false 1 (.tmp 10)), none⟩, ⟨(some 4), (.mv (.tmp 11)), none⟩])
 (.seq (.reg [⟨(some 12), (.mv (.tmp 4)), none⟩, ⟨(some 13), (.cvInt .i64 (.tmp 12)), none⟩, ⟨(some 2), (.mv (.tmp 13)), none⟩])
 .ret)))
 (.reg [⟨(some 14), (.bin .add .plain (.tmp 8) (.con (.int .i64 1))), none⟩, ⟨(some 8), (.mv (.tmp 14)), none⟩])))))))
 (.seq (.reg [⟨(some 2), (.mv (.con (.int .i64 0))), none⟩])
 .ret)))
def ac28 : AFun := ⟨1, 15, ab28, [(.tmp 2)]⟩
theorem cf28 : compF Try.prog Try.f28 = some ac28 := by kernel_rfl
theorem cl28 : callable Try.prog 28 = true := by kernel_rfl
theorem fn28 : Try.prog.funcs[28]? = some Try.f28 := by kernel_rfl
/- (*chancel/pack.reader).int -/
def ab29 : ACode := (.seq (.reg [⟨(some 2), (.mv (.con (.int .i64 0))), none⟩])
 (.seq (.reg [⟨(some 3), (.mv (.con (.int .i64 0))), none⟩])
 (.seq (.seq (.reg [⟨(some 6), (.mv (.tmp 0)), none⟩, ⟨(some 7), (.call 37 [(.tmp 6), (.con (.int .i64 8))]), none⟩, ⟨(some 8), (.lenL (.tmp 7)), none⟩, ⟨(some 9), (.mv (.con (.int .i64 0))), none⟩])
 (.block 0
 (.loop (.seq (.reg [⟨(some 10), (.bin .lss .plain (.tmp 9) (.tmp 8)), none⟩])
 (.seq (.cond (.tmp 10)
 .skip
 (.exit 0))
 (.seq (.block 1
 (.seq (.reg [⟨(some 11), (.iaddr 1 (.tmp 7) (.tmp 9)), none⟩, ⟨(some 12), (.load false 1 (.tmp 11)), none⟩, ⟨(some 5), (.mv (.tmp 12)), none⟩])
 (.reg [⟨(some 13), (.mv (.tmp 3)), none⟩, ⟨(some 14), (.bin .shl .plain (.tmp 13) (.con (.int .u64 8))), none⟩, ⟨(some 15), (.mv (.tmp 5)), none⟩, ⟨(some 16), (.cvInt .i64 (.tmp 15)), none⟩, ⟨(some 17), (.bin .or .plain (.tmp 14) (.tmp 16)), none⟩, ⟨(some 3), (.mv (.tmp 17)), none⟩])))
 (.reg [⟨(some 18), (.bin .add .plain (.tmp 9) (.con (.int .i64 1))), none⟩, ⟨(some 9), (.mv (.tmp 18)), none⟩])))))))
 (.seq (.reg [⟨(some 19), (.mv (.tmp 3)), none⟩, ⟨(some 2), (.mv (.tmp 19)), none⟩])
 .ret))))
def ac29 : AFun := ⟨1, 20, ab29, [(.tmp 2)]⟩
theorem cf29 : compF Try.prog Try.f29 = some ac29 := by kernel_rfl
theorem cl29 : callable Try.prog 29 = true := by kernel_rfl
theorem fn29 : Try.prog.funcs[29]? = some Try.f29 := by kernel_rfl
/- (*chancel/pack.reader).bytes -/
def ab30 : ACode := (.seq (.reg [⟨(some 2), (.mv (.con .nils)), none⟩])
 (.seq (.reg [⟨(some 4), (.mv (.tmp 0)), none⟩, ⟨(some 5), (.call 28 [(.tmp 4)]), none⟩, ⟨(some 6), (.bin .shl .plain (.tmp 5) (.con (.int .u64 8))), none⟩, ⟨(some 7), (.mv (.tmp 0)), none⟩, ⟨(some 8), (.call 28 [(.tmp 7)]), none⟩, ⟨(some 9), (.bin .or .plain (.tmp 6) (.tmp 8)), none⟩, ⟨(some 3), (.mv (.tmp 9)), none⟩])
 (.seq (.reg [⟨(some 10), (.mv (.tmp 0)), none⟩, ⟨(some 11), (.mv (.tmp 3)), none⟩, ⟨(some 12), (.call 37 [(.tmp 10), (.tmp 11)]), none⟩, ⟨(some 2), (.mv (.tmp 12)), none⟩])
 .ret)))
def ac30 : AFun := ⟨1, 13, ab30, [(.tmp 2)]⟩
theorem cf30 : compF Try.prog Try.f30 = some ac30 := by kernel_rfl
theorem cl30 : callable Try.prog 30 = true := by kernel_rfl
theorem fn30 : Try.prog.funcs[30]? = some Try.f30 := by kernel_rfl
/- (*chancel/pack.reader).end -/
def ab31 : ACode := (.seq (.reg [⟨(some 2), (.mv (.con (.int .i64 0))), none⟩])
 (.seq (.seq (.reg [⟨(some 3), (.mv (.tmp 0)), none⟩, ⟨(some 4), (.nilck (.tmp 3)), none⟩, ⟨(some 5), (.faddr 1 (.tmp 4)), none⟩, ⟨(some 6), (.load false 1 (.tmp 5)), none⟩, ⟨(some 7), (.bin .eql .plain (.tmp 6) (.con (.int .i64 0))), none⟩, ⟨(some 8), (.mv (.tmp 7)), none⟩, ⟨(some 9), (.mv (.tmp 0)), (some (8, true))⟩, ⟨(some 10), (.nilck (.tmp 9)), (some (8, true))⟩, ⟨(some 11), (.faddr 0 (.tmp 10)), (some (8, true))⟩, ⟨(some 12), (.load false 1 (.tmp 11)), (some (8, true))⟩, ⟨(some 13), (.lenL (.tmp 12)), (some (8, true))⟩, ⟨(some 14), (.bin .gtr .plain (.tmp 13) (.con (.int .i64 0))), (some (8, true))⟩, ⟨(some 15), (.pick (.tmp 8) (.tmp 14) (.con (.bool false))), none⟩])
 (.cond (.tmp 15)
 (.reg [⟨(some 16), (.mv (.tmp 0)), none⟩, ⟨(some 17), (.nilck (.tmp 16)), none⟩, ⟨(some 18), (.faddr 1 (.tmp 17)), none⟩, ⟨none, (.store 1 (.tmp 18) (.con (.int .i64 9))), none⟩])
 .skip))
 (.seq (.reg [⟨(some 19), (.mv (.tmp 0)), none⟩, ⟨(some 20), (.nilck (.tmp 19)), none⟩, ⟨(some 21), (.faddr 1 (.tmp 20)), none⟩, ⟨(some 22), (.load false 1 (.tmp 21)), none⟩, ⟨(some 2), (.mv (.tmp 22)), none⟩])
 .ret)))
def ac31 : AFun := ⟨1, 23, ab31, [(.tmp 2)]⟩
theorem cf31 : compF Try.prog Try.f31 = some ac31 := by kernel_rfl
theorem cl31 : callable Try.prog 31 = true := by kernel_rfl
theorem fn31 : Try.prog.funcs[31]? = some Try.f31 := by kernel_rfl
/- (*chancel/chancelref7.reader).u8 -/
def ab32 : ACode := (.seq (.reg [⟨(some 2), (.mv (.con (.int .i64 0))), none⟩])
 (.seq (.seq (.dreg [⟨(some 3), (.mv (.tmp 0)), none⟩, ⟨(some 4), (.nilck (.tmp 3)), none⟩, ⟨(some 5), (.faddr 2 (.tmp 4)), none⟩, ⟨(some 6), (.load false 1 (.tmp 5)), none⟩, ⟨(some 7), (.bin .eql .plain (.tmp 6) (.con (.int .i64 0))), none⟩, ⟨(some 8), (.mv (.tmp 7)), none⟩, ⟨(some 9), (.mv (.tmp 0)), (some (8, true))⟩, ⟨(some 10), (.nilck (.tmp 9)), (some (8, true))⟩, ⟨(some 11), (.faddr 1 (.tmp 10)), (some (8, true))⟩, ⟨(some 12), (.load false 1 (.tmp 11)), (some (8, true))⟩, ⟨(some 13), (.mv (.tmp 0)), (some (8, true))⟩, ⟨(some 14), (.nilck (.tmp 13)), (some (8, true))⟩, ⟨(some 15), (.faddr 0 (.tmp 14)), (some (8, true))⟩, ⟨(some 16), (.load false 1 (.tmp 15)), (some (8, true))⟩, ⟨(some 17), (.lenL (.tmp 16)), (some (8, true))⟩, ⟨(some 18), (.bin .geq .plain (.tmp 12) (.tmp 17)), (some (8, true))⟩, ⟨(some 19), (.pick (.tmp 8) (.tmp 18) (.con (.bool false))), none⟩] [] [0, 1, 3, 7, 15, 31, 63, 127, 255, 511, 63, 1087, 3135, 7231, 15423, 32767, 65535] [])
 (.cond (.tmp 19)
 (.reg [⟨(some 20), (.mv (.tmp 0)), none⟩, ⟨(some 21), (.nilck (.tmp 20)), none⟩, ⟨(some 22), (.faddr 2 (.tmp 21)), none⟩, ⟨none, (.store 1 (.tmp 22) (.con (.int .i64 8))), none⟩])
 .skip))
 (.seq (.seq (.reg [⟨(some 23), (.mv (.tmp 0)), none⟩, ⟨(some 24), (.nilck (.tmp 23)), none⟩, ⟨(some 25), (.faddr 2 (.tmp 24)), none⟩, ⟨(some 26), (.load false 1 (.tmp 25)), none⟩, ⟨(some 27), (.bin .neq .plain (.tmp 26) (.con (.int .i64 0))), none⟩])
 (.cond (.tmp 27)
 (.seq (.reg [⟨(some 2), (.mv (.con (.int .i64 0))), none⟩])
 .ret)
 .skip))
 (.seq (.reg [⟨(some 28), (.mv (.tmp 0)), none⟩, ⟨(some 29), (.nilck (.tmp 28)), none⟩, ⟨(some 30), (.faddr 1 (.tmp 29)), none⟩, ⟨(some 31), (.load false 1 (.tmp 30)), none⟩, ⟨(some 32), (.bin .add .plain (.tmp 31) (.con (.int .i64 1))), none⟩, ⟨(some 33), (.nilck (.tmp 28)), none⟩, ⟨(some 34), (.faddr 1 (.tmp 33)), none⟩, ⟨none, (.store 1 (.tmp 34) (.tmp 32)), none⟩])
 (.seq (.dreg [⟨(some 35), (.mv (.tmp 0)), none⟩, ⟨(some 36), (.nilck (.tmp 35)), none⟩, ⟨(some 37), (.faddr 0 (.tmp 36)), none⟩, ⟨(some 38), (.load false 1 (.tmp 37)), none⟩, ⟨(some 39), (.mv (.tmp 0)), none⟩, ⟨(some 40), (.nilck (.tmp 39)), none⟩, ⟨(some 41), (.faddr 1 (.tmp 40)), none⟩, ⟨(some 42), (.load false 1 (.tmp 41)), none⟩, ⟨(some 43), (.bin .sub .plain (.tmp 42) (.con (.int .i64 1))), none⟩, ⟨(some 44), (.iaddr 1 (.tmp 38) (.tmp 43)), none⟩, ⟨(some 45), (.load false 1 (.tmp 44)), none⟩, ⟨(some 46), (.cvInt .i64 (.tmp 45)), none⟩, ⟨(some 2), (.mv (.tmp 46)), none⟩] [] [0, 1, 3, 7, 0, 16, 48, 112, 240, 511, 1023, 2047, 4095] [])
 .ret)))))
def ac32 : AFun := ⟨1, 47, ab32, [(.tmp 2)]⟩
theorem cf32 : compF Try.prog Try.f32 = some ac32 := by kernel_rfl
theorem cl32 : callable Try.prog 32 = true := by kernel_rfl
theorem fn32 : Try.prog.funcs[32]? = some Try.f32 := by kernel_rfl
/- (*chancel/chancelref7.reader).num -/
def ab33 : ACode := (.seq (.reg [⟨(some 2), (.mv (.con (.int .i64 0))), none⟩])
 (.seq (.reg [⟨(some 3), (.mv (.con (.int .u64 0))), none⟩])
 (.seq (.seq (.reg [⟨(some 4), (.mv (.con (.int .i64 0))), none⟩])
 (.block 0
 (.loop (.seq (.seq (.reg [⟨(some 5), (.mv (.tmp 4)), none⟩, ⟨(some 6), (.bin .lss .plain (.tmp 5) (.con (.int .i64 8))), none⟩])
 (.cond (.tmp 6)
 .skip
 (.exit 0)))
 (.seq (.block 1
 (.reg [⟨(some 9), (.mv (.tmp 3)), none⟩, ⟨(some 10), (.bin .shl .plain (.tmp 9) (.con (.int .u64 8))), none⟩, ⟨(some 11), (.mv (.tmp 0)), none⟩, ⟨(some 12), (.call 32 [(.tmp 11)]), none⟩, ⟨(some 13), (.cvInt .u64 (.tmp 12)), none⟩, ⟨(some 14), (.bin .or .plain (.tmp 10) (.tmp 13)), none⟩, ⟨(some 3), (.mv (.tmp 14)), none⟩]))
 (.reg [⟨(some 7), (.mv (.tmp 4)), none⟩, ⟨(some 8), (.bin .add .plain (.tmp 7) (.con (.int .i64 1))), none⟩, ⟨(some 4), (.mv (.tmp 8)), none⟩]))))))
 (.seq (.reg [⟨(some 15), (.mv (.tmp 3)), none⟩, ⟨(some 16), (.cvInt .i64 (.tmp 15)), none⟩, ⟨(some 2), (.mv (.tmp 16)), none⟩])
 .ret))))
def ac33 : AFun := ⟨1, 17, ab33, [(.tmp 2)]⟩
theorem cf33 : compF Try.prog Try.f33 = some ac33 := by kernel_rfl
theorem cl33 : callable Try.prog 33 = true := by kernel_rfl
theorem fn33 : Try.prog.funcs[33]? = some Try.f33 := by kernel_rfl
/- (*chancel/chancelref7.reader).bytes -/
def ab34 : ACode := (.seq (.reg [⟨(some 2), (.mv (.con .nils)), none⟩])
 (.seq (.reg [⟨(some 5), (.mv (.tmp 0)), none⟩, ⟨(some 6), (.call 32 [(.tmp 5)]), none⟩, ⟨(some 7), (.bin .shl .plain (.tmp 6) (.con (.int .u64 8))), none⟩, ⟨(some 3), (.mv (.tmp 7)), none⟩])
 (.seq (.reg [⟨(some 8), (.mv (.tmp 3)), none⟩, ⟨(some 9), (.mv (.tmp 0)), none⟩, ⟨(some 10), (.call 32 [(.tmp 9)]), none⟩, ⟨(some 11), (.bin .or .plain (.tmp 8) (.tmp 10)), none⟩, ⟨(some 3), (.mv (.tmp 11)), none⟩])
 (.seq (.seq (.dreg [⟨(some 12), (.mv (.tmp 0)), none⟩, ⟨(some 13), (.nilck (.tmp 12)), none⟩, ⟨(some 14), (.faddr 2 (.tmp 13)), none⟩, ⟨(some 15), (.load false 1 (.tmp 14)), none⟩, ⟨(some 16), (.bin .eql .plain (.tmp 15) (.con (.int .i64 0))), none⟩, ⟨(some 17), (.mv (.tmp 16)), none⟩, ⟨(some 18), (.mv (.tmp 0)), (some (17, true))⟩, ⟨(some 19), (.nilck (.tmp 18)), (some (17, true))⟩, ⟨(some 20), (.faddr 0 (.tmp 19)), (some (17, true))⟩, ⟨(some 21), (.load false 1 (.tmp 20)), (some (17, true))⟩, ⟨(some 22), (.lenL (.tmp 21)), (some (17, true))⟩, ⟨(some 23), (.mv (.tmp 0)), (some (17, true))⟩, ⟨(some 24), (.nilck (.tmp 23)), (some (17, true))⟩, ⟨(some 25), (.faddr 1 (.tmp 24)), (some (17, true))⟩, ⟨(some 26), (.load false 1 (.tmp 25)), (some (17, true))⟩, ⟨(some 27), (.bin .sub .plain (.tmp 22) (.tmp 26)), (some (17, true))⟩, ⟨(some 28), (.mv (.tmp 3)), (some (17, true))⟩, ⟨(some 29), (.bin .lss .plain (.tmp 27) (.tmp 28)), (some (17, true))⟩, ⟨(some 30), (.pick (.tmp 17) (.tmp 29) (.con (.bool false))), none⟩] [] [0, 1, 3, 7, 15, 31, 63, 127, 255, 511, 1023, 63, 2111, 6207, 14399, 32767, 63, 131071, 262143] [])
 (.cond (.tmp 30)
 (.reg [⟨(some 31), (.mv (.tmp 0)), none⟩, ⟨(some 32), (.nilck (.tmp 31)), none⟩, ⟨(some 33), (.faddr 2 (.tmp 32)), none⟩, ⟨none, (.store 1 (.tmp 33) (.con (.int .i64 8))), none⟩])
 .skip))
 (.seq (.seq (.reg [⟨(some 34), (.mv (.tmp 0)), none⟩, ⟨(some 35), (.nilck (.tmp 34)), none⟩, ⟨(some 36), (.faddr 2 (.tmp 35)), none⟩, ⟨(some 37), (.load false 1 (.tmp 36)), none⟩, ⟨(some 38), (.bin .neq .plain (.tmp 37) (.con (.int .i64 0))), none⟩])
 (.cond (.tmp 38)
 (.seq (.reg [⟨(some 2), (.mv (.con .nils)), none⟩])
 .ret)
 .skip))
 (.seq (.dreg [⟨(some 39), (.bslice 1 0 [(.int .u8 0)] []), none⟩, ⟨(some 40), (.mv (.tmp 0)), none⟩, ⟨(some 41), (.nilck (.tmp 40)), none⟩, ⟨(some 42), (.faddr 0 (.tmp 41)), none⟩, ⟨(some 43), (.load false 1 (.tmp 42)), none⟩, ⟨(some 44), (.mv (.tmp 0)), none⟩, ⟨(some 45), (.nilck (.tmp 44)), none⟩, ⟨(some 46), (.faddr 1 (.tmp 45)), none⟩, ⟨(some 47), (.load false 1 (.tmp 46)), none⟩, ⟨(some 48), (.mv (.tmp 0)), none⟩, ⟨(some 49), (.nilck (.tmp 48)), none⟩, ⟨(some 50), (.faddr 1 (.tmp 49)), none⟩, ⟨(some 51), (.load false 1 (.tmp 50)), none⟩, ⟨(some 52), (.mv (.tmp 3)), none⟩, ⟨(some 53), (.bin .add .plain (.tmp 51) (.tmp 52)), none⟩, ⟨(some 54), (.slSl 1 (.tmp 43) (some (.tmp 47)) (some (.tmp 53)) none), none⟩, ⟨(some 55), (.append 1 1 (.tmp 39) (.tmp 54)), none⟩, ⟨(some 4), (.mv (.tmp 55)), none⟩] [0, 16] [0, 0, 2, 6, 14, 0, 32, 96, 224, 0, 512, 1536, 3584, 0, 15872, 32766, 65535, 131071] [])
 (.seq (.reg [⟨(some 56), (.mv (.tmp 0)), none⟩, ⟨(some 57), (.mv (.tmp 0)), none⟩, ⟨(some 58), (.nilck (.tmp 57)), none⟩, ⟨(some 59), (.faddr 1 (.tmp 58)), none⟩, ⟨(some 60), (.load false 1 (.tmp 59)), none⟩, ⟨(some 61), (.mv (.tmp 3)), none⟩, ⟨(some 62), (.bin .add .plain (.tmp 60) (.tmp 61)), none⟩, ⟨(some 63), (.nilck (.tmp 56)), none⟩, ⟨(some 64), (.faddr 1 (.tmp 63)), none⟩, ⟨none, (.store 1 (.tmp 64) (.tmp 62)), none⟩])
 (.seq (.reg [⟨(some 65), (.mv (.tmp 4)), none⟩, ⟨(some 2), (.mv (.tmp 65)), none⟩])
 .ret))))))))
def ac34 : AFun := ⟨1, 66, ab34, [(.tmp 2)]⟩
theorem cf34 : compF Try.prog Try.f34 = some ac34 := by kernel_rfl
theorem cl34 : callable Try.prog 34 = true := by kernel_rfl
theorem fn34 : Try.prog.funcs[34]? = some Try.f34 := by kernel_rfl
/- (*chancel/chancelref7.reader).end -/
def ab35 : ACode := (.seq (.reg [⟨(some 2), (.mv (.con (.int .i64 0))), none⟩])
 (.seq (.seq (.dreg [⟨(some 3), (.mv (.tmp 0)), none⟩, ⟨(some 4), (.nilck (.tmp 3)), none⟩, ⟨(some 5), (.faddr 2 (.tmp 4)), none⟩, ⟨(some 6), (.load false 1 (.tmp 5)), none⟩, ⟨(some 7), (.bin .eql .plain (.tmp 6) (.con (.int .i64 0))), none⟩, ⟨(some 8), (.mv (.tmp 7)), none⟩, ⟨(some 9), (.mv (.tmp 0)), (some (8, true))⟩, ⟨(some 10), (.nilck (.tmp 9)), (some (8, true))⟩, ⟨(some 11), (.faddr 1 (.tmp 10)), (some (8, true))⟩, ⟨(some 12), (.load false 1 (.tmp 11)), (some (8, true))⟩, ⟨(some 13), (.mv (.tmp 0)), (some (8, true))⟩, ⟨(some 14), (.nilck (.tmp 13)), (some (8, true))⟩, ⟨(some 15), (.faddr 0 (.tmp 14)), (some (8, true))⟩, ⟨(some 16), (.load false 1 (.tmp 15)), (some (8, true))⟩, ⟨(some 17), (.lenL (.tmp 16)), (some (8, true))⟩, ⟨(some 18), (.bin .lss .plain (.tmp 12) (.tmp 17)), (some (8, true))⟩, ⟨(some 19), (.pick (.tmp 8) (.tmp 18) (.con (.bool false))), none⟩] [] [0, 1, 3, 7, 15, 31, 63, 127, 255, 511, 63, 1087, 3135, 7231, 15423, 32767, 65535] [])
 (.cond (.tmp 19)
 (.seq (.reg [⟨(some 2), (.mv (.con (.int .i64 9))), none⟩])
 .ret)
 .skip))
 (.seq (.reg [⟨(some 20), (.mv (.tmp 0)), none⟩, ⟨(some 21), (.nilck (.tmp 20)), none⟩, ⟨(some 22), (.faddr 2 (.tmp 21)), none⟩, ⟨(some 23), (.load false 1 (.tmp 22)), none⟩, ⟨(some 2), (.mv (.tmp 23)), none⟩])
 .ret)))
def ac35 : AFun := ⟨1, 24, ab35, [(.tmp 2)]⟩
theorem cf35 : compF Try.prog Try.f35 = some ac35 := by kernel_rfl
theorem cl35 : callable Try.prog 35 = true := by kernel_rfl
theorem fn35 : Try.prog.funcs[35]? = some Try.f35 := by kernel_rfl
/- chancel/pack.bad -/
def ab36 : ACode := (.seq (.reg [⟨(some 1), (.box (.tmp 0)), none⟩, ⟨(some 2), (.mv (.con (.int .i64 0))), none⟩])
 (.seq (.block 0
 (.seq (.reg [⟨(some 4), (.faddr 2 (.tmp 1)), none⟩, ⟨(some 5), (.load false 1 (.tmp 4)), none⟩, ⟨(some 6), (.bin .lss .plain (.tmp 5) (.con (.int .i64 1))), none⟩, ⟨(some 7), (.mv (.tmp 6)), none⟩, ⟨(some 8), (.faddr 2 (.tmp 1)), (some (7, false))⟩, ⟨(some 9), (.load false 1 (.tmp 8)), (some (7, false))⟩, ⟨(some 10), (.bin .gtr .plain (.tmp 9) (.con (.int .i64 15))), (some (7, false))⟩, ⟨(some 11), (.pick (.tmp 7) (.con (.bool true)) (.tmp 10)), none⟩, ⟨(some 3), (.mv (.tmp 11)), none⟩])
 (.cond (.tmp 3)
 (.seq (.reg [⟨(some 2), (.mv (.con (.int .i64 3))), none⟩])
 .ret)
 (.seq (.reg [⟨(some 13), (.faddr 9 (.tmp 1)), none⟩, ⟨(some 14), (.load false 1 (.tmp 13)), none⟩, ⟨(some 15), (.lenL (.tmp 14)), none⟩, ⟨(some 16), (.faddr 11 (.tmp 1)), none⟩, ⟨(some 17), (.load false 1 (.tmp 16)), none⟩, ⟨(some 18), (.lenL (.tmp 17)), none⟩, ⟨(some 19), (.bin .neq .plain (.tmp 15) (.tmp 18)), none⟩, ⟨(some 20), (.mv (.tmp 19)), none⟩, ⟨(some 21), (.faddr 10 (.tmp 1)), (some (20, false))⟩, ⟨(some 22), (.load false 1 (.tmp 21)), (some (20, false))⟩, ⟨(some 23), (.lenL (.tmp 22)), (some (20, false))⟩, ⟨(some 24), (.faddr 11 (.tmp 1)), (some (20, false))⟩, ⟨(some 25), (.load false 1 (.tmp 24)), (some (20, false))⟩, ⟨(some 26), (.lenL (.tmp 25)), (some (20, false))⟩, ⟨(some 27), (.bin .neq .plain (.tmp 23) (.tmp 26)), (some (20, false))⟩, ⟨(some 28), (.pick (.tmp 20) (.con (.bool true)) (.tmp 27)), none⟩, ⟨(some 12), (.mv (.tmp 28)), none⟩])
 (.cond (.tmp 12)
 (.seq (.reg [⟨(some 2), (.mv (.con (.int .i64 1))), none⟩])
 .ret)
 (.seq (.reg [⟨(some 30), (.faddr 11 (.tmp 1)), none⟩, ⟨(some 31), (.load false 1 (.tmp 30)), none⟩, ⟨(some 32), (.lenL (.tmp 31)), none⟩, ⟨(some 33), (.bin .gtr .plain (.tmp 32) (.con (.int .i64 64))), none⟩, ⟨(some 34), (.mv (.tmp 33)), none⟩, ⟨(some 35), (.faddr 12 (.tmp 1)), (some (34, false))⟩, ⟨(some 36), (.load false 1 (.tmp 35)), (some (34, false))⟩, ⟨(some 37), (.lenL (.tmp 36)), (some (34, false))⟩, ⟨(some 38), (.bin .gtr .plain (.tmp 37) (.con (.int .i64 7))), (some (34, false))⟩, ⟨(some 39), (.pick (.tmp 34) (.con (.bool true)) (.tmp 38)), none⟩, ⟨(some 29), (.mv (.tmp 39)), none⟩])
 (.cond (.tmp 29)
 (.seq (.reg [⟨(some 2), (.mv (.con (.int .i64 4))), none⟩])
 .ret)
 (.seq (.reg [⟨(some 41), (.faddr 11 (.tmp 1)), none⟩, ⟨(some 42), (.load false 1 (.tmp 41)), none⟩, ⟨(some 43), (.call 38 [(.tmp 42), (.con (.fn 39 []))]), none⟩, ⟨(some 44), (.mv (.tmp 43)), none⟩, ⟨(some 45), (.faddr 13 (.tmp 1)), (some (44, false))⟩, ⟨(some 46), (.load false 1 (.tmp 45)), (some (44, false))⟩, ⟨(some 47), (.lenL (.tmp 46)), (some (44, false))⟩, ⟨(some 48), (.bin .gtr .plain (.tmp 47) (.con (.int .i64 60000))), (some (44, false))⟩, ⟨(some 49), (.pick (.tmp 44) (.con (.bool true)) (.tmp 48)), none⟩, ⟨(some 40), (.mv (.tmp 49)), none⟩])
 (.cond (.tmp 40)
 (.seq (.reg [⟨(some 2), (.mv (.con (.int .i64 5))), none⟩])
 .ret)
 .skip)))))))))
 (.seq (.reg [⟨(some 2), (.mv (.con (.int .i64 0))), none⟩])
 .ret)))
def ac36 : AFun := ⟨1, 50, ab36, [(.tmp 2)]⟩
theorem cf36 : compF Try.prog Try.f36 = some ac36 := by kernel_rfl
theorem cl36 : callable Try.prog 36 = true := by kernel_rfl
theorem fn36 : Try.prog.funcs[36]? = some Try.f36 := by kernel_rfl
/- (*chancel/pack.reader).take -/
def ab37 : ACode := (.seq (.reg [⟨(some 4), (.mv (.con .nils)), none⟩])
 (.seq (.seq (.reg [⟨(some 6), (.mv (.tmp 0)), none⟩, ⟨(some 7), (.nilck (.tmp 6)), none⟩, ⟨(some 8), (.faddr 1 (.tmp 7)), none⟩, ⟨(some 9), (.load false 1 (.tmp 8)), none⟩, ⟨(some 10), (.bin .neq .plain (.tmp 9) (.con (.int .i64 0))), none⟩, ⟨(some 11), (.mv (.tmp 10)), none⟩, ⟨(some 12), (.mv (.tmp 0)), (some (11, false))⟩, ⟨(some 13), (.nilck (.tmp 12)), (some (11, false))⟩, ⟨(some 14), (.faddr 0 (.tmp 13)), (some (11, false))⟩, ⟨(some 15), (.load false 1 (.tmp 14)), (some (11, false))⟩, ⟨(some 16), (.lenL (.tmp 15)), (some (11, false))⟩, ⟨(some 17), (.mv (.tmp 1)), (some (11, false))⟩, ⟨(some 18), (.bin .lss .plain (.tmp 16) (.tmp 17)), (some (11, false))⟩, ⟨(some 19), (.pick (.tmp 11) (.con (.bool true)) (.tmp 18)), none⟩])
 (.cond (.tmp 19)
 (.seq (.seq (.reg [⟨(some 20), (.mv (.tmp 0)), none⟩, ⟨(some 21), (.nilck (.tmp 20)), none⟩, ⟨(some 22), (.faddr 1 (.tmp 21)), none⟩, ⟨(some 23), (.load false 1 (.tmp 22)), none⟩, ⟨(some 24), (.bin .eql .plain (.tmp 23) (.con (.int .i64 0))), none⟩])
 (.cond (.tmp 24)
 (.reg [⟨(some 25), (.mv (.tmp 0)), none⟩, ⟨(some 26), (.nilck (.tmp 25)), none⟩, ⟨(some 27), (.faddr 1 (.tmp 26)), none⟩, ⟨none, (.store 1 (.tmp 27) (.con (.int .i64 8))), none⟩])
 .skip))
 (.seq (.reg [⟨(some 4), (.mv (.con .nils)), none⟩])
 .ret))
 .skip))
 (.seq (.reg [⟨(some 28), (.mv (.tmp 1)), none⟩, ⟨(some 29), (.mkslice 1 1 [(.int .u8 0)] (.tmp 28) (.tmp 28)), none⟩, ⟨(some 5), (.mv (.tmp 29)), none⟩])
 (.seq (.reg [⟨(some 30), (.mv (.tmp 5)), none⟩, ⟨(some 31), (.mv (.tmp 0)), none⟩, ⟨(some 32), (.nilck (.tmp 31)), none⟩, ⟨(some 33), (.faddr 0 (.tmp 32)), none⟩, ⟨(some 34), (.load false 1 (.tmp 33)), none⟩, ⟨(some 35), (.copy 1 (.tmp 30) (.tmp 34)), none⟩])
 (.seq (.reg [⟨(some 36), (.mv (.tmp 0)), none⟩, ⟨(some 37), (.mv (.tmp 0)), none⟩, ⟨(some 38), (.nilck (.tmp 37)), none⟩, ⟨(some 39), (.faddr 0 (.tmp 38)), none⟩, ⟨(some 40), (.load false 1 (.tmp 39)), none⟩, ⟨(some 41), (.mv (.tmp 1)), none⟩, ⟨(some 42), (.slSl 1 (.tmp 40) (some (.tmp 41)) none none), none⟩, ⟨(some 43), (.nilck (.tmp 36)), none⟩, ⟨(some 44), (.faddr 0 (.tmp 43)), none⟩, ⟨none, (.store 1 (.tmp 44) (.tmp 42)), none⟩])
 (.seq (.reg [⟨(some 45), (.mv (.tmp 5)), none⟩, ⟨(some 4), (.mv (.tmp 45)), none⟩])
 .ret))))))
def ac37 : AFun := ⟨2, 46, ab37, [(.tmp 4)]⟩
theorem cf37 : compF Try.prog Try.f37 = some ac37 := by kernel_rfl
theorem cl37 : callable Try.prog 37 = true := by kernel_rfl
theorem fn37 : Try.prog.funcs[37]? = some Try.f37 := by kernel_rfl
/- slices.ContainsFunc[[][]byte,[]byte] -/
def ab38 : ACode := (.seq (.reg [⟨(some 4), (.mv (.con (.bool false))), none⟩])
 (.seq (.reg [⟨(some 5), (.mv (.tmp 0)), none⟩, ⟨(some 6), (.mv (.tmp 1)), none⟩, ⟨(some 7), (.call 40 [(.tmp 5), (.tmp 6)]), none⟩, ⟨(some 8), (.bin .geq .plain (.tmp 7) (.con (.int .i64 0))), none⟩, ⟨(some 4), (.mv (.tmp 8)), none⟩])
 .ret))
def ac38 : AFun := ⟨2, 9, ab38, [(.tmp 4)]⟩
theorem cf38 : compF Try.prog Try.f38 = some ac38 := by kernel_rfl
theorem cl38 : callable Try.prog 38 = true := by kernel_rfl
theorem fn38 : Try.prog.funcs[38]? = some Try.f38 := by kernel_rfl
/- chancel/pack.bad$1 -/
def ab39 : ACode := (.seq (.reg [⟨(some 2), (.mv (.con (.bool false))), none⟩])
 (.seq (.reg [⟨(some 3), (.mv (.tmp 0)), none⟩, ⟨(some 4), (.lenL (.tmp 3)), none⟩, ⟨(some 5), (.bin .gtr .plain (.tmp 4) (.con (.int .i64 700))), none⟩, ⟨(some 2), (.mv (.tmp 5)), none⟩])
 .ret))
def ac39 : AFun := ⟨1, 6, ab39, [(.tmp 2)]⟩
theorem cf39 : compF Try.prog Try.f39 = some ac39 := by kernel_rfl
theorem cl39 : callable Try.prog 39 = true := by kernel_rfl
theorem fn39 : Try.prog.funcs[39]? = some Try.f39 := by kernel_rfl
/- slices.IndexFunc[[][]byte,[]byte] -/
def ab40 : ACode := (.seq (.reg [⟨(some 4), (.mv (.con (.int .i64 0))), none⟩])
 (.seq (.seq (.reg [⟨(some 6), (.mv (.tmp 0)), none⟩, ⟨(some 7), (.lenL (.tmp 6)), none⟩, ⟨(some 8), (.mv (.con (.int .i64 0))), none⟩])
 (.block 0
 (.loop (.seq (.reg [⟨(some 9), (.bin .lss .plain (.tmp 8) (.tmp 7)), none⟩])
 (.seq (.cond (.tmp 9)
 .skip
 (.exit 0))
 (.seq (.block 1
 (.seq (.reg [⟨(some 10), (.mv (.tmp 8)), none⟩, ⟨(some 5), (.mv (.tmp 10)), none⟩])
 (.seq (.reg [⟨(some 11), (.mv (.tmp 1)), none⟩, ⟨(some 12), (.mv (.tmp 0)), none⟩, ⟨(some 13), (.mv (.tmp 5)), none⟩, ⟨(some 14), (.iaddr 1 (.tmp 12) (.tmp 13)), none⟩, ⟨(some 15), (.load false 1 (.tmp 14)), none⟩, ⟨(some 16), (.callv (.tmp 11) [(.tmp 15)]), none⟩])
 (.cond (.tmp 16)
 (.seq (.reg [⟨(some 17), (.mv (.tmp 5)), none⟩, ⟨(some 4), (.mv (.tmp 17)), none⟩])
 .ret)
 .skip))))
 (.reg [⟨(some 18), (.bin .add .plain (.tmp 8) (.con (.int .i64 1))), none⟩, ⟨(some 8), (.mv (.tmp 18)), none⟩])))))))
 (.seq (.reg [⟨(some 4), (.mv (.con (.int .i64 (-1)))), none⟩])
 .ret)))
def ac40 : AFun := ⟨2, 19, ab40, [(.tmp 4)]⟩
theorem cf40 : compF Try.prog Try.f40 = some ac40 := by kernel_rfl
theorem cl40 : callable Try.prog 40 = true := by kernel_rfl
theorem fn40 : Try.prog.funcs[40]? = some Try.f40 := by kernel_rfl
end Go.Proofs.Ythobpdfchhihnaa.Va
