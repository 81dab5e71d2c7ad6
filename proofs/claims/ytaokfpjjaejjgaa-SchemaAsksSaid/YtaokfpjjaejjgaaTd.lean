/- Functions of the program as resolved code (printed by gen.py from the kernel's own value). Conditions: none. -/
import Derived.Test.YtaokfpjjaejjgaaProg
import Derived.Test.YtaokfpjjaejjgaaVaF
import Derived.KernelRfl
set_option maxRecDepth 100000
set_option maxHeartbeats 4000000
set_option linter.all false
namespace Go.Proofs.Ytaokfpjjaejjgaa.Va
open Go.Proofs
/- chancel/lex.digit -/
def ab57 : ACode := (.seq (.reg [⟨(some 2), (.mv (.con (.bool false))), none⟩])
 (.seq (.reg [⟨(some 3), (.mv (.tmp 0)), none⟩, ⟨(some 4), (.bin .geq .plain (.tmp 3) (.con (.int .u8 48))), none⟩, ⟨(some 5), (.mv (.tmp 4)), none⟩, ⟨(some 6), (.mv (.tmp 0)), (some (5, true))⟩, ⟨(some 7), (.bin .leq .plain (.tmp 6) (.con (.int .u8 57))), (some (5, true))⟩, ⟨(some 8), (.pick (.tmp 5) (.tmp 7) (.con (.bool false))), none⟩, ⟨(some 2), (.mv (.tmp 8)), none⟩])
 .ret))
def ac57 : AFun := ⟨1, 9, ab57, [(.tmp 2)]⟩
theorem cf57 : compF Try.prog Try.f57 = some ac57 := by kernel_rfl
theorem cl57 : callable Try.prog 57 = true := by kernel_rfl
theorem fn57 : Try.prog.funcs[57]? = some Try.f57 := by kernel_rfl
/- slices.ContainsFunc[[]chancel/api.Kind,chancel/api.Kind] -/
def ab58 : ACode := (.seq (.reg [⟨(some 4), (.mv (.con (.bool false))), none⟩])
 (.seq (.reg [⟨(some 5), (.mv (.tmp 0)), none⟩, ⟨(some 6), (.mv (.tmp 1)), none⟩, ⟨(some 7), (.call 63 [(.tmp 5), (.tmp 6)]), none⟩, ⟨(some 8), (.bin .geq .plain (.tmp 7) (.con (.int .i64 0))), none⟩, ⟨(some 4), (.mv (.tmp 8)), none⟩])
 .ret))
def ac58 : AFun := ⟨2, 9, ab58, [(.tmp 4)]⟩
theorem cf58 : compF Try.prog Try.f58 = some ac58 := by kernel_rfl
theorem cl58 : callable Try.prog 58 = true := by kernel_rfl
theorem fn58 : Try.prog.funcs[58]? = some Try.f58 := by kernel_rfl
/- chancel/schema.has$1 -/
def ab59 : ACode := (.seq (.reg [⟨(some 2), (.box (.tmp 0)), none⟩, ⟨(some 3), (.mv (.con (.bool false))), none⟩])
 (.seq (.reg [⟨(some 4), (.faddr 0 (.tmp 2)), none⟩, ⟨(some 5), (.load false 1 (.tmp 4)), none⟩, ⟨(some 6), (.load false 1 (.tmp 1)), none⟩, ⟨(some 7), (.bin .eql .plain (.tmp 5) (.tmp 6)), none⟩, ⟨(some 3), (.mv (.tmp 7)), none⟩])
 .ret))
def ac59 : AFun := ⟨2, 8, ab59, [(.tmp 3)]⟩
theorem cf59 : compF Try.prog Try.f59 = some ac59 := by kernel_rfl
theorem cl59 : callable Try.prog 59 = true := by kernel_rfl
theorem fn59 : Try.prog.funcs[59]? = some Try.f59 := by kernel_rfl
/- slices.Grow[[]string,string] -/
def ab60 : ACode := (.seq (.reg [⟨(some 4), (.mv (.con .nils)), none⟩])
 (.seq (.seq (.reg [⟨(some 5), (.mv (.tmp 1)), none⟩, ⟨(some 6), (.bin .lss .plain (.tmp 5) (.con (.int .i64 0))), none⟩])
 (.cond (.tmp 6)
 (.reg [⟨(some 7), .bad, none⟩, ⟨none, .bad, none⟩])
 .skip))
 (.seq (.seq (.reg [⟨(some 8), (.mv (.tmp 1)), none⟩, ⟨(some 9), (.mv (.tmp 0)), none⟩, ⟨(some 10), (.cap (.tmp 9)), none⟩, ⟨(some 11), (.mv (.tmp 0)), none⟩, ⟨(some 12), (.lenL (.tmp 11)), none⟩, ⟨(some 13), (.bin .sub .plain (.tmp 10) (.tmp 12)), none⟩, ⟨(some 14), (.bin .sub .plain (.tmp 8) (.tmp 13)), none⟩, ⟨(some 1), (.mv (.tmp 14)), none⟩])
 (.seq (.reg [⟨(some 15), (.mv (.tmp 1)), none⟩, ⟨(some 16), (.bin .gtr .plain (.tmp 15) (.con (.int .i64 0))), none⟩])
 (.cond (.tmp 16)
 (.reg [⟨(some 17), (.mv (.tmp 0)), none⟩, ⟨(some 18), (.mv (.tmp 0)), none⟩, ⟨(some 19), (.cap (.tmp 18)), none⟩, ⟨(some 20), (.slSl 1 (.tmp 17) none (some (.tmp 19)) none), none⟩, ⟨(some 21), (.mv (.tmp 1)), none⟩, ⟨(some 22), (.appendZ 1 16 [(.str [])] (.tmp 20) (.tmp 21)), none⟩, ⟨(some 23), (.mv (.tmp 0)), none⟩, ⟨(some 24), (.lenL (.tmp 23)), none⟩, ⟨(some 25), (.slSl 1 (.tmp 22) none (some (.tmp 24)) none), none⟩, ⟨(some 0), (.mv (.tmp 25)), none⟩])
 .skip)))
 (.seq (.reg [⟨(some 26), (.mv (.tmp 0)), none⟩, ⟨(some 4), (.mv (.tmp 26)), none⟩])
 .ret))))
def ac60 : AFun := ⟨2, 27, ab60, [(.tmp 4)]⟩
theorem cf60 : compF Try.prog Try.f60 = some ac60 := by kernel_rfl
theorem cl60 : callable Try.prog 60 = true := by kernel_rfl
theorem fn60 : Try.prog.funcs[60]? = some Try.f60 := by kernel_rfl
/- chancel/chancellaw1.within -/
def ab61 : ACode := (.seq (.reg [⟨(some 4), (.mv (.con (.int .i64 0))), none⟩])
 (.seq (.reg [⟨(some 6), (.mv (.tmp 0)), none⟩, ⟨(some 7), (.mv (.tmp 1)), none⟩, ⟨(some 8), (.bin .rem .plain (.tmp 6) (.tmp 7)), none⟩, ⟨(some 5), (.mv (.tmp 8)), none⟩])
 (.seq (.seq (.reg [⟨(some 9), (.mv (.tmp 5)), none⟩, ⟨(some 10), (.bin .lss .plain (.tmp 9) (.con (.int .i64 0))), none⟩])
 (.cond (.tmp 10)
 (.reg [⟨(some 11), (.mv (.tmp 5)), none⟩, ⟨(some 12), (.mv (.tmp 1)), none⟩, ⟨(some 13), (.bin .add .plain (.tmp 11) (.tmp 12)), none⟩, ⟨(some 5), (.mv (.tmp 13)), none⟩])
 .skip))
 (.seq (.reg [⟨(some 14), (.mv (.tmp 5)), none⟩, ⟨(some 4), (.mv (.tmp 14)), none⟩])
 .ret))))
def ac61 : AFun := ⟨2, 15, ab61, [(.tmp 4)]⟩
theorem cf61 : compF Try.prog Try.f61 = some ac61 := by kernel_rfl
theorem cl61 : callable Try.prog 61 = true := by kernel_rfl
theorem fn61 : Try.prog.funcs[61]? = some Try.f61 := by kernel_rfl
/- chancel/chancelref1.Of -/
def ab62 : ACode := (.seq (.reg [⟨(some 2), (.mv (.con (.str []))), none⟩, ⟨(some 3), (.mv (.con (.int .i64 0))), none⟩])
 (.seq (.reg [⟨(some 4), (.mv (.con .nils)), none⟩])
 (.seq (.seq (.reg [⟨(some 5), (.mv (.con (.int .i64 0))), none⟩])
 (.block 0
 (.loop (.seq (.seq (.reg [⟨(some 6), (.mv (.tmp 5)), none⟩, ⟨(some 7), (.mv (.tmp 0)), none⟩, ⟨(some 8), (.lenL (.tmp 7)), none⟩, ⟨(some 9), (.bin .lss .plain (.tmp 6) (.tmp 8)), none⟩])
 (.cond (.tmp 9)
 .skip
 (.exit 0)))
 (.seq (.block 1
 (.seq (.seq (.reg [⟨(some 12), (.mv (.tmp 0)), none⟩, ⟨(some 13), (.mv (.tmp 5)), none⟩, ⟨(some 14), (.iaddr 1 (.tmp 12) (.tmp 13)), none⟩, ⟨(some 15), (.load false 1 (.tmp 14)), none⟩, ⟨(some 16), (.call 64 [(.tmp 15)]), none⟩, ⟨(some 17), (.un .not (.tmp 16)), none⟩])
 (.cond (.tmp 17)
 (.seq (.reg [⟨(some 2), (.mv (.con (.str []))), none⟩, ⟨(some 3), (.mv (.con (.int .i64 11))), none⟩])
 .ret)
 .skip))
 (.reg [⟨(some 18), (.mv (.tmp 4)), none⟩, ⟨(some 19), (.mv (.tmp 0)), none⟩, ⟨(some 20), (.mv (.tmp 5)), none⟩, ⟨(some 21), (.iaddr 1 (.tmp 19) (.tmp 20)), none⟩, ⟨(some 22), (.load false 1 (.tmp 21)), none⟩, ⟨(some 23), (.call 65 [(.tmp 18), (.tmp 22)]), none⟩, ⟨(some 4), (.mv (.tmp 23)), none⟩])))
 (.reg [⟨(some 10), (.mv (.tmp 5)), none⟩, ⟨(some 11), (.bin .add .plain (.tmp 10) (.con (.int .i64 1))), none⟩, ⟨(some 5), (.mv (.tmp 11)), none⟩]))))))
 (.seq (.reg [⟨(some 24), (.mv (.tmp 4)), none⟩, ⟨(some 25), (.cvBS (.tmp 24)), none⟩, ⟨(some 2), (.mv (.tmp 25)), none⟩, ⟨(some 3), (.mv (.con (.int .i64 0))), none⟩])
 .ret))))
def ac62 : AFun := ⟨1, 26, ab62, [(.tmp 2), (.tmp 3)]⟩
theorem cf62 : compF Try.prog Try.f62 = some ac62 := by kernel_rfl
theorem cl62 : callable Try.prog 62 = true := by kernel_rfl
theorem fn62 : Try.prog.funcs[62]? = some Try.f62 := by kernel_rfl
/- slices.IndexFunc[[]chancel/api.Kind,chancel/api.Kind] -/
def ab63 : ACode := (.seq (.reg [⟨(some 4), (.mv (.con (.int .i64 0))), none⟩])
 (.seq (.seq (.reg [⟨(some 6), (.mv (.tmp 0)), none⟩, ⟨(some 7), (.lenL (.tmp 6)), none⟩, ⟨(some 8), (.mv (.con (.int .i64 0))), none⟩])
 (.block 0
 (.loop (.seq (.reg [⟨(some 9), (.bin .lss .plain (.tmp 8) (.tmp 7)), none⟩])
 (.seq (.cond (.tmp 9)
 .skip
 (.exit 0))
 (.seq (.block 1
 (.seq (.reg [⟨(some 10), (.mv (.tmp 8)), none⟩, ⟨(some 5), (.mv (.tmp 10)), none⟩])
 (.seq (.reg [⟨(some 11), (.mv (.tmp 1)), none⟩, ⟨(some 12), (.mv (.tmp 0)), none⟩, ⟨(some 13), (.mv (.tmp 5)), none⟩, ⟨(some 14), (.iaddr 3 (.tmp 12) (.tmp 13)), none⟩, ⟨(some 15), (.load true 3 (.tmp 14)), none⟩, ⟨(some 16), (.callv (.tmp 11) [(.tmp 15)]), none⟩])
 (.cond (.tmp 16)
 (.seq (.reg [⟨(some 17), (.mv (.tmp 5)), none⟩, ⟨(some 4), (.mv (.tmp 17)), none⟩])
 .ret)
 .skip))))
 (.reg [⟨(some 18), (.bin .add .plain (.tmp 8) (.con (.int .i64 1))), none⟩, ⟨(some 8), (.mv (.tmp 18)), none⟩])))))))
 (.seq (.reg [⟨(some 4), (.mv (.con (.int .i64 (-1)))), none⟩])
 .ret)))
def ac63 : AFun := ⟨2, 19, ab63, [(.tmp 4)]⟩
theorem cf63 : compF Try.prog Try.f63 = some ac63 := by kernel_rfl
theorem cl63 : callable Try.prog 63 = true := by kernel_rfl
theorem fn63 : Try.prog.funcs[63]? = some Try.f63 := by kernel_rfl
/- chancel/chancelref1.Is -/
def ab64 : ACode := (.seq (.reg [⟨(some 2), (.mv (.con (.bool false))), none⟩])
 (.seq (.reg [⟨(some 3), (.mv (.tmp 0)), none⟩, ⟨(some 4), (.bin .geq .plain (.tmp 3) (.con (.int .i32 0))), none⟩, ⟨(some 5), (.mv (.tmp 4)), none⟩, ⟨(some 6), (.mv (.tmp 0)), (some (5, true))⟩, ⟨(some 7), (.bin .leq .plain (.tmp 6) (.con (.int .i32 1114111))), (some (5, true))⟩, ⟨(some 8), (.pick (.tmp 5) (.tmp 7) (.con (.bool false))), none⟩, ⟨(some 9), (.mv (.tmp 8)), none⟩, ⟨(some 10), (.mv (.tmp 0)), (some (9, true))⟩, ⟨(some 11), (.bin .lss .plain (.tmp 10) (.con (.int .i32 55296))), (some (9, true))⟩, ⟨(some 12), (.mv (.tmp 11)), (some (9, true))⟩, ⟨(some 13), (.mv (.tmp 0)), (some (12, false))⟩, ⟨(some 14), (.bin .gtr .plain (.tmp 13) (.con (.int .i32 57343))), (some (12, false))⟩, ⟨(some 15), (.pick (.tmp 12) (.con (.bool true)) (.tmp 14)), (some (9, true))⟩, ⟨(some 16), (.pick (.tmp 9) (.tmp 15) (.con (.bool false))), none⟩, ⟨(some 2), (.mv (.tmp 16)), none⟩])
 .ret))
def ac64 : AFun := ⟨1, 17, ab64, [(.tmp 2)]⟩
theorem cf64 : compF Try.prog Try.f64 = some ac64 := by kernel_rfl
theorem cl64 : callable Try.prog 64 = true := by kernel_rfl
theorem fn64 : Try.prog.funcs[64]? = some Try.f64 := by kernel_rfl
/- chancel/chancelref1.put -/
def ab65 : ACode := (.seq (.reg [⟨(some 4), (.mv (.con .nils)), none⟩])
 (.seq (.block 0
 (.seq (.reg [⟨(some 6), (.mv (.tmp 1)), none⟩, ⟨(some 7), (.bin .lss .plain (.tmp 6) (.con (.int .i32 128))), none⟩, ⟨(some 5), (.mv (.tmp 7)), none⟩])
 (.cond (.tmp 5)
 (.seq (.reg [⟨(some 8), (.mv (.tmp 0)), none⟩, ⟨(some 9), (.mv (.tmp 1)), none⟩, ⟨(some 10), (.cvInt .u8 (.tmp 9)), none⟩, ⟨(some 11), (.bslice 1 1 [(.int .u8 0)] [(0, 1, (.tmp 10))]), none⟩, ⟨(some 12), (.append 1 1 (.tmp 8) (.tmp 11)), none⟩, ⟨(some 4), (.mv (.tmp 12)), none⟩])
 .ret)
 (.seq (.reg [⟨(some 14), (.mv (.tmp 1)), none⟩, ⟨(some 15), (.bin .lss .plain (.tmp 14) (.con (.int .i32 2048))), none⟩, ⟨(some 13), (.mv (.tmp 15)), none⟩])
 (.cond (.tmp 13)
 (.seq (.reg [⟨(some 16), (.mv (.tmp 0)), none⟩, ⟨(some 17), (.mv (.tmp 1)), none⟩, ⟨(some 18), (.bin .shr .plain (.tmp 17) (.con (.int .u64 6))), none⟩, ⟨(some 19), (.cvInt .u8 (.tmp 18)), none⟩, ⟨(some 20), (.bin .or .plain (.con (.int .u8 192)) (.tmp 19)), none⟩, ⟨(some 21), (.mv (.tmp 1)), none⟩, ⟨(some 22), (.bin .and .plain (.tmp 21) (.con (.int .i32 63))), none⟩, ⟨(some 23), (.cvInt .u8 (.tmp 22)), none⟩, ⟨(some 24), (.bin .or .plain (.con (.int .u8 128)) (.tmp 23)), none⟩, ⟨(some 25), (.bslice 1 2 [(.int .u8 0)] [(0, 1, (.tmp 20)), (1, 1, (.tmp 24))]), none⟩, ⟨(some 26), (.append 1 1 (.tmp 16) (.tmp 25)), none⟩, ⟨(some 4), (.mv (.tmp 26)), none⟩])
 .ret)
 (.seq (.reg [⟨(some 28), (.mv (.tmp 1)), none⟩, ⟨(some 29), (.bin .lss .plain (.tmp 28) (.con (.int .i32 65536))), none⟩, ⟨(some 27), (.mv (.tmp 29)), none⟩])
 (.cond (.tmp 27)
 (.seq (.reg [⟨(some 30), (.mv (.tmp 0)), none⟩, ⟨(some 31), (.mv (.tmp 1)), none⟩, ⟨(some 32), (.bin .shr .plain (.tmp 31) (.con (.int .u64 12))), none⟩, ⟨(some 33), (.cvInt .u8 (.tmp 32)), none⟩, ⟨(some 34), (.bin .or .plain (.con (.int .u8 224)) (.tmp 33)), none⟩, ⟨(some 35), (.mv (.tmp 1)), none⟩, ⟨(some 36), (.bin .shr .plain (.tmp 35) (.con (.int .u64 6))), none⟩, ⟨(some 37), (.bin .and .plain (.tmp 36) (.con (.int .i32 63))), none⟩, ⟨(some 38), (.cvInt .u8 (.tmp 37)), none⟩, ⟨(some 39), (.bin .or .plain (.con (.int .u8 128)) (.tmp 38)), none⟩, ⟨(some 40), (.mv (.tmp 1)), none⟩, ⟨(some 41), (.bin .and .plain (.tmp 40) (.con (.int .i32 63))), none⟩, ⟨(some 42), (.cvInt .u8 (.tmp 41)), none⟩, ⟨(some 43), (.bin .or .plain (.con (.int .u8 128)) (.tmp 42)), none⟩, ⟨(some 44), (.bslice 1 3 [(.int .u8 0)] [(0, 1, (.tmp 34)), (1, 1, (.tmp 39)), (2, 1, (.tmp 43))]), none⟩, ⟨(some 45), (.append 1 1 (.tmp 30) (.tmp 44)), none⟩, ⟨(some 4), (.mv (.tmp 45)), none⟩])
 .ret)
 .skip)))))))
 (.seq (.reg [⟨(some 46), (.mv (.tmp 0)), none⟩, ⟨(some 47), (.mv (.tmp 1)), none⟩, ⟨(some 48), (.bin .shr .plain (.tmp 47) (.con (.int .u64 18))), none⟩, ⟨(some 49), (.cvInt .u8 (.tmp 48)), none⟩, ⟨(some 50), (.bin .or .plain (.con (.int .u8 240)) (.tmp 49)), none⟩, ⟨(some 51), (.mv (.tmp 1)), none⟩, ⟨(some 52), (.bin .shr .plain (.tmp 51) (.con (.int .u64 12))), none⟩, ⟨(some 53), (.bin .and .plain (.tmp 52) (.con (.int .i32 63))), none⟩, ⟨(some 54), (.cvInt .u8 (.tmp 53)), none⟩, ⟨(some 55), (.bin .or .plain (.con (.int .u8 128)) (.tmp 54)), none⟩, ⟨(some 56), (.mv (.tmp 1)), none⟩, ⟨(some 57), (.bin .shr .plain (.tmp 56) (.con (.int .u64 6))), none⟩, ⟨(some 58), (.bin .and .plain (.tmp 57) (.con (.int .i32 63))), none⟩, ⟨(some 59), (.cvInt .u8 (.tmp 58)), none⟩, ⟨(some 60), (.bin .or .plain (.con (.int .u8 128)) (.tmp 59)), none⟩, ⟨(some 61), (.mv (.tmp 1)), none⟩, ⟨(some 62), (.bin .and .plain (.tmp 61) (.con (.int .i32 63))), none⟩, ⟨(some 63), (.cvInt .u8 (.tmp 62)), none⟩, ⟨(some 64), (.bin .or .plain (.con (.int .u8 128)) (.tmp 63)), none⟩, ⟨(some 65), (.bslice 1 4 [(.int .u8 0)] [(0, 1, (.tmp 50)), (1, 1, (.tmp 55)), (2, 1, (.tmp 60)), (3, 1, (.tmp 64))]), none⟩, ⟨(some 66), (.append 1 1 (.tmp 46) (.tmp 65)), none⟩, ⟨(some 4), (.mv (.tmp 66)), none⟩])
 .ret)))
def ac65 : AFun := ⟨2, 67, ab65, [(.tmp 4)]⟩
theorem cf65 : compF Try.prog Try.f65 = some ac65 := by kernel_rfl
theorem cl65 : callable Try.prog 65 = true := by kernel_rfl
theorem fn65 : Try.prog.funcs[65]? = some Try.f65 := by kernel_rfl
end Go.Proofs.Ytaokfpjjaejjgaa.Va
