/- Functions of the program as resolved code (printed by gen.py from the kernel's own value). Conditions: none. -/
import Derived.Test.YtcdbpmmomgehfaaProg
import Derived.Test.YtcdbpmmomgehfaaVaF
import Derived.KernelRfl
set_option maxRecDepth 100000
set_option maxHeartbeats 4000000
set_option linter.all false
namespace Go.Proofs.Ytcdbpmmomgehfaa.Va
open Go.Proofs
/- chancel/chancelref10.Action -/
def ab62 : ACode := (.seq (.reg [⟨some 2, .box (.tmp 0), none⟩, ⟨some 4, .alloc [.str [], .nils, .nils], none⟩, ⟨some 5, .mv (.con (.bool false)), none⟩])
 (.seq (.seq (.reg [⟨some 6, .mv (.con (.int .i64 0)), none⟩])
 (.block 0
 (.loop (.seq (.seq (.reg [⟨some 7, .mv (.tmp 6), none⟩, ⟨some 8, .faddr 1 (.tmp 2), none⟩, ⟨some 9, .load false 1 (.tmp 8), none⟩, ⟨some 10, .lenL (.tmp 9), none⟩, ⟨some 11, .bin .lss .plain (.tmp 7) (.tmp 10), none⟩])
 (.cond (.tmp 11)
 .skip
 (.exit 0)))
 (.seq (.block 1
 (.seq (.reg [⟨some 14, .faddr 1 (.tmp 2), none⟩, ⟨some 15, .load false 1 (.tmp 14), none⟩, ⟨some 16, .mv (.tmp 6), none⟩, ⟨some 17, .iaddr 3 (.tmp 15) (.tmp 16), none⟩, ⟨some 18, .faddr 0 (.tmp 17), none⟩, ⟨some 19, .load false 1 (.tmp 18), none⟩, ⟨some 20, .mv (.tmp 1), none⟩, ⟨some 21, .bin .eql .plain (.tmp 19) (.tmp 20), none⟩])
 (.cond (.tmp 21)
 (.seq (.reg [⟨some 22, .faddr 1 (.tmp 2), none⟩, ⟨some 23, .load false 1 (.tmp 22), none⟩, ⟨some 24, .mv (.tmp 6), none⟩, ⟨some 25, .iaddr 3 (.tmp 23) (.tmp 24), none⟩, ⟨some 26, .load true 3 (.tmp 25), none⟩, ⟨none, .store 3 (.tmp 4) (.tmp 26), none⟩, ⟨some 5, .mv (.con (.bool true)), none⟩])
 .ret)
 .skip)))
 (.reg [⟨some 12, .mv (.tmp 6), none⟩, ⟨some 13, .bin .add .plain (.tmp 12) (.con (.int .i64 1)), none⟩, ⟨some 6, .mv (.tmp 13), none⟩]))))))
 (.seq (.reg [⟨some 27, .build [.str [], .nils, .nils] [], none⟩, ⟨none, .store 3 (.tmp 4) (.tmp 27), none⟩, ⟨some 5, .mv (.con (.bool false)), none⟩])
 .ret)))
def ac62 : AFun := ⟨2, 28, ab62, [(.cell 4 true 3), (.tmp 5)]⟩
theorem cf62 : compF Try.prog Try.f62 = some ac62 := by kernel_rfl
theorem cl62 : callable Try.prog 62 = true := by kernel_rfl
theorem fn62 : Try.prog.funcs[62]? = some Try.f62 := by kernel_rfl
/- chancel/chancellaw1.within -/
def ab63 : ACode := (.seq (.reg [⟨some 4, .mv (.con (.int .i64 0)), none⟩])
 (.seq (.reg [⟨some 6, .mv (.tmp 0), none⟩, ⟨some 7, .mv (.tmp 1), none⟩, ⟨some 8, .bin .rem .plain (.tmp 6) (.tmp 7), none⟩, ⟨some 5, .mv (.tmp 8), none⟩])
 (.seq (.seq (.reg [⟨some 9, .mv (.tmp 5), none⟩, ⟨some 10, .bin .lss .plain (.tmp 9) (.con (.int .i64 0)), none⟩])
 (.cond (.tmp 10)
 (.reg [⟨some 11, .mv (.tmp 5), none⟩, ⟨some 12, .mv (.tmp 1), none⟩, ⟨some 13, .bin .add .plain (.tmp 11) (.tmp 12), none⟩, ⟨some 5, .mv (.tmp 13), none⟩])
 .skip))
 (.seq (.reg [⟨some 14, .mv (.tmp 5), none⟩, ⟨some 4, .mv (.tmp 14), none⟩])
 .ret))))
def ac63 : AFun := ⟨2, 15, ab63, [(.tmp 4)]⟩
theorem cf63 : compF Try.prog Try.f63 = some ac63 := by kernel_rfl
theorem cl63 : callable Try.prog 63 = true := by kernel_rfl
theorem fn63 : Try.prog.funcs[63]? = some Try.f63 := by kernel_rfl
/- chancel/chancelref1.Of -/
def ab64 : ACode := (.seq (.reg [⟨some 2, .mv (.con (.str [])), none⟩, ⟨some 3, .mv (.con (.int .i64 0)), none⟩])
 (.seq (.reg [⟨some 4, .mv (.con .nils), none⟩])
 (.seq (.seq (.reg [⟨some 5, .mv (.con (.int .i64 0)), none⟩])
 (.block 0
 (.loop (.seq (.seq (.reg [⟨some 6, .mv (.tmp 5), none⟩, ⟨some 7, .mv (.tmp 0), none⟩, ⟨some 8, .lenL (.tmp 7), none⟩, ⟨some 9, .bin .lss .plain (.tmp 6) (.tmp 8), none⟩])
 (.cond (.tmp 9)
 .skip
 (.exit 0)))
 (.seq (.block 1
 (.seq (.seq (.reg [⟨some 12, .mv (.tmp 0), none⟩, ⟨some 13, .mv (.tmp 5), none⟩, ⟨some 14, .iaddr 1 (.tmp 12) (.tmp 13), none⟩, ⟨some 15, .load false 1 (.tmp 14), none⟩, ⟨some 16, .call 76 [.tmp 15], none⟩, ⟨some 17, .un .not (.tmp 16), none⟩])
 (.cond (.tmp 17)
 (.seq (.reg [⟨some 2, .mv (.con (.str [])), none⟩, ⟨some 3, .mv (.con (.int .i64 11)), none⟩])
 .ret)
 .skip))
 (.reg [⟨some 18, .mv (.tmp 4), none⟩, ⟨some 19, .mv (.tmp 0), none⟩, ⟨some 20, .mv (.tmp 5), none⟩, ⟨some 21, .iaddr 1 (.tmp 19) (.tmp 20), none⟩, ⟨some 22, .load false 1 (.tmp 21), none⟩, ⟨some 23, .call 77 [.tmp 18, .tmp 22], none⟩, ⟨some 4, .mv (.tmp 23), none⟩])))
 (.reg [⟨some 10, .mv (.tmp 5), none⟩, ⟨some 11, .bin .add .plain (.tmp 10) (.con (.int .i64 1)), none⟩, ⟨some 5, .mv (.tmp 11), none⟩]))))))
 (.seq (.reg [⟨some 24, .mv (.tmp 4), none⟩, ⟨some 25, .cvBS (.tmp 24), none⟩, ⟨some 2, .mv (.tmp 25), none⟩, ⟨some 3, .mv (.con (.int .i64 0)), none⟩])
 .ret))))
def ac64 : AFun := ⟨1, 26, ab64, [(.tmp 2), (.tmp 3)]⟩
theorem cf64 : compF Try.prog Try.f64 = some ac64 := by kernel_rfl
theorem cl64 : callable Try.prog 64 = true := by kernel_rfl
theorem fn64 : Try.prog.funcs[64]? = some Try.f64 := by kernel_rfl
/- chancel/chancelref11.of -/
def ab65 : ACode := (.seq (.reg [⟨some 2, .alloc [.int .i64 0, .int .i64 0, .str []], none⟩])
 (.seq (.reg [⟨some 3, .mv (.tmp 0), none⟩, ⟨some 4, .build [.int .i64 0, .int .i64 0, .str []] [(0, 1, .tmp 3)], none⟩, ⟨none, .store 3 (.tmp 2) (.tmp 4), none⟩])
 .ret))
def ac65 : AFun := ⟨1, 5, ab65, [(.cell 2 true 3)]⟩
theorem cf65 : compF Try.prog Try.f65 = some ac65 := by kernel_rfl
theorem cl65 : callable Try.prog 65 = true := by kernel_rfl
theorem fn65 : Try.prog.funcs[65]? = some Try.f65 := by kernel_rfl
/- chancel/chancelref10.Field -/
def ab66 : ACode := (.seq (.reg [⟨some 2, .box (.tmp 0), none⟩, ⟨some 4, .alloc [.int .i64 0, .int .i64 0, .str []], none⟩, ⟨some 5, .mv (.con (.bool false)), none⟩])
 (.seq (.seq (.reg [⟨some 6, .mv (.con (.int .i64 0)), none⟩])
 (.block 0
 (.loop (.seq (.seq (.reg [⟨some 7, .mv (.tmp 6), none⟩, ⟨some 8, .faddr 2 (.tmp 2), none⟩, ⟨some 9, .load false 1 (.tmp 8), none⟩, ⟨some 10, .lenL (.tmp 9), none⟩, ⟨some 11, .bin .lss .plain (.tmp 7) (.tmp 10), none⟩])
 (.cond (.tmp 11)
 .skip
 (.exit 0)))
 (.seq (.block 1
 (.seq (.reg [⟨some 14, .faddr 2 (.tmp 2), none⟩, ⟨some 15, .load false 1 (.tmp 14), none⟩, ⟨some 16, .mv (.tmp 6), none⟩, ⟨some 17, .iaddr 4 (.tmp 15) (.tmp 16), none⟩, ⟨some 18, .faddr 0 (.tmp 17), none⟩, ⟨some 19, .load false 1 (.tmp 18), none⟩, ⟨some 20, .mv (.tmp 1), none⟩, ⟨some 21, .bin .eql .plain (.tmp 19) (.tmp 20), none⟩])
 (.cond (.tmp 21)
 (.seq (.reg [⟨some 22, .faddr 2 (.tmp 2), none⟩, ⟨some 23, .load false 1 (.tmp 22), none⟩, ⟨some 24, .mv (.tmp 6), none⟩, ⟨some 25, .iaddr 4 (.tmp 23) (.tmp 24), none⟩, ⟨some 26, .faddr 1 (.tmp 25), none⟩, ⟨some 27, .load true 3 (.tmp 26), none⟩, ⟨none, .store 3 (.tmp 4) (.tmp 27), none⟩, ⟨some 5, .mv (.con (.bool true)), none⟩])
 .ret)
 .skip)))
 (.reg [⟨some 12, .mv (.tmp 6), none⟩, ⟨some 13, .bin .add .plain (.tmp 12) (.con (.int .i64 1)), none⟩, ⟨some 6, .mv (.tmp 13), none⟩]))))))
 (.seq (.reg [⟨some 28, .build [.int .i64 0, .int .i64 0, .str []] [], none⟩, ⟨none, .store 3 (.tmp 4) (.tmp 28), none⟩, ⟨some 5, .mv (.con (.bool false)), none⟩])
 .ret)))
def ac66 : AFun := ⟨2, 29, ab66, [(.cell 4 true 3), (.tmp 5)]⟩
theorem cf66 : compF Try.prog Try.f66 = some ac66 := by kernel_rfl
theorem cl66 : callable Try.prog 66 = true := by kernel_rfl
theorem fn66 : Try.prog.funcs[66]? = some Try.f66 := by kernel_rfl
/- chancel/chancelref11.need -/
def ab67 : ACode := (.seq (.reg [⟨some 6, .alloc [.int .i64 0, .int .i64 0, .str []], none⟩, ⟨some 7, .mv (.con (.int .i64 0)), none⟩])
 (.seq (.seq (.reg [⟨some 8, .mv (.con (.int .i64 0)), none⟩])
 (.block 0
 (.loop (.seq (.seq (.reg [⟨some 9, .mv (.tmp 8), none⟩, ⟨some 10, .mv (.tmp 0), none⟩, ⟨some 11, .lenL (.tmp 10), none⟩, ⟨some 12, .bin .lss .plain (.tmp 9) (.tmp 11), none⟩])
 (.cond (.tmp 12)
 .skip
 (.exit 0)))
 (.seq (.block 1
 (.seq (.reg [⟨some 15, .mv (.tmp 0), none⟩, ⟨some 16, .mv (.tmp 8), none⟩, ⟨some 17, .iaddr 3 (.tmp 15) (.tmp 16), none⟩, ⟨some 18, .faddr 0 (.tmp 17), none⟩, ⟨some 19, .load false 1 (.tmp 18), none⟩, ⟨some 20, .mv (.tmp 1), none⟩, ⟨some 21, .bin .neq .plain (.tmp 19) (.tmp 20), none⟩])
 (.cond (.tmp 21)
 (.seq (.reg [⟨some 22, .build [.int .i64 0, .int .i64 0, .str []] [], none⟩, ⟨none, .store 3 (.tmp 6) (.tmp 22), none⟩, ⟨some 7, .mv (.con (.int .i64 16)), none⟩])
 .ret)
 .skip)))
 (.reg [⟨some 13, .mv (.tmp 8), none⟩, ⟨some 14, .bin .add .plain (.tmp 13) (.con (.int .i64 1)), none⟩, ⟨some 8, .mv (.tmp 14), none⟩]))))))
 (.seq (.reg [⟨some 23, .mv (.tmp 2), none⟩, ⟨some 24, .call 65 [.tmp 23], none⟩, ⟨none, .store 3 (.tmp 6) (.tmp 24), none⟩, ⟨some 7, .mv (.con (.int .i64 0)), none⟩])
 .ret)))
def ac67 : AFun := ⟨3, 25, ab67, [(.cell 6 true 3), (.tmp 7)]⟩
theorem cf67 : compF Try.prog Try.f67 = some ac67 := by kernel_rfl
theorem cl67 : callable Try.prog 67 = true := by kernel_rfl
theorem fn67 : Try.prog.funcs[67]? = some Try.f67 := by kernel_rfl
/- slices.ContainsFunc[[]chancel/api.Type,chancel/api.Type] -/
def ab70 : ACode := (.seq (.reg [⟨some 4, .mv (.con (.bool false)), none⟩])
 (.seq (.reg [⟨some 5, .mv (.tmp 0), none⟩, ⟨some 6, .mv (.tmp 1), none⟩, ⟨some 7, .call 78 [.tmp 5, .tmp 6], none⟩, ⟨some 8, .bin .geq .plain (.tmp 7) (.con (.int .i64 0)), none⟩, ⟨some 4, .mv (.tmp 8), none⟩])
 .ret))
def ac70 : AFun := ⟨2, 9, ab70, [(.tmp 4)]⟩
theorem cf70 : compF Try.prog Try.f70 = some ac70 := by kernel_rfl
theorem cl70 : callable Try.prog 70 = true := by kernel_rfl
theorem fn70 : Try.prog.funcs[70]? = some Try.f70 := by kernel_rfl
/- chancel/types.alike$1 -/
def ab71 : ACode := (.seq (.reg [⟨some 2, .box (.tmp 0), none⟩, ⟨some 3, .mv (.con (.bool false)), none⟩])
 (.seq (.dreg [⟨some 4, .load true 3 (.tmp 2), none⟩, ⟨some 5, .load false 1 (.tmp 1), none⟩, ⟨some 6, .iaddr 3 (.tmp 5) (.con (.int .i64 0)), none⟩, ⟨some 7, .load true 3 (.tmp 6), none⟩, ⟨some 8, .bin .neq (.agg [.i, .i, .s]) (.tmp 4) (.tmp 7), none⟩, ⟨some 3, .mv (.tmp 8), none⟩] [] [0, 0, 2, 6, 15, 31] [])
 .ret))
def ac71 : AFun := ⟨2, 9, ab71, [(.tmp 3)]⟩
theorem cf71 : compF Try.prog Try.f71 = some ac71 := by kernel_rfl
theorem cl71 : callable Try.prog 71 = true := by kernel_rfl
theorem fn71 : Try.prog.funcs[71]? = some Try.f71 := by kernel_rfl
/- chancel/schema.Field -/
def ab72 : ACode := (.seq (.reg [⟨some 2, .box (.tmp 0), none⟩, ⟨some 4, .alloc [.int .i64 0, .int .i64 0, .str []], none⟩, ⟨some 5, .mv (.con (.bool false)), none⟩])
 (.seq (.seq (.reg [⟨some 8, .faddr 2 (.tmp 2), none⟩, ⟨some 9, .load false 1 (.tmp 8), none⟩, ⟨some 10, .lenL (.tmp 9), none⟩, ⟨some 11, .mv (.con (.int .i64 0)), none⟩])
 (.block 0
 (.loop (.seq (.reg [⟨some 12, .bin .lss .plain (.tmp 11) (.tmp 10), none⟩])
 (.seq (.cond (.tmp 12)
 .skip
 (.exit 0))
 (.seq (.block 1
 (.seq (.reg [⟨some 13, .iaddr 4 (.tmp 9) (.tmp 11), none⟩, ⟨some 14, .load true 4 (.tmp 13), none⟩, ⟨some 7, .alloc [.str [], .int .i64 0, .int .i64 0, .str []], none⟩, ⟨none, .store 4 (.tmp 7) (.tmp 14), none⟩])
 (.seq (.reg [⟨some 15, .faddr 0 (.tmp 7), none⟩, ⟨some 16, .load false 1 (.tmp 15), none⟩, ⟨some 17, .mv (.tmp 1), none⟩, ⟨some 18, .bin .eql .plain (.tmp 16) (.tmp 17), none⟩])
 (.cond (.tmp 18)
 (.seq (.reg [⟨some 19, .faddr 1 (.tmp 7), none⟩, ⟨some 20, .load true 3 (.tmp 19), none⟩, ⟨none, .store 3 (.tmp 4) (.tmp 20), none⟩, ⟨some 5, .mv (.con (.bool true)), none⟩])
 .ret)
 .skip))))
 (.reg [⟨some 21, .bin .add .plain (.tmp 11) (.con (.int .i64 1)), none⟩, ⟨some 11, .mv (.tmp 21), none⟩])))))))
 (.seq (.reg [⟨some 22, .build [.int .i64 0, .int .i64 0, .str []] [], none⟩, ⟨none, .store 3 (.tmp 4) (.tmp 22), none⟩, ⟨some 5, .mv (.con (.bool false)), none⟩])
 .ret)))
def ac72 : AFun := ⟨2, 23, ab72, [(.cell 4 true 3), (.tmp 5)]⟩
theorem cf72 : compF Try.prog Try.f72 = some ac72 := by kernel_rfl
theorem cl72 : callable Try.prog 72 = true := by kernel_rfl
theorem fn72 : Try.prog.funcs[72]? = some Try.f72 := by kernel_rfl
/- chancel/types.all$1 -/
def ab73 : ACode := (.seq (.reg [⟨some 2, .box (.tmp 0), none⟩, ⟨some 3, .mv (.con (.bool false)), none⟩])
 (.seq (.reg [⟨some 4, .faddr 0 (.tmp 2), none⟩, ⟨some 5, .load false 1 (.tmp 4), none⟩, ⟨some 6, .load false 1 (.tmp 1), none⟩, ⟨some 7, .bin .neq .plain (.tmp 5) (.tmp 6), none⟩, ⟨some 3, .mv (.tmp 7), none⟩])
 .ret))
def ac73 : AFun := ⟨2, 8, ab73, [(.tmp 3)]⟩
theorem cf73 : compF Try.prog Try.f73 = some ac73 := by kernel_rfl
theorem cl73 : callable Try.prog 73 = true := by kernel_rfl
theorem fn73 : Try.prog.funcs[73]? = some Try.f73 := by kernel_rfl
/- slices.Clone[[]string,string] -/
def ab74 : ACode := (.seq (.reg [⟨some 2, .mv (.con .nils), none⟩])
 (.seq (.seq (.reg [⟨some 3, .mv (.tmp 0), none⟩, ⟨some 4, .bin .eql .slice (.tmp 3) (.con .nils), none⟩])
 (.cond (.tmp 4)
 (.seq (.reg [⟨some 2, .mv (.con .nils), none⟩])
 .ret)
 .skip))
 (.seq (.reg [⟨some 5, .bslice 1 0 [.str []] [], none⟩, ⟨some 6, .mv (.tmp 0), none⟩, ⟨some 7, .append 1 16 (.tmp 5) (.tmp 6), none⟩, ⟨some 2, .mv (.tmp 7), none⟩])
 .ret)))
def ac74 : AFun := ⟨1, 8, ab74, [(.tmp 2)]⟩
theorem cf74 : compF Try.prog Try.f74 = some ac74 := by kernel_rfl
theorem cl74 : callable Try.prog 74 = true := by kernel_rfl
theorem fn74 : Try.prog.funcs[74]? = some Try.f74 := by kernel_rfl
/- slices.Clone[[]chancel/api.Field,chancel/api.Field] -/
def ab75 : ACode := (.seq (.reg [⟨some 2, .mv (.con .nils), none⟩])
 (.seq (.seq (.reg [⟨some 3, .mv (.tmp 0), none⟩, ⟨some 4, .bin .eql .slice (.tmp 3) (.con .nils), none⟩])
 (.cond (.tmp 4)
 (.seq (.reg [⟨some 2, .mv (.con .nils), none⟩])
 .ret)
 .skip))
 (.seq (.reg [⟨some 5, .bslice 4 0 [.str [], .int .i64 0, .int .i64 0, .str []] [], none⟩, ⟨some 6, .mv (.tmp 0), none⟩, ⟨some 7, .append 4 48 (.tmp 5) (.tmp 6), none⟩, ⟨some 2, .mv (.tmp 7), none⟩])
 .ret)))
def ac75 : AFun := ⟨1, 8, ab75, [(.tmp 2)]⟩
theorem cf75 : compF Try.prog Try.f75 = some ac75 := by kernel_rfl
theorem cl75 : callable Try.prog 75 = true := by kernel_rfl
theorem fn75 : Try.prog.funcs[75]? = some Try.f75 := by kernel_rfl
/- chancel/chancelref1.Is -/
def ab76 : ACode := (.seq (.reg [⟨some 2, .mv (.con (.bool false)), none⟩])
 (.seq (.reg [⟨some 3, .mv (.tmp 0), none⟩, ⟨some 4, .bin .geq .plain (.tmp 3) (.con (.int .i32 0)), none⟩, ⟨some 5, .mv (.tmp 4), none⟩, ⟨some 6, .mv (.tmp 0), some (5, true)⟩, ⟨some 7, .bin .leq .plain (.tmp 6) (.con (.int .i32 1114111)), some (5, true)⟩, ⟨some 8, .pick (.tmp 5) (.tmp 7) (.con (.bool false)), none⟩, ⟨some 9, .mv (.tmp 8), none⟩, ⟨some 10, .mv (.tmp 0), some (9, true)⟩, ⟨some 11, .bin .lss .plain (.tmp 10) (.con (.int .i32 55296)), some (9, true)⟩, ⟨some 12, .mv (.tmp 11), some (9, true)⟩, ⟨some 13, .mv (.tmp 0), some (12, false)⟩, ⟨some 14, .bin .gtr .plain (.tmp 13) (.con (.int .i32 57343)), some (12, false)⟩, ⟨some 15, .pick (.tmp 12) (.con (.bool true)) (.tmp 14), some (9, true)⟩, ⟨some 16, .pick (.tmp 9) (.tmp 15) (.con (.bool false)), none⟩, ⟨some 2, .mv (.tmp 16), none⟩])
 .ret))
def ac76 : AFun := ⟨1, 17, ab76, [(.tmp 2)]⟩
theorem cf76 : compF Try.prog Try.f76 = some ac76 := by kernel_rfl
theorem cl76 : callable Try.prog 76 = true := by kernel_rfl
theorem fn76 : Try.prog.funcs[76]? = some Try.f76 := by kernel_rfl
/- chancel/chancelref1.put -/
def ab77 : ACode := (.seq (.reg [⟨some 4, .mv (.con .nils), none⟩])
 (.seq (.block 0
 (.seq (.reg [⟨some 6, .mv (.tmp 1), none⟩, ⟨some 7, .bin .lss .plain (.tmp 6) (.con (.int .i32 128)), none⟩, ⟨some 5, .mv (.tmp 7), none⟩])
 (.cond (.tmp 5)
 (.seq (.reg [⟨some 8, .mv (.tmp 0), none⟩, ⟨some 9, .mv (.tmp 1), none⟩, ⟨some 10, .cvInt .u8 (.tmp 9), none⟩, ⟨some 11, .bslice 1 1 [.int .u8 0] [(0, 1, .tmp 10)], none⟩, ⟨some 12, .append 1 1 (.tmp 8) (.tmp 11), none⟩, ⟨some 4, .mv (.tmp 12), none⟩])
 .ret)
 (.seq (.reg [⟨some 14, .mv (.tmp 1), none⟩, ⟨some 15, .bin .lss .plain (.tmp 14) (.con (.int .i32 2048)), none⟩, ⟨some 13, .mv (.tmp 15), none⟩])
 (.cond (.tmp 13)
 (.seq (.reg [⟨some 16, .mv (.tmp 0), none⟩, ⟨some 17, .mv (.tmp 1), none⟩, ⟨some 18, .bin .shr .plain (.tmp 17) (.con (.int .u64 6)), none⟩, ⟨some 19, .cvInt .u8 (.tmp 18), none⟩, ⟨some 20, .bin .or .plain (.con (.int .u8 192)) (.tmp 19), none⟩, ⟨some 21, .mv (.tmp 1), none⟩, ⟨some 22, .bin .and .plain (.tmp 21) (.con (.int .i32 63)), none⟩, ⟨some 23, .cvInt .u8 (.tmp 22), none⟩, ⟨some 24, .bin .or .plain (.con (.int .u8 128)) (.tmp 23), none⟩, ⟨some 25, .bslice 1 2 [.int .u8 0] [(0, 1, .tmp 20), (1, 1, .tmp 24)], none⟩, ⟨some 26, .append 1 1 (.tmp 16) (.tmp 25), none⟩, ⟨some 4, .mv (.tmp 26), none⟩])
 .ret)
 (.seq (.reg [⟨some 28, .mv (.tmp 1), none⟩, ⟨some 29, .bin .lss .plain (.tmp 28) (.con (.int .i32 65536)), none⟩, ⟨some 27, .mv (.tmp 29), none⟩])
 (.cond (.tmp 27)
 (.seq (.reg [⟨some 30, .mv (.tmp 0), none⟩, ⟨some 31, .mv (.tmp 1), none⟩, ⟨some 32, .bin .shr .plain (.tmp 31) (.con (.int .u64 12)), none⟩, ⟨some 33, .cvInt .u8 (.tmp 32), none⟩, ⟨some 34, .bin .or .plain (.con (.int .u8 224)) (.tmp 33), none⟩, ⟨some 35, .mv (.tmp 1), none⟩, ⟨some 36, .bin .shr .plain (.tmp 35) (.con (.int .u64 6)), none⟩, ⟨some 37, .bin .and .plain (.tmp 36) (.con (.int .i32 63)), none⟩, ⟨some 38, .cvInt .u8 (.tmp 37), none⟩, ⟨some 39, .bin .or .plain (.con (.int .u8 128)) (.tmp 38), none⟩, ⟨some 40, .mv (.tmp 1), none⟩, ⟨some 41, .bin .and .plain (.tmp 40) (.con (.int .i32 63)), none⟩, ⟨some 42, .cvInt .u8 (.tmp 41), none⟩, ⟨some 43, .bin .or .plain (.con (.int .u8 128)) (.tmp 42), none⟩, ⟨some 44, .bslice 1 3 [.int .u8 0] [(0, 1, .tmp 34), (1, 1, .tmp 39), (2, 1, .tmp 43)], none⟩, ⟨some 45, .append 1 1 (.tmp 30) (.tmp 44), none⟩, ⟨some 4, .mv (.tmp 45), none⟩])
 .ret)
 .skip)))))))
 (.seq (.reg [⟨some 46, .mv (.tmp 0), none⟩, ⟨some 47, .mv (.tmp 1), none⟩, ⟨some 48, .bin .shr .plain (.tmp 47) (.con (.int .u64 18)), none⟩, ⟨some 49, .cvInt .u8 (.tmp 48), none⟩, ⟨some 50, .bin .or .plain (.con (.int .u8 240)) (.tmp 49), none⟩, ⟨some 51, .mv (.tmp 1), none⟩, ⟨some 52, .bin .shr .plain (.tmp 51) (.con (.int .u64 12)), none⟩, ⟨some 53, .bin .and .plain (.tmp 52) (.con (.int .i32 63)), none⟩, ⟨some 54, .cvInt .u8 (.tmp 53), none⟩, ⟨some 55, .bin .or .plain (.con (.int .u8 128)) (.tmp 54), none⟩, ⟨some 56, .mv (.tmp 1), none⟩, ⟨some 57, .bin .shr .plain (.tmp 56) (.con (.int .u64 6)), none⟩, ⟨some 58, .bin .and .plain (.tmp 57) (.con (.int .i32 63)), none⟩, ⟨some 59, .cvInt .u8 (.tmp 58), none⟩, ⟨some 60, .bin .or .plain (.con (.int .u8 128)) (.tmp 59), none⟩, ⟨some 61, .mv (.tmp 1), none⟩, ⟨some 62, .bin .and .plain (.tmp 61) (.con (.int .i32 63)), none⟩, ⟨some 63, .cvInt .u8 (.tmp 62), none⟩, ⟨some 64, .bin .or .plain (.con (.int .u8 128)) (.tmp 63), none⟩, ⟨some 65, .bslice 1 4 [.int .u8 0] [(0, 1, .tmp 50), (1, 1, .tmp 55), (2, 1, .tmp 60), (3, 1, .tmp 64)], none⟩, ⟨some 66, .append 1 1 (.tmp 46) (.tmp 65), none⟩, ⟨some 4, .mv (.tmp 66), none⟩])
 .ret)))
def ac77 : AFun := ⟨2, 67, ab77, [(.tmp 4)]⟩
theorem cf77 : compF Try.prog Try.f77 = some ac77 := by kernel_rfl
theorem cl77 : callable Try.prog 77 = true := by kernel_rfl
theorem fn77 : Try.prog.funcs[77]? = some Try.f77 := by kernel_rfl
/- slices.IndexFunc[[]chancel/api.Type,chancel/api.Type] -/
def ab78 : ACode := (.seq (.reg [⟨some 4, .mv (.con (.int .i64 0)), none⟩])
 (.seq (.seq (.reg [⟨some 6, .mv (.tmp 0), none⟩, ⟨some 7, .lenL (.tmp 6), none⟩, ⟨some 8, .mv (.con (.int .i64 0)), none⟩])
 (.block 0
 (.loop (.seq (.reg [⟨some 9, .bin .lss .plain (.tmp 8) (.tmp 7), none⟩])
 (.seq (.cond (.tmp 9)
 .skip
 (.exit 0))
 (.seq (.block 1
 (.seq (.reg [⟨some 10, .mv (.tmp 8), none⟩, ⟨some 5, .mv (.tmp 10), none⟩])
 (.seq (.reg [⟨some 11, .mv (.tmp 1), none⟩, ⟨some 12, .mv (.tmp 0), none⟩, ⟨some 13, .mv (.tmp 5), none⟩, ⟨some 14, .iaddr 3 (.tmp 12) (.tmp 13), none⟩, ⟨some 15, .load true 3 (.tmp 14), none⟩, ⟨some 16, .callv (.tmp 11) [.tmp 15], none⟩])
 (.cond (.tmp 16)
 (.seq (.reg [⟨some 17, .mv (.tmp 5), none⟩, ⟨some 4, .mv (.tmp 17), none⟩])
 .ret)
 .skip))))
 (.reg [⟨some 18, .bin .add .plain (.tmp 8) (.con (.int .i64 1)), none⟩, ⟨some 8, .mv (.tmp 18), none⟩])))))))
 (.seq (.reg [⟨some 4, .mv (.con (.int .i64 (-1))), none⟩])
 .ret)))
def ac78 : AFun := ⟨2, 19, ab78, [(.tmp 4)]⟩
theorem cf78 : compF Try.prog Try.f78 = some ac78 := by kernel_rfl
theorem cl78 : callable Try.prog 78 = true := by kernel_rfl
theorem fn78 : Try.prog.funcs[78]? = some Try.f78 := by kernel_rfl
end Go.Proofs.Ytcdbpmmomgehfaa.Va
