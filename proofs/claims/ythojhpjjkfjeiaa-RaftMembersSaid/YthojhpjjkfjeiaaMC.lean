/- Texts RmC to RmD of this claim, in one. Conditions: none. -/
import Derived.Test.YthojhpjjkfjeiaaRm7
set_option maxRecDepth 1000000
set_option maxHeartbeats 0
set_option linter.all false
namespace Go.Proofs.Ythojhpjjkfjeiaa.Va
open Go.Proofs
theorem mp_3_3_2_1 : PChk 3 8 3 310 2 := fun E D made => by kernel_rfl
theorem mp_2_3_1_0 : PChk 2 7 0 210 1 := fun E D made => by kernel_rfl
theorem mp_2_2_1_0 : PChk 2 5 0 200 1 := fun E D made => by kernel_rfl
theorem mp_2_1_1_0 : PChk 2 3 0 190 1 := fun E D made => by kernel_rfl
theorem mc_2_2_1 : CChk 8 210 2 := fun E made => by kernel_rfl
theorem mc_1_1_1 : CChk 4 200 2 := fun E made => by kernel_rfl
theorem mc_3_2_0 : CChk 10 110 1 := fun E made => by kernel_rfl
theorem mc_3_0_0 : CChk 4 90 1 := fun E made => by kernel_rfl
theorem mc_0_0_0 : CChk 1 90 1 := fun E made => by kernel_rfl
theorem mp_2_0_0_0 : PChk 2 0 0 80 0 := fun E D made => by kernel_rfl
theorem ms_12 : SChk 12 := ⟨fun E b made => by kernel_rfl, fun E b made => by kernel_rfl, fun E b made => by kernel_rfl, fun E b r made => by kernel_rfl⟩
theorem mp_1_1_0_1 : PChk 1 0 1 90 0 := fun E D made => by kernel_rfl
end Go.Proofs.Ythojhpjjkfjeiaa.Va
set_option maxRecDepth 1000000
set_option maxHeartbeats 0
set_option linter.all false
namespace Go.Proofs.Ythojhpjjkfjeiaa.Va
open Go.Proofs
theorem mp_3_2_2_0 : PChk 3 8 0 300 2 := fun E D made => by kernel_rfl
theorem mp_3_2_1_1 : PChk 3 4 3 200 1 := fun E D made => by kernel_rfl
theorem mp_2_2_1_1 : PChk 2 3 2 200 1 := fun E D made => by kernel_rfl
theorem mc_2_2_2 : CChk 9 310 3 := fun E made => by kernel_rfl
theorem mc_3_1_1 : CChk 8 200 2 := fun E made => by kernel_rfl
theorem mc_0_1_1 : CChk 2 200 2 := fun E made => by kernel_rfl
theorem mp_1_3_1_2 : PChk 1 2 2 210 1 := fun E D made => by kernel_rfl
theorem mc_3_1_0 : CChk 7 100 1 := fun E made => by kernel_rfl
theorem mp_3_0_0_0 : PChk 3 0 0 80 0 := fun E D made => by kernel_rfl
theorem mp_2_1_0_1 : PChk 2 0 2 90 0 := fun E D made => by kernel_rfl
theorem ms_14 : SChk 14 := ⟨fun E b made => by kernel_rfl, fun E b made => by kernel_rfl, fun E b made => by kernel_rfl, fun E b r made => by kernel_rfl⟩
end Go.Proofs.Ythojhpjjkfjeiaa.Va
