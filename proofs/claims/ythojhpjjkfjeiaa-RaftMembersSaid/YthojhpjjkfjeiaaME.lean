/- Texts RmG to RmH of this claim, in one. Conditions: none. -/
import Derived.Test.YthojhpjjkfjeiaaRm7
set_option maxRecDepth 1000000
set_option maxHeartbeats 0
set_option linter.all false
namespace Go.Proofs.Ythojhpjjkfjeiaa.Va
open Go.Proofs
theorem mp_2_3_2_1 : PChk 2 6 2 310 2 := fun E D made => by kernel_rfl
theorem mp_2_2_2_0 : PChk 2 6 0 300 2 := fun E D made => by kernel_rfl
theorem mp_2_3_1_1 : PChk 2 5 2 210 1 := fun E D made => by kernel_rfl
theorem mc_3_2_2 : CChk 12 310 3 := fun E made => by kernel_rfl
theorem mc_1_3_3 : CChk 8 420 4 := fun E made => by kernel_rfl
theorem mc_0_2_2 : CChk 3 310 3 := fun E made => by kernel_rfl
theorem mc_0_3_1 : CChk 2 220 2 := fun E made => by kernel_rfl
theorem mp_3_2_0_2 : PChk 3 0 6 100 0 := fun E D made => by kernel_rfl
theorem mc_1_2_0 : CChk 4 110 1 := fun E made => by kernel_rfl
theorem mc_1_0_0 : CChk 2 90 1 := fun E made => by kernel_rfl
theorem ms_5 : SChk 5 := ⟨fun E b made => by kernel_rfl, fun E b made => by kernel_rfl, fun E b made => by kernel_rfl, fun E b r made => by kernel_rfl⟩
theorem ms_11 : SChk 11 := ⟨fun E b made => by kernel_rfl, fun E b made => by kernel_rfl, fun E b made => by kernel_rfl, fun E b r made => by kernel_rfl⟩
theorem mp_1_2_0_2 : PChk 1 0 2 100 0 := fun E D made => by kernel_rfl
end Go.Proofs.Ythojhpjjkfjeiaa.Va
set_option maxRecDepth 1000000
set_option maxHeartbeats 0
set_option linter.all false
namespace Go.Proofs.Ythojhpjjkfjeiaa.Va
open Go.Proofs
theorem mp_3_3_1_0 : PChk 3 10 0 210 1 := fun E D made => by kernel_rfl
theorem mp_3_3_1_1 : PChk 3 7 3 210 1 := fun E D made => by kernel_rfl
theorem mp_2_3_1_2 : PChk 2 3 4 210 1 := fun E D made => by kernel_rfl
theorem mc_2_3_2 : CChk 11 320 3 := fun E made => by kernel_rfl
theorem mc_3_2_1 : CChk 11 210 2 := fun E made => by kernel_rfl
theorem mc_1_3_1 : CChk 6 220 2 := fun E made => by kernel_rfl
theorem mc_0_2_1 : CChk 2 210 2 := fun E made => by kernel_rfl
theorem mc_2_3_0 : CChk 9 120 1 := fun E made => by kernel_rfl
theorem mp_3_1_0_1 : PChk 3 0 3 90 0 := fun E D made => by kernel_rfl
theorem mc_0_1_0 : CChk 1 100 1 := fun E made => by kernel_rfl
theorem ms_1 : SChk 1 := ⟨fun E b made => by kernel_rfl, fun E b made => by kernel_rfl, fun E b made => by kernel_rfl, fun E b r made => by kernel_rfl⟩
theorem ms_7 : SChk 7 := ⟨fun E b made => by kernel_rfl, fun E b made => by kernel_rfl, fun E b made => by kernel_rfl, fun E b r made => by kernel_rfl⟩
theorem ms_15 : SChk 15 := ⟨fun E b made => by kernel_rfl, fun E b made => by kernel_rfl, fun E b made => by kernel_rfl, fun E b r made => by kernel_rfl⟩
end Go.Proofs.Ythojhpjjkfjeiaa.Va
