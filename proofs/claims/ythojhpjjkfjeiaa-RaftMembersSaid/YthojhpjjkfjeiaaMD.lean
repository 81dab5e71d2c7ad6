/- Texts RmE to RmF of this claim, in one. Conditions: none. -/
import Derived.Test.YthojhpjjkfjeiaaRm7
set_option maxRecDepth 1000000
set_option maxHeartbeats 0
set_option linter.all false
namespace Go.Proofs.Ythojhpjjkfjeiaa.Va
open Go.Proofs
theorem mp_2_3_3_0 : PChk 2 9 0 410 3 := fun E D made => by kernel_rfl
theorem mp_3_2_1_0 : PChk 3 7 0 200 1 := fun E D made => by kernel_rfl
theorem mc_3_3_3 : CChk 16 420 4 := fun E made => by kernel_rfl
theorem mp_1_3_2_1 : PChk 1 4 1 310 2 := fun E D made => by kernel_rfl
theorem mc_2_3_1 : CChk 10 220 2 := fun E made => by kernel_rfl
theorem mc_0_3_2 : CChk 3 320 3 := fun E made => by kernel_rfl
theorem mp_1_3_1_0 : PChk 1 4 0 210 1 := fun E D made => by kernel_rfl
theorem mp_1_1_1_0 : PChk 1 2 0 190 1 := fun E D made => by kernel_rfl
theorem mc_1_1_0 : CChk 3 100 1 := fun E made => by kernel_rfl
theorem mp_2_3_0_3 : PChk 2 0 6 110 0 := fun E D made => by kernel_rfl
theorem ms_2 : SChk 2 := ⟨fun E b made => by kernel_rfl, fun E b made => by kernel_rfl, fun E b made => by kernel_rfl, fun E b r made => by kernel_rfl⟩
theorem ms_8 : SChk 8 := ⟨fun E b made => by kernel_rfl, fun E b made => by kernel_rfl, fun E b made => by kernel_rfl, fun E b r made => by kernel_rfl⟩
theorem ms_16 : SChk 16 := ⟨fun E b made => by kernel_rfl, fun E b made => by kernel_rfl, fun E b made => by kernel_rfl, fun E b r made => by kernel_rfl⟩
end Go.Proofs.Ythojhpjjkfjeiaa.Va
set_option maxRecDepth 1000000
set_option maxHeartbeats 0
set_option linter.all false
namespace Go.Proofs.Ythojhpjjkfjeiaa.Va
open Go.Proofs
theorem mp_2_3_2_0 : PChk 2 8 0 310 2 := fun E D made => by kernel_rfl
theorem mp_3_3_1_2 : PChk 3 4 6 210 1 := fun E D made => by kernel_rfl
theorem mp_1_3_3_0 : PChk 1 6 0 410 3 := fun E D made => by kernel_rfl
theorem mp_1_3_2_0 : PChk 1 5 0 310 2 := fun E D made => by kernel_rfl
theorem mc_1_3_2 : CChk 7 320 3 := fun E made => by kernel_rfl
theorem mc_0_3_3 : CChk 4 420 4 := fun E made => by kernel_rfl
theorem mp_3_3_0_3 : PChk 3 0 9 110 0 := fun E D made => by kernel_rfl
theorem mp_1_2_1_1 : PChk 1 2 1 200 1 := fun E D made => by kernel_rfl
theorem mc_2_1_0 : CChk 5 100 1 := fun E made => by kernel_rfl
theorem mc_0_3_0 : CChk 1 120 1 := fun E made => by kernel_rfl
theorem ms_4 : SChk 4 := ⟨fun E b made => by kernel_rfl, fun E b made => by kernel_rfl, fun E b made => by kernel_rfl, fun E b r made => by kernel_rfl⟩
theorem ms_10 : SChk 10 := ⟨fun E b made => by kernel_rfl, fun E b made => by kernel_rfl, fun E b made => by kernel_rfl, fun E b r made => by kernel_rfl⟩
theorem mp_1_3_0_3 : PChk 1 0 3 110 0 := fun E D made => by kernel_rfl
end Go.Proofs.Ythojhpjjkfjeiaa.Va
