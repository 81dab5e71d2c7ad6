/- Texts RmA to RmB of this claim, in one. Conditions: none. -/
import Derived.Test.YthojhpjjkfjeiaaRm7
set_option maxRecDepth 1000000
set_option maxHeartbeats 0
set_option linter.all false
namespace Go.Proofs.Ythojhpjjkfjeiaa.Va
open Go.Proofs
theorem mp_3_3_3_0 : PChk 3 12 0 410 3 := fun E D made => by kernel_rfl
theorem mc_3_3_2 : CChk 15 320 3 := fun E made => by kernel_rfl
theorem mc_3_3_1 : CChk 14 220 2 := fun E made => by kernel_rfl
theorem mc_1_2_2 : CChk 6 310 3 := fun E made => by kernel_rfl
theorem mc_1_2_1 : CChk 5 210 2 := fun E made => by kernel_rfl
theorem mp_1_3_1_1 : PChk 1 3 1 210 1 := fun E D made => by kernel_rfl
theorem mc_2_2_0 : CChk 7 110 1 := fun E made => by kernel_rfl
theorem mc_2_0_0 : CChk 3 90 1 := fun E made => by kernel_rfl
theorem mp_2_2_0_2 : PChk 2 0 4 100 0 := fun E D made => by kernel_rfl
theorem ms_6 : SChk 6 := ⟨fun E b made => by kernel_rfl, fun E b made => by kernel_rfl, fun E b made => by kernel_rfl, fun E b r made => by kernel_rfl⟩
theorem ms_13 : SChk 13 := ⟨fun E b made => by kernel_rfl, fun E b made => by kernel_rfl, fun E b made => by kernel_rfl, fun E b r made => by kernel_rfl⟩
theorem mp_1_0_0_0 : PChk 1 0 0 80 0 := fun E D made => by kernel_rfl
theorem mg_0 : GChk := by
  unfold GChk
  kernel_rfl
end Go.Proofs.Ythojhpjjkfjeiaa.Va
set_option maxRecDepth 1000000
set_option maxHeartbeats 0
set_option linter.all false
namespace Go.Proofs.Ythojhpjjkfjeiaa.Va
open Go.Proofs
theorem mp_3_3_2_0 : PChk 3 11 0 310 2 := fun E D made => by kernel_rfl
theorem mp_3_1_1_0 : PChk 3 4 0 190 1 := fun E D made => by kernel_rfl
theorem mc_2_3_3 : CChk 12 420 4 := fun E made => by kernel_rfl
theorem mp_1_2_2_0 : PChk 1 4 0 300 2 := fun E D made => by kernel_rfl
theorem mc_2_1_1 : CChk 6 200 2 := fun E made => by kernel_rfl
theorem mc_3_3_0 : CChk 13 120 1 := fun E made => by kernel_rfl
theorem mp_1_2_1_0 : PChk 1 3 0 200 1 := fun E D made => by kernel_rfl
theorem mc_1_3_0 : CChk 5 120 1 := fun E made => by kernel_rfl
theorem mc_0_2_0 : CChk 1 110 1 := fun E made => by kernel_rfl
theorem ms_3 : SChk 3 := ⟨fun E b made => by kernel_rfl, fun E b made => by kernel_rfl, fun E b made => by kernel_rfl, fun E b r made => by kernel_rfl⟩
theorem ms_9 : SChk 9 := ⟨fun E b made => by kernel_rfl, fun E b made => by kernel_rfl, fun E b made => by kernel_rfl, fun E b r made => by kernel_rfl⟩
theorem ms_17 : SChk 17 := ⟨fun E b made => by kernel_rfl, fun E b made => by kernel_rfl, fun E b made => by kernel_rfl, fun E b r made => by kernel_rfl⟩
end Go.Proofs.Ythojhpjjkfjeiaa.Va
