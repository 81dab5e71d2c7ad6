/- 3 cores: what a computation says (printed by gen_ord.py). Conditions: none. -/
import Derived.Test.YthojhpjjkfjeiaaM10
set_option maxRecDepth 1000000
set_option maxHeartbeats 0
set_option linter.all false
namespace Go.Proofs.Ythojhpjjkfjeiaa.Va
open Go.Proofs

theorem o3_1 (D : Nat → Byts) : ordG 3 = stab 3 0 D 80 (80 % 3) := by kernel_rfl
theorem o3_2 : ((grpNew 3 (oneTo 3)).roundsB 100, ((grpNew 3 (oneTo 3)).roundsP 100).map (·.1)) = (true, ((grpNew 3 (oneTo 3)).roundsP 100).map (·.2)) := by kernel_rfl
theorem o3_p (D : Nat → Byts) : (Grp.propsB (stab 3 0 D 80 (80 % 3)) D 15, (Grp.propsP (stab 3 0 D 80 (80 % 3)) D 15).map (·.1)) = (true, (Grp.propsP (stab 3 0 D 80 (80 % 3)) D 15).map (·.2)) := by kernel_rfl
theorem o3_0_s0 (D : Nat → Byts) (b : Nat) : stL 3 0 D b 0 false = stR 3 0 D b 0 false 1 := by kernel_rfl
theorem o3_0_s1 (D : Nat → Byts) (b : Nat) : stL 3 0 D b 1 false = stR 3 0 D b 1 false 2 := by kernel_rfl
theorem o3_0_s2 (D : Nat → Byts) (b : Nat) : stL 3 0 D b 2 true = stR 3 0 D b 2 true 0 := by kernel_rfl
theorem o3_0_3 (D : Nat → Byts) : ppL 3 0 D 80 = ppR 3 0 D 80 := by kernel_rfl
theorem o3_0_5 (D : Nat → Byts) : (stLead 3 0 D (80 + 2)).okB 0 = true := by kernel_rfl
theorem o3_1_s0 (D : Nat → Byts) (b : Nat) : stL 3 1 D b 0 false = stR 3 1 D b 0 false 1 := by kernel_rfl
theorem o3_1_s1 (D : Nat → Byts) (b : Nat) : stL 3 1 D b 1 false = stR 3 1 D b 1 false 2 := by kernel_rfl
theorem o3_1_s2 (D : Nat → Byts) (b : Nat) : stL 3 1 D b 2 true = stR 3 1 D b 2 true 0 := by kernel_rfl
theorem o3_1_3 (D : Nat → Byts) : ppL 3 1 D 80 = ppR 3 1 D 80 := by kernel_rfl
theorem o3_1_5 (D : Nat → Byts) : (stLead 3 1 D (80 + 2)).okB 0 = true := by kernel_rfl
theorem o3_2_s0 (D : Nat → Byts) (b : Nat) : stL 3 2 D b 0 false = stR 3 2 D b 0 false 1 := by kernel_rfl
theorem o3_2_s1 (D : Nat → Byts) (b : Nat) : stL 3 2 D b 1 false = stR 3 2 D b 1 false 2 := by kernel_rfl
theorem o3_2_s2 (D : Nat → Byts) (b : Nat) : stL 3 2 D b 2 true = stR 3 2 D b 2 true 0 := by kernel_rfl
theorem o3_2_3 (D : Nat → Byts) : ppL 3 2 D 80 = ppR 3 2 D 80 := by kernel_rfl
theorem o3_2_5 (D : Nat → Byts) : (stLead 3 2 D (80 + 2)).okB 0 = true := by kernel_rfl
theorem o3_3_s0 (D : Nat → Byts) (b : Nat) : stL 3 3 D b 0 false = stR 3 3 D b 0 false 1 := by kernel_rfl
theorem o3_3_s1 (D : Nat → Byts) (b : Nat) : stL 3 3 D b 1 false = stR 3 3 D b 1 false 2 := by kernel_rfl
theorem o3_3_s2 (D : Nat → Byts) (b : Nat) : stL 3 3 D b 2 true = stR 3 3 D b 2 true 0 := by kernel_rfl
theorem o3_3_3 (D : Nat → Byts) : ppL 3 3 D 80 = ppR 3 3 D 80 := by kernel_rfl
theorem o3_3_5 (D : Nat → Byts) : (stLead 3 3 D (80 + 2)).okB 0 = true := by kernel_rfl
theorem o3_4_s0 (D : Nat → Byts) (b : Nat) : stL 3 4 D b 0 false = stR 3 4 D b 0 false 1 := by kernel_rfl
theorem o3_4_s1 (D : Nat → Byts) (b : Nat) : stL 3 4 D b 1 false = stR 3 4 D b 1 false 2 := by kernel_rfl
theorem o3_4_s2 (D : Nat → Byts) (b : Nat) : stL 3 4 D b 2 true = stR 3 4 D b 2 true 0 := by kernel_rfl
theorem o3_4_3 (D : Nat → Byts) : ppL 3 4 D 80 = ppR 3 4 D 80 := by kernel_rfl
theorem o3_4_5 (D : Nat → Byts) : (stLead 3 4 D (80 + 2)).okB 0 = true := by kernel_rfl
theorem o3_5_s0 (D : Nat → Byts) (b : Nat) : stL 3 5 D b 0 false = stR 3 5 D b 0 false 1 := by kernel_rfl
theorem o3_5_s1 (D : Nat → Byts) (b : Nat) : stL 3 5 D b 1 false = stR 3 5 D b 1 false 2 := by kernel_rfl
theorem o3_5_s2 (D : Nat → Byts) (b : Nat) : stL 3 5 D b 2 true = stR 3 5 D b 2 true 0 := by kernel_rfl
theorem o3_5_3 (D : Nat → Byts) : ppL 3 5 D 80 = ppR 3 5 D 80 := by kernel_rfl
theorem o3_5_5 (D : Nat → Byts) : (stLead 3 5 D (80 + 2)).okB 0 = true := by kernel_rfl
theorem o3_6_s0 (D : Nat → Byts) (b : Nat) : stL 3 6 D b 0 false = stR 3 6 D b 0 false 1 := by kernel_rfl
theorem o3_6_s1 (D : Nat → Byts) (b : Nat) : stL 3 6 D b 1 false = stR 3 6 D b 1 false 2 := by kernel_rfl
theorem o3_6_s2 (D : Nat → Byts) (b : Nat) : stL 3 6 D b 2 true = stR 3 6 D b 2 true 0 := by kernel_rfl
theorem o3_6_3 (D : Nat → Byts) : ppL 3 6 D 80 = ppR 3 6 D 80 := by kernel_rfl
theorem o3_6_5 (D : Nat → Byts) : (stLead 3 6 D (80 + 2)).okB 0 = true := by kernel_rfl
theorem o3_7_s0 (D : Nat → Byts) (b : Nat) : stL 3 7 D b 0 false = stR 3 7 D b 0 false 1 := by kernel_rfl
theorem o3_7_s1 (D : Nat → Byts) (b : Nat) : stL 3 7 D b 1 false = stR 3 7 D b 1 false 2 := by kernel_rfl
theorem o3_7_s2 (D : Nat → Byts) (b : Nat) : stL 3 7 D b 2 true = stR 3 7 D b 2 true 0 := by kernel_rfl
theorem o3_7_3 (D : Nat → Byts) : ppL 3 7 D 80 = ppR 3 7 D 80 := by kernel_rfl
theorem o3_7_5 (D : Nat → Byts) : (stLead 3 7 D (80 + 2)).okB 0 = true := by kernel_rfl
theorem o3_8_s0 (D : Nat → Byts) (b : Nat) : stL 3 8 D b 0 false = stR 3 8 D b 0 false 1 := by kernel_rfl
theorem o3_8_s1 (D : Nat → Byts) (b : Nat) : stL 3 8 D b 1 false = stR 3 8 D b 1 false 2 := by kernel_rfl
theorem o3_8_s2 (D : Nat → Byts) (b : Nat) : stL 3 8 D b 2 true = stR 3 8 D b 2 true 0 := by kernel_rfl
theorem o3_8_3 (D : Nat → Byts) : ppL 3 8 D 80 = ppR 3 8 D 80 := by kernel_rfl
theorem o3_8_5 (D : Nat → Byts) : (stLead 3 8 D (80 + 2)).okB 0 = true := by kernel_rfl
theorem o3_9_s0 (D : Nat → Byts) (b : Nat) : stL 3 9 D b 0 false = stR 3 9 D b 0 false 1 := by kernel_rfl
theorem o3_9_s1 (D : Nat → Byts) (b : Nat) : stL 3 9 D b 1 false = stR 3 9 D b 1 false 2 := by kernel_rfl
theorem o3_9_s2 (D : Nat → Byts) (b : Nat) : stL 3 9 D b 2 true = stR 3 9 D b 2 true 0 := by kernel_rfl
theorem o3_9_3 (D : Nat → Byts) : ppL 3 9 D 80 = ppR 3 9 D 80 := by kernel_rfl
theorem o3_9_5 (D : Nat → Byts) : (stLead 3 9 D (80 + 2)).okB 0 = true := by kernel_rfl
theorem o3_10_s0 (D : Nat → Byts) (b : Nat) : stL 3 10 D b 0 false = stR 3 10 D b 0 false 1 := by kernel_rfl
theorem o3_10_s1 (D : Nat → Byts) (b : Nat) : stL 3 10 D b 1 false = stR 3 10 D b 1 false 2 := by kernel_rfl
theorem o3_10_s2 (D : Nat → Byts) (b : Nat) : stL 3 10 D b 2 true = stR 3 10 D b 2 true 0 := by kernel_rfl
theorem o3_10_3 (D : Nat → Byts) : ppL 3 10 D 80 = ppR 3 10 D 80 := by kernel_rfl
theorem o3_10_5 (D : Nat → Byts) : (stLead 3 10 D (80 + 2)).okB 0 = true := by kernel_rfl
theorem o3_11_s0 (D : Nat → Byts) (b : Nat) : stL 3 11 D b 0 false = stR 3 11 D b 0 false 1 := by kernel_rfl
theorem o3_11_s1 (D : Nat → Byts) (b : Nat) : stL 3 11 D b 1 false = stR 3 11 D b 1 false 2 := by kernel_rfl
theorem o3_11_s2 (D : Nat → Byts) (b : Nat) : stL 3 11 D b 2 true = stR 3 11 D b 2 true 0 := by kernel_rfl
theorem o3_11_3 (D : Nat → Byts) : ppL 3 11 D 80 = ppR 3 11 D 80 := by kernel_rfl
theorem o3_11_5 (D : Nat → Byts) : (stLead 3 11 D (80 + 2)).okB 0 = true := by kernel_rfl
theorem o3_12_s0 (D : Nat → Byts) (b : Nat) : stL 3 12 D b 0 false = stR 3 12 D b 0 false 1 := by kernel_rfl
theorem o3_12_s1 (D : Nat → Byts) (b : Nat) : stL 3 12 D b 1 false = stR 3 12 D b 1 false 2 := by kernel_rfl
theorem o3_12_s2 (D : Nat → Byts) (b : Nat) : stL 3 12 D b 2 true = stR 3 12 D b 2 true 0 := by kernel_rfl
theorem o3_12_3 (D : Nat → Byts) : ppL 3 12 D 80 = ppR 3 12 D 80 := by kernel_rfl
theorem o3_12_5 (D : Nat → Byts) : (stLead 3 12 D (80 + 2)).okB 0 = true := by kernel_rfl
theorem o3_13_s0 (D : Nat → Byts) (b : Nat) : stL 3 13 D b 0 false = stR 3 13 D b 0 false 1 := by kernel_rfl
theorem o3_13_s1 (D : Nat → Byts) (b : Nat) : stL 3 13 D b 1 false = stR 3 13 D b 1 false 2 := by kernel_rfl
theorem o3_13_s2 (D : Nat → Byts) (b : Nat) : stL 3 13 D b 2 true = stR 3 13 D b 2 true 0 := by kernel_rfl
theorem o3_13_3 (D : Nat → Byts) : ppL 3 13 D 80 = ppR 3 13 D 80 := by kernel_rfl
theorem o3_13_5 (D : Nat → Byts) : (stLead 3 13 D (80 + 2)).okB 0 = true := by kernel_rfl
theorem o3_14_s0 (D : Nat → Byts) (b : Nat) : stL 3 14 D b 0 false = stR 3 14 D b 0 false 1 := by kernel_rfl
theorem o3_14_s1 (D : Nat → Byts) (b : Nat) : stL 3 14 D b 1 false = stR 3 14 D b 1 false 2 := by kernel_rfl
theorem o3_14_s2 (D : Nat → Byts) (b : Nat) : stL 3 14 D b 2 true = stR 3 14 D b 2 true 0 := by kernel_rfl
theorem o3_14_3 (D : Nat → Byts) : ppL 3 14 D 80 = ppR 3 14 D 80 := by kernel_rfl
theorem o3_14_5 (D : Nat → Byts) : (stLead 3 14 D (80 + 2)).okB 0 = true := by kernel_rfl
theorem o3_15_s0 (D : Nat → Byts) (b : Nat) : stL 3 15 D b 0 false = stR 3 15 D b 0 false 1 := by kernel_rfl
theorem o3_15_s1 (D : Nat → Byts) (b : Nat) : stL 3 15 D b 1 false = stR 3 15 D b 1 false 2 := by kernel_rfl
theorem o3_15_s2 (D : Nat → Byts) (b : Nat) : stL 3 15 D b 2 true = stR 3 15 D b 2 true 0 := by kernel_rfl
theorem o3_15_3 (D : Nat → Byts) : ppL 3 15 D 80 = ppR 3 15 D 80 := by kernel_rfl
theorem o3_15_5 (D : Nat → Byts) : (stLead 3 15 D (80 + 2)).okB 0 = true := by kernel_rfl
end Go.Proofs.Ythojhpjjkfjeiaa.Va
