/- 2 cores: what a computation says (printed by gen_ord.py). Conditions: none. -/
import Derived.Test.YthojhpjjkfjeiaaM10
set_option maxRecDepth 1000000
set_option maxHeartbeats 0
set_option linter.all false
namespace Go.Proofs.Ythojhpjjkfjeiaa.Va
open Go.Proofs

theorem o2_1 (D : Nat → Byts) : ordG 2 = stab 2 0 D 80 (80 % 3) := by kernel_rfl
theorem o2_2 : ((grpNew 2 (oneTo 2)).roundsB 100, ((grpNew 2 (oneTo 2)).roundsP 100).map (·.1)) = (true, ((grpNew 2 (oneTo 2)).roundsP 100).map (·.2)) := by kernel_rfl
theorem o2_p (D : Nat → Byts) : (Grp.propsB (stab 2 0 D 80 (80 % 3)) D 15, (Grp.propsP (stab 2 0 D 80 (80 % 3)) D 15).map (·.1)) = (true, (Grp.propsP (stab 2 0 D 80 (80 % 3)) D 15).map (·.2)) := by kernel_rfl
theorem o2_0_s0 (D : Nat → Byts) (b : Nat) : stL 2 0 D b 0 false = stR 2 0 D b 0 false 1 := by kernel_rfl
theorem o2_0_s1 (D : Nat → Byts) (b : Nat) : stL 2 0 D b 1 false = stR 2 0 D b 1 false 2 := by kernel_rfl
theorem o2_0_s2 (D : Nat → Byts) (b : Nat) : stL 2 0 D b 2 true = stR 2 0 D b 2 true 0 := by kernel_rfl
theorem o2_0_3 (D : Nat → Byts) : ppL 2 0 D 80 = ppR 2 0 D 80 := by kernel_rfl
theorem o2_0_5 (D : Nat → Byts) : (stLead 2 0 D (80 + 2)).okB 0 = true := by kernel_rfl
theorem o2_1_s0 (D : Nat → Byts) (b : Nat) : stL 2 1 D b 0 false = stR 2 1 D b 0 false 1 := by kernel_rfl
theorem o2_1_s1 (D : Nat → Byts) (b : Nat) : stL 2 1 D b 1 false = stR 2 1 D b 1 false 2 := by kernel_rfl
theorem o2_1_s2 (D : Nat → Byts) (b : Nat) : stL 2 1 D b 2 true = stR 2 1 D b 2 true 0 := by kernel_rfl
theorem o2_1_3 (D : Nat → Byts) : ppL 2 1 D 80 = ppR 2 1 D 80 := by kernel_rfl
theorem o2_1_5 (D : Nat → Byts) : (stLead 2 1 D (80 + 2)).okB 0 = true := by kernel_rfl
theorem o2_2_s0 (D : Nat → Byts) (b : Nat) : stL 2 2 D b 0 false = stR 2 2 D b 0 false 1 := by kernel_rfl
theorem o2_2_s1 (D : Nat → Byts) (b : Nat) : stL 2 2 D b 1 false = stR 2 2 D b 1 false 2 := by kernel_rfl
theorem o2_2_s2 (D : Nat → Byts) (b : Nat) : stL 2 2 D b 2 true = stR 2 2 D b 2 true 0 := by kernel_rfl
theorem o2_2_3 (D : Nat → Byts) : ppL 2 2 D 80 = ppR 2 2 D 80 := by kernel_rfl
theorem o2_2_5 (D : Nat → Byts) : (stLead 2 2 D (80 + 2)).okB 0 = true := by kernel_rfl
theorem o2_3_s0 (D : Nat → Byts) (b : Nat) : stL 2 3 D b 0 false = stR 2 3 D b 0 false 1 := by kernel_rfl
theorem o2_3_s1 (D : Nat → Byts) (b : Nat) : stL 2 3 D b 1 false = stR 2 3 D b 1 false 2 := by kernel_rfl
theorem o2_3_s2 (D : Nat → Byts) (b : Nat) : stL 2 3 D b 2 true = stR 2 3 D b 2 true 0 := by kernel_rfl
theorem o2_3_3 (D : Nat → Byts) : ppL 2 3 D 80 = ppR 2 3 D 80 := by kernel_rfl
theorem o2_3_5 (D : Nat → Byts) : (stLead 2 3 D (80 + 2)).okB 0 = true := by kernel_rfl
theorem o2_4_s0 (D : Nat → Byts) (b : Nat) : stL 2 4 D b 0 false = stR 2 4 D b 0 false 1 := by kernel_rfl
theorem o2_4_s1 (D : Nat → Byts) (b : Nat) : stL 2 4 D b 1 false = stR 2 4 D b 1 false 2 := by kernel_rfl
theorem o2_4_s2 (D : Nat → Byts) (b : Nat) : stL 2 4 D b 2 true = stR 2 4 D b 2 true 0 := by kernel_rfl
theorem o2_4_3 (D : Nat → Byts) : ppL 2 4 D 80 = ppR 2 4 D 80 := by kernel_rfl
theorem o2_4_5 (D : Nat → Byts) : (stLead 2 4 D (80 + 2)).okB 0 = true := by kernel_rfl
theorem o2_5_s0 (D : Nat → Byts) (b : Nat) : stL 2 5 D b 0 false = stR 2 5 D b 0 false 1 := by kernel_rfl
theorem o2_5_s1 (D : Nat → Byts) (b : Nat) : stL 2 5 D b 1 false = stR 2 5 D b 1 false 2 := by kernel_rfl
theorem o2_5_s2 (D : Nat → Byts) (b : Nat) : stL 2 5 D b 2 true = stR 2 5 D b 2 true 0 := by kernel_rfl
theorem o2_5_3 (D : Nat → Byts) : ppL 2 5 D 80 = ppR 2 5 D 80 := by kernel_rfl
theorem o2_5_5 (D : Nat → Byts) : (stLead 2 5 D (80 + 2)).okB 0 = true := by kernel_rfl
theorem o2_6_s0 (D : Nat → Byts) (b : Nat) : stL 2 6 D b 0 false = stR 2 6 D b 0 false 1 := by kernel_rfl
theorem o2_6_s1 (D : Nat → Byts) (b : Nat) : stL 2 6 D b 1 false = stR 2 6 D b 1 false 2 := by kernel_rfl
theorem o2_6_s2 (D : Nat → Byts) (b : Nat) : stL 2 6 D b 2 true = stR 2 6 D b 2 true 0 := by kernel_rfl
theorem o2_6_3 (D : Nat → Byts) : ppL 2 6 D 80 = ppR 2 6 D 80 := by kernel_rfl
theorem o2_6_5 (D : Nat → Byts) : (stLead 2 6 D (80 + 2)).okB 0 = true := by kernel_rfl
theorem o2_7_s0 (D : Nat → Byts) (b : Nat) : stL 2 7 D b 0 false = stR 2 7 D b 0 false 1 := by kernel_rfl
theorem o2_7_s1 (D : Nat → Byts) (b : Nat) : stL 2 7 D b 1 false = stR 2 7 D b 1 false 2 := by kernel_rfl
theorem o2_7_s2 (D : Nat → Byts) (b : Nat) : stL 2 7 D b 2 true = stR 2 7 D b 2 true 0 := by kernel_rfl
theorem o2_7_3 (D : Nat → Byts) : ppL 2 7 D 80 = ppR 2 7 D 80 := by kernel_rfl
theorem o2_7_5 (D : Nat → Byts) : (stLead 2 7 D (80 + 2)).okB 0 = true := by kernel_rfl
theorem o2_8_s0 (D : Nat → Byts) (b : Nat) : stL 2 8 D b 0 false = stR 2 8 D b 0 false 1 := by kernel_rfl
theorem o2_8_s1 (D : Nat → Byts) (b : Nat) : stL 2 8 D b 1 false = stR 2 8 D b 1 false 2 := by kernel_rfl
theorem o2_8_s2 (D : Nat → Byts) (b : Nat) : stL 2 8 D b 2 true = stR 2 8 D b 2 true 0 := by kernel_rfl
theorem o2_8_3 (D : Nat → Byts) : ppL 2 8 D 80 = ppR 2 8 D 80 := by kernel_rfl
theorem o2_8_5 (D : Nat → Byts) : (stLead 2 8 D (80 + 2)).okB 0 = true := by kernel_rfl
theorem o2_9_s0 (D : Nat → Byts) (b : Nat) : stL 2 9 D b 0 false = stR 2 9 D b 0 false 1 := by kernel_rfl
theorem o2_9_s1 (D : Nat → Byts) (b : Nat) : stL 2 9 D b 1 false = stR 2 9 D b 1 false 2 := by kernel_rfl
theorem o2_9_s2 (D : Nat → Byts) (b : Nat) : stL 2 9 D b 2 true = stR 2 9 D b 2 true 0 := by kernel_rfl
theorem o2_9_3 (D : Nat → Byts) : ppL 2 9 D 80 = ppR 2 9 D 80 := by kernel_rfl
theorem o2_9_5 (D : Nat → Byts) : (stLead 2 9 D (80 + 2)).okB 0 = true := by kernel_rfl
theorem o2_10_s0 (D : Nat → Byts) (b : Nat) : stL 2 10 D b 0 false = stR 2 10 D b 0 false 1 := by kernel_rfl
theorem o2_10_s1 (D : Nat → Byts) (b : Nat) : stL 2 10 D b 1 false = stR 2 10 D b 1 false 2 := by kernel_rfl
theorem o2_10_s2 (D : Nat → Byts) (b : Nat) : stL 2 10 D b 2 true = stR 2 10 D b 2 true 0 := by kernel_rfl
theorem o2_10_3 (D : Nat → Byts) : ppL 2 10 D 80 = ppR 2 10 D 80 := by kernel_rfl
theorem o2_10_5 (D : Nat → Byts) : (stLead 2 10 D (80 + 2)).okB 0 = true := by kernel_rfl
theorem o2_11_s0 (D : Nat → Byts) (b : Nat) : stL 2 11 D b 0 false = stR 2 11 D b 0 false 1 := by kernel_rfl
theorem o2_11_s1 (D : Nat → Byts) (b : Nat) : stL 2 11 D b 1 false = stR 2 11 D b 1 false 2 := by kernel_rfl
theorem o2_11_s2 (D : Nat → Byts) (b : Nat) : stL 2 11 D b 2 true = stR 2 11 D b 2 true 0 := by kernel_rfl
theorem o2_11_3 (D : Nat → Byts) : ppL 2 11 D 80 = ppR 2 11 D 80 := by kernel_rfl
theorem o2_11_5 (D : Nat → Byts) : (stLead 2 11 D (80 + 2)).okB 0 = true := by kernel_rfl
theorem o2_12_s0 (D : Nat → Byts) (b : Nat) : stL 2 12 D b 0 false = stR 2 12 D b 0 false 1 := by kernel_rfl
theorem o2_12_s1 (D : Nat → Byts) (b : Nat) : stL 2 12 D b 1 false = stR 2 12 D b 1 false 2 := by kernel_rfl
theorem o2_12_s2 (D : Nat → Byts) (b : Nat) : stL 2 12 D b 2 true = stR 2 12 D b 2 true 0 := by kernel_rfl
theorem o2_12_3 (D : Nat → Byts) : ppL 2 12 D 80 = ppR 2 12 D 80 := by kernel_rfl
theorem o2_12_5 (D : Nat → Byts) : (stLead 2 12 D (80 + 2)).okB 0 = true := by kernel_rfl
theorem o2_13_s0 (D : Nat → Byts) (b : Nat) : stL 2 13 D b 0 false = stR 2 13 D b 0 false 1 := by kernel_rfl
theorem o2_13_s1 (D : Nat → Byts) (b : Nat) : stL 2 13 D b 1 false = stR 2 13 D b 1 false 2 := by kernel_rfl
theorem o2_13_s2 (D : Nat → Byts) (b : Nat) : stL 2 13 D b 2 true = stR 2 13 D b 2 true 0 := by kernel_rfl
theorem o2_13_3 (D : Nat → Byts) : ppL 2 13 D 80 = ppR 2 13 D 80 := by kernel_rfl
theorem o2_13_5 (D : Nat → Byts) : (stLead 2 13 D (80 + 2)).okB 0 = true := by kernel_rfl
theorem o2_14_s0 (D : Nat → Byts) (b : Nat) : stL 2 14 D b 0 false = stR 2 14 D b 0 false 1 := by kernel_rfl
theorem o2_14_s1 (D : Nat → Byts) (b : Nat) : stL 2 14 D b 1 false = stR 2 14 D b 1 false 2 := by kernel_rfl
theorem o2_14_s2 (D : Nat → Byts) (b : Nat) : stL 2 14 D b 2 true = stR 2 14 D b 2 true 0 := by kernel_rfl
theorem o2_14_3 (D : Nat → Byts) : ppL 2 14 D 80 = ppR 2 14 D 80 := by kernel_rfl
theorem o2_14_5 (D : Nat → Byts) : (stLead 2 14 D (80 + 2)).okB 0 = true := by kernel_rfl
theorem o2_15_s0 (D : Nat → Byts) (b : Nat) : stL 2 15 D b 0 false = stR 2 15 D b 0 false 1 := by kernel_rfl
theorem o2_15_s1 (D : Nat → Byts) (b : Nat) : stL 2 15 D b 1 false = stR 2 15 D b 1 false 2 := by kernel_rfl
theorem o2_15_s2 (D : Nat → Byts) (b : Nat) : stL 2 15 D b 2 true = stR 2 15 D b 2 true 0 := by kernel_rfl
theorem o2_15_3 (D : Nat → Byts) : ppL 2 15 D 80 = ppR 2 15 D 80 := by kernel_rfl
theorem o2_15_5 (D : Nat → Byts) : (stLead 2 15 D (80 + 2)).okB 0 = true := by kernel_rfl
end Go.Proofs.Ythojhpjjkfjeiaa.Va
