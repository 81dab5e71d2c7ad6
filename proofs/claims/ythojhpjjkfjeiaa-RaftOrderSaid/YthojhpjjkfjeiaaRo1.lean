/- 1 cores: what a computation says (printed by gen_ord.py). Conditions: none. -/
import Derived.Test.YthojhpjjkfjeiaaM10
set_option maxRecDepth 1000000
set_option maxHeartbeats 0
set_option linter.all false
namespace Go.Proofs.Ythojhpjjkfjeiaa.Va
open Go.Proofs

theorem o1_1 (D : Nat → Byts) : ordG 1 = stab 1 0 D 90 (90 % 3) := by kernel_rfl
theorem o1_2 : ((grpNew 1 (oneTo 1)).roundsB 100, ((grpNew 1 (oneTo 1)).roundsP 100).map (·.1)) = (true, ((grpNew 1 (oneTo 1)).roundsP 100).map (·.2)) := by kernel_rfl
theorem o1_p (D : Nat → Byts) : (Grp.propsB (stab 1 0 D 90 (90 % 3)) D 15, (Grp.propsP (stab 1 0 D 90 (90 % 3)) D 15).map (·.1)) = (true, (Grp.propsP (stab 1 0 D 90 (90 % 3)) D 15).map (·.2)) := by kernel_rfl
theorem o1_0_s0 (D : Nat → Byts) (b : Nat) : stL 1 0 D b 0 false = stR 1 0 D b 0 false 1 := by kernel_rfl
theorem o1_0_s1 (D : Nat → Byts) (b : Nat) : stL 1 0 D b 1 false = stR 1 0 D b 1 false 2 := by kernel_rfl
theorem o1_0_s2 (D : Nat → Byts) (b : Nat) : stL 1 0 D b 2 true = stR 1 0 D b 2 true 0 := by kernel_rfl
theorem o1_0_3 (D : Nat → Byts) : ppL 1 0 D 90 = ppR 1 0 D 90 := by kernel_rfl
theorem o1_0_5 (D : Nat → Byts) : (stLead 1 0 D (90 + 2)).okB 0 = true := by kernel_rfl
theorem o1_1_s0 (D : Nat → Byts) (b : Nat) : stL 1 1 D b 0 false = stR 1 1 D b 0 false 1 := by kernel_rfl
theorem o1_1_s1 (D : Nat → Byts) (b : Nat) : stL 1 1 D b 1 false = stR 1 1 D b 1 false 2 := by kernel_rfl
theorem o1_1_s2 (D : Nat → Byts) (b : Nat) : stL 1 1 D b 2 true = stR 1 1 D b 2 true 0 := by kernel_rfl
theorem o1_1_3 (D : Nat → Byts) : ppL 1 1 D 90 = ppR 1 1 D 90 := by kernel_rfl
theorem o1_1_5 (D : Nat → Byts) : (stLead 1 1 D (90 + 2)).okB 0 = true := by kernel_rfl
theorem o1_2_s0 (D : Nat → Byts) (b : Nat) : stL 1 2 D b 0 false = stR 1 2 D b 0 false 1 := by kernel_rfl
theorem o1_2_s1 (D : Nat → Byts) (b : Nat) : stL 1 2 D b 1 false = stR 1 2 D b 1 false 2 := by kernel_rfl
theorem o1_2_s2 (D : Nat → Byts) (b : Nat) : stL 1 2 D b 2 true = stR 1 2 D b 2 true 0 := by kernel_rfl
theorem o1_2_3 (D : Nat → Byts) : ppL 1 2 D 90 = ppR 1 2 D 90 := by kernel_rfl
theorem o1_2_5 (D : Nat → Byts) : (stLead 1 2 D (90 + 2)).okB 0 = true := by kernel_rfl
theorem o1_3_s0 (D : Nat → Byts) (b : Nat) : stL 1 3 D b 0 false = stR 1 3 D b 0 false 1 := by kernel_rfl
theorem o1_3_s1 (D : Nat → Byts) (b : Nat) : stL 1 3 D b 1 false = stR 1 3 D b 1 false 2 := by kernel_rfl
theorem o1_3_s2 (D : Nat → Byts) (b : Nat) : stL 1 3 D b 2 true = stR 1 3 D b 2 true 0 := by kernel_rfl
theorem o1_3_3 (D : Nat → Byts) : ppL 1 3 D 90 = ppR 1 3 D 90 := by kernel_rfl
theorem o1_3_5 (D : Nat → Byts) : (stLead 1 3 D (90 + 2)).okB 0 = true := by kernel_rfl
theorem o1_4_s0 (D : Nat → Byts) (b : Nat) : stL 1 4 D b 0 false = stR 1 4 D b 0 false 1 := by kernel_rfl
theorem o1_4_s1 (D : Nat → Byts) (b : Nat) : stL 1 4 D b 1 false = stR 1 4 D b 1 false 2 := by kernel_rfl
theorem o1_4_s2 (D : Nat → Byts) (b : Nat) : stL 1 4 D b 2 true = stR 1 4 D b 2 true 0 := by kernel_rfl
theorem o1_4_3 (D : Nat → Byts) : ppL 1 4 D 90 = ppR 1 4 D 90 := by kernel_rfl
theorem o1_4_5 (D : Nat → Byts) : (stLead 1 4 D (90 + 2)).okB 0 = true := by kernel_rfl
theorem o1_5_s0 (D : Nat → Byts) (b : Nat) : stL 1 5 D b 0 false = stR 1 5 D b 0 false 1 := by kernel_rfl
theorem o1_5_s1 (D : Nat → Byts) (b : Nat) : stL 1 5 D b 1 false = stR 1 5 D b 1 false 2 := by kernel_rfl
theorem o1_5_s2 (D : Nat → Byts) (b : Nat) : stL 1 5 D b 2 true = stR 1 5 D b 2 true 0 := by kernel_rfl
theorem o1_5_3 (D : Nat → Byts) : ppL 1 5 D 90 = ppR 1 5 D 90 := by kernel_rfl
theorem o1_5_5 (D : Nat → Byts) : (stLead 1 5 D (90 + 2)).okB 0 = true := by kernel_rfl
theorem o1_6_s0 (D : Nat → Byts) (b : Nat) : stL 1 6 D b 0 false = stR 1 6 D b 0 false 1 := by kernel_rfl
theorem o1_6_s1 (D : Nat → Byts) (b : Nat) : stL 1 6 D b 1 false = stR 1 6 D b 1 false 2 := by kernel_rfl
theorem o1_6_s2 (D : Nat → Byts) (b : Nat) : stL 1 6 D b 2 true = stR 1 6 D b 2 true 0 := by kernel_rfl
theorem o1_6_3 (D : Nat → Byts) : ppL 1 6 D 90 = ppR 1 6 D 90 := by kernel_rfl
theorem o1_6_5 (D : Nat → Byts) : (stLead 1 6 D (90 + 2)).okB 0 = true := by kernel_rfl
theorem o1_7_s0 (D : Nat → Byts) (b : Nat) : stL 1 7 D b 0 false = stR 1 7 D b 0 false 1 := by kernel_rfl
theorem o1_7_s1 (D : Nat → Byts) (b : Nat) : stL 1 7 D b 1 false = stR 1 7 D b 1 false 2 := by kernel_rfl
theorem o1_7_s2 (D : Nat → Byts) (b : Nat) : stL 1 7 D b 2 true = stR 1 7 D b 2 true 0 := by kernel_rfl
theorem o1_7_3 (D : Nat → Byts) : ppL 1 7 D 90 = ppR 1 7 D 90 := by kernel_rfl
theorem o1_7_5 (D : Nat → Byts) : (stLead 1 7 D (90 + 2)).okB 0 = true := by kernel_rfl
theorem o1_8_s0 (D : Nat → Byts) (b : Nat) : stL 1 8 D b 0 false = stR 1 8 D b 0 false 1 := by kernel_rfl
theorem o1_8_s1 (D : Nat → Byts) (b : Nat) : stL 1 8 D b 1 false = stR 1 8 D b 1 false 2 := by kernel_rfl
theorem o1_8_s2 (D : Nat → Byts) (b : Nat) : stL 1 8 D b 2 true = stR 1 8 D b 2 true 0 := by kernel_rfl
theorem o1_8_3 (D : Nat → Byts) : ppL 1 8 D 90 = ppR 1 8 D 90 := by kernel_rfl
theorem o1_8_5 (D : Nat → Byts) : (stLead 1 8 D (90 + 2)).okB 0 = true := by kernel_rfl
theorem o1_9_s0 (D : Nat → Byts) (b : Nat) : stL 1 9 D b 0 false = stR 1 9 D b 0 false 1 := by kernel_rfl
theorem o1_9_s1 (D : Nat → Byts) (b : Nat) : stL 1 9 D b 1 false = stR 1 9 D b 1 false 2 := by kernel_rfl
theorem o1_9_s2 (D : Nat → Byts) (b : Nat) : stL 1 9 D b 2 true = stR 1 9 D b 2 true 0 := by kernel_rfl
theorem o1_9_3 (D : Nat → Byts) : ppL 1 9 D 90 = ppR 1 9 D 90 := by kernel_rfl
theorem o1_9_5 (D : Nat → Byts) : (stLead 1 9 D (90 + 2)).okB 0 = true := by kernel_rfl
theorem o1_10_s0 (D : Nat → Byts) (b : Nat) : stL 1 10 D b 0 false = stR 1 10 D b 0 false 1 := by kernel_rfl
theorem o1_10_s1 (D : Nat → Byts) (b : Nat) : stL 1 10 D b 1 false = stR 1 10 D b 1 false 2 := by kernel_rfl
theorem o1_10_s2 (D : Nat → Byts) (b : Nat) : stL 1 10 D b 2 true = stR 1 10 D b 2 true 0 := by kernel_rfl
theorem o1_10_3 (D : Nat → Byts) : ppL 1 10 D 90 = ppR 1 10 D 90 := by kernel_rfl
theorem o1_10_5 (D : Nat → Byts) : (stLead 1 10 D (90 + 2)).okB 0 = true := by kernel_rfl
theorem o1_11_s0 (D : Nat → Byts) (b : Nat) : stL 1 11 D b 0 false = stR 1 11 D b 0 false 1 := by kernel_rfl
theorem o1_11_s1 (D : Nat → Byts) (b : Nat) : stL 1 11 D b 1 false = stR 1 11 D b 1 false 2 := by kernel_rfl
theorem o1_11_s2 (D : Nat → Byts) (b : Nat) : stL 1 11 D b 2 true = stR 1 11 D b 2 true 0 := by kernel_rfl
theorem o1_11_3 (D : Nat → Byts) : ppL 1 11 D 90 = ppR 1 11 D 90 := by kernel_rfl
theorem o1_11_5 (D : Nat → Byts) : (stLead 1 11 D (90 + 2)).okB 0 = true := by kernel_rfl
theorem o1_12_s0 (D : Nat → Byts) (b : Nat) : stL 1 12 D b 0 false = stR 1 12 D b 0 false 1 := by kernel_rfl
theorem o1_12_s1 (D : Nat → Byts) (b : Nat) : stL 1 12 D b 1 false = stR 1 12 D b 1 false 2 := by kernel_rfl
theorem o1_12_s2 (D : Nat → Byts) (b : Nat) : stL 1 12 D b 2 true = stR 1 12 D b 2 true 0 := by kernel_rfl
theorem o1_12_3 (D : Nat → Byts) : ppL 1 12 D 90 = ppR 1 12 D 90 := by kernel_rfl
theorem o1_12_5 (D : Nat → Byts) : (stLead 1 12 D (90 + 2)).okB 0 = true := by kernel_rfl
theorem o1_13_s0 (D : Nat → Byts) (b : Nat) : stL 1 13 D b 0 false = stR 1 13 D b 0 false 1 := by kernel_rfl
theorem o1_13_s1 (D : Nat → Byts) (b : Nat) : stL 1 13 D b 1 false = stR 1 13 D b 1 false 2 := by kernel_rfl
theorem o1_13_s2 (D : Nat → Byts) (b : Nat) : stL 1 13 D b 2 true = stR 1 13 D b 2 true 0 := by kernel_rfl
theorem o1_13_3 (D : Nat → Byts) : ppL 1 13 D 90 = ppR 1 13 D 90 := by kernel_rfl
theorem o1_13_5 (D : Nat → Byts) : (stLead 1 13 D (90 + 2)).okB 0 = true := by kernel_rfl
theorem o1_14_s0 (D : Nat → Byts) (b : Nat) : stL 1 14 D b 0 false = stR 1 14 D b 0 false 1 := by kernel_rfl
theorem o1_14_s1 (D : Nat → Byts) (b : Nat) : stL 1 14 D b 1 false = stR 1 14 D b 1 false 2 := by kernel_rfl
theorem o1_14_s2 (D : Nat → Byts) (b : Nat) : stL 1 14 D b 2 true = stR 1 14 D b 2 true 0 := by kernel_rfl
theorem o1_14_3 (D : Nat → Byts) : ppL 1 14 D 90 = ppR 1 14 D 90 := by kernel_rfl
theorem o1_14_5 (D : Nat → Byts) : (stLead 1 14 D (90 + 2)).okB 0 = true := by kernel_rfl
theorem o1_15_s0 (D : Nat → Byts) (b : Nat) : stL 1 15 D b 0 false = stR 1 15 D b 0 false 1 := by kernel_rfl
theorem o1_15_s1 (D : Nat → Byts) (b : Nat) : stL 1 15 D b 1 false = stR 1 15 D b 1 false 2 := by kernel_rfl
theorem o1_15_s2 (D : Nat → Byts) (b : Nat) : stL 1 15 D b 2 true = stR 1 15 D b 2 true 0 := by kernel_rfl
theorem o1_15_3 (D : Nat → Byts) : ppL 1 15 D 90 = ppR 1 15 D 90 := by kernel_rfl
theorem o1_15_5 (D : Nat → Byts) : (stLead 1 15 D (90 + 2)).okB 0 = true := by kernel_rfl
end Go.Proofs.Ythojhpjjkfjeiaa.Va
