/- 4 cores: what a computation says (printed by gen_ord.py). Conditions: none. -/
import Derived.Test.YthojhpjjkfjeiaaM10
set_option maxRecDepth 1000000
set_option maxHeartbeats 0
set_option linter.all false
namespace Go.Proofs.Ythojhpjjkfjeiaa.Va
open Go.Proofs

theorem o4_1 (D : Nat → Byts) : ordG 4 = stab 4 0 D 80 (80 % 3) := by kernel_rfl
theorem o4_2 : ((grpNew 4 (oneTo 4)).roundsB 100, ((grpNew 4 (oneTo 4)).roundsP 100).map (·.1)) = (true, ((grpNew 4 (oneTo 4)).roundsP 100).map (·.2)) := by kernel_rfl
theorem o4_p (D : Nat → Byts) : (Grp.propsB (stab 4 0 D 80 (80 % 3)) D 15, (Grp.propsP (stab 4 0 D 80 (80 % 3)) D 15).map (·.1)) = (true, (Grp.propsP (stab 4 0 D 80 (80 % 3)) D 15).map (·.2)) := by kernel_rfl
theorem o4_0_s0 (D : Nat → Byts) (b : Nat) : stL 4 0 D b 0 false = stR 4 0 D b 0 false 1 := by kernel_rfl
theorem o4_0_s1 (D : Nat → Byts) (b : Nat) : stL 4 0 D b 1 false = stR 4 0 D b 1 false 2 := by kernel_rfl
theorem o4_0_s2 (D : Nat → Byts) (b : Nat) : stL 4 0 D b 2 true = stR 4 0 D b 2 true 0 := by kernel_rfl
theorem o4_0_3 (D : Nat → Byts) : ppL 4 0 D 80 = ppR 4 0 D 80 := by kernel_rfl
theorem o4_0_5 (D : Nat → Byts) : (stLead 4 0 D (80 + 2)).okB 0 = true := by kernel_rfl
theorem o4_1_s0 (D : Nat → Byts) (b : Nat) : stL 4 1 D b 0 false = stR 4 1 D b 0 false 1 := by kernel_rfl
theorem o4_1_s1 (D : Nat → Byts) (b : Nat) : stL 4 1 D b 1 false = stR 4 1 D b 1 false 2 := by kernel_rfl
theorem o4_1_s2 (D : Nat → Byts) (b : Nat) : stL 4 1 D b 2 true = stR 4 1 D b 2 true 0 := by kernel_rfl
theorem o4_1_3 (D : Nat → Byts) : ppL 4 1 D 80 = ppR 4 1 D 80 := by kernel_rfl
theorem o4_1_5 (D : Nat → Byts) : (stLead 4 1 D (80 + 2)).okB 0 = true := by kernel_rfl
theorem o4_2_s0 (D : Nat → Byts) (b : Nat) : stL 4 2 D b 0 false = stR 4 2 D b 0 false 1 := by kernel_rfl
theorem o4_2_s1 (D : Nat → Byts) (b : Nat) : stL 4 2 D b 1 false = stR 4 2 D b 1 false 2 := by kernel_rfl
theorem o4_2_s2 (D : Nat → Byts) (b : Nat) : stL 4 2 D b 2 true = stR 4 2 D b 2 true 0 := by kernel_rfl
theorem o4_2_3 (D : Nat → Byts) : ppL 4 2 D 80 = ppR 4 2 D 80 := by kernel_rfl
theorem o4_2_5 (D : Nat → Byts) : (stLead 4 2 D (80 + 2)).okB 0 = true := by kernel_rfl
theorem o4_3_s0 (D : Nat → Byts) (b : Nat) : stL 4 3 D b 0 false = stR 4 3 D b 0 false 1 := by kernel_rfl
theorem o4_3_s1 (D : Nat → Byts) (b : Nat) : stL 4 3 D b 1 false = stR 4 3 D b 1 false 2 := by kernel_rfl
theorem o4_3_s2 (D : Nat → Byts) (b : Nat) : stL 4 3 D b 2 true = stR 4 3 D b 2 true 0 := by kernel_rfl
theorem o4_3_3 (D : Nat → Byts) : ppL 4 3 D 80 = ppR 4 3 D 80 := by kernel_rfl
theorem o4_3_5 (D : Nat → Byts) : (stLead 4 3 D (80 + 2)).okB 0 = true := by kernel_rfl
theorem o4_4_s0 (D : Nat → Byts) (b : Nat) : stL 4 4 D b 0 false = stR 4 4 D b 0 false 1 := by kernel_rfl
theorem o4_4_s1 (D : Nat → Byts) (b : Nat) : stL 4 4 D b 1 false = stR 4 4 D b 1 false 2 := by kernel_rfl
theorem o4_4_s2 (D : Nat → Byts) (b : Nat) : stL 4 4 D b 2 true = stR 4 4 D b 2 true 0 := by kernel_rfl
theorem o4_4_3 (D : Nat → Byts) : ppL 4 4 D 80 = ppR 4 4 D 80 := by kernel_rfl
theorem o4_4_5 (D : Nat → Byts) : (stLead 4 4 D (80 + 2)).okB 0 = true := by kernel_rfl
theorem o4_5_s0 (D : Nat → Byts) (b : Nat) : stL 4 5 D b 0 false = stR 4 5 D b 0 false 1 := by kernel_rfl
theorem o4_5_s1 (D : Nat → Byts) (b : Nat) : stL 4 5 D b 1 false = stR 4 5 D b 1 false 2 := by kernel_rfl
theorem o4_5_s2 (D : Nat → Byts) (b : Nat) : stL 4 5 D b 2 true = stR 4 5 D b 2 true 0 := by kernel_rfl
theorem o4_5_3 (D : Nat → Byts) : ppL 4 5 D 80 = ppR 4 5 D 80 := by kernel_rfl
theorem o4_5_5 (D : Nat → Byts) : (stLead 4 5 D (80 + 2)).okB 0 = true := by kernel_rfl
theorem o4_6_s0 (D : Nat → Byts) (b : Nat) : stL 4 6 D b 0 false = stR 4 6 D b 0 false 1 := by kernel_rfl
theorem o4_6_s1 (D : Nat → Byts) (b : Nat) : stL 4 6 D b 1 false = stR 4 6 D b 1 false 2 := by kernel_rfl
theorem o4_6_s2 (D : Nat → Byts) (b : Nat) : stL 4 6 D b 2 true = stR 4 6 D b 2 true 0 := by kernel_rfl
theorem o4_6_3 (D : Nat → Byts) : ppL 4 6 D 80 = ppR 4 6 D 80 := by kernel_rfl
theorem o4_6_5 (D : Nat → Byts) : (stLead 4 6 D (80 + 2)).okB 0 = true := by kernel_rfl
theorem o4_7_s0 (D : Nat → Byts) (b : Nat) : stL 4 7 D b 0 false = stR 4 7 D b 0 false 1 := by kernel_rfl
theorem o4_7_s1 (D : Nat → Byts) (b : Nat) : stL 4 7 D b 1 false = stR 4 7 D b 1 false 2 := by kernel_rfl
theorem o4_7_s2 (D : Nat → Byts) (b : Nat) : stL 4 7 D b 2 true = stR 4 7 D b 2 true 0 := by kernel_rfl
theorem o4_7_3 (D : Nat → Byts) : ppL 4 7 D 80 = ppR 4 7 D 80 := by kernel_rfl
theorem o4_7_5 (D : Nat → Byts) : (stLead 4 7 D (80 + 2)).okB 0 = true := by kernel_rfl
theorem o4_8_s0 (D : Nat → Byts) (b : Nat) : stL 4 8 D b 0 false = stR 4 8 D b 0 false 1 := by kernel_rfl
theorem o4_8_s1 (D : Nat → Byts) (b : Nat) : stL 4 8 D b 1 false = stR 4 8 D b 1 false 2 := by kernel_rfl
theorem o4_8_s2 (D : Nat → Byts) (b : Nat) : stL 4 8 D b 2 true = stR 4 8 D b 2 true 0 := by kernel_rfl
theorem o4_8_3 (D : Nat → Byts) : ppL 4 8 D 80 = ppR 4 8 D 80 := by kernel_rfl
theorem o4_8_5 (D : Nat → Byts) : (stLead 4 8 D (80 + 2)).okB 0 = true := by kernel_rfl
theorem o4_9_s0 (D : Nat → Byts) (b : Nat) : stL 4 9 D b 0 false = stR 4 9 D b 0 false 1 := by kernel_rfl
theorem o4_9_s1 (D : Nat → Byts) (b : Nat) : stL 4 9 D b 1 false = stR 4 9 D b 1 false 2 := by kernel_rfl
theorem o4_9_s2 (D : Nat → Byts) (b : Nat) : stL 4 9 D b 2 true = stR 4 9 D b 2 true 0 := by kernel_rfl
theorem o4_9_3 (D : Nat → Byts) : ppL 4 9 D 80 = ppR 4 9 D 80 := by kernel_rfl
theorem o4_9_5 (D : Nat → Byts) : (stLead 4 9 D (80 + 2)).okB 0 = true := by kernel_rfl
theorem o4_10_s0 (D : Nat → Byts) (b : Nat) : stL 4 10 D b 0 false = stR 4 10 D b 0 false 1 := by kernel_rfl
theorem o4_10_s1 (D : Nat → Byts) (b : Nat) : stL 4 10 D b 1 false = stR 4 10 D b 1 false 2 := by kernel_rfl
theorem o4_10_s2 (D : Nat → Byts) (b : Nat) : stL 4 10 D b 2 true = stR 4 10 D b 2 true 0 := by kernel_rfl
theorem o4_10_3 (D : Nat → Byts) : ppL 4 10 D 80 = ppR 4 10 D 80 := by kernel_rfl
theorem o4_10_5 (D : Nat → Byts) : (stLead 4 10 D (80 + 2)).okB 0 = true := by kernel_rfl
end Go.Proofs.Ythojhpjjkfjeiaa.Va
