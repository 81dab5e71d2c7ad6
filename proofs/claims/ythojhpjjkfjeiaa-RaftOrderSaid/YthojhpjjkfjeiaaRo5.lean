/- 5 cores: what a computation says (printed by gen_ord.py). Conditions: none. -/
import Derived.Test.YthojhpjjkfjeiaaM10
set_option maxRecDepth 1000000
set_option maxHeartbeats 0
set_option linter.all false
namespace Go.Proofs.Ythojhpjjkfjeiaa.Va
open Go.Proofs

theorem o5_1 (D : Nat → Byts) : ordG 5 = stab 5 0 D 80 (80 % 3) := by kernel_rfl
theorem o5_2 : ((grpNew 5 (oneTo 5)).roundsB 100, ((grpNew 5 (oneTo 5)).roundsP 100).map (·.1)) = (true, ((grpNew 5 (oneTo 5)).roundsP 100).map (·.2)) := by kernel_rfl
theorem o5_p (D : Nat → Byts) : (Grp.propsB (stab 5 0 D 80 (80 % 3)) D 15, (Grp.propsP (stab 5 0 D 80 (80 % 3)) D 15).map (·.1)) = (true, (Grp.propsP (stab 5 0 D 80 (80 % 3)) D 15).map (·.2)) := by kernel_rfl
theorem o5_0_s0 (D : Nat → Byts) (b : Nat) : stL 5 0 D b 0 false = stR 5 0 D b 0 false 1 := by kernel_rfl
theorem o5_0_s1 (D : Nat → Byts) (b : Nat) : stL 5 0 D b 1 false = stR 5 0 D b 1 false 2 := by kernel_rfl
theorem o5_0_s2 (D : Nat → Byts) (b : Nat) : stL 5 0 D b 2 true = stR 5 0 D b 2 true 0 := by kernel_rfl
theorem o5_0_3 (D : Nat → Byts) : ppL 5 0 D 80 = ppR 5 0 D 80 := by kernel_rfl
theorem o5_0_5 (D : Nat → Byts) : (stLead 5 0 D (80 + 2)).okB 0 = true := by kernel_rfl
theorem o5_1_s0 (D : Nat → Byts) (b : Nat) : stL 5 1 D b 0 false = stR 5 1 D b 0 false 1 := by kernel_rfl
theorem o5_1_s1 (D : Nat → Byts) (b : Nat) : stL 5 1 D b 1 false = stR 5 1 D b 1 false 2 := by kernel_rfl
theorem o5_1_s2 (D : Nat → Byts) (b : Nat) : stL 5 1 D b 2 true = stR 5 1 D b 2 true 0 := by kernel_rfl
theorem o5_1_3 (D : Nat → Byts) : ppL 5 1 D 80 = ppR 5 1 D 80 := by kernel_rfl
theorem o5_1_5 (D : Nat → Byts) : (stLead 5 1 D (80 + 2)).okB 0 = true := by kernel_rfl
theorem o5_2_s0 (D : Nat → Byts) (b : Nat) : stL 5 2 D b 0 false = stR 5 2 D b 0 false 1 := by kernel_rfl
theorem o5_2_s1 (D : Nat → Byts) (b : Nat) : stL 5 2 D b 1 false = stR 5 2 D b 1 false 2 := by kernel_rfl
theorem o5_2_s2 (D : Nat → Byts) (b : Nat) : stL 5 2 D b 2 true = stR 5 2 D b 2 true 0 := by kernel_rfl
theorem o5_2_3 (D : Nat → Byts) : ppL 5 2 D 80 = ppR 5 2 D 80 := by kernel_rfl
theorem o5_2_5 (D : Nat → Byts) : (stLead 5 2 D (80 + 2)).okB 0 = true := by kernel_rfl
theorem o5_3_s0 (D : Nat → Byts) (b : Nat) : stL 5 3 D b 0 false = stR 5 3 D b 0 false 1 := by kernel_rfl
theorem o5_3_s1 (D : Nat → Byts) (b : Nat) : stL 5 3 D b 1 false = stR 5 3 D b 1 false 2 := by kernel_rfl
theorem o5_3_s2 (D : Nat → Byts) (b : Nat) : stL 5 3 D b 2 true = stR 5 3 D b 2 true 0 := by kernel_rfl
theorem o5_3_3 (D : Nat → Byts) : ppL 5 3 D 80 = ppR 5 3 D 80 := by kernel_rfl
theorem o5_3_5 (D : Nat → Byts) : (stLead 5 3 D (80 + 2)).okB 0 = true := by kernel_rfl
theorem o5_4_s0 (D : Nat → Byts) (b : Nat) : stL 5 4 D b 0 false = stR 5 4 D b 0 false 1 := by kernel_rfl
theorem o5_4_s1 (D : Nat → Byts) (b : Nat) : stL 5 4 D b 1 false = stR 5 4 D b 1 false 2 := by kernel_rfl
theorem o5_4_s2 (D : Nat → Byts) (b : Nat) : stL 5 4 D b 2 true = stR 5 4 D b 2 true 0 := by kernel_rfl
theorem o5_4_3 (D : Nat → Byts) : ppL 5 4 D 80 = ppR 5 4 D 80 := by kernel_rfl
theorem o5_4_5 (D : Nat → Byts) : (stLead 5 4 D (80 + 2)).okB 0 = true := by kernel_rfl
theorem o5_5_s0 (D : Nat → Byts) (b : Nat) : stL 5 5 D b 0 false = stR 5 5 D b 0 false 1 := by kernel_rfl
theorem o5_5_s1 (D : Nat → Byts) (b : Nat) : stL 5 5 D b 1 false = stR 5 5 D b 1 false 2 := by kernel_rfl
theorem o5_5_s2 (D : Nat → Byts) (b : Nat) : stL 5 5 D b 2 true = stR 5 5 D b 2 true 0 := by kernel_rfl
theorem o5_5_3 (D : Nat → Byts) : ppL 5 5 D 80 = ppR 5 5 D 80 := by kernel_rfl
theorem o5_5_5 (D : Nat → Byts) : (stLead 5 5 D (80 + 2)).okB 0 = true := by kernel_rfl
theorem o5_6_s0 (D : Nat → Byts) (b : Nat) : stL 5 6 D b 0 false = stR 5 6 D b 0 false 1 := by kernel_rfl
theorem o5_6_s1 (D : Nat → Byts) (b : Nat) : stL 5 6 D b 1 false = stR 5 6 D b 1 false 2 := by kernel_rfl
theorem o5_6_s2 (D : Nat → Byts) (b : Nat) : stL 5 6 D b 2 true = stR 5 6 D b 2 true 0 := by kernel_rfl
theorem o5_6_3 (D : Nat → Byts) : ppL 5 6 D 80 = ppR 5 6 D 80 := by kernel_rfl
theorem o5_6_5 (D : Nat → Byts) : (stLead 5 6 D (80 + 2)).okB 0 = true := by kernel_rfl
theorem o5_7_s0 (D : Nat → Byts) (b : Nat) : stL 5 7 D b 0 false = stR 5 7 D b 0 false 1 := by kernel_rfl
theorem o5_7_s1 (D : Nat → Byts) (b : Nat) : stL 5 7 D b 1 false = stR 5 7 D b 1 false 2 := by kernel_rfl
theorem o5_7_s2 (D : Nat → Byts) (b : Nat) : stL 5 7 D b 2 true = stR 5 7 D b 2 true 0 := by kernel_rfl
theorem o5_7_3 (D : Nat → Byts) : ppL 5 7 D 80 = ppR 5 7 D 80 := by kernel_rfl
theorem o5_7_5 (D : Nat → Byts) : (stLead 5 7 D (80 + 2)).okB 0 = true := by kernel_rfl
theorem o5_8_s0 (D : Nat → Byts) (b : Nat) : stL 5 8 D b 0 false = stR 5 8 D b 0 false 1 := by kernel_rfl
theorem o5_8_s1 (D : Nat → Byts) (b : Nat) : stL 5 8 D b 1 false = stR 5 8 D b 1 false 2 := by kernel_rfl
theorem o5_8_s2 (D : Nat → Byts) (b : Nat) : stL 5 8 D b 2 true = stR 5 8 D b 2 true 0 := by kernel_rfl
theorem o5_8_3 (D : Nat → Byts) : ppL 5 8 D 80 = ppR 5 8 D 80 := by kernel_rfl
theorem o5_8_5 (D : Nat → Byts) : (stLead 5 8 D (80 + 2)).okB 0 = true := by kernel_rfl
end Go.Proofs.Ythojhpjjkfjeiaa.Va
