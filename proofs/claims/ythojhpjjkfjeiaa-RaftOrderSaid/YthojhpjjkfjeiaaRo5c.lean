/- 5 cores: what a computation says (printed by gen_ord.py). Conditions: none. -/
import Derived.Test.YthojhpjjkfjeiaaM10
set_option maxRecDepth 1000000
set_option maxHeartbeats 0
set_option linter.all false
namespace Go.Proofs.Ythojhpjjkfjeiaa.Va
open Go.Proofs

theorem o5_13_s0 (D : Nat → Byts) (b : Nat) : stL 5 13 D b 0 false = stR 5 13 D b 0 false 1 := by kernel_rfl
theorem o5_13_s1 (D : Nat → Byts) (b : Nat) : stL 5 13 D b 1 false = stR 5 13 D b 1 false 2 := by kernel_rfl
theorem o5_13_s2 (D : Nat → Byts) (b : Nat) : stL 5 13 D b 2 true = stR 5 13 D b 2 true 0 := by kernel_rfl
theorem o5_13_3 (D : Nat → Byts) : ppL 5 13 D 80 = ppR 5 13 D 80 := by kernel_rfl
theorem o5_13_5 (D : Nat → Byts) : (stLead 5 13 D (80 + 2)).okB 0 = true := by kernel_rfl
theorem o5_14_s0 (D : Nat → Byts) (b : Nat) : stL 5 14 D b 0 false = stR 5 14 D b 0 false 1 := by kernel_rfl
theorem o5_14_s1 (D : Nat → Byts) (b : Nat) : stL 5 14 D b 1 false = stR 5 14 D b 1 false 2 := by kernel_rfl
theorem o5_14_s2 (D : Nat → Byts) (b : Nat) : stL 5 14 D b 2 true = stR 5 14 D b 2 true 0 := by kernel_rfl
theorem o5_14_3 (D : Nat → Byts) : ppL 5 14 D 80 = ppR 5 14 D 80 := by kernel_rfl
theorem o5_14_5 (D : Nat → Byts) : (stLead 5 14 D (80 + 2)).okB 0 = true := by kernel_rfl
theorem o5_15_s0 (D : Nat → Byts) (b : Nat) : stL 5 15 D b 0 false = stR 5 15 D b 0 false 1 := by kernel_rfl
theorem o5_15_s1 (D : Nat → Byts) (b : Nat) : stL 5 15 D b 1 false = stR 5 15 D b 1 false 2 := by kernel_rfl
theorem o5_15_s2 (D : Nat → Byts) (b : Nat) : stL 5 15 D b 2 true = stR 5 15 D b 2 true 0 := by kernel_rfl
theorem o5_15_3 (D : Nat → Byts) : ppL 5 15 D 80 = ppR 5 15 D 80 := by kernel_rfl
theorem o5_15_5 (D : Nat → Byts) : (stLead 5 15 D (80 + 2)).okB 0 = true := by kernel_rfl
end Go.Proofs.Ythojhpjjkfjeiaa.Va
