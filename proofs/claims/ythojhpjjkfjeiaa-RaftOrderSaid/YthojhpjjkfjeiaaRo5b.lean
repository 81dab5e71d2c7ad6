/- 5 cores: what a computation says (printed by gen_ord.py). Conditions: none. -/
import Derived.Test.YthojhpjjkfjeiaaM10
set_option maxRecDepth 1000000
set_option maxHeartbeats 0
set_option linter.all false
namespace Go.Proofs.Ythojhpjjkfjeiaa.Va
open Go.Proofs

theorem o5_9_s0 (D : Nat → Byts) (b : Nat) : stL 5 9 D b 0 false = stR 5 9 D b 0 false 1 := by kernel_rfl
theorem o5_9_s1 (D : Nat → Byts) (b : Nat) : stL 5 9 D b 1 false = stR 5 9 D b 1 false 2 := by kernel_rfl
theorem o5_9_s2 (D : Nat → Byts) (b : Nat) : stL 5 9 D b 2 true = stR 5 9 D b 2 true 0 := by kernel_rfl
theorem o5_9_3 (D : Nat → Byts) : ppL 5 9 D 80 = ppR 5 9 D 80 := by kernel_rfl
theorem o5_9_5 (D : Nat → Byts) : (stLead 5 9 D (80 + 2)).okB 0 = true := by kernel_rfl
theorem o5_10_s0 (D : Nat → Byts) (b : Nat) : stL 5 10 D b 0 false = stR 5 10 D b 0 false 1 := by kernel_rfl
theorem o5_10_s1 (D : Nat → Byts) (b : Nat) : stL 5 10 D b 1 false = stR 5 10 D b 1 false 2 := by kernel_rfl
theorem o5_10_s2 (D : Nat → Byts) (b : Nat) : stL 5 10 D b 2 true = stR 5 10 D b 2 true 0 := by kernel_rfl
theorem o5_10_3 (D : Nat → Byts) : ppL 5 10 D 80 = ppR 5 10 D 80 := by kernel_rfl
theorem o5_10_5 (D : Nat → Byts) : (stLead 5 10 D (80 + 2)).okB 0 = true := by kernel_rfl
theorem o5_11_s0 (D : Nat → Byts) (b : Nat) : stL 5 11 D b 0 false = stR 5 11 D b 0 false 1 := by kernel_rfl
theorem o5_11_s1 (D : Nat → Byts) (b : Nat) : stL 5 11 D b 1 false = stR 5 11 D b 1 false 2 := by kernel_rfl
theorem o5_11_s2 (D : Nat → Byts) (b : Nat) : stL 5 11 D b 2 true = stR 5 11 D b 2 true 0 := by kernel_rfl
theorem o5_11_3 (D : Nat → Byts) : ppL 5 11 D 80 = ppR 5 11 D 80 := by kernel_rfl
theorem o5_11_5 (D : Nat → Byts) : (stLead 5 11 D (80 + 2)).okB 0 = true := by kernel_rfl
theorem o5_12_s0 (D : Nat → Byts) (b : Nat) : stL 5 12 D b 0 false = stR 5 12 D b 0 false 1 := by kernel_rfl
theorem o5_12_s1 (D : Nat → Byts) (b : Nat) : stL 5 12 D b 1 false = stR 5 12 D b 1 false 2 := by kernel_rfl
theorem o5_12_s2 (D : Nat → Byts) (b : Nat) : stL 5 12 D b 2 true = stR 5 12 D b 2 true 0 := by kernel_rfl
theorem o5_12_3 (D : Nat → Byts) : ppL 5 12 D 80 = ppR 5 12 D 80 := by kernel_rfl
theorem o5_12_5 (D : Nat → Byts) : (stLead 5 12 D (80 + 2)).okB 0 = true := by kernel_rfl
end Go.Proofs.Ythojhpjjkfjeiaa.Va
