/- 4 cores: what a computation says (printed by gen_ord.py). Conditions: none. -/
import Derived.Test.YthojhpjjkfjeiaaM10
set_option maxRecDepth 1000000
set_option maxHeartbeats 0
set_option linter.all false
namespace Go.Proofs.Ythojhpjjkfjeiaa.Va
open Go.Proofs

theorem o4_11_s0 (D : Nat → Byts) (b : Nat) : stL 4 11 D b 0 false = stR 4 11 D b 0 false 1 := by kernel_rfl
theorem o4_11_s1 (D : Nat → Byts) (b : Nat) : stL 4 11 D b 1 false = stR 4 11 D b 1 false 2 := by kernel_rfl
theorem o4_11_s2 (D : Nat → Byts) (b : Nat) : stL 4 11 D b 2 true = stR 4 11 D b 2 true 0 := by kernel_rfl
theorem o4_11_3 (D : Nat → Byts) : ppL 4 11 D 80 = ppR 4 11 D 80 := by kernel_rfl
theorem o4_11_5 (D : Nat → Byts) : (stLead 4 11 D (80 + 2)).okB 0 = true := by kernel_rfl
theorem o4_12_s0 (D : Nat → Byts) (b : Nat) : stL 4 12 D b 0 false = stR 4 12 D b 0 false 1 := by kernel_rfl
theorem o4_12_s1 (D : Nat → Byts) (b : Nat) : stL 4 12 D b 1 false = stR 4 12 D b 1 false 2 := by kernel_rfl
theorem o4_12_s2 (D : Nat → Byts) (b : Nat) : stL 4 12 D b 2 true = stR 4 12 D b 2 true 0 := by kernel_rfl
theorem o4_12_3 (D : Nat → Byts) : ppL 4 12 D 80 = ppR 4 12 D 80 := by kernel_rfl
theorem o4_12_5 (D : Nat → Byts) : (stLead 4 12 D (80 + 2)).okB 0 = true := by kernel_rfl
theorem o4_13_s0 (D : Nat → Byts) (b : Nat) : stL 4 13 D b 0 false = stR 4 13 D b 0 false 1 := by kernel_rfl
theorem o4_13_s1 (D : Nat → Byts) (b : Nat) : stL 4 13 D b 1 false = stR 4 13 D b 1 false 2 := by kernel_rfl
theorem o4_13_s2 (D : Nat → Byts) (b : Nat) : stL 4 13 D b 2 true = stR 4 13 D b 2 true 0 := by kernel_rfl
theorem o4_13_3 (D : Nat → Byts) : ppL 4 13 D 80 = ppR 4 13 D 80 := by kernel_rfl
theorem o4_13_5 (D : Nat → Byts) : (stLead 4 13 D (80 + 2)).okB 0 = true := by kernel_rfl
theorem o4_14_s0 (D : Nat → Byts) (b : Nat) : stL 4 14 D b 0 false = stR 4 14 D b 0 false 1 := by kernel_rfl
theorem o4_14_s1 (D : Nat → Byts) (b : Nat) : stL 4 14 D b 1 false = stR 4 14 D b 1 false 2 := by kernel_rfl
theorem o4_14_s2 (D : Nat → Byts) (b : Nat) : stL 4 14 D b 2 true = stR 4 14 D b 2 true 0 := by kernel_rfl
theorem o4_14_3 (D : Nat → Byts) : ppL 4 14 D 80 = ppR 4 14 D 80 := by kernel_rfl
theorem o4_14_5 (D : Nat → Byts) : (stLead 4 14 D (80 + 2)).okB 0 = true := by kernel_rfl
theorem o4_15_s0 (D : Nat → Byts) (b : Nat) : stL 4 15 D b 0 false = stR 4 15 D b 0 false 1 := by kernel_rfl
theorem o4_15_s1 (D : Nat → Byts) (b : Nat) : stL 4 15 D b 1 false = stR 4 15 D b 1 false 2 := by kernel_rfl
theorem o4_15_s2 (D : Nat → Byts) (b : Nat) : stL 4 15 D b 2 true = stR 4 15 D b 2 true 0 := by kernel_rfl
theorem o4_15_3 (D : Nat → Byts) : ppL 4 15 D 80 = ppR 4 15 D 80 := by kernel_rfl
theorem o4_15_5 (D : Nat → Byts) : (stLead 4 15 D (80 + 2)).okB 0 = true := by kernel_rfl
end Go.Proofs.Ythojhpjjkfjeiaa.Va
