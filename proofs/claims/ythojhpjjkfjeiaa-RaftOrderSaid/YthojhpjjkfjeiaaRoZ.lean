/- The computations, joined (printed by gen_ord.py). Conditions: none. -/
import Derived.Test.YthojhpjjkfjeiaaRo1
import Derived.Test.YthojhpjjkfjeiaaRo2
import Derived.Test.YthojhpjjkfjeiaaRo3
import Derived.Test.YthojhpjjkfjeiaaRo4
import Derived.Test.YthojhpjjkfjeiaaRo4b
import Derived.Test.YthojhpjjkfjeiaaRo5
import Derived.Test.YthojhpjjkfjeiaaRo5b
import Derived.Test.YthojhpjjkfjeiaaRo5c
set_option maxRecDepth 1000000
set_option maxHeartbeats 1000000
set_option linter.all false
namespace Go.Proofs.Ythojhpjjkfjeiaa.Va
open Go.Proofs

theorem two {A B : Type} {a a' : A} {b b' : B} (h : (a, b) = (a', b')) : a = a' ∧ b = b' := by
  cases h
  exact ⟨rfl, rfl⟩
theorem ord_all (N m : Nat) (D : Nat → Byts) (h1 : 1 ≤ N) (h5 : N ≤ 5) (hm : m ≤ 15) : OrdOk N D m := by
  match N, h1, h5, m, hm with
  | 1, _, _, 0, _ => exact ord_of (b0 := 90) (by decide) (by decide) ⟨o1_0_s0 D, o1_0_s1 D, o1_0_s2 D⟩ (o1_1 D) (two o1_2).1 (two o1_2).2 (two (o1_p D)).1 (two (o1_p D)).2 (o1_0_3 D) (o1_0_5 D)
  | 1, _, _, 1, _ => exact ord_of (b0 := 90) (by decide) (by decide) ⟨o1_1_s0 D, o1_1_s1 D, o1_1_s2 D⟩ (o1_1 D) (two o1_2).1 (two o1_2).2 (two (o1_p D)).1 (two (o1_p D)).2 (o1_1_3 D) (o1_1_5 D)
  | 1, _, _, 2, _ => exact ord_of (b0 := 90) (by decide) (by decide) ⟨o1_2_s0 D, o1_2_s1 D, o1_2_s2 D⟩ (o1_1 D) (two o1_2).1 (two o1_2).2 (two (o1_p D)).1 (two (o1_p D)).2 (o1_2_3 D) (o1_2_5 D)
  | 1, _, _, 3, _ => exact ord_of (b0 := 90) (by decide) (by decide) ⟨o1_3_s0 D, o1_3_s1 D, o1_3_s2 D⟩ (o1_1 D) (two o1_2).1 (two o1_2).2 (two (o1_p D)).1 (two (o1_p D)).2 (o1_3_3 D) (o1_3_5 D)
  | 1, _, _, 4, _ => exact ord_of (b0 := 90) (by decide) (by decide) ⟨o1_4_s0 D, o1_4_s1 D, o1_4_s2 D⟩ (o1_1 D) (two o1_2).1 (two o1_2).2 (two (o1_p D)).1 (two (o1_p D)).2 (o1_4_3 D) (o1_4_5 D)
  | 1, _, _, 5, _ => exact ord_of (b0 := 90) (by decide) (by decide) ⟨o1_5_s0 D, o1_5_s1 D, o1_5_s2 D⟩ (o1_1 D) (two o1_2).1 (two o1_2).2 (two (o1_p D)).1 (two (o1_p D)).2 (o1_5_3 D) (o1_5_5 D)
  | 1, _, _, 6, _ => exact ord_of (b0 := 90) (by decide) (by decide) ⟨o1_6_s0 D, o1_6_s1 D, o1_6_s2 D⟩ (o1_1 D) (two o1_2).1 (two o1_2).2 (two (o1_p D)).1 (two (o1_p D)).2 (o1_6_3 D) (o1_6_5 D)
  | 1, _, _, 7, _ => exact ord_of (b0 := 90) (by decide) (by decide) ⟨o1_7_s0 D, o1_7_s1 D, o1_7_s2 D⟩ (o1_1 D) (two o1_2).1 (two o1_2).2 (two (o1_p D)).1 (two (o1_p D)).2 (o1_7_3 D) (o1_7_5 D)
  | 1, _, _, 8, _ => exact ord_of (b0 := 90) (by decide) (by decide) ⟨o1_8_s0 D, o1_8_s1 D, o1_8_s2 D⟩ (o1_1 D) (two o1_2).1 (two o1_2).2 (two (o1_p D)).1 (two (o1_p D)).2 (o1_8_3 D) (o1_8_5 D)
  | 1, _, _, 9, _ => exact ord_of (b0 := 90) (by decide) (by decide) ⟨o1_9_s0 D, o1_9_s1 D, o1_9_s2 D⟩ (o1_1 D) (two o1_2).1 (two o1_2).2 (two (o1_p D)).1 (two (o1_p D)).2 (o1_9_3 D) (o1_9_5 D)
  | 1, _, _, 10, _ => exact ord_of (b0 := 90) (by decide) (by decide) ⟨o1_10_s0 D, o1_10_s1 D, o1_10_s2 D⟩ (o1_1 D) (two o1_2).1 (two o1_2).2 (two (o1_p D)).1 (two (o1_p D)).2 (o1_10_3 D) (o1_10_5 D)
  | 1, _, _, 11, _ => exact ord_of (b0 := 90) (by decide) (by decide) ⟨o1_11_s0 D, o1_11_s1 D, o1_11_s2 D⟩ (o1_1 D) (two o1_2).1 (two o1_2).2 (two (o1_p D)).1 (two (o1_p D)).2 (o1_11_3 D) (o1_11_5 D)
  | 1, _, _, 12, _ => exact ord_of (b0 := 90) (by decide) (by decide) ⟨o1_12_s0 D, o1_12_s1 D, o1_12_s2 D⟩ (o1_1 D) (two o1_2).1 (two o1_2).2 (two (o1_p D)).1 (two (o1_p D)).2 (o1_12_3 D) (o1_12_5 D)
  | 1, _, _, 13, _ => exact ord_of (b0 := 90) (by decide) (by decide) ⟨o1_13_s0 D, o1_13_s1 D, o1_13_s2 D⟩ (o1_1 D) (two o1_2).1 (two o1_2).2 (two (o1_p D)).1 (two (o1_p D)).2 (o1_13_3 D) (o1_13_5 D)
  | 1, _, _, 14, _ => exact ord_of (b0 := 90) (by decide) (by decide) ⟨o1_14_s0 D, o1_14_s1 D, o1_14_s2 D⟩ (o1_1 D) (two o1_2).1 (two o1_2).2 (two (o1_p D)).1 (two (o1_p D)).2 (o1_14_3 D) (o1_14_5 D)
  | 1, _, _, 15, _ => exact ord_of (b0 := 90) (by decide) (by decide) ⟨o1_15_s0 D, o1_15_s1 D, o1_15_s2 D⟩ (o1_1 D) (two o1_2).1 (two o1_2).2 (two (o1_p D)).1 (two (o1_p D)).2 (o1_15_3 D) (o1_15_5 D)
  | 2, _, _, 0, _ => exact ord_of (b0 := 80) (by decide) (by decide) ⟨o2_0_s0 D, o2_0_s1 D, o2_0_s2 D⟩ (o2_1 D) (two o2_2).1 (two o2_2).2 (two (o2_p D)).1 (two (o2_p D)).2 (o2_0_3 D) (o2_0_5 D)
  | 2, _, _, 1, _ => exact ord_of (b0 := 80) (by decide) (by decide) ⟨o2_1_s0 D, o2_1_s1 D, o2_1_s2 D⟩ (o2_1 D) (two o2_2).1 (two o2_2).2 (two (o2_p D)).1 (two (o2_p D)).2 (o2_1_3 D) (o2_1_5 D)
  | 2, _, _, 2, _ => exact ord_of (b0 := 80) (by decide) (by decide) ⟨o2_2_s0 D, o2_2_s1 D, o2_2_s2 D⟩ (o2_1 D) (two o2_2).1 (two o2_2).2 (two (o2_p D)).1 (two (o2_p D)).2 (o2_2_3 D) (o2_2_5 D)
  | 2, _, _, 3, _ => exact ord_of (b0 := 80) (by decide) (by decide) ⟨o2_3_s0 D, o2_3_s1 D, o2_3_s2 D⟩ (o2_1 D) (two o2_2).1 (two o2_2).2 (two (o2_p D)).1 (two (o2_p D)).2 (o2_3_3 D) (o2_3_5 D)
  | 2, _, _, 4, _ => exact ord_of (b0 := 80) (by decide) (by decide) ⟨o2_4_s0 D, o2_4_s1 D, o2_4_s2 D⟩ (o2_1 D) (two o2_2).1 (two o2_2).2 (two (o2_p D)).1 (two (o2_p D)).2 (o2_4_3 D) (o2_4_5 D)
  | 2, _, _, 5, _ => exact ord_of (b0 := 80) (by decide) (by decide) ⟨o2_5_s0 D, o2_5_s1 D, o2_5_s2 D⟩ (o2_1 D) (two o2_2).1 (two o2_2).2 (two (o2_p D)).1 (two (o2_p D)).2 (o2_5_3 D) (o2_5_5 D)
  | 2, _, _, 6, _ => exact ord_of (b0 := 80) (by decide) (by decide) ⟨o2_6_s0 D, o2_6_s1 D, o2_6_s2 D⟩ (o2_1 D) (two o2_2).1 (two o2_2).2 (two (o2_p D)).1 (two (o2_p D)).2 (o2_6_3 D) (o2_6_5 D)
  | 2, _, _, 7, _ => exact ord_of (b0 := 80) (by decide) (by decide) ⟨o2_7_s0 D, o2_7_s1 D, o2_7_s2 D⟩ (o2_1 D) (two o2_2).1 (two o2_2).2 (two (o2_p D)).1 (two (o2_p D)).2 (o2_7_3 D) (o2_7_5 D)
  | 2, _, _, 8, _ => exact ord_of (b0 := 80) (by decide) (by decide) ⟨o2_8_s0 D, o2_8_s1 D, o2_8_s2 D⟩ (o2_1 D) (two o2_2).1 (two o2_2).2 (two (o2_p D)).1 (two (o2_p D)).2 (o2_8_3 D) (o2_8_5 D)
  | 2, _, _, 9, _ => exact ord_of (b0 := 80) (by decide) (by decide) ⟨o2_9_s0 D, o2_9_s1 D, o2_9_s2 D⟩ (o2_1 D) (two o2_2).1 (two o2_2).2 (two (o2_p D)).1 (two (o2_p D)).2 (o2_9_3 D) (o2_9_5 D)
  | 2, _, _, 10, _ => exact ord_of (b0 := 80) (by decide) (by decide) ⟨o2_10_s0 D, o2_10_s1 D, o2_10_s2 D⟩ (o2_1 D) (two o2_2).1 (two o2_2).2 (two (o2_p D)).1 (two (o2_p D)).2 (o2_10_3 D) (o2_10_5 D)
  | 2, _, _, 11, _ => exact ord_of (b0 := 80) (by decide) (by decide) ⟨o2_11_s0 D, o2_11_s1 D, o2_11_s2 D⟩ (o2_1 D) (two o2_2).1 (two o2_2).2 (two (o2_p D)).1 (two (o2_p D)).2 (o2_11_3 D) (o2_11_5 D)
  | 2, _, _, 12, _ => exact ord_of (b0 := 80) (by decide) (by decide) ⟨o2_12_s0 D, o2_12_s1 D, o2_12_s2 D⟩ (o2_1 D) (two o2_2).1 (two o2_2).2 (two (o2_p D)).1 (two (o2_p D)).2 (o2_12_3 D) (o2_12_5 D)
  | 2, _, _, 13, _ => exact ord_of (b0 := 80) (by decide) (by decide) ⟨o2_13_s0 D, o2_13_s1 D, o2_13_s2 D⟩ (o2_1 D) (two o2_2).1 (two o2_2).2 (two (o2_p D)).1 (two (o2_p D)).2 (o2_13_3 D) (o2_13_5 D)
  | 2, _, _, 14, _ => exact ord_of (b0 := 80) (by decide) (by decide) ⟨o2_14_s0 D, o2_14_s1 D, o2_14_s2 D⟩ (o2_1 D) (two o2_2).1 (two o2_2).2 (two (o2_p D)).1 (two (o2_p D)).2 (o2_14_3 D) (o2_14_5 D)
  | 2, _, _, 15, _ => exact ord_of (b0 := 80) (by decide) (by decide) ⟨o2_15_s0 D, o2_15_s1 D, o2_15_s2 D⟩ (o2_1 D) (two o2_2).1 (two o2_2).2 (two (o2_p D)).1 (two (o2_p D)).2 (o2_15_3 D) (o2_15_5 D)
  | 3, _, _, 0, _ => exact ord_of (b0 := 80) (by decide) (by decide) ⟨o3_0_s0 D, o3_0_s1 D, o3_0_s2 D⟩ (o3_1 D) (two o3_2).1 (two o3_2).2 (two (o3_p D)).1 (two (o3_p D)).2 (o3_0_3 D) (o3_0_5 D)
  | 3, _, _, 1, _ => exact ord_of (b0 := 80) (by decide) (by decide) ⟨o3_1_s0 D, o3_1_s1 D, o3_1_s2 D⟩ (o3_1 D) (two o3_2).1 (two o3_2).2 (two (o3_p D)).1 (two (o3_p D)).2 (o3_1_3 D) (o3_1_5 D)
  | 3, _, _, 2, _ => exact ord_of (b0 := 80) (by decide) (by decide) ⟨o3_2_s0 D, o3_2_s1 D, o3_2_s2 D⟩ (o3_1 D) (two o3_2).1 (two o3_2).2 (two (o3_p D)).1 (two (o3_p D)).2 (o3_2_3 D) (o3_2_5 D)
  | 3, _, _, 3, _ => exact ord_of (b0 := 80) (by decide) (by decide) ⟨o3_3_s0 D, o3_3_s1 D, o3_3_s2 D⟩ (o3_1 D) (two o3_2).1 (two o3_2).2 (two (o3_p D)).1 (two (o3_p D)).2 (o3_3_3 D) (o3_3_5 D)
  | 3, _, _, 4, _ => exact ord_of (b0 := 80) (by decide) (by decide) ⟨o3_4_s0 D, o3_4_s1 D, o3_4_s2 D⟩ (o3_1 D) (two o3_2).1 (two o3_2).2 (two (o3_p D)).1 (two (o3_p D)).2 (o3_4_3 D) (o3_4_5 D)
  | 3, _, _, 5, _ => exact ord_of (b0 := 80) (by decide) (by decide) ⟨o3_5_s0 D, o3_5_s1 D, o3_5_s2 D⟩ (o3_1 D) (two o3_2).1 (two o3_2).2 (two (o3_p D)).1 (two (o3_p D)).2 (o3_5_3 D) (o3_5_5 D)
  | 3, _, _, 6, _ => exact ord_of (b0 := 80) (by decide) (by decide) ⟨o3_6_s0 D, o3_6_s1 D, o3_6_s2 D⟩ (o3_1 D) (two o3_2).1 (two o3_2).2 (two (o3_p D)).1 (two (o3_p D)).2 (o3_6_3 D) (o3_6_5 D)
  | 3, _, _, 7, _ => exact ord_of (b0 := 80) (by decide) (by decide) ⟨o3_7_s0 D, o3_7_s1 D, o3_7_s2 D⟩ (o3_1 D) (two o3_2).1 (two o3_2).2 (two (o3_p D)).1 (two (o3_p D)).2 (o3_7_3 D) (o3_7_5 D)
  | 3, _, _, 8, _ => exact ord_of (b0 := 80) (by decide) (by decide) ⟨o3_8_s0 D, o3_8_s1 D, o3_8_s2 D⟩ (o3_1 D) (two o3_2).1 (two o3_2).2 (two (o3_p D)).1 (two (o3_p D)).2 (o3_8_3 D) (o3_8_5 D)
  | 3, _, _, 9, _ => exact ord_of (b0 := 80) (by decide) (by decide) ⟨o3_9_s0 D, o3_9_s1 D, o3_9_s2 D⟩ (o3_1 D) (two o3_2).1 (two o3_2).2 (two (o3_p D)).1 (two (o3_p D)).2 (o3_9_3 D) (o3_9_5 D)
  | 3, _, _, 10, _ => exact ord_of (b0 := 80) (by decide) (by decide) ⟨o3_10_s0 D, o3_10_s1 D, o3_10_s2 D⟩ (o3_1 D) (two o3_2).1 (two o3_2).2 (two (o3_p D)).1 (two (o3_p D)).2 (o3_10_3 D) (o3_10_5 D)
  | 3, _, _, 11, _ => exact ord_of (b0 := 80) (by decide) (by decide) ⟨o3_11_s0 D, o3_11_s1 D, o3_11_s2 D⟩ (o3_1 D) (two o3_2).1 (two o3_2).2 (two (o3_p D)).1 (two (o3_p D)).2 (o3_11_3 D) (o3_11_5 D)
  | 3, _, _, 12, _ => exact ord_of (b0 := 80) (by decide) (by decide) ⟨o3_12_s0 D, o3_12_s1 D, o3_12_s2 D⟩ (o3_1 D) (two o3_2).1 (two o3_2).2 (two (o3_p D)).1 (two (o3_p D)).2 (o3_12_3 D) (o3_12_5 D)
  | 3, _, _, 13, _ => exact ord_of (b0 := 80) (by decide) (by decide) ⟨o3_13_s0 D, o3_13_s1 D, o3_13_s2 D⟩ (o3_1 D) (two o3_2).1 (two o3_2).2 (two (o3_p D)).1 (two (o3_p D)).2 (o3_13_3 D) (o3_13_5 D)
  | 3, _, _, 14, _ => exact ord_of (b0 := 80) (by decide) (by decide) ⟨o3_14_s0 D, o3_14_s1 D, o3_14_s2 D⟩ (o3_1 D) (two o3_2).1 (two o3_2).2 (two (o3_p D)).1 (two (o3_p D)).2 (o3_14_3 D) (o3_14_5 D)
  | 3, _, _, 15, _ => exact ord_of (b0 := 80) (by decide) (by decide) ⟨o3_15_s0 D, o3_15_s1 D, o3_15_s2 D⟩ (o3_1 D) (two o3_2).1 (two o3_2).2 (two (o3_p D)).1 (two (o3_p D)).2 (o3_15_3 D) (o3_15_5 D)
  | 4, _, _, 0, _ => exact ord_of (b0 := 80) (by decide) (by decide) ⟨o4_0_s0 D, o4_0_s1 D, o4_0_s2 D⟩ (o4_1 D) (two o4_2).1 (two o4_2).2 (two (o4_p D)).1 (two (o4_p D)).2 (o4_0_3 D) (o4_0_5 D)
  | 4, _, _, 1, _ => exact ord_of (b0 := 80) (by decide) (by decide) ⟨o4_1_s0 D, o4_1_s1 D, o4_1_s2 D⟩ (o4_1 D) (two o4_2).1 (two o4_2).2 (two (o4_p D)).1 (two (o4_p D)).2 (o4_1_3 D) (o4_1_5 D)
  | 4, _, _, 2, _ => exact ord_of (b0 := 80) (by decide) (by decide) ⟨o4_2_s0 D, o4_2_s1 D, o4_2_s2 D⟩ (o4_1 D) (two o4_2).1 (two o4_2).2 (two (o4_p D)).1 (two (o4_p D)).2 (o4_2_3 D) (o4_2_5 D)
  | 4, _, _, 3, _ => exact ord_of (b0 := 80) (by decide) (by decide) ⟨o4_3_s0 D, o4_3_s1 D, o4_3_s2 D⟩ (o4_1 D) (two o4_2).1 (two o4_2).2 (two (o4_p D)).1 (two (o4_p D)).2 (o4_3_3 D) (o4_3_5 D)
  | 4, _, _, 4, _ => exact ord_of (b0 := 80) (by decide) (by decide) ⟨o4_4_s0 D, o4_4_s1 D, o4_4_s2 D⟩ (o4_1 D) (two o4_2).1 (two o4_2).2 (two (o4_p D)).1 (two (o4_p D)).2 (o4_4_3 D) (o4_4_5 D)
  | 4, _, _, 5, _ => exact ord_of (b0 := 80) (by decide) (by decide) ⟨o4_5_s0 D, o4_5_s1 D, o4_5_s2 D⟩ (o4_1 D) (two o4_2).1 (two o4_2).2 (two (o4_p D)).1 (two (o4_p D)).2 (o4_5_3 D) (o4_5_5 D)
  | 4, _, _, 6, _ => exact ord_of (b0 := 80) (by decide) (by decide) ⟨o4_6_s0 D, o4_6_s1 D, o4_6_s2 D⟩ (o4_1 D) (two o4_2).1 (two o4_2).2 (two (o4_p D)).1 (two (o4_p D)).2 (o4_6_3 D) (o4_6_5 D)
  | 4, _, _, 7, _ => exact ord_of (b0 := 80) (by decide) (by decide) ⟨o4_7_s0 D, o4_7_s1 D, o4_7_s2 D⟩ (o4_1 D) (two o4_2).1 (two o4_2).2 (two (o4_p D)).1 (two (o4_p D)).2 (o4_7_3 D) (o4_7_5 D)
  | 4, _, _, 8, _ => exact ord_of (b0 := 80) (by decide) (by decide) ⟨o4_8_s0 D, o4_8_s1 D, o4_8_s2 D⟩ (o4_1 D) (two o4_2).1 (two o4_2).2 (two (o4_p D)).1 (two (o4_p D)).2 (o4_8_3 D) (o4_8_5 D)
  | 4, _, _, 9, _ => exact ord_of (b0 := 80) (by decide) (by decide) ⟨o4_9_s0 D, o4_9_s1 D, o4_9_s2 D⟩ (o4_1 D) (two o4_2).1 (two o4_2).2 (two (o4_p D)).1 (two (o4_p D)).2 (o4_9_3 D) (o4_9_5 D)
  | 4, _, _, 10, _ => exact ord_of (b0 := 80) (by decide) (by decide) ⟨o4_10_s0 D, o4_10_s1 D, o4_10_s2 D⟩ (o4_1 D) (two o4_2).1 (two o4_2).2 (two (o4_p D)).1 (two (o4_p D)).2 (o4_10_3 D) (o4_10_5 D)
  | 4, _, _, 11, _ => exact ord_of (b0 := 80) (by decide) (by decide) ⟨o4_11_s0 D, o4_11_s1 D, o4_11_s2 D⟩ (o4_1 D) (two o4_2).1 (two o4_2).2 (two (o4_p D)).1 (two (o4_p D)).2 (o4_11_3 D) (o4_11_5 D)
  | 4, _, _, 12, _ => exact ord_of (b0 := 80) (by decide) (by decide) ⟨o4_12_s0 D, o4_12_s1 D, o4_12_s2 D⟩ (o4_1 D) (two o4_2).1 (two o4_2).2 (two (o4_p D)).1 (two (o4_p D)).2 (o4_12_3 D) (o4_12_5 D)
  | 4, _, _, 13, _ => exact ord_of (b0 := 80) (by decide) (by decide) ⟨o4_13_s0 D, o4_13_s1 D, o4_13_s2 D⟩ (o4_1 D) (two o4_2).1 (two o4_2).2 (two (o4_p D)).1 (two (o4_p D)).2 (o4_13_3 D) (o4_13_5 D)
  | 4, _, _, 14, _ => exact ord_of (b0 := 80) (by decide) (by decide) ⟨o4_14_s0 D, o4_14_s1 D, o4_14_s2 D⟩ (o4_1 D) (two o4_2).1 (two o4_2).2 (two (o4_p D)).1 (two (o4_p D)).2 (o4_14_3 D) (o4_14_5 D)
  | 4, _, _, 15, _ => exact ord_of (b0 := 80) (by decide) (by decide) ⟨o4_15_s0 D, o4_15_s1 D, o4_15_s2 D⟩ (o4_1 D) (two o4_2).1 (two o4_2).2 (two (o4_p D)).1 (two (o4_p D)).2 (o4_15_3 D) (o4_15_5 D)
  | 5, _, _, 0, _ => exact ord_of (b0 := 80) (by decide) (by decide) ⟨o5_0_s0 D, o5_0_s1 D, o5_0_s2 D⟩ (o5_1 D) (two o5_2).1 (two o5_2).2 (two (o5_p D)).1 (two (o5_p D)).2 (o5_0_3 D) (o5_0_5 D)
  | 5, _, _, 1, _ => exact ord_of (b0 := 80) (by decide) (by decide) ⟨o5_1_s0 D, o5_1_s1 D, o5_1_s2 D⟩ (o5_1 D) (two o5_2).1 (two o5_2).2 (two (o5_p D)).1 (two (o5_p D)).2 (o5_1_3 D) (o5_1_5 D)
  | 5, _, _, 2, _ => exact ord_of (b0 := 80) (by decide) (by decide) ⟨o5_2_s0 D, o5_2_s1 D, o5_2_s2 D⟩ (o5_1 D) (two o5_2).1 (two o5_2).2 (two (o5_p D)).1 (two (o5_p D)).2 (o5_2_3 D) (o5_2_5 D)
  | 5, _, _, 3, _ => exact ord_of (b0 := 80) (by decide) (by decide) ⟨o5_3_s0 D, o5_3_s1 D, o5_3_s2 D⟩ (o5_1 D) (two o5_2).1 (two o5_2).2 (two (o5_p D)).1 (two (o5_p D)).2 (o5_3_3 D) (o5_3_5 D)
  | 5, _, _, 4, _ => exact ord_of (b0 := 80) (by decide) (by decide) ⟨o5_4_s0 D, o5_4_s1 D, o5_4_s2 D⟩ (o5_1 D) (two o5_2).1 (two o5_2).2 (two (o5_p D)).1 (two (o5_p D)).2 (o5_4_3 D) (o5_4_5 D)
  | 5, _, _, 5, _ => exact ord_of (b0 := 80) (by decide) (by decide) ⟨o5_5_s0 D, o5_5_s1 D, o5_5_s2 D⟩ (o5_1 D) (two o5_2).1 (two o5_2).2 (two (o5_p D)).1 (two (o5_p D)).2 (o5_5_3 D) (o5_5_5 D)
  | 5, _, _, 6, _ => exact ord_of (b0 := 80) (by decide) (by decide) ⟨o5_6_s0 D, o5_6_s1 D, o5_6_s2 D⟩ (o5_1 D) (two o5_2).1 (two o5_2).2 (two (o5_p D)).1 (two (o5_p D)).2 (o5_6_3 D) (o5_6_5 D)
  | 5, _, _, 7, _ => exact ord_of (b0 := 80) (by decide) (by decide) ⟨o5_7_s0 D, o5_7_s1 D, o5_7_s2 D⟩ (o5_1 D) (two o5_2).1 (two o5_2).2 (two (o5_p D)).1 (two (o5_p D)).2 (o5_7_3 D) (o5_7_5 D)
  | 5, _, _, 8, _ => exact ord_of (b0 := 80) (by decide) (by decide) ⟨o5_8_s0 D, o5_8_s1 D, o5_8_s2 D⟩ (o5_1 D) (two o5_2).1 (two o5_2).2 (two (o5_p D)).1 (two (o5_p D)).2 (o5_8_3 D) (o5_8_5 D)
  | 5, _, _, 9, _ => exact ord_of (b0 := 80) (by decide) (by decide) ⟨o5_9_s0 D, o5_9_s1 D, o5_9_s2 D⟩ (o5_1 D) (two o5_2).1 (two o5_2).2 (two (o5_p D)).1 (two (o5_p D)).2 (o5_9_3 D) (o5_9_5 D)
  | 5, _, _, 10, _ => exact ord_of (b0 := 80) (by decide) (by decide) ⟨o5_10_s0 D, o5_10_s1 D, o5_10_s2 D⟩ (o5_1 D) (two o5_2).1 (two o5_2).2 (two (o5_p D)).1 (two (o5_p D)).2 (o5_10_3 D) (o5_10_5 D)
  | 5, _, _, 11, _ => exact ord_of (b0 := 80) (by decide) (by decide) ⟨o5_11_s0 D, o5_11_s1 D, o5_11_s2 D⟩ (o5_1 D) (two o5_2).1 (two o5_2).2 (two (o5_p D)).1 (two (o5_p D)).2 (o5_11_3 D) (o5_11_5 D)
  | 5, _, _, 12, _ => exact ord_of (b0 := 80) (by decide) (by decide) ⟨o5_12_s0 D, o5_12_s1 D, o5_12_s2 D⟩ (o5_1 D) (two o5_2).1 (two o5_2).2 (two (o5_p D)).1 (two (o5_p D)).2 (o5_12_3 D) (o5_12_5 D)
  | 5, _, _, 13, _ => exact ord_of (b0 := 80) (by decide) (by decide) ⟨o5_13_s0 D, o5_13_s1 D, o5_13_s2 D⟩ (o5_1 D) (two o5_2).1 (two o5_2).2 (two (o5_p D)).1 (two (o5_p D)).2 (o5_13_3 D) (o5_13_5 D)
  | 5, _, _, 14, _ => exact ord_of (b0 := 80) (by decide) (by decide) ⟨o5_14_s0 D, o5_14_s1 D, o5_14_s2 D⟩ (o5_1 D) (two o5_2).1 (two o5_2).2 (two (o5_p D)).1 (two (o5_p D)).2 (o5_14_3 D) (o5_14_5 D)
  | 5, _, _, 15, _ => exact ord_of (b0 := 80) (by decide) (by decide) ⟨o5_15_s0 D, o5_15_s1 D, o5_15_s2 D⟩ (o5_1 D) (two o5_2).1 (two o5_2).2 (two (o5_p D)).1 (two (o5_p D)).2 (o5_15_3 D) (o5_15_5 D)
theorem raftOrder_all {n0 : Int} {l : List Int} : AC Try.prog 3 [.int .i64 n0, .psl (ofInts l) 0 l.length] st0 fun v _ => v = .bool true := (raftOrder_ac ord_all).ac
end Go.Proofs.Ythojhpjjkfjeiaa.Va
