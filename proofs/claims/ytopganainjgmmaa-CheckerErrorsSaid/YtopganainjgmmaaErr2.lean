/- CheckerErrors with 1 empty lines, by the kernel. -/
import Derived.Test.YtopganainjgmmaaErr0
namespace Go.Proofs.Ytopganainjgmmaa.Ev
open Go Go.RowKit
set_option linter.unusedVariables false
theorem err_0_1 : errAt 0 1 = true := by kernel_rfl
theorem err_1_1 : errAt 1 1 = true := by kernel_rfl
theorem err_2_1 : errAt 2 1 = true := by kernel_rfl
theorem err_3_1 : errAt 3 1 = true := by kernel_rfl
theorem err_4_1 : errAt 4 1 = true := by kernel_rfl
theorem err_5_1 : errAt 5 1 = true := by kernel_rfl
theorem err_6_1 : errAt 6 1 = true := by kernel_rfl
theorem err_7_1 : errAt 7 1 = true := by kernel_rfl
theorem err_8_1 : errAt 8 1 = true := by kernel_rfl
theorem err_9_1 : errAt 9 1 = true := by kernel_rfl
theorem err_10_1 : errAt 10 1 = true := by kernel_rfl
theorem err_11_1 : errAt 11 1 = true := by kernel_rfl
theorem err_12_1 : errAt 12 1 = true := by kernel_rfl
theorem err_13_1 : errAt 13 1 = true := by kernel_rfl
theorem err_14_1 : errAt 14 1 = true := by kernel_rfl
theorem err_15_1 : errAt 15 1 = true := by kernel_rfl
theorem err_16_1 : errAt 16 1 = true := by kernel_rfl
theorem errs_1 (i : Nat) (hi : i < 17) : errAt i 1 = true := by
  rcases (by omega : i = 0 ∨ i = 1 ∨ i = 2 ∨ i = 3 ∨ i = 4 ∨ i = 5 ∨ i = 6 ∨ i = 7 ∨ i = 8 ∨ i = 9 ∨ i = 10 ∨ i = 11 ∨ i = 12 ∨ i = 13 ∨ i = 14 ∨ i = 15 ∨ i = 16) with rfl | rfl | rfl | rfl | rfl | rfl | rfl | rfl | rfl | rfl | rfl | rfl | rfl | rfl | rfl | rfl | rfl
  · exact err_0_1
  · exact err_1_1
  · exact err_2_1
  · exact err_3_1
  · exact err_4_1
  · exact err_5_1
  · exact err_6_1
  · exact err_7_1
  · exact err_8_1
  · exact err_9_1
  · exact err_10_1
  · exact err_11_1
  · exact err_12_1
  · exact err_13_1
  · exact err_14_1
  · exact err_15_1
  · exact err_16_1
end Go.Proofs.Ytopganainjgmmaa.Ev
