/- CheckerErrors with 3 empty lines, by the kernel. -/
import Derived.Test.YtopganainjgmmaaErr0
namespace Go.Proofs.Ytopganainjgmmaa.Ev
open Go Go.RowKit
set_option linter.unusedVariables false
theorem err_0_3 : errAt 0 3 = true := by kernel_rfl
theorem err_1_3 : errAt 1 3 = true := by kernel_rfl
theorem err_2_3 : errAt 2 3 = true := by kernel_rfl
theorem err_3_3 : errAt 3 3 = true := by kernel_rfl
theorem err_4_3 : errAt 4 3 = true := by kernel_rfl
theorem err_5_3 : errAt 5 3 = true := by kernel_rfl
theorem err_6_3 : errAt 6 3 = true := by kernel_rfl
theorem err_7_3 : errAt 7 3 = true := by kernel_rfl
theorem err_8_3 : errAt 8 3 = true := by kernel_rfl
theorem err_9_3 : errAt 9 3 = true := by kernel_rfl
theorem err_10_3 : errAt 10 3 = true := by kernel_rfl
theorem err_11_3 : errAt 11 3 = true := by kernel_rfl
theorem err_12_3 : errAt 12 3 = true := by kernel_rfl
theorem err_13_3 : errAt 13 3 = true := by kernel_rfl
theorem err_14_3 : errAt 14 3 = true := by kernel_rfl
theorem err_15_3 : errAt 15 3 = true := by kernel_rfl
theorem err_16_3 : errAt 16 3 = true := by kernel_rfl
theorem errs_3 (i : Nat) (hi : i < 17) : errAt i 3 = true := by
  rcases (by omega : i = 0 ∨ i = 1 ∨ i = 2 ∨ i = 3 ∨ i = 4 ∨ i = 5 ∨ i = 6 ∨ i = 7 ∨ i = 8 ∨ i = 9 ∨ i = 10 ∨ i = 11 ∨ i = 12 ∨ i = 13 ∨ i = 14 ∨ i = 15 ∨ i = 16) with rfl | rfl | rfl | rfl | rfl | rfl | rfl | rfl | rfl | rfl | rfl | rfl | rfl | rfl | rfl | rfl | rfl
  · exact err_0_3
  · exact err_1_3
  · exact err_2_3
  · exact err_3_3
  · exact err_4_3
  · exact err_5_3
  · exact err_6_3
  · exact err_7_3
  · exact err_8_3
  · exact err_9_3
  · exact err_10_3
  · exact err_11_3
  · exact err_12_3
  · exact err_13_3
  · exact err_14_3
  · exact err_15_3
  · exact err_16_3
end Go.Proofs.Ytopganainjgmmaa.Ev
