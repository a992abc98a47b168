/- CheckerErrors with 0 empty lines, by the kernel. -/
import Derived.Test.YtopganainjgmmaaErr0
namespace Go.Proofs.Ytopganainjgmmaa.Ev
open Go Go.RowKit
set_option linter.unusedVariables false
theorem err_0_0 : errAt 0 0 = true := by kernel_rfl
theorem err_1_0 : errAt 1 0 = true := by kernel_rfl
theorem err_2_0 : errAt 2 0 = true := by kernel_rfl
theorem err_3_0 : errAt 3 0 = true := by kernel_rfl
theorem err_4_0 : errAt 4 0 = true := by kernel_rfl
theorem err_5_0 : errAt 5 0 = true := by kernel_rfl
theorem err_6_0 : errAt 6 0 = true := by kernel_rfl
theorem err_7_0 : errAt 7 0 = true := by kernel_rfl
theorem err_8_0 : errAt 8 0 = true := by kernel_rfl
theorem err_9_0 : errAt 9 0 = true := by kernel_rfl
theorem err_10_0 : errAt 10 0 = true := by kernel_rfl
theorem err_11_0 : errAt 11 0 = true := by kernel_rfl
theorem err_12_0 : errAt 12 0 = true := by kernel_rfl
theorem err_13_0 : errAt 13 0 = true := by kernel_rfl
theorem err_14_0 : errAt 14 0 = true := by kernel_rfl
theorem err_15_0 : errAt 15 0 = true := by kernel_rfl
theorem err_16_0 : errAt 16 0 = true := by kernel_rfl
theorem errs_0 (i : Nat) (hi : i < 17) : errAt i 0 = true := by
  rcases (by omega : i = 0 ∨ i = 1 ∨ i = 2 ∨ i = 3 ∨ i = 4 ∨ i = 5 ∨ i = 6 ∨ i = 7 ∨ i = 8 ∨ i = 9 ∨ i = 10 ∨ i = 11 ∨ i = 12 ∨ i = 13 ∨ i = 14 ∨ i = 15 ∨ i = 16) with rfl | rfl | rfl | rfl | rfl | rfl | rfl | rfl | rfl | rfl | rfl | rfl | rfl | rfl | rfl | rfl | rfl
  · exact err_0_0
  · exact err_1_0
  · exact err_2_0
  · exact err_3_0
  · exact err_4_0
  · exact err_5_0
  · exact err_6_0
  · exact err_7_0
  · exact err_8_0
  · exact err_9_0
  · exact err_10_0
  · exact err_11_0
  · exact err_12_0
  · exact err_13_0
  · exact err_14_0
  · exact err_15_0
  · exact err_16_0
end Go.Proofs.Ytopganainjgmmaa.Ev
