/- CheckerErrors with 2 empty lines, by the kernel. -/
import Derived.Test.YtopganainjgmmaaErr0
namespace Go.Proofs.Ytopganainjgmmaa.Ev
open Go Go.RowKit
set_option linter.unusedVariables false
theorem err_0_2 : errAt 0 2 = true := by kernel_rfl
theorem err_1_2 : errAt 1 2 = true := by kernel_rfl
theorem err_2_2 : errAt 2 2 = true := by kernel_rfl
theorem err_3_2 : errAt 3 2 = true := by kernel_rfl
theorem err_4_2 : errAt 4 2 = true := by kernel_rfl
theorem err_5_2 : errAt 5 2 = true := by kernel_rfl
theorem err_6_2 : errAt 6 2 = true := by kernel_rfl
theorem err_7_2 : errAt 7 2 = true := by kernel_rfl
theorem err_8_2 : errAt 8 2 = true := by kernel_rfl
theorem err_9_2 : errAt 9 2 = true := by kernel_rfl
theorem err_10_2 : errAt 10 2 = true := by kernel_rfl
theorem err_11_2 : errAt 11 2 = true := by kernel_rfl
theorem err_12_2 : errAt 12 2 = true := by kernel_rfl
theorem err_13_2 : errAt 13 2 = true := by kernel_rfl
theorem err_14_2 : errAt 14 2 = true := by kernel_rfl
theorem err_15_2 : errAt 15 2 = true := by kernel_rfl
theorem err_16_2 : errAt 16 2 = true := by kernel_rfl
theorem errs_2 (i : Nat) (hi : i < 17) : errAt i 2 = true := by
  rcases (by omega : i = 0 ∨ i = 1 ∨ i = 2 ∨ i = 3 ∨ i = 4 ∨ i = 5 ∨ i = 6 ∨ i = 7 ∨ i = 8 ∨ i = 9 ∨ i = 10 ∨ i = 11 ∨ i = 12 ∨ i = 13 ∨ i = 14 ∨ i = 15 ∨ i = 16) with rfl | rfl | rfl | rfl | rfl | rfl | rfl | rfl | rfl | rfl | rfl | rfl | rfl | rfl | rfl | rfl | rfl
  · exact err_0_2
  · exact err_1_2
  · exact err_2_2
  · exact err_3_2
  · exact err_4_2
  · exact err_5_2
  · exact err_6_2
  · exact err_7_2
  · exact err_8_2
  · exact err_9_2
  · exact err_10_2
  · exact err_11_2
  · exact err_12_2
  · exact err_13_2
  · exact err_14_2
  · exact err_15_2
  · exact err_16_2
end Go.Proofs.Ytopganainjgmmaa.Ev
