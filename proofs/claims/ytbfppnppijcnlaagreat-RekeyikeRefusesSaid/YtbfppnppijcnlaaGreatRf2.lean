/-
  The law RekeyikeRefuses behind its connection: runs.
  Conditions: none.
-/
import Derived.Test.YtbfppnppijcnlaaGreatRf
namespace Go.Proofs.YtbfppnppijcnlaaGreat
namespace Ab
set_option maxRecDepth 1000000
theorem lwR7_8 : lwOK 7 8 = true := by kernel_rfl
theorem lwR7_9 : lwOK 7 9 = true := by kernel_rfl
theorem lwR7_10 : lwOK 7 10 = true := by kernel_rfl
theorem lwR7_11 : lwOK 7 11 = true := by kernel_rfl
theorem lwR7_12 : lwOK 7 12 = true := by kernel_rfl
theorem lwR7_13 : lwOK 7 13 = true := by kernel_rfl
theorem lwR7_14 : lwOK 7 14 = true := by kernel_rfl
theorem lwR7_15 : lwOK 7 15 = true := by kernel_rfl
theorem lwR8_0 : lwOK 8 0 = true := by kernel_rfl
theorem lwR8_1 : lwOK 8 1 = true := by kernel_rfl
theorem lwR8_2 : lwOK 8 2 = true := by kernel_rfl
theorem lwR8_3 : lwOK 8 3 = true := by kernel_rfl
theorem lwR8_4 : lwOK 8 4 = true := by kernel_rfl
theorem lwR8_5 : lwOK 8 5 = true := by kernel_rfl
theorem lwR8_6 : lwOK 8 6 = true := by kernel_rfl
theorem lwR8_7 : lwOK 8 7 = true := by kernel_rfl
theorem lwR8_8 : lwOK 8 8 = true := by kernel_rfl
theorem lwR8_9 : lwOK 8 9 = true := by kernel_rfl
theorem lwR8_10 : lwOK 8 10 = true := by kernel_rfl
theorem lwR8_11 : lwOK 8 11 = true := by kernel_rfl
theorem lwR8_12 : lwOK 8 12 = true := by kernel_rfl
theorem lwR8_13 : lwOK 8 13 = true := by kernel_rfl
theorem lwR8_14 : lwOK 8 14 = true := by kernel_rfl
theorem lwR8_15 : lwOK 8 15 = true := by kernel_rfl
theorem lwR9_0 : lwOK 9 0 = true := by kernel_rfl
theorem lwR9_1 : lwOK 9 1 = true := by kernel_rfl
theorem lwR9_2 : lwOK 9 2 = true := by kernel_rfl
theorem lwR9_3 : lwOK 9 3 = true := by kernel_rfl
theorem lwR9_4 : lwOK 9 4 = true := by kernel_rfl
theorem lwR9_5 : lwOK 9 5 = true := by kernel_rfl
theorem lwR9_6 : lwOK 9 6 = true := by kernel_rfl
theorem lwR9_7 : lwOK 9 7 = true := by kernel_rfl
theorem lwR9_8 : lwOK 9 8 = true := by kernel_rfl
theorem lwR9_9 : lwOK 9 9 = true := by kernel_rfl
theorem lwR9_10 : lwOK 9 10 = true := by kernel_rfl
theorem lwR9_11 : lwOK 9 11 = true := by kernel_rfl
theorem lwR9_12 : lwOK 9 12 = true := by kernel_rfl
theorem lwR9_13 : lwOK 9 13 = true := by kernel_rfl
theorem lwR9_14 : lwOK 9 14 = true := by kernel_rfl
theorem lwR9_15 : lwOK 9 15 = true := by kernel_rfl
theorem lwR10_0 : lwOK 10 0 = true := by kernel_rfl
theorem lwR10_1 : lwOK 10 1 = true := by kernel_rfl
theorem lwR10_2 : lwOK 10 2 = true := by kernel_rfl
theorem lwR10_3 : lwOK 10 3 = true := by kernel_rfl
theorem lwR10_4 : lwOK 10 4 = true := by kernel_rfl
theorem lwR10_5 : lwOK 10 5 = true := by kernel_rfl
theorem lwR10_6 : lwOK 10 6 = true := by kernel_rfl
theorem lwR10_7 : lwOK 10 7 = true := by kernel_rfl
theorem lwR10_8 : lwOK 10 8 = true := by kernel_rfl
theorem lwR10_9 : lwOK 10 9 = true := by kernel_rfl
theorem lwR10_10 : lwOK 10 10 = true := by kernel_rfl
theorem lwR10_11 : lwOK 10 11 = true := by kernel_rfl
theorem lwR10_12 : lwOK 10 12 = true := by kernel_rfl
theorem lwR10_13 : lwOK 10 13 = true := by kernel_rfl
theorem lwR10_14 : lwOK 10 14 = true := by kernel_rfl
theorem lwR10_15 : lwOK 10 15 = true := by kernel_rfl
theorem lwR11_0 : lwOK 11 0 = true := by kernel_rfl
theorem lwR11_1 : lwOK 11 1 = true := by kernel_rfl
theorem lwR11_2 : lwOK 11 2 = true := by kernel_rfl
theorem lwR11_3 : lwOK 11 3 = true := by kernel_rfl
end Ab
end Go.Proofs.YtbfppnppijcnlaaGreat
