/-
  The law RekeyikeRefuses behind its connection: runs.
  Conditions: none.
-/
import Derived.Test.YtbfppnppijcnlaaGreatRf
namespace Go.Proofs.YtbfppnppijcnlaaGreat
namespace Ab
set_option maxRecDepth 1000000
theorem lwR0_0 : lwOK 0 0 = true := by kernel_rfl
theorem lwR0_1 : lwOK 0 1 = true := by kernel_rfl
theorem lwR0_2 : lwOK 0 2 = true := by kernel_rfl
theorem lwR0_3 : lwOK 0 3 = true := by kernel_rfl
theorem lwR0_4 : lwOK 0 4 = true := by kernel_rfl
theorem lwR0_5 : lwOK 0 5 = true := by kernel_rfl
theorem lwR0_6 : lwOK 0 6 = true := by kernel_rfl
theorem lwR0_7 : lwOK 0 7 = true := by kernel_rfl
theorem lwR0_8 : lwOK 0 8 = true := by kernel_rfl
theorem lwR0_9 : lwOK 0 9 = true := by kernel_rfl
theorem lwR0_10 : lwOK 0 10 = true := by kernel_rfl
theorem lwR0_11 : lwOK 0 11 = true := by kernel_rfl
theorem lwR0_12 : lwOK 0 12 = true := by kernel_rfl
theorem lwR0_13 : lwOK 0 13 = true := by kernel_rfl
theorem lwR0_14 : lwOK 0 14 = true := by kernel_rfl
theorem lwR0_15 : lwOK 0 15 = true := by kernel_rfl
theorem lwR1_0 : lwOK 1 0 = true := by kernel_rfl
theorem lwR1_1 : lwOK 1 1 = true := by kernel_rfl
theorem lwR1_2 : lwOK 1 2 = true := by kernel_rfl
theorem lwR1_3 : lwOK 1 3 = true := by kernel_rfl
theorem lwR1_4 : lwOK 1 4 = true := by kernel_rfl
theorem lwR1_5 : lwOK 1 5 = true := by kernel_rfl
theorem lwR1_6 : lwOK 1 6 = true := by kernel_rfl
theorem lwR1_7 : lwOK 1 7 = true := by kernel_rfl
theorem lwR1_8 : lwOK 1 8 = true := by kernel_rfl
theorem lwR1_9 : lwOK 1 9 = true := by kernel_rfl
theorem lwR1_10 : lwOK 1 10 = true := by kernel_rfl
theorem lwR1_11 : lwOK 1 11 = true := by kernel_rfl
theorem lwR1_12 : lwOK 1 12 = true := by kernel_rfl
theorem lwR1_13 : lwOK 1 13 = true := by kernel_rfl
theorem lwR1_14 : lwOK 1 14 = true := by kernel_rfl
theorem lwR1_15 : lwOK 1 15 = true := by kernel_rfl
theorem lwR2_0 : lwOK 2 0 = true := by kernel_rfl
theorem lwR2_1 : lwOK 2 1 = true := by kernel_rfl
theorem lwR2_2 : lwOK 2 2 = true := by kernel_rfl
theorem lwR2_3 : lwOK 2 3 = true := by kernel_rfl
theorem lwR2_4 : lwOK 2 4 = true := by kernel_rfl
theorem lwR2_5 : lwOK 2 5 = true := by kernel_rfl
theorem lwR2_6 : lwOK 2 6 = true := by kernel_rfl
theorem lwR2_7 : lwOK 2 7 = true := by kernel_rfl
theorem lwR2_8 : lwOK 2 8 = true := by kernel_rfl
theorem lwR2_9 : lwOK 2 9 = true := by kernel_rfl
theorem lwR2_10 : lwOK 2 10 = true := by kernel_rfl
theorem lwR2_11 : lwOK 2 11 = true := by kernel_rfl
theorem lwR2_12 : lwOK 2 12 = true := by kernel_rfl
theorem lwR2_13 : lwOK 2 13 = true := by kernel_rfl
theorem lwR2_14 : lwOK 2 14 = true := by kernel_rfl
theorem lwR2_15 : lwOK 2 15 = true := by kernel_rfl
theorem lwR3_0 : lwOK 3 0 = true := by kernel_rfl
theorem lwR3_1 : lwOK 3 1 = true := by kernel_rfl
theorem lwR3_2 : lwOK 3 2 = true := by kernel_rfl
theorem lwR3_3 : lwOK 3 3 = true := by kernel_rfl
theorem lwR3_4 : lwOK 3 4 = true := by kernel_rfl
theorem lwR3_5 : lwOK 3 5 = true := by kernel_rfl
theorem lwR3_6 : lwOK 3 6 = true := by kernel_rfl
theorem lwR3_7 : lwOK 3 7 = true := by kernel_rfl
theorem lwR3_8 : lwOK 3 8 = true := by kernel_rfl
theorem lwR3_9 : lwOK 3 9 = true := by kernel_rfl
theorem lwR3_10 : lwOK 3 10 = true := by kernel_rfl
theorem lwR3_11 : lwOK 3 11 = true := by kernel_rfl
end Ab
end Go.Proofs.YtbfppnppijcnlaaGreat
