/-
  The law RekeyikeRefuses behind its connection: runs.
  Conditions: none.
-/
import Derived.Test.YtbfppnppijcnlaaGreatRf
namespace Go.Proofs.YtbfppnppijcnlaaGreat
namespace Ab
set_option maxRecDepth 1000000
theorem lwR3_12 : lwOK 3 12 = true := by kernel_rfl
theorem lwR3_13 : lwOK 3 13 = true := by kernel_rfl
theorem lwR3_14 : lwOK 3 14 = true := by kernel_rfl
theorem lwR3_15 : lwOK 3 15 = true := by kernel_rfl
theorem lwR4_0 : lwOK 4 0 = true := by kernel_rfl
theorem lwR4_1 : lwOK 4 1 = true := by kernel_rfl
theorem lwR4_2 : lwOK 4 2 = true := by kernel_rfl
theorem lwR4_3 : lwOK 4 3 = true := by kernel_rfl
theorem lwR4_4 : lwOK 4 4 = true := by kernel_rfl
theorem lwR4_5 : lwOK 4 5 = true := by kernel_rfl
theorem lwR4_6 : lwOK 4 6 = true := by kernel_rfl
theorem lwR4_7 : lwOK 4 7 = true := by kernel_rfl
theorem lwR4_8 : lwOK 4 8 = true := by kernel_rfl
theorem lwR4_9 : lwOK 4 9 = true := by kernel_rfl
theorem lwR4_10 : lwOK 4 10 = true := by kernel_rfl
theorem lwR4_11 : lwOK 4 11 = true := by kernel_rfl
theorem lwR4_12 : lwOK 4 12 = true := by kernel_rfl
theorem lwR4_13 : lwOK 4 13 = true := by kernel_rfl
theorem lwR4_14 : lwOK 4 14 = true := by kernel_rfl
theorem lwR4_15 : lwOK 4 15 = true := by kernel_rfl
theorem lwR5_0 : lwOK 5 0 = true := by kernel_rfl
theorem lwR5_1 : lwOK 5 1 = true := by kernel_rfl
theorem lwR5_2 : lwOK 5 2 = true := by kernel_rfl
theorem lwR5_3 : lwOK 5 3 = true := by kernel_rfl
theorem lwR5_4 : lwOK 5 4 = true := by kernel_rfl
theorem lwR5_5 : lwOK 5 5 = true := by kernel_rfl
theorem lwR5_6 : lwOK 5 6 = true := by kernel_rfl
theorem lwR5_7 : lwOK 5 7 = true := by kernel_rfl
theorem lwR5_8 : lwOK 5 8 = true := by kernel_rfl
theorem lwR5_9 : lwOK 5 9 = true := by kernel_rfl
theorem lwR5_10 : lwOK 5 10 = true := by kernel_rfl
theorem lwR5_11 : lwOK 5 11 = true := by kernel_rfl
theorem lwR5_12 : lwOK 5 12 = true := by kernel_rfl
theorem lwR5_13 : lwOK 5 13 = true := by kernel_rfl
theorem lwR5_14 : lwOK 5 14 = true := by kernel_rfl
theorem lwR5_15 : lwOK 5 15 = true := by kernel_rfl
theorem lwR6_0 : lwOK 6 0 = true := by kernel_rfl
theorem lwR6_1 : lwOK 6 1 = true := by kernel_rfl
theorem lwR6_2 : lwOK 6 2 = true := by kernel_rfl
theorem lwR6_3 : lwOK 6 3 = true := by kernel_rfl
theorem lwR6_4 : lwOK 6 4 = true := by kernel_rfl
theorem lwR6_5 : lwOK 6 5 = true := by kernel_rfl
theorem lwR6_6 : lwOK 6 6 = true := by kernel_rfl
theorem lwR6_7 : lwOK 6 7 = true := by kernel_rfl
theorem lwR6_8 : lwOK 6 8 = true := by kernel_rfl
theorem lwR6_9 : lwOK 6 9 = true := by kernel_rfl
theorem lwR6_10 : lwOK 6 10 = true := by kernel_rfl
theorem lwR6_11 : lwOK 6 11 = true := by kernel_rfl
theorem lwR6_12 : lwOK 6 12 = true := by kernel_rfl
theorem lwR6_13 : lwOK 6 13 = true := by kernel_rfl
theorem lwR6_14 : lwOK 6 14 = true := by kernel_rfl
theorem lwR6_15 : lwOK 6 15 = true := by kernel_rfl
theorem lwR7_0 : lwOK 7 0 = true := by kernel_rfl
theorem lwR7_1 : lwOK 7 1 = true := by kernel_rfl
theorem lwR7_2 : lwOK 7 2 = true := by kernel_rfl
theorem lwR7_3 : lwOK 7 3 = true := by kernel_rfl
theorem lwR7_4 : lwOK 7 4 = true := by kernel_rfl
theorem lwR7_5 : lwOK 7 5 = true := by kernel_rfl
theorem lwR7_6 : lwOK 7 6 = true := by kernel_rfl
theorem lwR7_7 : lwOK 7 7 = true := by kernel_rfl
end Ab
end Go.Proofs.YtbfppnppijcnlaaGreat
