/-
  The law RekeyikeRefuses behind its connection: runs.
  Conditions: none.
-/
import Derived.Test.YtbfppnppijcnlaaGreatRf
namespace Go.Proofs.YtbfppnppijcnlaaGreat
namespace Ab
set_option maxRecDepth 1000000
theorem lwR11_4 : lwOK 11 4 = true := by kernel_rfl
theorem lwR11_5 : lwOK 11 5 = true := by kernel_rfl
theorem lwR11_6 : lwOK 11 6 = true := by kernel_rfl
theorem lwR11_7 : lwOK 11 7 = true := by kernel_rfl
theorem lwR11_8 : lwOK 11 8 = true := by kernel_rfl
theorem lwR11_9 : lwOK 11 9 = true := by kernel_rfl
theorem lwR11_10 : lwOK 11 10 = true := by kernel_rfl
theorem lwR11_11 : lwOK 11 11 = true := by kernel_rfl
theorem lwR11_12 : lwOK 11 12 = true := by kernel_rfl
theorem lwR11_13 : lwOK 11 13 = true := by kernel_rfl
theorem lwR11_14 : lwOK 11 14 = true := by kernel_rfl
theorem lwR11_15 : lwOK 11 15 = true := by kernel_rfl
theorem lwR12_0 : lwOK 12 0 = true := by kernel_rfl
theorem lwR12_1 : lwOK 12 1 = true := by kernel_rfl
theorem lwR12_2 : lwOK 12 2 = true := by kernel_rfl
theorem lwR12_3 : lwOK 12 3 = true := by kernel_rfl
theorem lwR12_4 : lwOK 12 4 = true := by kernel_rfl
theorem lwR12_5 : lwOK 12 5 = true := by kernel_rfl
theorem lwR12_6 : lwOK 12 6 = true := by kernel_rfl
theorem lwR12_7 : lwOK 12 7 = true := by kernel_rfl
theorem lwR12_8 : lwOK 12 8 = true := by kernel_rfl
theorem lwR12_9 : lwOK 12 9 = true := by kernel_rfl
theorem lwR12_10 : lwOK 12 10 = true := by kernel_rfl
theorem lwR12_11 : lwOK 12 11 = true := by kernel_rfl
theorem lwR12_12 : lwOK 12 12 = true := by kernel_rfl
theorem lwR12_13 : lwOK 12 13 = true := by kernel_rfl
theorem lwR12_14 : lwOK 12 14 = true := by kernel_rfl
theorem lwR12_15 : lwOK 12 15 = true := by kernel_rfl
theorem lwR13_0 : lwOK 13 0 = true := by kernel_rfl
theorem lwR13_1 : lwOK 13 1 = true := by kernel_rfl
theorem lwR13_2 : lwOK 13 2 = true := by kernel_rfl
theorem lwR13_3 : lwOK 13 3 = true := by kernel_rfl
theorem lwR13_4 : lwOK 13 4 = true := by kernel_rfl
theorem lwR13_5 : lwOK 13 5 = true := by kernel_rfl
theorem lwR13_6 : lwOK 13 6 = true := by kernel_rfl
theorem lwR13_7 : lwOK 13 7 = true := by kernel_rfl
theorem lwR13_8 : lwOK 13 8 = true := by kernel_rfl
theorem lwR13_9 : lwOK 13 9 = true := by kernel_rfl
theorem lwR13_10 : lwOK 13 10 = true := by kernel_rfl
theorem lwR13_11 : lwOK 13 11 = true := by kernel_rfl
theorem lwR13_12 : lwOK 13 12 = true := by kernel_rfl
theorem lwR13_13 : lwOK 13 13 = true := by kernel_rfl
theorem lwR13_14 : lwOK 13 14 = true := by kernel_rfl
theorem lwR13_15 : lwOK 13 15 = true := by kernel_rfl
theorem lwR14_0 : lwOK 14 0 = true := by kernel_rfl
theorem lwR14_1 : lwOK 14 1 = true := by kernel_rfl
theorem lwR14_2 : lwOK 14 2 = true := by kernel_rfl
theorem lwR14_3 : lwOK 14 3 = true := by kernel_rfl
theorem lwR14_4 : lwOK 14 4 = true := by kernel_rfl
theorem lwR14_5 : lwOK 14 5 = true := by kernel_rfl
theorem lwR14_6 : lwOK 14 6 = true := by kernel_rfl
theorem lwR14_7 : lwOK 14 7 = true := by kernel_rfl
theorem lwR14_8 : lwOK 14 8 = true := by kernel_rfl
theorem lwR14_9 : lwOK 14 9 = true := by kernel_rfl
theorem lwR14_10 : lwOK 14 10 = true := by kernel_rfl
theorem lwR14_11 : lwOK 14 11 = true := by kernel_rfl
theorem lwR14_12 : lwOK 14 12 = true := by kernel_rfl
theorem lwR14_13 : lwOK 14 13 = true := by kernel_rfl
theorem lwR14_14 : lwOK 14 14 = true := by kernel_rfl
theorem lwR14_15 : lwOK 14 15 = true := by kernel_rfl
end Ab
end Go.Proofs.YtbfppnppijcnlaaGreat
