/-
  The law RekeyikeMoves behind its connection: runs.
  Conditions: none.
-/
import Derived.Test.YtbfppnppijcnlaaGreatMv
namespace Go.Proofs.YtbfppnppijcnlaaGreat
namespace Ab
set_option maxRecDepth 1000000
theorem lwRT_8 : lwOKT 8 = true := by kernel_rfl
theorem lwRT_9 : lwOKT 9 = true := by kernel_rfl
theorem lwRT_10 : lwOKT 10 = true := by kernel_rfl
theorem lwRT_11 : lwOKT 11 = true := by kernel_rfl
theorem lwRT_12 : lwOKT 12 = true := by kernel_rfl
theorem lwRT_13 : lwOKT 13 = true := by kernel_rfl
theorem lwRT_14 : lwOKT 14 = true := by kernel_rfl
theorem lwRT_15 : lwOKT 15 = true := by kernel_rfl
end Ab
end Go.Proofs.YtbfppnppijcnlaaGreat
