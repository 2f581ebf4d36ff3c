/-
  The law RekeyikeMoves behind its connection: runs.
  Conditions: none.
-/
import Derived.Test.YtbfppnppijcnlaaGreatMv
namespace Go.Proofs.YtbfppnppijcnlaaGreat
namespace Ab
set_option maxRecDepth 1000000
theorem lwRT_0 : lwOKT 0 = true := by kernel_rfl
theorem lwRT_1 : lwOKT 1 = true := by kernel_rfl
theorem lwRT_2 : lwOKT 2 = true := by kernel_rfl
theorem lwRT_3 : lwOKT 3 = true := by kernel_rfl
theorem lwRT_4 : lwOKT 4 = true := by kernel_rfl
theorem lwRT_5 : lwOKT 5 = true := by kernel_rfl
theorem lwRT_6 : lwOKT 6 = true := by kernel_rfl
theorem lwRT_7 : lwOKT 7 = true := by kernel_rfl
end Ab
end Go.Proofs.YtbfppnppijcnlaaGreat
