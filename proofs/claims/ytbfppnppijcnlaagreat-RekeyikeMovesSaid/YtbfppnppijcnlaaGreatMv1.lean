/-
  The law RekeyikeMoves behind its connection: runs.
  Conditions: none.
-/
import Derived.Test.YtbfppnppijcnlaaGreatMv
namespace Go.Proofs.YtbfppnppijcnlaaGreat
namespace Ab
set_option maxRecDepth 1000000
theorem lwRF_8 : lwOKF 8 = true := by kernel_rfl
theorem lwRF_9 : lwOKF 9 = true := by kernel_rfl
theorem lwRF_10 : lwOKF 10 = true := by kernel_rfl
theorem lwRF_11 : lwOKF 11 = true := by kernel_rfl
theorem lwRF_12 : lwOKF 12 = true := by kernel_rfl
theorem lwRF_13 : lwOKF 13 = true := by kernel_rfl
theorem lwRF_14 : lwOKF 14 = true := by kernel_rfl
theorem lwRF_15 : lwOKF 15 = true := by kernel_rfl
end Ab
end Go.Proofs.YtbfppnppijcnlaaGreat
