/-
  The law RekeyikeMoves behind its connection: runs.
  Conditions: none.
-/
import Derived.Test.YtbfppnppijcnlaaGreatMv
namespace Go.Proofs.YtbfppnppijcnlaaGreat
namespace Ab
set_option maxRecDepth 1000000
theorem lwRF_0 : lwOKF 0 = true := by kernel_rfl
theorem lwRF_1 : lwOKF 1 = true := by kernel_rfl
theorem lwRF_2 : lwOKF 2 = true := by kernel_rfl
theorem lwRF_3 : lwOKF 3 = true := by kernel_rfl
theorem lwRF_4 : lwOKF 4 = true := by kernel_rfl
theorem lwRF_5 : lwOKF 5 = true := by kernel_rfl
theorem lwRF_6 : lwOKF 6 = true := by kernel_rfl
theorem lwRF_7 : lwOKF 7 = true := by kernel_rfl
end Ab
end Go.Proofs.YtbfppnppijcnlaaGreat
