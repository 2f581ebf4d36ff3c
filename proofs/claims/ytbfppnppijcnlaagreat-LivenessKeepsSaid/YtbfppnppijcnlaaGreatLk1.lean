/-
  The law LivenessKeeps: runs.
  Conditions: none.
-/
import Derived.Test.YtbfppnppijcnlaaGreatLk
namespace Go.Proofs.YtbfppnppijcnlaaGreat
namespace Ab
set_option maxRecDepth 1000000
theorem lp1 : pOK 1 = true := by kernel_rfl
theorem lp9 : pOK 9 = true := by kernel_rfl
theorem lp17 : pOK 17 = true := by kernel_rfl
theorem lq0x1 : qOK 0 1 = true := by kernel_rfl
theorem lq0x9 : qOK 0 9 = true := by kernel_rfl
theorem lq1x5 : qOK 1 5 = true := by kernel_rfl
theorem lq2x1 : qOK 2 1 = true := by kernel_rfl
theorem lq2x9 : qOK 2 9 = true := by kernel_rfl
theorem lq3x5 : qOK 3 5 = true := by kernel_rfl
theorem lq4x1 : qOK 4 1 = true := by kernel_rfl
theorem lq4x9 : qOK 4 9 = true := by kernel_rfl
end Ab
end Go.Proofs.YtbfppnppijcnlaaGreat
