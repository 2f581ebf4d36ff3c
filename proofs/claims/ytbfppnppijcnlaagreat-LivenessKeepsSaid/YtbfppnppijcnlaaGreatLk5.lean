/-
  The law LivenessKeeps: runs.
  Conditions: none.
-/
import Derived.Test.YtbfppnppijcnlaaGreatLk
namespace Go.Proofs.YtbfppnppijcnlaaGreat
namespace Ab
set_option maxRecDepth 1000000
theorem lp5 : pOK 5 = true := by kernel_rfl
theorem lp13 : pOK 13 = true := by kernel_rfl
theorem lp21 : pOK 21 = true := by kernel_rfl
theorem lq0x5 : qOK 0 5 = true := by kernel_rfl
theorem lq1x1 : qOK 1 1 = true := by kernel_rfl
theorem lq1x9 : qOK 1 9 = true := by kernel_rfl
theorem lq2x5 : qOK 2 5 = true := by kernel_rfl
theorem lq3x1 : qOK 3 1 = true := by kernel_rfl
theorem lq3x9 : qOK 3 9 = true := by kernel_rfl
theorem lq4x5 : qOK 4 5 = true := by kernel_rfl
end Ab
end Go.Proofs.YtbfppnppijcnlaaGreat
