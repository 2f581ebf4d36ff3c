/-
  The law LivenessKeeps: runs.
  Conditions: none.
-/
import Derived.Test.YtbfppnppijcnlaaGreatLk
namespace Go.Proofs.YtbfppnppijcnlaaGreat
namespace Ab
set_option maxRecDepth 1000000
theorem lp4 : pOK 4 = true := by kernel_rfl
theorem lp12 : pOK 12 = true := by kernel_rfl
theorem lp20 : pOK 20 = true := by kernel_rfl
theorem lq0x4 : qOK 0 4 = true := by kernel_rfl
theorem lq1x0 : qOK 1 0 = true := by kernel_rfl
theorem lq1x8 : qOK 1 8 = true := by kernel_rfl
theorem lq2x4 : qOK 2 4 = true := by kernel_rfl
theorem lq3x0 : qOK 3 0 = true := by kernel_rfl
theorem lq3x8 : qOK 3 8 = true := by kernel_rfl
theorem lq4x4 : qOK 4 4 = true := by kernel_rfl
end Ab
end Go.Proofs.YtbfppnppijcnlaaGreat
