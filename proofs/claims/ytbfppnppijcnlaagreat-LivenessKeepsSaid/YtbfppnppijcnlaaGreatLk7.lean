/-
  The law LivenessKeeps: runs.
  Conditions: none.
-/
import Derived.Test.YtbfppnppijcnlaaGreatLk
namespace Go.Proofs.YtbfppnppijcnlaaGreat
namespace Ab
set_option maxRecDepth 1000000
theorem lp7 : pOK 7 = true := by kernel_rfl
theorem lp15 : pOK 15 = true := by kernel_rfl
theorem lp23 : pOK 23 = true := by kernel_rfl
theorem lq0x7 : qOK 0 7 = true := by kernel_rfl
theorem lq1x3 : qOK 1 3 = true := by kernel_rfl
theorem lq1x11 : qOK 1 11 = true := by kernel_rfl
theorem lq2x7 : qOK 2 7 = true := by kernel_rfl
theorem lq3x3 : qOK 3 3 = true := by kernel_rfl
theorem lq3x11 : qOK 3 11 = true := by kernel_rfl
theorem lq4x7 : qOK 4 7 = true := by kernel_rfl
end Ab
end Go.Proofs.YtbfppnppijcnlaaGreat
