/-
  The law LivenessKeeps: runs.
  Conditions: none.
-/
import Derived.Test.YtbfppnppijcnlaaGreatLk
namespace Go.Proofs.YtbfppnppijcnlaaGreat
namespace Ab
set_option maxRecDepth 1000000
theorem lp3 : pOK 3 = true := by kernel_rfl
theorem lp11 : pOK 11 = true := by kernel_rfl
theorem lp19 : pOK 19 = true := by kernel_rfl
theorem lq0x3 : qOK 0 3 = true := by kernel_rfl
theorem lq0x11 : qOK 0 11 = true := by kernel_rfl
theorem lq1x7 : qOK 1 7 = true := by kernel_rfl
theorem lq2x3 : qOK 2 3 = true := by kernel_rfl
theorem lq2x11 : qOK 2 11 = true := by kernel_rfl
theorem lq3x7 : qOK 3 7 = true := by kernel_rfl
theorem lq4x3 : qOK 4 3 = true := by kernel_rfl
theorem lq4x11 : qOK 4 11 = true := by kernel_rfl
end Ab
end Go.Proofs.YtbfppnppijcnlaaGreat
