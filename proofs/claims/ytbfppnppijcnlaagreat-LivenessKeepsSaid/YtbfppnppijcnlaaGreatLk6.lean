/-
  The law LivenessKeeps: runs.
  Conditions: none.
-/
import Derived.Test.YtbfppnppijcnlaaGreatLk
namespace Go.Proofs.YtbfppnppijcnlaaGreat
namespace Ab
set_option maxRecDepth 1000000
theorem lp6 : pOK 6 = true := by kernel_rfl
theorem lp14 : pOK 14 = true := by kernel_rfl
theorem lp22 : pOK 22 = true := by kernel_rfl
theorem lq0x6 : qOK 0 6 = true := by kernel_rfl
theorem lq1x2 : qOK 1 2 = true := by kernel_rfl
theorem lq1x10 : qOK 1 10 = true := by kernel_rfl
theorem lq2x6 : qOK 2 6 = true := by kernel_rfl
theorem lq3x2 : qOK 3 2 = true := by kernel_rfl
theorem lq3x10 : qOK 3 10 = true := by kernel_rfl
theorem lq4x6 : qOK 4 6 = true := by kernel_rfl
end Ab
end Go.Proofs.YtbfppnppijcnlaaGreat
