/-
  The law LivenessKeeps: runs.
  Conditions: none.
-/
import Derived.Test.YtbfppnppijcnlaaGreatLk
namespace Go.Proofs.YtbfppnppijcnlaaGreat
namespace Ab
set_option maxRecDepth 1000000
theorem lp2 : pOK 2 = true := by kernel_rfl
theorem lp10 : pOK 10 = true := by kernel_rfl
theorem lp18 : pOK 18 = true := by kernel_rfl
theorem lq0x2 : qOK 0 2 = true := by kernel_rfl
theorem lq0x10 : qOK 0 10 = true := by kernel_rfl
theorem lq1x6 : qOK 1 6 = true := by kernel_rfl
theorem lq2x2 : qOK 2 2 = true := by kernel_rfl
theorem lq2x10 : qOK 2 10 = true := by kernel_rfl
theorem lq3x6 : qOK 3 6 = true := by kernel_rfl
theorem lq4x2 : qOK 4 2 = true := by kernel_rfl
theorem lq4x10 : qOK 4 10 = true := by kernel_rfl
end Ab
end Go.Proofs.YtbfppnppijcnlaaGreat
