/-
  The law LivenessKeeps: runs.
  Conditions: none.
-/
import Derived.Test.YtbfppnppijcnlaaGreatLk
namespace Go.Proofs.YtbfppnppijcnlaaGreat
namespace Ab
set_option maxRecDepth 1000000
theorem lS0 : sOK 0 = true := by kernel_rfl
theorem lS1 : sOK 1 = true := by kernel_rfl
theorem lS2 : sOK 2 = true := by kernel_rfl
theorem lS3 : sOK 3 = true := by kernel_rfl
theorem lS4 : sOK 4 = true := by kernel_rfl
theorem lp0 : pOK 0 = true := by kernel_rfl
theorem lp8 : pOK 8 = true := by kernel_rfl
theorem lp16 : pOK 16 = true := by kernel_rfl
theorem lq0x0 : qOK 0 0 = true := by kernel_rfl
theorem lq0x8 : qOK 0 8 = true := by kernel_rfl
theorem lq1x4 : qOK 1 4 = true := by kernel_rfl
theorem lq2x0 : qOK 2 0 = true := by kernel_rfl
theorem lq2x8 : qOK 2 8 = true := by kernel_rfl
theorem lq3x4 : qOK 3 4 = true := by kernel_rfl
theorem lq4x0 : qOK 4 0 = true := by kernel_rfl
theorem lq4x8 : qOK 4 8 = true := by kernel_rfl
end Ab
end Go.Proofs.YtbfppnppijcnlaaGreat
