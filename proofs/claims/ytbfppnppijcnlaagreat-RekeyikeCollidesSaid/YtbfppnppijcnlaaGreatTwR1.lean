/-
  The connection runs: classes 4 to 7.
  Conditions: none.
-/
import Derived.Test.YtbfppnppijcnlaaGreatTwo
namespace Go.Proofs.YtbfppnppijcnlaaGreat
namespace Ab
set_option maxRecDepth 1000000
theorem twA1 : twOKa 1 = true := by kernel_rfl
theorem twR4 : twOKb 4 = true := by kernel_rfl
theorem twR5 : twOKb 5 = true := by kernel_rfl
theorem twR6 : twOKb 6 = true := by kernel_rfl
theorem twR7 : twOKb 7 = true := by kernel_rfl
end Ab
end Go.Proofs.YtbfppnppijcnlaaGreat
