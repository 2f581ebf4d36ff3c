/-
  The connection runs: classes 0 to 3.
  Conditions: none.
-/
import Derived.Test.YtbfppnppijcnlaaGreatTwo
namespace Go.Proofs.YtbfppnppijcnlaaGreat
namespace Ab
set_option maxRecDepth 1000000
theorem twA0 : twOKa 0 = true := by kernel_rfl
theorem twR0 : twOKb 0 = true := by kernel_rfl
theorem twR1 : twOKb 1 = true := by kernel_rfl
theorem twR2 : twOKb 2 = true := by kernel_rfl
theorem twR3 : twOKb 3 = true := by kernel_rfl
end Ab
end Go.Proofs.YtbfppnppijcnlaaGreat
