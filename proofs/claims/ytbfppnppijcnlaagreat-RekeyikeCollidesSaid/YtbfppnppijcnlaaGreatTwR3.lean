/-
  The connection runs: classes 12 to 15.
  Conditions: none.
-/
import Derived.Test.YtbfppnppijcnlaaGreatTwo
namespace Go.Proofs.YtbfppnppijcnlaaGreat
namespace Ab
set_option maxRecDepth 1000000
theorem twA3 : twOKa 3 = true := by kernel_rfl
theorem twR12 : twOKb 12 = true := by kernel_rfl
theorem twR13 : twOKb 13 = true := by kernel_rfl
theorem twR14 : twOKb 14 = true := by kernel_rfl
theorem twR15 : twOKb 15 = true := by kernel_rfl
end Ab
end Go.Proofs.YtbfppnppijcnlaaGreat
