/-
  The connection runs: classes 8 to 11.
  Conditions: none.
-/
import Derived.Test.YtbfppnppijcnlaaGreatTwo
namespace Go.Proofs.YtbfppnppijcnlaaGreat
namespace Ab
set_option maxRecDepth 1000000
theorem twA2 : twOKa 2 = true := by kernel_rfl
theorem twR8 : twOKb 8 = true := by kernel_rfl
theorem twR9 : twOKb 9 = true := by kernel_rfl
theorem twR10 : twOKb 10 = true := by kernel_rfl
theorem twR11 : twOKb 11 = true := by kernel_rfl
end Ab
end Go.Proofs.YtbfppnppijcnlaaGreat
