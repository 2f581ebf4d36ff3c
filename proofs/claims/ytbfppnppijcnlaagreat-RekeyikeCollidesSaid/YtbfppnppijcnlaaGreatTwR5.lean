/-
  The connection runs: classes 20 to 23.
  Conditions: none.
-/
import Derived.Test.YtbfppnppijcnlaaGreatTwo
namespace Go.Proofs.YtbfppnppijcnlaaGreat
namespace Ab
set_option maxRecDepth 1000000
theorem twA5 : twOKa 5 = true := by kernel_rfl
theorem twR20 : twOKb 20 = true := by kernel_rfl
theorem twR21 : twOKb 21 = true := by kernel_rfl
theorem twR22 : twOKb 22 = true := by kernel_rfl
theorem twR23 : twOKb 23 = true := by kernel_rfl
end Ab
end Go.Proofs.YtbfppnppijcnlaaGreat
