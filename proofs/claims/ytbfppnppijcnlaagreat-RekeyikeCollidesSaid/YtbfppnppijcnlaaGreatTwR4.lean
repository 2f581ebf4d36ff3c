/-
  The connection runs: classes 16 to 19.
  Conditions: none.
-/
import Derived.Test.YtbfppnppijcnlaaGreatTwo
namespace Go.Proofs.YtbfppnppijcnlaaGreat
namespace Ab
set_option maxRecDepth 1000000
theorem twA4 : twOKa 4 = true := by kernel_rfl
theorem twR16 : twOKb 16 = true := by kernel_rfl
theorem twR17 : twOKb 17 = true := by kernel_rfl
theorem twR18 : twOKb 18 = true := by kernel_rfl
theorem twR19 : twOKb 19 = true := by kernel_rfl
end Ab
end Go.Proofs.YtbfppnppijcnlaaGreat
