/-
  New on the outcomes of Rules, runs E.
  Conditions: none.
-/
import Derived.Test.YtbfppnppijcnlaaGreatGwN
namespace Go.Proofs.YtbfppnppijcnlaaGreat
namespace Ab
set_option maxRecDepth 100000
theorem rNews_f0_8 : newsOK false 0 8 = true := by kernel_rfl
theorem rNews_f0_10 : newsOK false 0 10 = true := by kernel_rfl
theorem rNews_f0_12 : newsOK false 0 12 = true := by kernel_rfl
theorem rNews_f0_14 : newsOK false 0 14 = true := by kernel_rfl
theorem rNews_f0_16 : newsOK false 0 16 = true := by kernel_rfl
theorem rNews_f0_18 : newsOK false 0 18 = true := by kernel_rfl
theorem rNews_f0_20 : newsOK false 0 20 = true := by kernel_rfl
theorem rNews_f0_22 : newsOK false 0 22 = true := by kernel_rfl
end Ab
end Go.Proofs.YtbfppnppijcnlaaGreat
