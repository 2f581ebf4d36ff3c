/-
  New on the outcomes of Rules, runs A.
  Conditions: none.
-/
import Derived.Test.YtbfppnppijcnlaaGreatGwN
namespace Go.Proofs.YtbfppnppijcnlaaGreat
namespace Ab
set_option maxRecDepth 100000
theorem rNews_t0_0 : newsOK true 0 0 = true := by kernel_rfl
theorem rNews_t0_2 : newsOK true 0 2 = true := by kernel_rfl
theorem rNews_t0_4 : newsOK true 0 4 = true := by kernel_rfl
theorem rNews_t0_6 : newsOK true 0 6 = true := by kernel_rfl
theorem rNews_t0_8 : newsOK true 0 8 = true := by kernel_rfl
theorem rNews_t0_10 : newsOK true 0 10 = true := by kernel_rfl
theorem rNews_t0_12 : newsOK true 0 12 = true := by kernel_rfl
theorem rNews_t0_14 : newsOK true 0 14 = true := by kernel_rfl
end Ab
end Go.Proofs.YtbfppnppijcnlaaGreat
