/-
  New on the outcomes of Rules, runs B.
  Conditions: none.
-/
import Derived.Test.YtbfppnppijcnlaaGreatGwN
namespace Go.Proofs.YtbfppnppijcnlaaGreat
namespace Ab
set_option maxRecDepth 100000
theorem rNews_t0_16 : newsOK true 0 16 = true := by kernel_rfl
theorem rNews_t0_18 : newsOK true 0 18 = true := by kernel_rfl
theorem rNews_t0_20 : newsOK true 0 20 = true := by kernel_rfl
theorem rNews_t0_22 : newsOK true 0 22 = true := by kernel_rfl
theorem rNews_t0_24 : newsOK true 0 24 = true := by kernel_rfl
theorem rNews_t0_26 : newsOK true 0 26 = true := by kernel_rfl
theorem rNews_t1_0 : newsOK true 1 0 = true := by kernel_rfl
theorem rNews_t1_2 : newsOK true 1 2 = true := by kernel_rfl
end Ab
end Go.Proofs.YtbfppnppijcnlaaGreat
