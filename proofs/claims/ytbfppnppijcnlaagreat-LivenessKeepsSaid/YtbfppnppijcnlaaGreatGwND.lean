/-
  New on the outcomes of Rules, runs D.
  Conditions: none.
-/
import Derived.Test.YtbfppnppijcnlaaGreatGwN
namespace Go.Proofs.YtbfppnppijcnlaaGreat
namespace Ab
set_option maxRecDepth 100000
theorem rNews_t1_20 : newsOK true 1 20 = true := by kernel_rfl
theorem rNews_t1_22 : newsOK true 1 22 = true := by kernel_rfl
theorem rNews_t1_24 : newsOK true 1 24 = true := by kernel_rfl
theorem rNews_t1_26 : newsOK true 1 26 = true := by kernel_rfl
theorem rNews_f0_0 : newsOK false 0 0 = true := by kernel_rfl
theorem rNews_f0_2 : newsOK false 0 2 = true := by kernel_rfl
theorem rNews_f0_4 : newsOK false 0 4 = true := by kernel_rfl
theorem rNews_f0_6 : newsOK false 0 6 = true := by kernel_rfl
end Ab
end Go.Proofs.YtbfppnppijcnlaaGreat
