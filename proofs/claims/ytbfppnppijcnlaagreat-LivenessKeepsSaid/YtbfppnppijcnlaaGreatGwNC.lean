/-
  New on the outcomes of Rules, runs C.
  Conditions: none.
-/
import Derived.Test.YtbfppnppijcnlaaGreatGwN
namespace Go.Proofs.YtbfppnppijcnlaaGreat
namespace Ab
set_option maxRecDepth 100000
theorem rNews_t1_4 : newsOK true 1 4 = true := by kernel_rfl
theorem rNews_t1_6 : newsOK true 1 6 = true := by kernel_rfl
theorem rNews_t1_8 : newsOK true 1 8 = true := by kernel_rfl
theorem rNews_t1_10 : newsOK true 1 10 = true := by kernel_rfl
theorem rNews_t1_12 : newsOK true 1 12 = true := by kernel_rfl
theorem rNews_t1_14 : newsOK true 1 14 = true := by kernel_rfl
theorem rNews_t1_16 : newsOK true 1 16 = true := by kernel_rfl
theorem rNews_t1_18 : newsOK true 1 18 = true := by kernel_rfl
end Ab
end Go.Proofs.YtbfppnppijcnlaaGreat
