/-
  New on the outcomes of Rules, runs F.
  Conditions: none.
-/
import Derived.Test.YtbfppnppijcnlaaGreatGwN
namespace Go.Proofs.YtbfppnppijcnlaaGreat
namespace Ab
set_option maxRecDepth 100000
theorem rNews_f0_24 : newsOK false 0 24 = true := by kernel_rfl
theorem rNews_f0_26 : newsOK false 0 26 = true := by kernel_rfl
theorem rNews_f1_0 : newsOK false 1 0 = true := by kernel_rfl
theorem rNews_f1_2 : newsOK false 1 2 = true := by kernel_rfl
theorem rNews_f1_4 : newsOK false 1 4 = true := by kernel_rfl
theorem rNews_f1_6 : newsOK false 1 6 = true := by kernel_rfl
theorem rNews_f1_8 : newsOK false 1 8 = true := by kernel_rfl
theorem rNews_f1_10 : newsOK false 1 10 = true := by kernel_rfl
end Ab
end Go.Proofs.YtbfppnppijcnlaaGreat
