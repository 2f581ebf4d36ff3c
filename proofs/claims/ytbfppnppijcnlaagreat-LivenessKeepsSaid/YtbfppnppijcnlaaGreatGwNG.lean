/-
  New on the outcomes of Rules, runs G.
  Conditions: none.
-/
import Derived.Test.YtbfppnppijcnlaaGreatGwN
namespace Go.Proofs.YtbfppnppijcnlaaGreat
namespace Ab
set_option maxRecDepth 100000
theorem rNews_f1_12 : newsOK false 1 12 = true := by kernel_rfl
theorem rNews_f1_14 : newsOK false 1 14 = true := by kernel_rfl
theorem rNews_f1_16 : newsOK false 1 16 = true := by kernel_rfl
theorem rNews_f1_18 : newsOK false 1 18 = true := by kernel_rfl
theorem rNews_f1_20 : newsOK false 1 20 = true := by kernel_rfl
theorem rNews_f1_22 : newsOK false 1 22 = true := by kernel_rfl
theorem rNews_f1_24 : newsOK false 1 24 = true := by kernel_rfl
theorem rNews_f1_26 : newsOK false 1 26 = true := by kernel_rfl
end Ab
end Go.Proofs.YtbfppnppijcnlaaGreat
