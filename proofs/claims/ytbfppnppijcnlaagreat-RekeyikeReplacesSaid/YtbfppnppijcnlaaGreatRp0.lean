/-
  The law RekeyikeReplaces behind its connection: runs.
  Conditions: none.
-/
import Derived.Test.YtbfppnppijcnlaaGreatRp
namespace Go.Proofs.YtbfppnppijcnlaaGreat
namespace Ab
set_option maxRecDepth 1000000
theorem lwR_0 : lwOK 0 = true := by kernel_rfl
theorem lwR_1 : lwOK 1 = true := by kernel_rfl
theorem lwR_2 : lwOK 2 = true := by kernel_rfl
theorem lwR_3 : lwOK 3 = true := by kernel_rfl
end Ab
end Go.Proofs.YtbfppnppijcnlaaGreat
