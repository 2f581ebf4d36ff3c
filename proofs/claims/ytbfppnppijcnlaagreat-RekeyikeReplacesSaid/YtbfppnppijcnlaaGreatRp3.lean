/-
  The law RekeyikeReplaces behind its connection: runs.
  Conditions: none.
-/
import Derived.Test.YtbfppnppijcnlaaGreatRp
namespace Go.Proofs.YtbfppnppijcnlaaGreat
namespace Ab
set_option maxRecDepth 1000000
theorem lwR_12 : lwOK 12 = true := by kernel_rfl
theorem lwR_13 : lwOK 13 = true := by kernel_rfl
theorem lwR_14 : lwOK 14 = true := by kernel_rfl
theorem lwR_15 : lwOK 15 = true := by kernel_rfl
end Ab
end Go.Proofs.YtbfppnppijcnlaaGreat
