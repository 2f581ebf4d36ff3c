/-
  The law RekeyikeReplaces behind its connection: runs.
  Conditions: none.
-/
import Derived.Test.YtbfppnppijcnlaaGreatRp
namespace Go.Proofs.YtbfppnppijcnlaaGreat
namespace Ab
set_option maxRecDepth 1000000
theorem lwR_8 : lwOK 8 = true := by kernel_rfl
theorem lwR_9 : lwOK 9 = true := by kernel_rfl
theorem lwR_10 : lwOK 10 = true := by kernel_rfl
theorem lwR_11 : lwOK 11 = true := by kernel_rfl
end Ab
end Go.Proofs.YtbfppnppijcnlaaGreat
