/-
  The law RekeyikeReplaces behind its connection: runs.
  Conditions: none.
-/
import Derived.Test.YtbfppnppijcnlaaGreatRp
namespace Go.Proofs.YtbfppnppijcnlaaGreat
namespace Ab
set_option maxRecDepth 1000000
theorem lwR_4 : lwOK 4 = true := by kernel_rfl
theorem lwR_5 : lwOK 5 = true := by kernel_rfl
theorem lwR_6 : lwOK 6 = true := by kernel_rfl
theorem lwR_7 : lwOK 7 = true := by kernel_rfl
end Ab
end Go.Proofs.YtbfppnppijcnlaaGreat
