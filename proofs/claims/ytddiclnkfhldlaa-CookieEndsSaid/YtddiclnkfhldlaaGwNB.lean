/-
  New on the outcomes of Rules, runs B.
  Conditions: none.
-/
import Derived.Test.YtddiclnkfhldlaaGwN
namespace Go.Proofs.Ytddiclnkfhldlaa
namespace Ab
set_option maxRecDepth 100000
theorem rNews_t8 : newsOK true 8 2 = true := by kernel_rfl
theorem rNews_t10 : newsOK true 10 2 = true := by kernel_rfl
theorem rNews_t12 : newsOK true 12 2 = true := by kernel_rfl
theorem rNews_t14 : newsOK true 14 2 = true := by kernel_rfl
end Ab
end Go.Proofs.Ytddiclnkfhldlaa
