/-
  New on the outcomes of Rules, runs A.
  Conditions: none.
-/
import Derived.Test.YtddiclnkfhldlaaGwN
namespace Go.Proofs.Ytddiclnkfhldlaa
namespace Ab
set_option maxRecDepth 100000
theorem rNews_t0 : newsOK true 0 2 = true := by kernel_rfl
theorem rNews_t2 : newsOK true 2 2 = true := by kernel_rfl
theorem rNews_t4 : newsOK true 4 2 = true := by kernel_rfl
theorem rNews_t6 : newsOK true 6 2 = true := by kernel_rfl
end Ab
end Go.Proofs.Ytddiclnkfhldlaa
