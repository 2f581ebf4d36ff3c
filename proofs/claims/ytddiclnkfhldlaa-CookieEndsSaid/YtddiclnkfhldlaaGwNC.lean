/-
  New on the outcomes of Rules, runs C.
  Conditions: none.
-/
import Derived.Test.YtddiclnkfhldlaaGwN
namespace Go.Proofs.Ytddiclnkfhldlaa
namespace Ab
set_option maxRecDepth 100000
theorem rNews_t16 : newsOK true 16 2 = true := by kernel_rfl
theorem rNews_t18 : newsOK true 18 2 = true := by kernel_rfl
theorem rNews_t20 : newsOK true 20 2 = true := by kernel_rfl
theorem rNews_t22 : newsOK true 22 2 = true := by kernel_rfl
end Ab
end Go.Proofs.Ytddiclnkfhldlaa
