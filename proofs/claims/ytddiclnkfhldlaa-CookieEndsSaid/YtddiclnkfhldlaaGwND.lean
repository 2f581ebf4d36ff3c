/-
  New on the outcomes of Rules, runs D.
  Conditions: none.
-/
import Derived.Test.YtddiclnkfhldlaaGwN
namespace Go.Proofs.Ytddiclnkfhldlaa
namespace Ab
set_option maxRecDepth 100000
theorem rNews_t24 : newsOK true 24 2 = true := by kernel_rfl
theorem rNews_t26 : newsOK true 26 2 = true := by kernel_rfl
theorem rNews_f0 : newsOK false 0 2 = true := by kernel_rfl
theorem rNews_f2 : newsOK false 2 2 = true := by kernel_rfl
end Ab
end Go.Proofs.Ytddiclnkfhldlaa
