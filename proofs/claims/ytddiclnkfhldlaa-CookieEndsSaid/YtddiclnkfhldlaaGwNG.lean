/-
  New on the outcomes of Rules, runs G.
  Conditions: none.
-/
import Derived.Test.YtddiclnkfhldlaaGwN
namespace Go.Proofs.Ytddiclnkfhldlaa
namespace Ab
set_option maxRecDepth 100000
theorem rNews_f20 : newsOK false 20 2 = true := by kernel_rfl
theorem rNews_f22 : newsOK false 22 2 = true := by kernel_rfl
theorem rNews_f24 : newsOK false 24 2 = true := by kernel_rfl
theorem rNews_f26 : newsOK false 26 2 = true := by kernel_rfl
end Ab
end Go.Proofs.Ytddiclnkfhldlaa
