/-
  New on the outcomes of Rules, runs F.
  Conditions: none.
-/
import Derived.Test.YtddiclnkfhldlaaGwN
namespace Go.Proofs.Ytddiclnkfhldlaa
namespace Ab
set_option maxRecDepth 100000
theorem rNews_f12 : newsOK false 12 2 = true := by kernel_rfl
theorem rNews_f14 : newsOK false 14 2 = true := by kernel_rfl
theorem rNews_f16 : newsOK false 16 2 = true := by kernel_rfl
theorem rNews_f18 : newsOK false 18 2 = true := by kernel_rfl
end Ab
end Go.Proofs.Ytddiclnkfhldlaa
