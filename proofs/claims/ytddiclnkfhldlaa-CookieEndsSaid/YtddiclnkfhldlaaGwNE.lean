/-
  New on the outcomes of Rules, runs E.
  Conditions: none.
-/
import Derived.Test.YtddiclnkfhldlaaGwN
namespace Go.Proofs.Ytddiclnkfhldlaa
namespace Ab
set_option maxRecDepth 100000
theorem rNews_f4 : newsOK false 4 2 = true := by kernel_rfl
theorem rNews_f6 : newsOK false 6 2 = true := by kernel_rfl
theorem rNews_f8 : newsOK false 8 2 = true := by kernel_rfl
theorem rNews_f10 : newsOK false 10 2 = true := by kernel_rfl
end Ab
end Go.Proofs.Ytddiclnkfhldlaa
