/-
  The law RemoveChains, by the interpreter: runs of its loop.
  Conditions: none.
-/
import Derived.Test.YtddiclnkfhldlaaRChT
namespace Go.Proofs.Ytddiclnkfhldlaa
namespace Ab
set_option maxRecDepth 100000
theorem rd_TTFFF : rdR true [true, true, false, false, false] = true := by kernel_rfl
theorem rd_TTFFT : rdR true [true, true, false, false, true] = true := by kernel_rfl
theorem rd_TTFTF : rdR true [true, true, false, true, false] = true := by kernel_rfl
theorem rd_TTFTT : rdR true [true, true, false, true, true] = true := by kernel_rfl
theorem rd_TTTFF : rdR true [true, true, true, false, false] = true := by kernel_rfl
theorem rd_TTTFT : rdR true [true, true, true, false, true] = true := by kernel_rfl
theorem rd_TTTTF : rdR true [true, true, true, true, false] = true := by kernel_rfl
end Ab
end Go.Proofs.Ytddiclnkfhldlaa
