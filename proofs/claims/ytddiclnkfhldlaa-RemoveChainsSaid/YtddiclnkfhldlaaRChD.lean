/-
  The law RemoveChains, by the interpreter: runs of its loop.
  Conditions: none.
-/
import Derived.Test.YtddiclnkfhldlaaRChT
namespace Go.Proofs.Ytddiclnkfhldlaa
namespace Ab
set_option maxRecDepth 100000
theorem rd_FTFFF : rdR true [false, true, false, false, false] = true := by kernel_rfl
theorem rd_FTFFT : rdR true [false, true, false, false, true] = true := by kernel_rfl
theorem rd_FTFTF : rdR true [false, true, false, true, false] = true := by kernel_rfl
theorem rd_FTFTT : rdR true [false, true, false, true, true] = true := by kernel_rfl
theorem rd_FTTFF : rdR true [false, true, true, false, false] = true := by kernel_rfl
theorem rd_FTTFT : rdR true [false, true, true, false, true] = true := by kernel_rfl
theorem rd_FTTTF : rdR true [false, true, true, true, false] = true := by kernel_rfl
theorem rd_FTTTT : rdR true [false, true, true, true, true] = true := by kernel_rfl
end Ab
end Go.Proofs.Ytddiclnkfhldlaa
