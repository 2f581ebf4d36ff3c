/-
  The law RemoveChains, by the interpreter: runs of its loop.
  Conditions: none.
-/
import Derived.Test.YtddiclnkfhldlaaRChT
namespace Go.Proofs.Ytddiclnkfhldlaa
namespace Ab
set_option maxRecDepth 100000
theorem rd_FFFFF : rdR true [false, false, false, false, false] = true := by kernel_rfl
theorem rd_FFFFT : rdR true [false, false, false, false, true] = true := by kernel_rfl
theorem rd_FFFTF : rdR true [false, false, false, true, false] = true := by kernel_rfl
theorem rd_FFFTT : rdR true [false, false, false, true, true] = true := by kernel_rfl
theorem rd_FFTFF : rdR true [false, false, true, false, false] = true := by kernel_rfl
theorem rd_FFTFT : rdR true [false, false, true, false, true] = true := by kernel_rfl
theorem rd_FFTTF : rdR true [false, false, true, true, false] = true := by kernel_rfl
theorem rd_FFTTT : rdR true [false, false, true, true, true] = true := by kernel_rfl
end Ab
end Go.Proofs.Ytddiclnkfhldlaa
