/-
  The law RemoveChains, by the interpreter: runs of its loop.
  Conditions: none.
-/
import Derived.Test.YtddiclnkfhldlaaRChT
namespace Go.Proofs.Ytddiclnkfhldlaa
namespace Ab
set_option maxRecDepth 100000
theorem rd_TFFFF : rdR true [true, false, false, false, false] = true := by kernel_rfl
theorem rd_TFFFT : rdR true [true, false, false, false, true] = true := by kernel_rfl
theorem rd_TFFTF : rdR true [true, false, false, true, false] = true := by kernel_rfl
theorem rd_TFFTT : rdR true [true, false, false, true, true] = true := by kernel_rfl
theorem rd_TFTFF : rdR true [true, false, true, false, false] = true := by kernel_rfl
theorem rd_TFTFT : rdR true [true, false, true, false, true] = true := by kernel_rfl
theorem rd_TFTTF : rdR true [true, false, true, true, false] = true := by kernel_rfl
theorem rd_TFTTT : rdR true [true, false, true, true, true] = true := by kernel_rfl
end Ab
end Go.Proofs.Ytddiclnkfhldlaa
