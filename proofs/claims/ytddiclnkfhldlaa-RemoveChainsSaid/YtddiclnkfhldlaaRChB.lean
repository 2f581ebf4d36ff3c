/-
  The law RemoveChains, by the interpreter: runs of its loop.
  Conditions: none.
-/
import Derived.Test.YtddiclnkfhldlaaRChT
namespace Go.Proofs.Ytddiclnkfhldlaa
namespace Ab
set_option maxRecDepth 100000
theorem rd_FFFF : rdR true [false, false, false, false] = true := by kernel_rfl
theorem rd_FFFT : rdR true [false, false, false, true] = true := by kernel_rfl
theorem rd_FFTF : rdR true [false, false, true, false] = true := by kernel_rfl
theorem rd_FFTT : rdR true [false, false, true, true] = true := by kernel_rfl
theorem rd_FTFF : rdR true [false, true, false, false] = true := by kernel_rfl
theorem rd_FTFT : rdR true [false, true, false, true] = true := by kernel_rfl
theorem rd_FTTF : rdR true [false, true, true, false] = true := by kernel_rfl
theorem rd_FTTT : rdR true [false, true, true, true] = true := by kernel_rfl
theorem rd_TFFF : rdR true [true, false, false, false] = true := by kernel_rfl
theorem rd_TFFT : rdR true [true, false, false, true] = true := by kernel_rfl
theorem rd_TFTF : rdR true [true, false, true, false] = true := by kernel_rfl
theorem rd_TFTT : rdR true [true, false, true, true] = true := by kernel_rfl
theorem rd_TTFF : rdR true [true, true, false, false] = true := by kernel_rfl
theorem rd_TTFT : rdR true [true, true, false, true] = true := by kernel_rfl
theorem rd_TTTF : rdR true [true, true, true, false] = true := by kernel_rfl
end Ab
end Go.Proofs.Ytddiclnkfhldlaa
