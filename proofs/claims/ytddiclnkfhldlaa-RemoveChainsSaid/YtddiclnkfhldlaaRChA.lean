/-
  The law RemoveChains, by the interpreter: runs of its loop.
  Conditions: none.
-/
import Derived.Test.YtddiclnkfhldlaaRChT
namespace Go.Proofs.Ytddiclnkfhldlaa
namespace Ab
set_option maxRecDepth 100000
theorem rd_F : rdR true [false] = true := by kernel_rfl
theorem rd_FF : rdR true [false, false] = true := by kernel_rfl
theorem rd_FT : rdR true [false, true] = true := by kernel_rfl
theorem rd_TF : rdR true [true, false] = true := by kernel_rfl
theorem rd_FFF : rdR true [false, false, false] = true := by kernel_rfl
theorem rd_FFT : rdR true [false, false, true] = true := by kernel_rfl
theorem rd_FTF : rdR true [false, true, false] = true := by kernel_rfl
theorem rd_FTT : rdR true [false, true, true] = true := by kernel_rfl
theorem rd_TFF : rdR true [true, false, false] = true := by kernel_rfl
theorem rd_TFT : rdR true [true, false, true] = true := by kernel_rfl
theorem rd_TTF : rdR true [true, true, false] = true := by kernel_rfl
theorem rf_F : rdR false [false] = true := by kernel_rfl
theorem ex_1 : exR true [true] = true := by kernel_rfl
theorem exf_1 : exR false [true] = true := by kernel_rfl
theorem tb_1 : (tbR 2).all (memoOK eM) = true := by kernel_rfl
theorem rf_FF : rdR false [false, false] = true := by kernel_rfl
theorem rf_TF : rdR false [true, false] = true := by kernel_rfl
theorem ex_2 : exR true [true, true] = true := by kernel_rfl
theorem exf_2 : exR false [true, true] = true := by kernel_rfl
theorem tb_2 : (tbR 3).all (memoOK eM) = true := by kernel_rfl
theorem rf_FFF : rdR false [false, false, false] = true := by kernel_rfl
theorem rf_TFF : rdR false [true, false, false] = true := by kernel_rfl
theorem rf_TTF : rdR false [true, true, false] = true := by kernel_rfl
theorem ex_3 : exR true [true, true, true] = true := by kernel_rfl
theorem exf_3 : exR false [true, true, true] = true := by kernel_rfl
theorem tb_3 : (tbR 4).all (memoOK eM) = true := by kernel_rfl
theorem rf_FFFF : rdR false [false, false, false, false] = true := by kernel_rfl
theorem rf_TFFF : rdR false [true, false, false, false] = true := by kernel_rfl
theorem rf_TTFF : rdR false [true, true, false, false] = true := by kernel_rfl
theorem rf_TTTF : rdR false [true, true, true, false] = true := by kernel_rfl
theorem ex_4 : exR true [true, true, true, true] = true := by kernel_rfl
theorem exf_4 : exR false [true, true, true, true] = true := by kernel_rfl
theorem tb_4 : (tbR 5).all (memoOK eM) = true := by kernel_rfl
theorem rf_FFFFF : rdR false [false, false, false, false, false] = true := by kernel_rfl
theorem rf_TFFFF : rdR false [true, false, false, false, false] = true := by kernel_rfl
theorem rf_TTFFF : rdR false [true, true, false, false, false] = true := by kernel_rfl
theorem rf_TTTFF : rdR false [true, true, true, false, false] = true := by kernel_rfl
theorem rf_TTTTF : rdR false [true, true, true, true, false] = true := by kernel_rfl
theorem ex_5 : exR true [true, true, true, true, true] = true := by kernel_rfl
theorem exf_5 : exR false [true, true, true, true, true] = true := by kernel_rfl
theorem tb_5 : (tbR 6).all (memoOK eM) = true := by kernel_rfl
theorem tb_0 : tb0.all (memoOK (env noTab noCvt noExt)) = true := by kernel_rfl
end Ab
end Go.Proofs.Ytddiclnkfhldlaa
