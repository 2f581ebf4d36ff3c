/-
  The law NatFinds behind the drawing of its gateways: runs.
  Conditions: none.
-/
import Derived.Test.YtbfppnppijcnlaaGreatNf
namespace Go.Proofs.YtbfppnppijcnlaaGreat
namespace Ab
set_option maxRecDepth 1000000
theorem zF0 : zOK false 0 = true := by kernel_rfl
theorem zF4 : zOK false 4 = true := by kernel_rfl
theorem zF8 : zOK false 8 = true := by kernel_rfl
theorem zF12 : zOK false 12 = true := by kernel_rfl
theorem zF16 : zOK false 16 = true := by kernel_rfl
theorem zF20 : zOK false 20 = true := by kernel_rfl
theorem zT0 : zOK true 0 = true := by kernel_rfl
theorem zT4 : zOK true 4 = true := by kernel_rfl
theorem zT8 : zOK true 8 = true := by kernel_rfl
theorem zT12 : zOK true 12 = true := by kernel_rfl
theorem zT16 : zOK true 16 = true := by kernel_rfl
theorem zT20 : zOK true 20 = true := by kernel_rfl
theorem b0 : bOK 0 = true := by kernel_rfl
theorem b4 : bOK 4 = true := by kernel_rfl
theorem b8 : bOK 8 = true := by kernel_rfl
theorem b12 : bOK 12 = true := by kernel_rfl
theorem b16 : bOK 16 = true := by kernel_rfl
theorem b20 : bOK 20 = true := by kernel_rfl
end Ab
end Go.Proofs.YtbfppnppijcnlaaGreat
