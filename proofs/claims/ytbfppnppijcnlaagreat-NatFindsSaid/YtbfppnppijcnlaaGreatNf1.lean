/-
  The law NatFinds behind the drawing of its gateways: runs.
  Conditions: none.
-/
import Derived.Test.YtbfppnppijcnlaaGreatNf
namespace Go.Proofs.YtbfppnppijcnlaaGreat
namespace Ab
set_option maxRecDepth 1000000
theorem zF1 : zOK false 1 = true := by kernel_rfl
theorem zF5 : zOK false 5 = true := by kernel_rfl
theorem zF9 : zOK false 9 = true := by kernel_rfl
theorem zF13 : zOK false 13 = true := by kernel_rfl
theorem zF17 : zOK false 17 = true := by kernel_rfl
theorem zF21 : zOK false 21 = true := by kernel_rfl
theorem zT1 : zOK true 1 = true := by kernel_rfl
theorem zT5 : zOK true 5 = true := by kernel_rfl
theorem zT9 : zOK true 9 = true := by kernel_rfl
theorem zT13 : zOK true 13 = true := by kernel_rfl
theorem zT17 : zOK true 17 = true := by kernel_rfl
theorem zT21 : zOK true 21 = true := by kernel_rfl
theorem b1 : bOK 1 = true := by kernel_rfl
theorem b5 : bOK 5 = true := by kernel_rfl
theorem b9 : bOK 9 = true := by kernel_rfl
theorem b13 : bOK 13 = true := by kernel_rfl
theorem b17 : bOK 17 = true := by kernel_rfl
theorem b21 : bOK 21 = true := by kernel_rfl
end Ab
end Go.Proofs.YtbfppnppijcnlaaGreat
