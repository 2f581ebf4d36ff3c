/-
  The law NatFinds behind the drawing of its gateways: runs.
  Conditions: none.
-/
import Derived.Test.YtbfppnppijcnlaaGreatNf
namespace Go.Proofs.YtbfppnppijcnlaaGreat
namespace Ab
set_option maxRecDepth 1000000
theorem zF2 : zOK false 2 = true := by kernel_rfl
theorem zF6 : zOK false 6 = true := by kernel_rfl
theorem zF10 : zOK false 10 = true := by kernel_rfl
theorem zF14 : zOK false 14 = true := by kernel_rfl
theorem zF18 : zOK false 18 = true := by kernel_rfl
theorem zF22 : zOK false 22 = true := by kernel_rfl
theorem zT2 : zOK true 2 = true := by kernel_rfl
theorem zT6 : zOK true 6 = true := by kernel_rfl
theorem zT10 : zOK true 10 = true := by kernel_rfl
theorem zT14 : zOK true 14 = true := by kernel_rfl
theorem zT18 : zOK true 18 = true := by kernel_rfl
theorem zT22 : zOK true 22 = true := by kernel_rfl
theorem b2 : bOK 2 = true := by kernel_rfl
theorem b6 : bOK 6 = true := by kernel_rfl
theorem b10 : bOK 10 = true := by kernel_rfl
theorem b14 : bOK 14 = true := by kernel_rfl
theorem b18 : bOK 18 = true := by kernel_rfl
theorem b22 : bOK 22 = true := by kernel_rfl
end Ab
end Go.Proofs.YtbfppnppijcnlaaGreat
