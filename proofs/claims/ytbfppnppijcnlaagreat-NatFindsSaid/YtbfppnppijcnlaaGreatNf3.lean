/-
  The law NatFinds behind the drawing of its gateways: runs.
  Conditions: none.
-/
import Derived.Test.YtbfppnppijcnlaaGreatNf
namespace Go.Proofs.YtbfppnppijcnlaaGreat
namespace Ab
set_option maxRecDepth 1000000
theorem zF3 : zOK false 3 = true := by kernel_rfl
theorem zF7 : zOK false 7 = true := by kernel_rfl
theorem zF11 : zOK false 11 = true := by kernel_rfl
theorem zF15 : zOK false 15 = true := by kernel_rfl
theorem zF19 : zOK false 19 = true := by kernel_rfl
theorem zF23 : zOK false 23 = true := by kernel_rfl
theorem zT3 : zOK true 3 = true := by kernel_rfl
theorem zT7 : zOK true 7 = true := by kernel_rfl
theorem zT11 : zOK true 11 = true := by kernel_rfl
theorem zT15 : zOK true 15 = true := by kernel_rfl
theorem zT19 : zOK true 19 = true := by kernel_rfl
theorem zT23 : zOK true 23 = true := by kernel_rfl
theorem b3 : bOK 3 = true := by kernel_rfl
theorem b7 : bOK 7 = true := by kernel_rfl
theorem b11 : bOK 11 = true := by kernel_rfl
theorem b15 : bOK 15 = true := by kernel_rfl
theorem b19 : bOK 19 = true := by kernel_rfl
theorem b23 : bOK 23 = true := by kernel_rfl
theorem pF0 : pOK false 0 = true := by kernel_rfl
theorem pF1 : pOK false 1 = true := by kernel_rfl
theorem pF2 : pOK false 2 = true := by kernel_rfl
theorem pF3 : pOK false 3 = true := by kernel_rfl
theorem pF4 : pOK false 4 = true := by kernel_rfl
theorem pF5 : pOK false 5 = true := by kernel_rfl
theorem pF6 : pOK false 6 = true := by kernel_rfl
theorem pF7 : pOK false 7 = true := by kernel_rfl
theorem pF8 : pOK false 8 = true := by kernel_rfl
theorem pF9 : pOK false 9 = true := by kernel_rfl
theorem pF10 : pOK false 10 = true := by kernel_rfl
theorem pF11 : pOK false 11 = true := by kernel_rfl
theorem pF12 : pOK false 12 = true := by kernel_rfl
theorem pF13 : pOK false 13 = true := by kernel_rfl
theorem pF14 : pOK false 14 = true := by kernel_rfl
theorem pF15 : pOK false 15 = true := by kernel_rfl
theorem pF16 : pOK false 16 = true := by kernel_rfl
theorem pF17 : pOK false 17 = true := by kernel_rfl
theorem pF18 : pOK false 18 = true := by kernel_rfl
theorem pF19 : pOK false 19 = true := by kernel_rfl
theorem pF20 : pOK false 20 = true := by kernel_rfl
theorem pF21 : pOK false 21 = true := by kernel_rfl
theorem pF22 : pOK false 22 = true := by kernel_rfl
theorem pF23 : pOK false 23 = true := by kernel_rfl
theorem pT0 : pOK true 0 = true := by kernel_rfl
theorem pT1 : pOK true 1 = true := by kernel_rfl
theorem pT2 : pOK true 2 = true := by kernel_rfl
theorem pT3 : pOK true 3 = true := by kernel_rfl
theorem pT4 : pOK true 4 = true := by kernel_rfl
theorem pT5 : pOK true 5 = true := by kernel_rfl
theorem pT6 : pOK true 6 = true := by kernel_rfl
theorem pT7 : pOK true 7 = true := by kernel_rfl
theorem pT8 : pOK true 8 = true := by kernel_rfl
theorem pT9 : pOK true 9 = true := by kernel_rfl
theorem pT10 : pOK true 10 = true := by kernel_rfl
theorem pT11 : pOK true 11 = true := by kernel_rfl
theorem pT12 : pOK true 12 = true := by kernel_rfl
theorem pT13 : pOK true 13 = true := by kernel_rfl
theorem pT14 : pOK true 14 = true := by kernel_rfl
theorem pT15 : pOK true 15 = true := by kernel_rfl
theorem pT16 : pOK true 16 = true := by kernel_rfl
theorem pT17 : pOK true 17 = true := by kernel_rfl
theorem pT18 : pOK true 18 = true := by kernel_rfl
theorem pT19 : pOK true 19 = true := by kernel_rfl
theorem pT20 : pOK true 20 = true := by kernel_rfl
theorem pT21 : pOK true 21 = true := by kernel_rfl
theorem pT22 : pOK true 22 = true := by kernel_rfl
theorem pT23 : pOK true 23 = true := by kernel_rfl
end Ab
end Go.Proofs.YtbfppnppijcnlaaGreat
