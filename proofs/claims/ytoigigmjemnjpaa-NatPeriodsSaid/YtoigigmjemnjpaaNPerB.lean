/-
  The rounds of the law NatPeriods, part B.
  Conditions: none.
-/
import Derived.Test.YtoigigmjemnjpaaNPerT
namespace Go.Proofs.Ytoigigmjemnjpaa
namespace Ab
set_option maxRecDepth 100000
theorem rd0FT : rdP false true 0 (stI false true) = true := by kernel_rfl
theorem ex0FT : exP false true 0 (stI false true) = true := by kernel_rfl
theorem rdFT1 : rdAll false true 51 1 = true := by kernel_rfl
theorem rdFT2 : rdAll false true 51 52 = true := by kernel_rfl
theorem rdFT3 : rdAll false true 51 103 = true := by kernel_rfl
theorem rdFT4 : rdAll false true 51 154 = true := by kernel_rfl
theorem rdFT5 : rdAll false true 51 205 = true := by kernel_rfl
end Ab
end Go.Proofs.Ytoigigmjemnjpaa
