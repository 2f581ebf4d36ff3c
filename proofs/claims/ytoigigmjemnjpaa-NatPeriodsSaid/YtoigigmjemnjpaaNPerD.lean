/-
  The rounds of the law NatPeriods, part D.
  Conditions: none.
-/
import Derived.Test.YtoigigmjemnjpaaNPerT
namespace Go.Proofs.Ytoigigmjemnjpaa
namespace Ab
set_option maxRecDepth 100000
theorem rd0FF : rdP false false 0 (stI false false) = true := by kernel_rfl
theorem ex0FF : exP false false 0 (stI false false) = true := by kernel_rfl
theorem rdFF1 : rdAll false false 51 1 = true := by kernel_rfl
theorem rdFF2 : rdAll false false 51 52 = true := by kernel_rfl
theorem rdFF3 : rdAll false false 51 103 = true := by kernel_rfl
theorem rdFF4 : rdAll false false 51 154 = true := by kernel_rfl
theorem rdFF5 : rdAll false false 51 205 = true := by kernel_rfl
end Ab
end Go.Proofs.Ytoigigmjemnjpaa
