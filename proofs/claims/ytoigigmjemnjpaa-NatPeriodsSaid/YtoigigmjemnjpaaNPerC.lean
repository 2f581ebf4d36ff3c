/-
  The rounds of the law NatPeriods, part C.
  Conditions: none.
-/
import Derived.Test.YtoigigmjemnjpaaNPerT
namespace Go.Proofs.Ytoigigmjemnjpaa
namespace Ab
set_option maxRecDepth 100000
theorem rd0TF : rdP true false 0 (stI true false) = true := by kernel_rfl
theorem ex0TF : exP true false 0 (stI true false) = true := by kernel_rfl
theorem rdTF1 : rdAll true false 51 1 = true := by kernel_rfl
theorem rdTF2 : rdAll true false 51 52 = true := by kernel_rfl
theorem rdTF3 : rdAll true false 51 103 = true := by kernel_rfl
theorem rdTF4 : rdAll true false 51 154 = true := by kernel_rfl
theorem rdTF5 : rdAll true false 51 205 = true := by kernel_rfl
end Ab
end Go.Proofs.Ytoigigmjemnjpaa
