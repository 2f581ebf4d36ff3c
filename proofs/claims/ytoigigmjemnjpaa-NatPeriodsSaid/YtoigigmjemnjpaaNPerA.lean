/-
  The rounds of the law NatPeriods, part A.
  Conditions: none.
-/
import Derived.Test.YtoigigmjemnjpaaNPerT
namespace Go.Proofs.Ytoigigmjemnjpaa
namespace Ab
set_option maxRecDepth 100000
theorem rd0TT : rdP true true 0 (stI true true) = true := by kernel_rfl
theorem ex0TT : exP true true 0 (stI true true) = true := by kernel_rfl
theorem rdTT1 : rdAll true true 51 1 = true := by kernel_rfl
theorem rdTT2 : rdAll true true 51 52 = true := by kernel_rfl
theorem rdTT3 : rdAll true true 51 103 = true := by kernel_rfl
theorem rdTT4 : rdAll true true 51 154 = true := by kernel_rfl
theorem rdTT5 : rdAll true true 51 205 = true := by kernel_rfl
end Ab
end Go.Proofs.Ytoigigmjemnjpaa
