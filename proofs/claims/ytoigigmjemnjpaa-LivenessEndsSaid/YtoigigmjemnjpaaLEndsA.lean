/-
  The runs of the law LivenessEnds, part A.
  Conditions: none.
-/
import Derived.Test.YtoigigmjemnjpaaLEndsT
namespace Go.Proofs.Ytoigigmjemnjpaa
namespace Ab
set_option maxRecDepth 100000
theorem runE0 : isTrue (fnA (envE 0) 60 8 argsE st0) = true := by kernel_rfl
theorem runE1 : isTrue (fnA (envE 1) 60 8 argsE st0) = true := by kernel_rfl
theorem runE2 : isTrue (fnA (envE 2) 60 8 argsE st0) = true := by kernel_rfl
theorem runE3 : isTrue (fnA (envE 3) 60 8 argsE st0) = true := by kernel_rfl
end Ab
end Go.Proofs.Ytoigigmjemnjpaa
