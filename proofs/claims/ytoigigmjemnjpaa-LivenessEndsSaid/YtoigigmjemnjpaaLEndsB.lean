/-
  The runs of the law LivenessEnds, part B.
  Conditions: none.
-/
import Derived.Test.YtoigigmjemnjpaaLEndsT
namespace Go.Proofs.Ytoigigmjemnjpaa
namespace Ab
set_option maxRecDepth 100000
theorem runE4 : isTrue (fnA (envE 4) 60 8 argsE st0) = true := by kernel_rfl
theorem runE5 : isTrue (fnA (envE 5) 60 8 argsE st0) = true := by kernel_rfl
theorem runE6 : isTrue (fnA (envE 6) 60 8 argsE st0) = true := by kernel_rfl
theorem runE7 : isTrue (fnA (envE 7) 60 8 argsE st0) = true := by kernel_rfl
end Ab
end Go.Proofs.Ytoigigmjemnjpaa
