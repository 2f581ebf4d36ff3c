/-
  The law RekeyikeCollides behind its connection: runs.
  Conditions: none.
-/
import Derived.Test.YtbfppnppijcnlaaGreatCo
namespace Go.Proofs.YtbfppnppijcnlaaGreat
namespace Ab
set_option maxRecDepth 1000000
theorem lwR3fff : lwOK 3 false false false = true := by kernel_rfl
theorem lwR3fft : lwOK 3 false false true = true := by kernel_rfl
theorem lwR3ftf : lwOK 3 false true false = true := by kernel_rfl
theorem lwR3ftt : lwOK 3 false true true = true := by kernel_rfl
theorem lwR3tff : lwOK 3 true false false = true := by kernel_rfl
theorem lwR3tft : lwOK 3 true false true = true := by kernel_rfl
theorem lwR3ttf : lwOK 3 true true false = true := by kernel_rfl
theorem lwR4fff : lwOK 4 false false false = true := by kernel_rfl
theorem lwR4fft : lwOK 4 false false true = true := by kernel_rfl
theorem lwR4ftf : lwOK 4 false true false = true := by kernel_rfl
theorem lwR4ftt : lwOK 4 false true true = true := by kernel_rfl
theorem lwR4tff : lwOK 4 true false false = true := by kernel_rfl
theorem lwR4tft : lwOK 4 true false true = true := by kernel_rfl
theorem lwR4ttf : lwOK 4 true true false = true := by kernel_rfl
theorem lwR5fff : lwOK 5 false false false = true := by kernel_rfl
theorem lwR5fft : lwOK 5 false false true = true := by kernel_rfl
theorem lwR5ftf : lwOK 5 false true false = true := by kernel_rfl
theorem lwR5ftt : lwOK 5 false true true = true := by kernel_rfl
theorem lwR5tff : lwOK 5 true false false = true := by kernel_rfl
theorem lwR5tft : lwOK 5 true false true = true := by kernel_rfl
theorem lwR5ttf : lwOK 5 true true false = true := by kernel_rfl
end Ab
end Go.Proofs.YtbfppnppijcnlaaGreat
