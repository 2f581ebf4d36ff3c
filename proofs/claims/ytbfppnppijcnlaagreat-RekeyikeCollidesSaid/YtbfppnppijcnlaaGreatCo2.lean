/-
  The law RekeyikeCollides behind its connection: runs.
  Conditions: none.
-/
import Derived.Test.YtbfppnppijcnlaaGreatCo
namespace Go.Proofs.YtbfppnppijcnlaaGreat
namespace Ab
set_option maxRecDepth 1000000
theorem lwR6fff : lwOK 6 false false false = true := by kernel_rfl
theorem lwR6fft : lwOK 6 false false true = true := by kernel_rfl
theorem lwR6ftf : lwOK 6 false true false = true := by kernel_rfl
theorem lwR6ftt : lwOK 6 false true true = true := by kernel_rfl
theorem lwR6tff : lwOK 6 true false false = true := by kernel_rfl
theorem lwR6tft : lwOK 6 true false true = true := by kernel_rfl
theorem lwR6ttf : lwOK 6 true true false = true := by kernel_rfl
theorem lwR7fff : lwOK 7 false false false = true := by kernel_rfl
theorem lwR7fft : lwOK 7 false false true = true := by kernel_rfl
theorem lwR7ftf : lwOK 7 false true false = true := by kernel_rfl
theorem lwR7ftt : lwOK 7 false true true = true := by kernel_rfl
theorem lwR7tff : lwOK 7 true false false = true := by kernel_rfl
theorem lwR7tft : lwOK 7 true false true = true := by kernel_rfl
theorem lwR7ttf : lwOK 7 true true false = true := by kernel_rfl
theorem lwR8fff : lwOK 8 false false false = true := by kernel_rfl
theorem lwR8fft : lwOK 8 false false true = true := by kernel_rfl
theorem lwR8ftf : lwOK 8 false true false = true := by kernel_rfl
theorem lwR8ftt : lwOK 8 false true true = true := by kernel_rfl
theorem lwR8tff : lwOK 8 true false false = true := by kernel_rfl
theorem lwR8tft : lwOK 8 true false true = true := by kernel_rfl
theorem lwR8ttf : lwOK 8 true true false = true := by kernel_rfl
end Ab
end Go.Proofs.YtbfppnppijcnlaaGreat
