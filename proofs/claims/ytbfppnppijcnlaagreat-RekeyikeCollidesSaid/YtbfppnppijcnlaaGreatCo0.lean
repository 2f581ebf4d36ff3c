/-
  The law RekeyikeCollides behind its connection: runs.
  Conditions: none.
-/
import Derived.Test.YtbfppnppijcnlaaGreatCo
namespace Go.Proofs.YtbfppnppijcnlaaGreat
namespace Ab
set_option maxRecDepth 1000000
theorem lwR0fff : lwOK 0 false false false = true := by kernel_rfl
theorem lwR0fft : lwOK 0 false false true = true := by kernel_rfl
theorem lwR0ftf : lwOK 0 false true false = true := by kernel_rfl
theorem lwR0ftt : lwOK 0 false true true = true := by kernel_rfl
theorem lwR0tff : lwOK 0 true false false = true := by kernel_rfl
theorem lwR0tft : lwOK 0 true false true = true := by kernel_rfl
theorem lwR0ttf : lwOK 0 true true false = true := by kernel_rfl
theorem lwR1fff : lwOK 1 false false false = true := by kernel_rfl
theorem lwR1fft : lwOK 1 false false true = true := by kernel_rfl
theorem lwR1ftf : lwOK 1 false true false = true := by kernel_rfl
theorem lwR1ftt : lwOK 1 false true true = true := by kernel_rfl
theorem lwR1tff : lwOK 1 true false false = true := by kernel_rfl
theorem lwR1tft : lwOK 1 true false true = true := by kernel_rfl
theorem lwR1ttf : lwOK 1 true true false = true := by kernel_rfl
theorem lwR2fff : lwOK 2 false false false = true := by kernel_rfl
theorem lwR2fft : lwOK 2 false false true = true := by kernel_rfl
theorem lwR2ftf : lwOK 2 false true false = true := by kernel_rfl
theorem lwR2ftt : lwOK 2 false true true = true := by kernel_rfl
theorem lwR2tff : lwOK 2 true false false = true := by kernel_rfl
theorem lwR2tft : lwOK 2 true false true = true := by kernel_rfl
theorem lwR2ttf : lwOK 2 true true false = true := by kernel_rfl
end Ab
end Go.Proofs.YtbfppnppijcnlaaGreat
