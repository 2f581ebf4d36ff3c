/-
  All classes of the connection.
  Conditions: none.
-/
import Derived.Test.YtbfppnppijcnlaaGreatTwR0
import Derived.Test.YtbfppnppijcnlaaGreatTwR1
import Derived.Test.YtbfppnppijcnlaaGreatTwR2
import Derived.Test.YtbfppnppijcnlaaGreatTwR3
import Derived.Test.YtbfppnppijcnlaaGreatTwR4
import Derived.Test.YtbfppnppijcnlaaGreatTwR5
namespace Go.Proofs.YtbfppnppijcnlaaGreat
namespace Ab
theorem twRa : ∀ c, c < 6 → twOKa c = true := by
  intro c hc
  match c, hc with
  | 0, _ => exact twA0
  | 1, _ => exact twA1
  | 2, _ => exact twA2
  | 3, _ => exact twA3
  | 4, _ => exact twA4
  | 5, _ => exact twA5
  | c + 6, h => exact absurd h (by omega)
theorem twRb : ∀ n, n < 24 → twOKb n = true := by
  intro n hn
  match n, hn with
  | 0, _ => exact twR0
  | 1, _ => exact twR1
  | 2, _ => exact twR2
  | 3, _ => exact twR3
  | 4, _ => exact twR4
  | 5, _ => exact twR5
  | 6, _ => exact twR6
  | 7, _ => exact twR7
  | 8, _ => exact twR8
  | 9, _ => exact twR9
  | 10, _ => exact twR10
  | 11, _ => exact twR11
  | 12, _ => exact twR12
  | 13, _ => exact twR13
  | 14, _ => exact twR14
  | 15, _ => exact twR15
  | 16, _ => exact twR16
  | 17, _ => exact twR17
  | 18, _ => exact twR18
  | 19, _ => exact twR19
  | 20, _ => exact twR20
  | 21, _ => exact twR21
  | 22, _ => exact twR22
  | 23, _ => exact twR23
  | n + 24, h => exact absurd h (by omega)
end Ab
end Go.Proofs.YtbfppnppijcnlaaGreat
