/-
  The plain law of chapter 23: what shifting, masking and setting do to the bits of a list of words; the bits of a window behind a number that was accepted.
  Conditions: none of the program.
-/
import Derived.Test.YtbepkfdfabgigaaWinB
namespace Go.Proofs.Ytbepkfdfabgigaa
set_option linter.unusedVariables false
theorem lt_bit {x r : Nat} (h : x < 18446744073709551616) (hr : 64 ≤ r) : x.testBit r = false := by
  apply Nat.testBit_lt_two_pow
  have : (2 : Nat) ^ 64 ≤ 2 ^ r := Nat.pow_le_pow_right (by omega) hr
  omega
theorem bit_shl (x s r : Nat) (hs : s < 64) (hr : r < 64) : ((x * 2 ^ s) % 18446744073709551616).testBit r = (decide (s ≤ r) && x.testBit (r - s)) := by
  have h : (18446744073709551616 : Nat) = 2 ^ 64 := by decide
  rw [h, Nat.testBit_mod_two_pow, ← Nat.shiftLeft_eq, Nat.testBit_shiftLeft]
  simp [hr]
theorem bit_shr (x s r : Nat) : (x / 2 ^ s).testBit r = x.testBit (s + r) := by
  rw [Nat.testBit_div_two_pow, Nat.add_comm]
theorem bitW_shift (W : Nat → Nat) (hW : ∀ i, W i < 18446744073709551616) (d k : Nat) : bitW (shiftW W d) k = (decide (d ≤ k) && bitW W (k - d)) := by
  unfold bitW shiftW
  have hk := Nat.div_add_mod k 64
  have hd := Nat.div_add_mod d 64
  have hr : k % 64 < 64 := Nat.mod_lt _ (by omega)
  have hs : d % 64 < 64 := Nat.mod_lt _ (by omega)
  by_cases h1 : k / 64 < d / 64
  · rw [if_pos h1]
    have : ¬ d ≤ k := by omega
    simp [this]
  · rw [if_neg h1, Nat.testBit_or, bit_shl _ _ _ hs hr]
    by_cases h2 : d % 64 ≤ k % 64
    · have e1 : (k - d) / 64 = k / 64 - d / 64 := by omega
      have e2 : (k - d) % 64 = k % 64 - d % 64 := by omega
      have e3 : d ≤ k := by omega
      have e4 : (if 0 < k / 64 - d / 64 then W (k / 64 - d / 64 - 1) / 2 ^ (64 - d % 64) else 0).testBit (k % 64) = false := by
        split
        · rw [bit_shr]; exact lt_bit (hW _) (by omega)
        · simp
      rw [e4, e1, e2]
      simp [h2, e3]
    · by_cases h3 : 0 < k / 64 - d / 64
      · have e1 : (k - d) / 64 = k / 64 - d / 64 - 1 := by omega
        have e2 : (k - d) % 64 = 64 - d % 64 + k % 64 := by omega
        have e3 : d ≤ k := by omega
        rw [if_pos h3, bit_shr, e1, e2]
        simp [h2, e3]
      · have e3 : ¬ d ≤ k := by omega
        rw [if_neg h3]
        simp [h2, e3]
/-- One word changed. -/
def putW (W : Nat → Nat) (j x : Nat) : Nat → Nat := fun i => if i = j then x else W i
theorem bitW_put (W : Nat → Nat) (j x k : Nat) : bitW (putW W j x) k = if k / 64 = j then x.testBit (k % 64) else bitW W k := by
  unfold bitW putW
  split <;> simp_all
theorem putW_lt {W : Nat → Nat} {j x : Nat} (hW : ∀ i, W i < 18446744073709551616) (hx : x < 18446744073709551616) : ∀ i, putW W j x i < 18446744073709551616 := by
  intro i; unfold putW; split
  · exact hx
  · exact hW i
theorem two_pow_lt {r : Nat} (hr : r < 64) : 2 ^ r < 18446744073709551616 := by
  have : (2 : Nat) ^ r ≤ 2 ^ 63 := Nat.pow_le_pow_right (by omega) (by omega)
  omega
theorem or_lt {x y : Nat} (hx : x < 18446744073709551616) (hy : y < 18446744073709551616) : x ||| y < 18446744073709551616 := by
  have h : (18446744073709551616 : Nat) = 2 ^ 64 := by decide
  rw [h] at *
  exact Nat.or_lt_two_pow hx hy
theorem shiftW_lt (W : Nat → Nat) (hW : ∀ i, W i < 18446744073709551616) (d i : Nat) : shiftW W d i < 18446744073709551616 := by
  unfold shiftW
  split
  · omega
  · refine or_lt (Nat.mod_lt _ (by omega)) ?_
    split
    · exact Nat.lt_of_le_of_lt (Nat.div_le_self _ _) (hW _)
    · omega
/-- The bit k set. -/
theorem bitW_set (W : Nat → Nat) (j k : Nat) : bitW (putW W (j / 64) (W (j / 64) ||| 2 ^ (j % 64))) k = (bitW W k || decide (k = j)) := by
  rw [bitW_put]
  by_cases h : k / 64 = j / 64
  · rw [if_pos h, Nat.testBit_or, Nat.testBit_two_pow]
    unfold bitW
    rw [h]
    congr 1
    rw [Bool.eq_iff_iff]
    simp only [decide_eq_true_eq]
    omega
  · rw [if_neg h]
    have : ¬ k = j := by intro e; exact h (by rw [e])
    simp [this]
/-- The last word masked. -/
theorem bitW_mask (W : Nat → Nat) (S n k : Nat) (hn : n = (S + 63) / 64) (hS : 0 < S % 64) (hk : k < 64 * n) : bitW (putW W (n - 1) (W (n - 1) &&& (2 ^ (S % 64) - 1))) k = (decide (k < S) && bitW W k) := by
  rw [bitW_put]
  by_cases h : k / 64 = n - 1
  · rw [if_pos h, Nat.testBit_and, Nat.testBit_two_pow_sub_one]
    unfold bitW
    rw [h, Bool.and_comm]
    congr 1
    rw [Bool.eq_iff_iff]
    simp only [decide_eq_true_eq]
    omega
  · rw [if_neg h]
    have : k < S := by omega
    simp [this]
/-- The top and the bits of a window behind a number. -/
def accT (S T : Nat) (B : Nat → Bool) (m : Nat) : Nat := if chk S T B m = 0 then max T m else T
def accB (S T : Nat) (B : Nat → Bool) (m k : Nat) : Bool :=
  if chk S T B m = 0 then decide (k < S) && ((decide (max T m - T ≤ k) && B (k - (max T m - T))) || decide (k = max T m - m)) else B k
theorem chk_zero {S T m : Nat} {B : Nat → Bool} (h : chk S T B m = 0) : 0 < m ∧ (T < m ∨ (m ≤ T ∧ T - m < S ∧ B (T - m) = false)) := by
  unfold chk at h
  split at h
  · cases h
  · split at h
    · exact ⟨by omega, .inl ‹_›⟩
    · split at h
      · cases h
      · split at h
        · cases h
        · exact ⟨by omega, .inr ⟨by omega, by omega, by simpa using ‹¬ B _ = true›⟩⟩
end Go.Proofs.Ytbepkfdfabgigaa
