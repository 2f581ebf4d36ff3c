/-
  The contracts of the small functions of chapter 23 that every law of the chapter calls: draw.Mod, window.least, window.Infer, the reference's Infer, and the sanity check 'awake' (which returns true).
  Conditions: the arguments lie within the bounds that the statements give them.
-/
import Derived.Test.YtbepkfdfabgigaaProg
import Derived.Test.YtbepkfdfabgigaaMem
import Derived.WalkKit
import Derived.WalkLawsBesides
import Derived.WalkSpells
import Derived.Outline
import Derived.Lib.Hide
import Derived.BigQuiet
import Derived.Deep.QuietTactic
import Derived.Laws.BitsAllLaws
namespace Go.Proofs.Ytbepkfdfabgigaa
open Go.RowKit
set_option linter.unusedVariables false
theorem emod_le_self (x M : Int) (h : 0 ≤ x) (hM : 1 ≤ M) : x % M ≤ x := by
  have h1 := Int.mul_ediv_add_emod x M
  have h2 : 0 ≤ x / M := Int.ediv_nonneg h (by omega)
  have h3 : 0 ≤ M * (x / M) := Int.mul_nonneg (by omega) h2
  omega
theorem emod_tmod (x n : Int) (h0 : 1 ≤ n) : x % n = if x.tmod n < 0 then x.tmod n + n else x.tmod n := by
  rcases Int.le_total 0 x with h | h
  · have h1 : x.tmod n = x % n := Int.tmod_eq_emod_of_nonneg h
    have h2 : 0 ≤ x % n := Int.emod_nonneg x (by omega)
    rw [h1, if_neg (by omega)]
  · obtain ⟨y, rfl⟩ : ∃ y, x = -y := ⟨-x, by omega⟩
    have h1 : (-y).tmod n = -(y % n) := by rw [Int.neg_tmod, Int.tmod_eq_emod_of_nonneg (by omega)]
    have h2 : 0 ≤ y % n := Int.emod_nonneg y (by omega)
    have h3 : y % n < n := Int.emod_lt_of_pos y (by omega)
    have h4 : y % n = y - n * (y / n) := by have := Int.mul_ediv_add_emod y n; omega
    rw [h1]
    split
    · have : (-y) % n = (-(y % n) + n) % n := by
        rw [h4, show -(y - n * (y / n)) + n = -y + n * (y / n + 1) by rw [Int.mul_add]; omega, Int.add_mul_emod_self_left]
      rw [this, Int.emod_eq_of_lt (by omega) (by omega)]
    · have : (-y) % n = (-(y % n)) % n := by
        rw [h4, show -(y - n * (y / n)) = -y + n * (y / n) by omega, Int.add_mul_emod_self_left]
      rw [this, Int.emod_eq_of_lt (by omega) (by omega)]
theorem mod_any (x n : Int) (w : World) (h0 : 1 ≤ n) (h1 : n ≤ 4611686018427387904) (hx0 : -9223372036854775808 ≤ x) (hx1 : x ≤ 9223372036854775807) :
    Calls Try.prog 12 #[.int .i64 x, .int .i64 n] w fun e w' => e = .returned (.int .i64 (x % n)) ∧ w = w' := by
  have hb1 : x.tmod n < n := Int.tmod_lt_of_pos x (by omega)
  have hb2 : -n < x.tmod n := by have := Int.lt_tmod_of_pos x (b := n) (by omega); omega
  have He := Lib.hid (emod_tmod x n h0)
  go_enter Try.func12, Try.ntmps12
  go_wp2
  all_goals (go_ret; refine ⟨ret_int ?_, rfl⟩; rw [He.out]; split <;> first | rfl | omega)

/-- the least judged number -/
def lst (t s : Int) : Int := if s ≤ t then t - s + 1 else 0
theorem lst_bd (t s : Int) (hs0 : 1 ≤ s) (ht0 : 0 ≤ t) : 0 ≤ lst t s ∧ lst t s ≤ t := by unfold lst; split <;> omega
theorem least_any (t s : Int) (w : World) (hs0 : 1 ≤ s) (hs1 : s ≤ 1024) (ht0 : 0 ≤ t) (ht : t ≤ 4611686018427387904) :
    Calls Try.prog 27 #[.int .u64 t, .int .i64 s] w fun e w' => e = .returned (.int .u64 (lst t s)) ∧ w = w' := by
  go_enter Try.func27, Try.ntmps27
  go_wp2
  all_goals (go_ret; refine ⟨ret_int ?_, rfl⟩; unfold lst; split <;> omega)
theorem wrap_emod (x : Int) (j : Nat) (hj : j ≤ 63) : (x % 18446744073709551616) % (2:Int) ^ j = x % 2 ^ j := by
  apply Int.emod_emod_of_dvd
  refine ⟨2 ^ (64 - j), ?_⟩
  rw [← Int.pow_add, show j + (64 - j) = 64 by omega]
  decide
theorem two_pow_pos (j : Nat) : (1 : Int) ≤ 2 ^ j := by
  have := Int.pow_pos (n := 2) (m := j) (by omega)
  omega
theorem two_pow_le (j k : Nat) (h : j ≤ k) : (2 : Int) ^ j ≤ 2 ^ k := by
  have := Nat.pow_le_pow_right (n := 2) (by omega) h
  exact_mod_cast this
theorem mask_u64 (x : Int) (j : Nat) (h0 : 0 ≤ x) (h1 : x < 18446744073709551616) (hj : j ≤ 63) : bits .and .u64 x (2 ^ j - 1) = x % 2 ^ j := by
  have hp := two_pow_pos j
  have hp2 := two_pow_le j 63 hj
  rw [u64_and x _ h0 h1 (by omega) (by omega)]
  obtain ⟨n, rfl⟩ := Int.eq_ofNat_of_zero_le h0
  have he : ((2 : Int) ^ j - 1).toNat = 2 ^ j - 1 := by
    have : (2 : Int) ^ j = ((2 ^ j : Nat) : Int) := by push_cast; rfl
    rw [this]; omega
  rw [he, Int.toNat_natCast, Nat.and_two_pow_sub_one_eq_mod]
  push_cast; rfl
def inf (L low M : Int) : Int := L + (low - L) % M
theorem infer_any (t s low k M : Int) (w : World) (hs0 : 1 ≤ s) (hs1 : s ≤ 1024) (ht0 : 0 ≤ t) (ht : t ≤ 4611686018427387904) (hl : 0 ≤ low) (hl1 : low ≤ 18446744073709551615) (hk0 : 1 ≤ k) (hk1 : k ≤ 32)
    (hM : (2:Int) ^ k.toNat = M) (hM0 : 2 ≤ M) (hM1 : M ≤ 4294967296) :
    Calls Try.prog 13 #[.int .u64 t, .int .i64 s, .int .u64 low, .int .i64 k] w fun e w' => e = .returned (.int .u64 (inf (lst t s) low M)) ∧ w = w' := by
  have hb := lst_bd t s hs0 ht0
  have hx : bits .and .u64 (IntKind.u64.wrap (low - lst t s)) (M - 1) = (low - lst t s) % M := by
    rw [IntKind.wrap_u64, ← hM, mask_u64 _ _ (Int.emod_nonneg _ (by omega)) (Int.emod_lt_of_pos _ (by omega)) (by omega), wrap_emod _ _ (by omega)]
  have hy0 : 0 ≤ (low - lst t s) % M := Int.emod_nonneg _ (by omega)
  have hy1 : (low - lst t s) % M < M := Int.emod_lt_of_pos _ (by omega)
  have Hf : Hid (inf (lst t s) low M = lst t s + (low - lst t s) % M) := Lib.hid rfl
  generalize hL : lst t s = L at *
  have HL := Lib.hid hL
  clear hL
  go_enter Try.func13, Try.ntmps13
  go_wp2_with (go_at_call 27; refine (least_any _ _ _ (by omega) (by omega) (by omega) (by omega)).mono ?_; rintro e w' ⟨rfl, rfl⟩; rw [HL.out])
  go_ret
  exact ⟨ret_int Hf.out.symm, rfl⟩
theorem inf_eq (L low M : Int) (hM : 1 ≤ M) : (if L - L % M + low % M < L then L - L % M + low % M + M else L - L % M + low % M) = inf L low M := by
  unfold inf
  have a0 : 0 ≤ L % M := Int.emod_nonneg _ (by omega)
  have a1 : L % M < M := Int.emod_lt_of_pos _ (by omega)
  have b0 : 0 ≤ low % M := Int.emod_nonneg _ (by omega)
  have b1 : low % M < M := Int.emod_lt_of_pos _ (by omega)
  rw [Int.sub_emod low L M]
  generalize L % M = b at *
  generalize low % M = a at *
  split
  · have : (a - b) % M = (a - b + M) % M := by rw [Int.add_emod_right]
    rw [this, Int.emod_eq_of_lt (by omega) (by omega)]; omega
  · rw [Int.emod_eq_of_lt (by omega) (by omega)]; omega
theorem rinfer_any (t s low k M : Int) (w : World) (hs0 : 1 ≤ s) (hs1 : s ≤ 1024) (ht0 : 0 ≤ t) (ht : t ≤ 4611686018427387904) (hl : 0 ≤ low) (hl1 : low ≤ 18446744073709551615) (hk0 : 1 ≤ k) (hk1 : k ≤ 32)
    (hM : (2:Int) ^ k.toNat = M) (hM0 : 2 ≤ M) (hM1 : M ≤ 4294967296) :
    Calls Try.prog 14 #[.int .u64 t, .int .i64 s, .int .u64 low, .int .i64 k] w fun e w' => e = .returned (.int .u64 (inf (lst t s) low M)) ∧ ∃ n, w' = w.drewN n := by
  have ha0 : 0 ≤ low % M := Int.emod_nonneg _ (by omega)
  have ha1 : low % M < M := Int.emod_lt_of_pos _ (by omega)
  by_cases hst : s < t + 1
  · have hL : lst t s = t + 1 - s := by unfold lst; rw [if_pos (by omega)]; omega
    have He := Lib.hid (inf_eq (t + 1 - s) low M (by omega))
    have HL := Lib.hid hL
    clear hL
    have hb0 : 0 ≤ (t + 1 - s) % M := Int.emod_nonneg _ (by omega)
    have hb1 : (t + 1 - s) % M < M := Int.emod_lt_of_pos _ (by omega)
    have hb2 : (t + 1 - s) % M ≤ t + 1 - s := emod_le_self _ _ (by omega) (by omega)
    have hM' := Lib.hid hM
    go_enter Try.func14, Try.ntmps14
    go_wp2
    go_quiet (fail)
    go_wp2
    all_goals (go_ret; refine ⟨ret_int ?_, _, rfl⟩; rw [HL.out, ← He.out]; split <;> omega)
  · have hL : lst t s = 0 := by unfold lst; rw [if_neg (by omega)]
    have He := Lib.hid (inf_eq 0 low M (by omega))
    have HL := Lib.hid hL
    clear hL
    go_enter Try.func14, Try.ntmps14
    go_wp2
    go_quiet (fail)
    go_wp2
    go_ret
    refine ⟨ret_int ?_, _, rfl⟩
    rw [HL.out, ← He.out]
    simp
    omega
theorem awake_any (w : World) : Calls Try.prog 11 #[] w fun e w' => e = .returned (.bool true) ∧ w = w' := by
  have h1 := infer_any 10 4 6 4 16 w (by omega) (by omega) (by omega) (by omega) (by omega) (by omega) (by omega) (by omega) (by decide) (by omega) (by omega)
  have h2 := infer_any 10 4 7 4 16 w (by omega) (by omega) (by omega) (by omega) (by omega) (by omega) (by omega) (by omega) (by decide) (by omega) (by omega)
  have e1 : inf (lst 10 4) 6 16 = 22 := by decide
  have e2 : inf (lst 10 4) 7 16 = 7 := by decide
  rw [e1] at h1
  rw [e2] at h2
  have H1 := Lib.hid h1
  have H2 := Lib.hid h2
  clear h1 h2 e1 e2
  go_enter Try.func11, Try.ntmps11
  go_wp2_with fail
  refine H1.out.mono ?_
  rintro e w' ⟨rfl, rfl⟩
  go_wp2_with fail
  refine H2.out.mono ?_
  rintro e w' ⟨rfl, rfl⟩
  go_wp2_with fail
  go_ret
  exact ⟨rfl, rfl⟩
end Go.Proofs.Ytbepkfdfabgigaa
