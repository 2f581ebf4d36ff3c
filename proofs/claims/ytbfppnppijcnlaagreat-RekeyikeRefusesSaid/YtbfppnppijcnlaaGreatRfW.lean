/-
  The law RekeyikeRefuses: every run of it returns true and changes nothing below.
  Conditions: none.
-/
import Derived.Test.YtbfppnppijcnlaaGreatEm
import Derived.Test.YtbfppnppijcnlaaGreatTwAll
import Derived.Test.YtbfppnppijcnlaaGreatRf0
import Derived.Test.YtbfppnppijcnlaaGreatRf1
import Derived.Test.YtbfppnppijcnlaaGreatRf2
import Derived.Test.YtbfppnppijcnlaaGreatRf3
namespace Go.Proofs.YtbfppnppijcnlaaGreat
namespace rekeyikeRefuses
open Ab RowKit
set_option linter.unusedVariables false
set_option linter.unusedSimpArgs false
set_option maxRecDepth 100000
noncomputable def vLw (x : Value) (a b : Int) : Nat → Value := fun j => if j = 0 then x else if j = 1 then .int .i64 a else if j = 2 then .int .u8 b else .bool false
theorem vLw_one {A : Option Addr} {len cap : Nat} {a b : Int} : ∀ i, (vLw (.slice A len cap) a b i).oneCell' = true := by
  intro i
  unfold vLw
  split
  · rfl
  · split
    · rfl
    · split <;> rfl
theorem kdOf_lt : ∀ n, n < 24 → kdOf n < 16 := by
  intro n hn
  match n, hn with
  | 0, _ => exact of_decide_eq_true rfl
  | 1, _ => exact of_decide_eq_true rfl
  | 2, _ => exact of_decide_eq_true rfl
  | 3, _ => exact of_decide_eq_true rfl
  | 4, _ => exact of_decide_eq_true rfl
  | 5, _ => exact of_decide_eq_true rfl
  | 6, _ => exact of_decide_eq_true rfl
  | 7, _ => exact of_decide_eq_true rfl
  | 8, _ => exact of_decide_eq_true rfl
  | 9, _ => exact of_decide_eq_true rfl
  | 10, _ => exact of_decide_eq_true rfl
  | 11, _ => exact of_decide_eq_true rfl
  | 12, _ => exact of_decide_eq_true rfl
  | 13, _ => exact of_decide_eq_true rfl
  | 14, _ => exact of_decide_eq_true rfl
  | 15, _ => exact of_decide_eq_true rfl
  | 16, _ => exact of_decide_eq_true rfl
  | 17, _ => exact of_decide_eq_true rfl
  | 18, _ => exact of_decide_eq_true rfl
  | 19, _ => exact of_decide_eq_true rfl
  | 20, _ => exact of_decide_eq_true rfl
  | 21, _ => exact of_decide_eq_true rfl
  | 22, _ => exact of_decide_eq_true rfl
  | 23, _ => exact of_decide_eq_true rfl
  | n + 24, h => exact absurd h (by omega)
theorem all0 : ∀ k, k < 16 → lwOK 0 k = true := by
  intro k hk
  match k, hk with
  | 0, _ => exact lwR0_0
  | 1, _ => exact lwR0_1
  | 2, _ => exact lwR0_2
  | 3, _ => exact lwR0_3
  | 4, _ => exact lwR0_4
  | 5, _ => exact lwR0_5
  | 6, _ => exact lwR0_6
  | 7, _ => exact lwR0_7
  | 8, _ => exact lwR0_8
  | 9, _ => exact lwR0_9
  | 10, _ => exact lwR0_10
  | 11, _ => exact lwR0_11
  | 12, _ => exact lwR0_12
  | 13, _ => exact lwR0_13
  | 14, _ => exact lwR0_14
  | 15, _ => exact lwR0_15
  | k + 16, h => exact absurd h (by omega)
theorem all1 : ∀ k, k < 16 → lwOK 1 k = true := by
  intro k hk
  match k, hk with
  | 0, _ => exact lwR1_0
  | 1, _ => exact lwR1_1
  | 2, _ => exact lwR1_2
  | 3, _ => exact lwR1_3
  | 4, _ => exact lwR1_4
  | 5, _ => exact lwR1_5
  | 6, _ => exact lwR1_6
  | 7, _ => exact lwR1_7
  | 8, _ => exact lwR1_8
  | 9, _ => exact lwR1_9
  | 10, _ => exact lwR1_10
  | 11, _ => exact lwR1_11
  | 12, _ => exact lwR1_12
  | 13, _ => exact lwR1_13
  | 14, _ => exact lwR1_14
  | 15, _ => exact lwR1_15
  | k + 16, h => exact absurd h (by omega)
theorem all2 : ∀ k, k < 16 → lwOK 2 k = true := by
  intro k hk
  match k, hk with
  | 0, _ => exact lwR2_0
  | 1, _ => exact lwR2_1
  | 2, _ => exact lwR2_2
  | 3, _ => exact lwR2_3
  | 4, _ => exact lwR2_4
  | 5, _ => exact lwR2_5
  | 6, _ => exact lwR2_6
  | 7, _ => exact lwR2_7
  | 8, _ => exact lwR2_8
  | 9, _ => exact lwR2_9
  | 10, _ => exact lwR2_10
  | 11, _ => exact lwR2_11
  | 12, _ => exact lwR2_12
  | 13, _ => exact lwR2_13
  | 14, _ => exact lwR2_14
  | 15, _ => exact lwR2_15
  | k + 16, h => exact absurd h (by omega)
theorem all3 : ∀ k, k < 16 → lwOK 3 k = true := by
  intro k hk
  match k, hk with
  | 0, _ => exact lwR3_0
  | 1, _ => exact lwR3_1
  | 2, _ => exact lwR3_2
  | 3, _ => exact lwR3_3
  | 4, _ => exact lwR3_4
  | 5, _ => exact lwR3_5
  | 6, _ => exact lwR3_6
  | 7, _ => exact lwR3_7
  | 8, _ => exact lwR3_8
  | 9, _ => exact lwR3_9
  | 10, _ => exact lwR3_10
  | 11, _ => exact lwR3_11
  | 12, _ => exact lwR3_12
  | 13, _ => exact lwR3_13
  | 14, _ => exact lwR3_14
  | 15, _ => exact lwR3_15
  | k + 16, h => exact absurd h (by omega)
theorem all4 : ∀ k, k < 16 → lwOK 4 k = true := by
  intro k hk
  match k, hk with
  | 0, _ => exact lwR4_0
  | 1, _ => exact lwR4_1
  | 2, _ => exact lwR4_2
  | 3, _ => exact lwR4_3
  | 4, _ => exact lwR4_4
  | 5, _ => exact lwR4_5
  | 6, _ => exact lwR4_6
  | 7, _ => exact lwR4_7
  | 8, _ => exact lwR4_8
  | 9, _ => exact lwR4_9
  | 10, _ => exact lwR4_10
  | 11, _ => exact lwR4_11
  | 12, _ => exact lwR4_12
  | 13, _ => exact lwR4_13
  | 14, _ => exact lwR4_14
  | 15, _ => exact lwR4_15
  | k + 16, h => exact absurd h (by omega)
theorem all5 : ∀ k, k < 16 → lwOK 5 k = true := by
  intro k hk
  match k, hk with
  | 0, _ => exact lwR5_0
  | 1, _ => exact lwR5_1
  | 2, _ => exact lwR5_2
  | 3, _ => exact lwR5_3
  | 4, _ => exact lwR5_4
  | 5, _ => exact lwR5_5
  | 6, _ => exact lwR5_6
  | 7, _ => exact lwR5_7
  | 8, _ => exact lwR5_8
  | 9, _ => exact lwR5_9
  | 10, _ => exact lwR5_10
  | 11, _ => exact lwR5_11
  | 12, _ => exact lwR5_12
  | 13, _ => exact lwR5_13
  | 14, _ => exact lwR5_14
  | 15, _ => exact lwR5_15
  | k + 16, h => exact absurd h (by omega)
theorem all6 : ∀ k, k < 16 → lwOK 6 k = true := by
  intro k hk
  match k, hk with
  | 0, _ => exact lwR6_0
  | 1, _ => exact lwR6_1
  | 2, _ => exact lwR6_2
  | 3, _ => exact lwR6_3
  | 4, _ => exact lwR6_4
  | 5, _ => exact lwR6_5
  | 6, _ => exact lwR6_6
  | 7, _ => exact lwR6_7
  | 8, _ => exact lwR6_8
  | 9, _ => exact lwR6_9
  | 10, _ => exact lwR6_10
  | 11, _ => exact lwR6_11
  | 12, _ => exact lwR6_12
  | 13, _ => exact lwR6_13
  | 14, _ => exact lwR6_14
  | 15, _ => exact lwR6_15
  | k + 16, h => exact absurd h (by omega)
theorem all7 : ∀ k, k < 16 → lwOK 7 k = true := by
  intro k hk
  match k, hk with
  | 0, _ => exact lwR7_0
  | 1, _ => exact lwR7_1
  | 2, _ => exact lwR7_2
  | 3, _ => exact lwR7_3
  | 4, _ => exact lwR7_4
  | 5, _ => exact lwR7_5
  | 6, _ => exact lwR7_6
  | 7, _ => exact lwR7_7
  | 8, _ => exact lwR7_8
  | 9, _ => exact lwR7_9
  | 10, _ => exact lwR7_10
  | 11, _ => exact lwR7_11
  | 12, _ => exact lwR7_12
  | 13, _ => exact lwR7_13
  | 14, _ => exact lwR7_14
  | 15, _ => exact lwR7_15
  | k + 16, h => exact absurd h (by omega)
theorem all8 : ∀ k, k < 16 → lwOK 8 k = true := by
  intro k hk
  match k, hk with
  | 0, _ => exact lwR8_0
  | 1, _ => exact lwR8_1
  | 2, _ => exact lwR8_2
  | 3, _ => exact lwR8_3
  | 4, _ => exact lwR8_4
  | 5, _ => exact lwR8_5
  | 6, _ => exact lwR8_6
  | 7, _ => exact lwR8_7
  | 8, _ => exact lwR8_8
  | 9, _ => exact lwR8_9
  | 10, _ => exact lwR8_10
  | 11, _ => exact lwR8_11
  | 12, _ => exact lwR8_12
  | 13, _ => exact lwR8_13
  | 14, _ => exact lwR8_14
  | 15, _ => exact lwR8_15
  | k + 16, h => exact absurd h (by omega)
theorem all9 : ∀ k, k < 16 → lwOK 9 k = true := by
  intro k hk
  match k, hk with
  | 0, _ => exact lwR9_0
  | 1, _ => exact lwR9_1
  | 2, _ => exact lwR9_2
  | 3, _ => exact lwR9_3
  | 4, _ => exact lwR9_4
  | 5, _ => exact lwR9_5
  | 6, _ => exact lwR9_6
  | 7, _ => exact lwR9_7
  | 8, _ => exact lwR9_8
  | 9, _ => exact lwR9_9
  | 10, _ => exact lwR9_10
  | 11, _ => exact lwR9_11
  | 12, _ => exact lwR9_12
  | 13, _ => exact lwR9_13
  | 14, _ => exact lwR9_14
  | 15, _ => exact lwR9_15
  | k + 16, h => exact absurd h (by omega)
theorem all10 : ∀ k, k < 16 → lwOK 10 k = true := by
  intro k hk
  match k, hk with
  | 0, _ => exact lwR10_0
  | 1, _ => exact lwR10_1
  | 2, _ => exact lwR10_2
  | 3, _ => exact lwR10_3
  | 4, _ => exact lwR10_4
  | 5, _ => exact lwR10_5
  | 6, _ => exact lwR10_6
  | 7, _ => exact lwR10_7
  | 8, _ => exact lwR10_8
  | 9, _ => exact lwR10_9
  | 10, _ => exact lwR10_10
  | 11, _ => exact lwR10_11
  | 12, _ => exact lwR10_12
  | 13, _ => exact lwR10_13
  | 14, _ => exact lwR10_14
  | 15, _ => exact lwR10_15
  | k + 16, h => exact absurd h (by omega)
theorem all11 : ∀ k, k < 16 → lwOK 11 k = true := by
  intro k hk
  match k, hk with
  | 0, _ => exact lwR11_0
  | 1, _ => exact lwR11_1
  | 2, _ => exact lwR11_2
  | 3, _ => exact lwR11_3
  | 4, _ => exact lwR11_4
  | 5, _ => exact lwR11_5
  | 6, _ => exact lwR11_6
  | 7, _ => exact lwR11_7
  | 8, _ => exact lwR11_8
  | 9, _ => exact lwR11_9
  | 10, _ => exact lwR11_10
  | 11, _ => exact lwR11_11
  | 12, _ => exact lwR11_12
  | 13, _ => exact lwR11_13
  | 14, _ => exact lwR11_14
  | 15, _ => exact lwR11_15
  | k + 16, h => exact absurd h (by omega)
theorem all12 : ∀ k, k < 16 → lwOK 12 k = true := by
  intro k hk
  match k, hk with
  | 0, _ => exact lwR12_0
  | 1, _ => exact lwR12_1
  | 2, _ => exact lwR12_2
  | 3, _ => exact lwR12_3
  | 4, _ => exact lwR12_4
  | 5, _ => exact lwR12_5
  | 6, _ => exact lwR12_6
  | 7, _ => exact lwR12_7
  | 8, _ => exact lwR12_8
  | 9, _ => exact lwR12_9
  | 10, _ => exact lwR12_10
  | 11, _ => exact lwR12_11
  | 12, _ => exact lwR12_12
  | 13, _ => exact lwR12_13
  | 14, _ => exact lwR12_14
  | 15, _ => exact lwR12_15
  | k + 16, h => exact absurd h (by omega)
theorem all13 : ∀ k, k < 16 → lwOK 13 k = true := by
  intro k hk
  match k, hk with
  | 0, _ => exact lwR13_0
  | 1, _ => exact lwR13_1
  | 2, _ => exact lwR13_2
  | 3, _ => exact lwR13_3
  | 4, _ => exact lwR13_4
  | 5, _ => exact lwR13_5
  | 6, _ => exact lwR13_6
  | 7, _ => exact lwR13_7
  | 8, _ => exact lwR13_8
  | 9, _ => exact lwR13_9
  | 10, _ => exact lwR13_10
  | 11, _ => exact lwR13_11
  | 12, _ => exact lwR13_12
  | 13, _ => exact lwR13_13
  | 14, _ => exact lwR13_14
  | 15, _ => exact lwR13_15
  | k + 16, h => exact absurd h (by omega)
theorem all14 : ∀ k, k < 16 → lwOK 14 k = true := by
  intro k hk
  match k, hk with
  | 0, _ => exact lwR14_0
  | 1, _ => exact lwR14_1
  | 2, _ => exact lwR14_2
  | 3, _ => exact lwR14_3
  | 4, _ => exact lwR14_4
  | 5, _ => exact lwR14_5
  | 6, _ => exact lwR14_6
  | 7, _ => exact lwR14_7
  | 8, _ => exact lwR14_8
  | 9, _ => exact lwR14_9
  | 10, _ => exact lwR14_10
  | 11, _ => exact lwR14_11
  | 12, _ => exact lwR14_12
  | 13, _ => exact lwR14_13
  | 14, _ => exact lwR14_14
  | 15, _ => exact lwR14_15
  | k + 16, h => exact absurd h (by omega)
theorem allC : ∀ c, c < 15 → ∀ k, k < 16 → lwOK c k = true := by
  intro c hc
  match c, hc with
  | 0, _ => exact all0
  | 1, _ => exact all1
  | 2, _ => exact all2
  | 3, _ => exact all3
  | 4, _ => exact all4
  | 5, _ => exact all5
  | 6, _ => exact all6
  | 7, _ => exact all7
  | 8, _ => exact all8
  | 9, _ => exact all9
  | 10, _ => exact all10
  | 11, _ => exact all11
  | 12, _ => exact all12
  | 13, _ => exact all13
  | 14, _ => exact all14
  | c + 15, h => exact absurd h (by omega)
theorem classes {a b : Int} (hb : 0 ≤ b ∧ b ≤ 255) : ∃ c, c < 15 ∧ b.tmod 5 = (clR c : Int) ∧ ∀ V ρ, CR V ρ (clP c) (.int .i64 (modv a 11)) := by
  obtain ⟨m1, m2⟩ := modv_range a 11 (by omega)
  have hb5 : 0 ≤ b.tmod 5 ∧ b.tmod 5 < 5 := by
    rw [Int.tmod_eq_emod_of_nonneg hb.1]
    omega
  obtain ⟨r, hr⟩ : ∃ r : Nat, b.tmod 5 = (r : Int) := ⟨(b.tmod 5).toNat, by omega⟩
  obtain ⟨p, hp⟩ : ∃ p : Nat, modv a 11 = (p : Int) := ⟨(modv a 11).toNat, by omega⟩
  rcases Nat.eq_zero_or_pos r with h0 | h0
  · refine ⟨p, by omega, ?_, fun V ρ => ?_⟩
    · rw [hr, h0]
      unfold clR
      rw [blt_yes (by omega)]
      rfl
    · unfold clP
      rw [blt_yes (by omega), hp]
      rfl
  · refine ⟨10 + r, by omega, ?_, fun V ρ => ?_⟩
    · rw [hr]
      unfold clR
      rw [blt_no (by omega)]
      simp only [cond_false]
      omega
    · unfold clP
      rw [blt_no (by omega)]
      simp only [cond_false]
      exact ⟨p, by omega, by rw [hp]⟩
theorem walk (w : World) (A : Option Addr) (len cap : Nat) (hB : Byts w A len) (hl : len ≤ cap ∧ cap ≤ maxLen) (a : Int) (ha : -9223372036854775808 ≤ a ∧ a ≤ 9223372036854775807) (b : Int) (hb : 0 ≤ b ∧ b ≤ 255) :
    Calls Tryz.prog 4 #[.slice A len cap, .int .i64 a, .int .u8 b] w fun e w' => e = .returned (.bool true) ∧ RowKit.Below w.heap.size w w' := by
  have args : F2 (VR (vLw (.slice A len cap) a b) ρ0) lwArgs (#[.slice A len cap, .int .i64 a, .int .u8 b] : Array Value).toList := ⟨rfl, rfl, rfl, trivial⟩
  have hM : ∀ hl, lwM hl = true := fun hl => by cases hl; exact lwMF; exact lwMT
  have h0 := hM true
  unfold lwM at h0 hM
  split at h0
  · rename_i t1 s1 hpre
    split at h0
    · rename_i t2 hnew
      refine law3_ok (V0 := vLw (.slice A len cap) a b) (E0 := E0n) (E := fun _ => E0n) (args := lwArgs) Tryz.func4 lwC_is args (by rw [Tryz.ntmps4]; show 3 ≤ _; omega) w rfl hB hl.1 hl.2 (most := 120) (by omega)
        (e0n_ok vLw_one).1 (e0n_ok vLw_one).2 (by kernel_rfl) lw_lin hpre hnew (fun hl q ga row hL b' p _ => e0n_ok (vL_one vLw_one b' p)) (fun hl => ?_)
      have hm := hM hl
      rw [hpre] at hm
      simp only [hnew] at hm
      refine ⟨t2, _, rfl, fun q ga row hL a' w' hh => ?_⟩
      refine law_two twRa twRb hL vLw_one hm (fun n hn V DK wK hV hN => ?_) hh
      obtain ⟨c, hc, hr, hp⟩ := classes (a := a) hb
      have v1 : V 1 = .int .i64 a := hV 1 (by omega)
      have v2 : V 2 = .int .u8 b := hV 2 (by omega)
      have hE := modM_okK (tab := tabRf (clR c)) (tb := [(1, 11, clP c)]) (fun op x y z h ρ u v hu hv => ?_) ⟨⟨a, v1, ha, by show (0 : Int) < 11; omega, by show (11 : Int) ≤ 1000000; omega, fun ρ => hp V ρ⟩, trivial⟩ hN
      · exact ⟨eRf c, hE.1, hE.2, allC c hc _ (kdOf_lt n hn)⟩
      · unfold tabRf at h
        split at h
        · rename_i i n
          cases hb2 : (Nat.beq i 2 && decide (n = 5))
          · simp [hb2] at h
          · simp only [hb2, cond_true, Option.some.injEq] at h
            subst h
            simp only [Bool.and_eq_true, decide_eq_true_eq] at hb2
            obtain ⟨e1, rfl⟩ := hb2
            have e1 := Nat.eq_of_beq_eq_true e1
            subst e1
            have hu : u = V 2 := hu
            have hv : v = .int .u8 5 := hv
            refine ⟨.u8, b, .u8, 5, .int .u8 (clR c : Int), by rw [hu, v2], hv, rfl, fun xt => ?_⟩
            rw [hu, hv, v2, ← hr]
            rfl
        · cases h
    · cases h0
  · cases h0
theorem rekeyikeRefuses_walk (w : World) (A : Option Addr) (len cap : Nat) (hB : Byts w A len) (hl : len ≤ cap ∧ cap ≤ maxLen) (a : Int) (ha : -9223372036854775808 ≤ a ∧ a ≤ 9223372036854775807) (b : Int) (hb : 0 ≤ b ∧ b ≤ 255) : Calls Tryz.prog 4 #[.slice A len cap, .int .i64 a, .int .u8 b] w fun e w' => e = .returned (.bool true) ∧ RowKit.Below w.heap.size w w' := walk w A len cap hB hl a ha b hb
end rekeyikeRefuses
end Go.Proofs.YtbfppnppijcnlaaGreat
