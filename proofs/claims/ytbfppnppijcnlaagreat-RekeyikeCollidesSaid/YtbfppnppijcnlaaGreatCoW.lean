/-
  The law RekeyikeCollides: every run of it returns true and changes nothing below.
  Conditions: none.
-/
import Derived.Test.YtbfppnppijcnlaaGreatCo
import Derived.Test.YtbfppnppijcnlaaGreatTwAll
import Derived.Test.YtbfppnppijcnlaaGreatCo0
import Derived.Test.YtbfppnppijcnlaaGreatCo1
import Derived.Test.YtbfppnppijcnlaaGreatCo2
namespace Go.Proofs.YtbfppnppijcnlaaGreat
namespace rekeyikeCollides
open Ab RowKit
set_option linter.unusedVariables false
set_option linter.unusedSimpArgs false
set_option maxRecDepth 100000
noncomputable def vLw (x : Value) (b : Int) : Nat → Value := fun j => if j = 0 then x else if j = 1 then .int .u8 b else .bool false
theorem vLw_one {A : Option Addr} {len cap : Nat} {b : Int} : ∀ i, (vLw (.slice A len cap) b i).oneCell' = true := by
  intro i
  unfold vLw
  split
  · rfl
  · split <;> rfl
theorem kdOf_lt : ∀ n, n < 24 → kdOf n < 16 := by
  intro n hn
  match n, hn with
  | 0, _ => exact of_decide_eq_true rfl
  | 1, _ => exact of_decide_eq_true rfl
  | 2, _ => exact of_decide_eq_true rfl
  | 3, _ => exact of_decide_eq_true rfl
  | 4, _ => exact of_decide_eq_true rfl
  | 5, _ => exact of_decide_eq_true rfl
  | 6, _ => exact of_decide_eq_true rfl
  | 7, _ => exact of_decide_eq_true rfl
  | 8, _ => exact of_decide_eq_true rfl
  | 9, _ => exact of_decide_eq_true rfl
  | 10, _ => exact of_decide_eq_true rfl
  | 11, _ => exact of_decide_eq_true rfl
  | 12, _ => exact of_decide_eq_true rfl
  | 13, _ => exact of_decide_eq_true rfl
  | 14, _ => exact of_decide_eq_true rfl
  | 15, _ => exact of_decide_eq_true rfl
  | 16, _ => exact of_decide_eq_true rfl
  | 17, _ => exact of_decide_eq_true rfl
  | 18, _ => exact of_decide_eq_true rfl
  | 19, _ => exact of_decide_eq_true rfl
  | 20, _ => exact of_decide_eq_true rfl
  | 21, _ => exact of_decide_eq_true rfl
  | 22, _ => exact of_decide_eq_true rfl
  | 23, _ => exact of_decide_eq_true rfl
  | n + 24, h => exact absurd h (by omega)
theorem jall : ∀ k, k < 16 → lwJ k = true := by
  intro k hk
  match k, hk with
  | 0, _ => exact lwJ0
  | 1, _ => exact lwJ1
  | 2, _ => exact lwJ2
  | 3, _ => exact lwJ3
  | 4, _ => exact lwJ4
  | 5, _ => exact lwJ5
  | 6, _ => exact lwJ6
  | 7, _ => exact lwJ7
  | 8, _ => exact lwJ8
  | 9, _ => exact lwJ9
  | 10, _ => exact lwJ10
  | 11, _ => exact lwJ11
  | 12, _ => exact lwJ12
  | 13, _ => exact lwJ13
  | 14, _ => exact lwJ14
  | 15, _ => exact lwJ15
  | k + 16, h => exact absurd h (by omega)
theorem tjOf_lt : ∀ k, k < 16 → tjOf k < 9 := by
  intro k hk
  match k, hk with
  | 0, _ => exact of_decide_eq_true rfl
  | 1, _ => exact of_decide_eq_true rfl
  | 2, _ => exact of_decide_eq_true rfl
  | 3, _ => exact of_decide_eq_true rfl
  | 4, _ => exact of_decide_eq_true rfl
  | 5, _ => exact of_decide_eq_true rfl
  | 6, _ => exact of_decide_eq_true rfl
  | 7, _ => exact of_decide_eq_true rfl
  | 8, _ => exact of_decide_eq_true rfl
  | 9, _ => exact of_decide_eq_true rfl
  | 10, _ => exact of_decide_eq_true rfl
  | 11, _ => exact of_decide_eq_true rfl
  | 12, _ => exact of_decide_eq_true rfl
  | 13, _ => exact of_decide_eq_true rfl
  | 14, _ => exact of_decide_eq_true rfl
  | 15, _ => exact of_decide_eq_true rfl
  | k + 16, h => exact absurd h (by omega)
theorem all0 : ∀ l1 l2 l3, lwOK 0 l1 l2 l3 = true
  | false, false, false => lwR0fff
  | false, false, true => lwR0fft
  | false, true, false => lwR0ftf
  | false, true, true => lwR0ftt
  | true, false, false => lwR0tff
  | true, false, true => lwR0tft
  | true, true, false => lwR0ttf
  | true, true, true => lwR0ttf
theorem all1 : ∀ l1 l2 l3, lwOK 1 l1 l2 l3 = true
  | false, false, false => lwR1fff
  | false, false, true => lwR1fft
  | false, true, false => lwR1ftf
  | false, true, true => lwR1ftt
  | true, false, false => lwR1tff
  | true, false, true => lwR1tft
  | true, true, false => lwR1ttf
  | true, true, true => lwR1ttf
theorem all2 : ∀ l1 l2 l3, lwOK 2 l1 l2 l3 = true
  | false, false, false => lwR2fff
  | false, false, true => lwR2fft
  | false, true, false => lwR2ftf
  | false, true, true => lwR2ftt
  | true, false, false => lwR2tff
  | true, false, true => lwR2tft
  | true, true, false => lwR2ttf
  | true, true, true => lwR2ttf
theorem all3 : ∀ l1 l2 l3, lwOK 3 l1 l2 l3 = true
  | false, false, false => lwR3fff
  | false, false, true => lwR3fft
  | false, true, false => lwR3ftf
  | false, true, true => lwR3ftt
  | true, false, false => lwR3tff
  | true, false, true => lwR3tft
  | true, true, false => lwR3ttf
  | true, true, true => lwR3ttf
theorem all4 : ∀ l1 l2 l3, lwOK 4 l1 l2 l3 = true
  | false, false, false => lwR4fff
  | false, false, true => lwR4fft
  | false, true, false => lwR4ftf
  | false, true, true => lwR4ftt
  | true, false, false => lwR4tff
  | true, false, true => lwR4tft
  | true, true, false => lwR4ttf
  | true, true, true => lwR4ttf
theorem all5 : ∀ l1 l2 l3, lwOK 5 l1 l2 l3 = true
  | false, false, false => lwR5fff
  | false, false, true => lwR5fft
  | false, true, false => lwR5ftf
  | false, true, true => lwR5ftt
  | true, false, false => lwR5tff
  | true, false, true => lwR5tft
  | true, true, false => lwR5ttf
  | true, true, true => lwR5ttf
theorem all6 : ∀ l1 l2 l3, lwOK 6 l1 l2 l3 = true
  | false, false, false => lwR6fff
  | false, false, true => lwR6fft
  | false, true, false => lwR6ftf
  | false, true, true => lwR6ftt
  | true, false, false => lwR6tff
  | true, false, true => lwR6tft
  | true, true, false => lwR6ttf
  | true, true, true => lwR6ttf
theorem all7 : ∀ l1 l2 l3, lwOK 7 l1 l2 l3 = true
  | false, false, false => lwR7fff
  | false, false, true => lwR7fft
  | false, true, false => lwR7ftf
  | false, true, true => lwR7ftt
  | true, false, false => lwR7tff
  | true, false, true => lwR7tft
  | true, true, false => lwR7ttf
  | true, true, true => lwR7ttf
theorem all8 : ∀ l1 l2 l3, lwOK 8 l1 l2 l3 = true
  | false, false, false => lwR8fff
  | false, false, true => lwR8fft
  | false, true, false => lwR8ftf
  | false, true, true => lwR8ftt
  | true, false, false => lwR8tff
  | true, false, true => lwR8tft
  | true, true, false => lwR8ttf
  | true, true, true => lwR8ttf
theorem allG : ∀ g, g < 9 → ∀ l1 l2 l3, lwOK g l1 l2 l3 = true := by
  intro g hg
  match g, hg with
  | 0, _ => exact all0
  | 1, _ => exact all1
  | 2, _ => exact all2
  | 3, _ => exact all3
  | 4, _ => exact all4
  | 5, _ => exact all5
  | 6, _ => exact all6
  | 7, _ => exact all7
  | 8, _ => exact all8
  | g + 9, h => exact absurd h (by omega)
theorem walk (w : World) (A : Option Addr) (len cap : Nat) (hB : Byts w A len) (hl : len ≤ cap ∧ cap ≤ maxLen) (b : Int) (hb : 0 ≤ b ∧ b ≤ 255) :
    Calls Tryz.prog 6 #[.slice A len cap, .int .u8 b] w fun e w' => e = .returned (.bool true) ∧ RowKit.Below w.heap.size w w' := by
  have args : F2 (VR (vLw (.slice A len cap) b) ρ0) lwArgs (#[.slice A len cap, .int .u8 b] : Array Value).toList := ⟨rfl, rfl, trivial⟩
  have hM : ∀ hl, lwM hl = true := fun hl => by cases hl; exact lwMF; exact lwMT
  have h0 := hM true
  unfold lwM at h0 hM
  split at h0
  · rename_i t1 s1 hpre
    split at h0
    · rename_i t2 hnew
      refine law3_ok (V0 := vLw (.slice A len cap) b) (E0 := E0n) (E := fun _ => E0n) (args := lwArgs) Tryz.func6 lwC_is args (by rw [Tryz.ntmps6]; show 2 ≤ _; omega) w rfl hB hl.1 hl.2 (most := 120) (by omega)
        (e0n_ok vLw_one).1 (e0n_ok vLw_one).2 (by kernel_rfl) lw_lin hpre hnew (fun hl q ga row hL b' p _ => e0n_ok (vL_one vLw_one b' p)) (fun hl => ?_)
      have hm := hM hl
      rw [hpre] at hm
      simp only [hnew] at hm
      refine ⟨t2, _, rfl, fun q ga row hL a' w' hh => ?_⟩
      refine law_two2 twRa twRb hL vLw_one hm (fun n hn V DK wK hV hN => ?_) hh
      have hk := kdOf_lt n hn
      have hg := tjOf_lt _ hk
      generalize hgg : tjOf (kdOf n) = g at hg
      have v1 : V 1 = .int .u8 b := hV 1 (by omega)
      obtain ⟨l1, l2, l3, htl⟩ := tl_class (V := V) (g := g) hb
      have hE := co_okK (V := V) (b := b) (DK := DK) (wK := wK) hb v1 hN.one htl
      have hj := jall _ hk
      unfold lwJ at hj
      rw [hgg] at hj
      simp only [Bool.and_eq_true] at hj
      exact ⟨VC V b, tjT pC (kdOf n), eCo g l1 l2 l3, _, _, _, _, _, rfl, fun j hj => (by
        have h1 : j + 1 ≤ 10000000 := Nat.le_of_ble_eq_true hj
        show VC V b j = V j
        unfold VC
        rw [if_neg (by omega)]), fun j x h => (by cases h), hj.1, hj.2, hE.1, hE.2, allG g hg l1 l2 l3⟩
    · cases h0
  · cases h0
theorem rekeyikeCollides_walk (w : World) (A : Option Addr) (len cap : Nat) (hB : Byts w A len) (hl : len ≤ cap ∧ cap ≤ maxLen) (b : Int) (hb : 0 ≤ b ∧ b ≤ 255) : Calls Tryz.prog 6 #[.slice A len cap, .int .u8 b] w fun e w' => e = .returned (.bool true) ∧ RowKit.Below w.heap.size w w' := walk w A len cap hB hl b hb
end rekeyikeCollides
end Go.Proofs.YtbfppnppijcnlaaGreat
