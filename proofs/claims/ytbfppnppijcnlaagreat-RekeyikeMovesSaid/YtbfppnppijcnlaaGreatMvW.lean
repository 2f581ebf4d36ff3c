/-
  The law RekeyikeMoves: every run of it returns true and changes nothing below.
  Conditions: none.
-/
import Derived.Test.YtbfppnppijcnlaaGreatLw
import Derived.Test.YtbfppnppijcnlaaGreatTwAll
import Derived.Test.YtbfppnppijcnlaaGreatMv0
import Derived.Test.YtbfppnppijcnlaaGreatMv1
import Derived.Test.YtbfppnppijcnlaaGreatMv2
import Derived.Test.YtbfppnppijcnlaaGreatMv3
namespace Go.Proofs.YtbfppnppijcnlaaGreat
namespace rekeyikeMoves
open Ab RowKit
set_option linter.unusedVariables false
set_option maxRecDepth 100000
noncomputable def vLw (x : Value) : Nat → Value := fun j => if j = 0 then x else .bool false
theorem vLw_one {A : Option Addr} {len cap : Nat} : ∀ i, (vLw (.slice A len cap) i).oneCell' = true := by
  intro i
  unfold vLw
  split <;> rfl
theorem kdOf_lt : ∀ n, n < 24 → kdOf n < 16 := by
  intro n hn
  match n, hn with
  | 0, _ => exact of_decide_eq_true rfl
  | 1, _ => exact of_decide_eq_true rfl
  | 2, _ => exact of_decide_eq_true rfl
  | 3, _ => exact of_decide_eq_true rfl
  | 4, _ => exact of_decide_eq_true rfl
  | 5, _ => exact of_decide_eq_true rfl
  | 6, _ => exact of_decide_eq_true rfl
  | 7, _ => exact of_decide_eq_true rfl
  | 8, _ => exact of_decide_eq_true rfl
  | 9, _ => exact of_decide_eq_true rfl
  | 10, _ => exact of_decide_eq_true rfl
  | 11, _ => exact of_decide_eq_true rfl
  | 12, _ => exact of_decide_eq_true rfl
  | 13, _ => exact of_decide_eq_true rfl
  | 14, _ => exact of_decide_eq_true rfl
  | 15, _ => exact of_decide_eq_true rfl
  | 16, _ => exact of_decide_eq_true rfl
  | 17, _ => exact of_decide_eq_true rfl
  | 18, _ => exact of_decide_eq_true rfl
  | 19, _ => exact of_decide_eq_true rfl
  | 20, _ => exact of_decide_eq_true rfl
  | 21, _ => exact of_decide_eq_true rfl
  | 22, _ => exact of_decide_eq_true rfl
  | 23, _ => exact of_decide_eq_true rfl
  | n + 24, h => exact absurd h (by omega)
theorem allF : ∀ k, k < 16 → lwOKF k = true := by
  intro k hk
  match k, hk with
  | 0, _ => exact lwRF_0
  | 1, _ => exact lwRF_1
  | 2, _ => exact lwRF_2
  | 3, _ => exact lwRF_3
  | 4, _ => exact lwRF_4
  | 5, _ => exact lwRF_5
  | 6, _ => exact lwRF_6
  | 7, _ => exact lwRF_7
  | 8, _ => exact lwRF_8
  | 9, _ => exact lwRF_9
  | 10, _ => exact lwRF_10
  | 11, _ => exact lwRF_11
  | 12, _ => exact lwRF_12
  | 13, _ => exact lwRF_13
  | 14, _ => exact lwRF_14
  | 15, _ => exact lwRF_15
  | k + 16, h => exact absurd h (by omega)
theorem walkF (w : World) (A : Option Addr) (len cap : Nat) (hB : Byts w A len) (hl : len ≤ cap ∧ cap ≤ maxLen) :
    Calls Tryz.prog 3 #[.slice A len cap, .bool false] w fun e w' => e = .returned (.bool true) ∧ RowKit.Below w.heap.size w w' := by
  have args : F2 (VR (vLw (.slice A len cap)) ρ0) [.one (.c (.sym 0)), .one (.c (.bool false))] (#[.slice A len cap, .bool false] : Array Value).toList := ⟨rfl, rfl, trivial⟩
  have hM : ∀ hl, lwMF hl = true := fun hl => by cases hl; exact lwMFF; exact lwMFT
  have h0 := hM true
  unfold lwMF at h0 hM
  split at h0
  · rename_i t1 s1 hpre
    split at h0
    · rename_i t2 hnew
      refine law3_ok (V0 := vLw (.slice A len cap)) (E0 := E0n) (E := fun _ => E0n) (args := [.one (.c (.sym 0)), .one (.c (.bool false))]) Tryz.func3 lwC_is args (by rw [Tryz.ntmps3]; show 2 ≤ _; omega) w rfl hB hl.1 hl.2 (most := 120) (by omega)
        (e0n_ok vLw_one).1 (e0n_ok vLw_one).2 (by kernel_rfl) lw_lin hpre hnew (fun hl q ga row hL b p _ => e0n_ok (vL_one vLw_one b p)) (fun hl => ?_)
      have hm := hM hl
      rw [hpre] at hm
      simp only [hnew] at hm
      refine ⟨t2, _, rfl, fun q ga row hL a w' hh => ?_⟩
      refine law_two twRa twRb hL vLw_one hm (fun n hn V DK wK hV hN => ?_) hh
      have hE := netM_okK (tab := noTab) (fun op a b z h => (by cases h)) hN
      exact ⟨eMid noTab, hE.1, hE.2, allF _ (kdOf_lt n hn)⟩
    · cases h0
  · cases h0
theorem allT : ∀ k, k < 16 → lwOKT k = true := by
  intro k hk
  match k, hk with
  | 0, _ => exact lwRT_0
  | 1, _ => exact lwRT_1
  | 2, _ => exact lwRT_2
  | 3, _ => exact lwRT_3
  | 4, _ => exact lwRT_4
  | 5, _ => exact lwRT_5
  | 6, _ => exact lwRT_6
  | 7, _ => exact lwRT_7
  | 8, _ => exact lwRT_8
  | 9, _ => exact lwRT_9
  | 10, _ => exact lwRT_10
  | 11, _ => exact lwRT_11
  | 12, _ => exact lwRT_12
  | 13, _ => exact lwRT_13
  | 14, _ => exact lwRT_14
  | 15, _ => exact lwRT_15
  | k + 16, h => exact absurd h (by omega)
theorem walkT (w : World) (A : Option Addr) (len cap : Nat) (hB : Byts w A len) (hl : len ≤ cap ∧ cap ≤ maxLen) :
    Calls Tryz.prog 3 #[.slice A len cap, .bool true] w fun e w' => e = .returned (.bool true) ∧ RowKit.Below w.heap.size w w' := by
  have args : F2 (VR (vLw (.slice A len cap)) ρ0) [.one (.c (.sym 0)), .one (.c (.bool true))] (#[.slice A len cap, .bool true] : Array Value).toList := ⟨rfl, rfl, trivial⟩
  have hM : ∀ hl, lwMT hl = true := fun hl => by cases hl; exact lwMTF; exact lwMTT
  have h0 := hM true
  unfold lwMT at h0 hM
  split at h0
  · rename_i t1 s1 hpre
    split at h0
    · rename_i t2 hnew
      refine law3_ok (V0 := vLw (.slice A len cap)) (E0 := E0n) (E := fun _ => E0n) (args := [.one (.c (.sym 0)), .one (.c (.bool true))]) Tryz.func3 lwC_is args (by rw [Tryz.ntmps3]; show 2 ≤ _; omega) w rfl hB hl.1 hl.2 (most := 120) (by omega)
        (e0n_ok vLw_one).1 (e0n_ok vLw_one).2 (by kernel_rfl) lw_lin hpre hnew (fun hl q ga row hL b p _ => e0n_ok (vL_one vLw_one b p)) (fun hl => ?_)
      have hm := hM hl
      rw [hpre] at hm
      simp only [hnew] at hm
      refine ⟨t2, _, rfl, fun q ga row hL a w' hh => ?_⟩
      refine law_two twRa twRb hL vLw_one hm (fun n hn V DK wK hV hN => ?_) hh
      have hE := netM_okK (tab := noTab) (fun op a b z h => (by cases h)) hN
      exact ⟨eMid noTab, hE.1, hE.2, allT _ (kdOf_lt n hn)⟩
    · cases h0
  · cases h0
theorem rekeyikeMoves_walk (w : World) (A : Option Addr) (len cap : Nat) (hB : Byts w A len) (hl : len ≤ cap ∧ cap ≤ maxLen) (a1 : Bool) : Calls Tryz.prog 3 #[.slice A len cap, .bool a1] w fun e w' => e = .returned (.bool true) ∧ RowKit.Below w.heap.size w w' := by
  cases a1
  · exact walkF w A len cap hB hl
  · exact walkT w A len cap hB hl
end rekeyikeMoves
end Go.Proofs.YtbfppnppijcnlaaGreat
