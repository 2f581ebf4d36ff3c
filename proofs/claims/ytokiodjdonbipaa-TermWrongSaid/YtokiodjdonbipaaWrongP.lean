/-
  Terms that are not valid: the eleven of the law TermWrong, alone or in a list. No program.
  Conditions: none.
-/
import Derived.Test.YtokiodjdonbipaaValid
import Derived.Test.YtokiodjdonbipaaClone
namespace Go.Proofs.Ytokiodjdonbipaa.termWrong
open Go.RowKit Go.Sort
set_option linter.unusedVariables false
def badL (x y : Tm) (v : Int) : List Tm := [.mk 0 0 [], .mk 11 0 [], .mk 1 0 [x], .mk 2 (-v) [], .mk 3 v [], .mk 4 0 [], .mk 4 v [x], .mk 7 0 [x], .mk 7 v [x, y], .mk 8 (-v) [x], .mk 6 (-v) []]
theorem bad_len (x y : Tm) (v : Int) : (badL x y v).length = 11 := rfl
theorem bad_no {x y : Tm} {v : Int} (hv : 1 ≤ v) : ∀ t ∈ badL x y v, formsT t = false := by
  intro t ht
  have e2 : ¬ v = 0 := by omega
  have e3 : ¬ v ≤ 0 := by omega
  simp only [badL, List.mem_cons, List.not_mem_nil, or_false] at ht
  rcases ht with rfl | rfl | rfl | rfl | rfl | rfl | rfl | rfl | rfl | rfl | rfl <;> rw [formsT_mk] <;> simp [formN, e2, e3]
theorem valid_no {t : Tm} (h : formsT t = false) : validT t = false := by
  unfold validT
  rw [h]
  simp
theorem list_no {x t : Tm} (h : formsT t = false) : validT (.mk 3 0 [x, t]) = false := by
  refine valid_no ?_
  rw [formsT_mk, formsL_cons, formsL_cons, h]
  simp
theorem shared_yes {x y : Tm} {d : Nat} (hx : Fine d x) (hy : Fine d y) (hd : d ≤ 3) (h : lessT y x = false) : validT (.mk 5 0 [x, y]) = true := by
  have hf := fine_shared hx hy h
  have h3 := hf.depth
  have h4 := Nat.le_trans hf.nodes (nb_mono (Nat.succ_le_succ hd))
  simp [nb] at h4
  unfold validT
  simp [hf.forms]
  omega
theorem shared_turned {x y : Tm} {d : Nat} (hx : Fine d x) (hy : Fine d y) (hd : d ≤ 3) (h : lessT y x = false) : validT (.mk 5 0 [y, x]) = equT x y := by
  cases he : equT x y
  · refine valid_no ?_
    have hl : lessT x y = true := by
      cases hl : lessT x y
      · rw [lessT_total hl h] at he
        cases he
      · rfl
    rw [formsT_mk]
    simp [formN, hl]
  · have := equT_iff.1 he
    subst this
    exact shared_yes hx hy hd h
/-- The eleven terms, flat. -/
theorem bad_flat {S : Nat → Prop} {w : World} {x y : Tm} {v : Int} {A1 A2 A3 A4 A5 : Option Addr} {c1 c2 c3 c4 c5 : Nat} (hv : 1 ≤ v ∧ v ≤ 1000)
    (h1 : TrS S w (.mk 1 0 [x]) A1 c1) (h2 : TrS S w (.mk 4 v [x]) A2 c2) (h3 : TrS S w (.mk 7 0 [x]) A3 c3) (h4 : TrS S w (.mk 7 v [x, y]) A4 c4) (h5 : TrS S w (.mk 8 (-v) [x]) A5 c5) :
    Flat S w (badL x y v) [.int .i64 0, .int .i64 0, .slice none 0 0, .int .i64 11, .int .i64 0, .slice none 0 0, .int .i64 1, .int .i64 0, .slice A1 1 c1, .int .i64 2, .int .i64 (-v), .slice none 0 0, .int .i64 3, .int .i64 v, .slice none 0 0, .int .i64 4, .int .i64 0, .slice none 0 0, .int .i64 4, .int .i64 v, .slice A2 1 c2, .int .i64 7, .int .i64 0, .slice A3 1 c3, .int .i64 7, .int .i64 v, .slice A4 2 c4, .int .i64 8, .int .i64 (-v), .slice A5 1 c5, .int .i64 6, .int .i64 (-v), .slice none 0 0] := by
  have f : ∀ n : Int, -1000 ≤ n → n ≤ 1000 → fits n := fun n h0 h1 => by unfold fits; omega
  have l : ∀ o n : Int, -1000 ≤ o → o ≤ 1000 → -1000 ≤ n → n ≤ 1000 → TrS S w (.mk o n []) none 0 := fun o n p0 p1 p2 p3 => TrS.leaf _ _ _ _ _ _ (f o p0 p1) (f n p2 p3) (Nat.zero_le _)
  exact .cons (l 0 0 (by omega) (by omega) (by omega) (by omega)) (.cons (l 11 0 (by omega) (by omega) (by omega) (by omega)) (.cons h1 (.cons (l 2 (-v) (by omega) (by omega) (by omega) (by omega)) (.cons (l 3 v (by omega) (by omega) (by omega) (by omega)) (.cons (l 4 0 (by omega) (by omega) (by omega) (by omega)) (.cons h2 (.cons h3 (.cons h4 (.cons h5 (.cons (l 6 (-v) (by omega) (by omega) (by omega) (by omega)) .nil))))))))))
end Go.Proofs.Ytokiodjdonbipaa.termWrong
