/-
  What the laws of chapter 30 draw: gateways, terms, numbers.
  Conditions: none.
-/
import Derived.Test.YtddiclnkfhldlaaGwD
import Derived.Test.YtddiclnkfhldlaaTerm
import Derived.Test.YtddiclnkfhldlaaModM
import Derived.Test.YtddiclnkfhldlaaEnvR
namespace Go.Proofs.Ytddiclnkfhldlaa
namespace Ab
open Go.RowKit
set_option linter.unusedVariables false
set_option linter.unusedSimpArgs false
set_option maxRecDepth 100000
def termC : List AC := [.num .i64, .num .i64, .any]
/-- Term. -/
def termE (hl : Bool) (i0 i1 : Nat) (f : Nat) (args : List AV) (s : St) : Option (AV × St) :=
  match args with
  | [.one (.c (.ptr (some (i, 0)))), .one (.c (.int .i64 m))] => bif Nat.beq f 20 && (Nat.beq i i0 && (decide (1 ≤ m) && (decide (m ≤ 1000) && codesIn hl i0 i1 s 900))) then some (.one (.agg termC), codeOn s i0) else none
  | _ => none
section
variable {V0 : Nat → Value} {q : Ls} {ga b p : Nat} {row : Array Value} {hl : Bool} {i0 i1 : Nat}
theorem termE_ok (hL : LsOK hl q ga row) : CallOK Try.prog (vL V0 q ga row b p) (termE hl i0 i1) := by
  intro f args s v s' h ρ w vals hargs hr hf
  unfold termE at h
  split at h
  · rename_i i m
    cases hk : (Nat.beq f 20 && (Nat.beq i i0 && (decide (1 ≤ m) && (decide (m ≤ 1000) && codesIn hl i0 i1 s 900))))
    · simp [hk] at h
    · simp only [hk, cond_true, Option.some.injEq, Prod.mk.injEq] at h
      obtain ⟨rfl, rfl⟩ := h
      simp only [Bool.and_eq_true, decide_eq_true_eq] at hk
      obtain ⟨k0, k1, k2, k3, k4⟩ := hk
      have k0 := Nat.eq_of_beq_eq_true k0
      subst k0
      have k1 := Nat.eq_of_beq_eq_true k1
      subst k1
      obtain ⟨c0, c1⟩ := codesIn_ok k4
      obtain ⟨g, p', hb, hC⟩ := rep_some hL hr c0 c1
      have hvals : vals = #[.pointer (some ⟨g, 0, none⟩), .int .i64 m] := by
        apply Array.ext'
        match hl : vals.toList, hargs with
        | [x, y], hv =>
          obtain ⟨b', e0, e1⟩ := hv.1
          rw [hb] at e0
          injection e0 with e0
          subst e0
          have e2 : y = .int .i64 m := hv.2.1
          rw [e1, e2]
      subst hvals
      refine (cterm_any (m.toNat - 1) g q p' w m (by omega) (by omega) hC).mono ?_
      rintro e w' ⟨t, A, c, p2, rfl, _, _, _, hC', hg⟩
      exact ⟨_, ρ, rfl, go_codes hr c0 hb hg hC'.2.2.1 (pb_some hC'.1), _, rfl, ⟨_, rfl⟩, ⟨_, rfl⟩, rfl, trivial⟩
  · cases h
/-- Gateways, terms, numbers. -/
def extD (hl : Bool) (i0 i1 : Nat) : Nat → List AV → St → Option (AV × St) := orE (gwE hl i0 i1) (orE (termE hl i0 i1) (nextW hl i0 i1))
theorem extD_ok (hL : LsOK hl q ga row) (h1 : ∀ i, (V0 i).oneCell' = true) : CallOK Try.prog (vL V0 q ga row b p) (extD hl i0 i1) :=
  orE_ok (gwE_ok hL h1) (orE_ok (termE_ok hL) (nextW_ok hL))
end
end Ab
end Go.Proofs.Ytddiclnkfhldlaa
