/-
  The law LivenessEnds, by the interpreter: the symbols (the argument, as an int, its remainder by 40) and their table.
  Conditions: none.
-/
import Derived.Test.YtoigigmjemnjpaaMod
namespace Go.Proofs.Ytoigigmjemnjpaa
namespace Ab
open Go.RowKit
set_option linter.unusedVariables false
def vE (a : Int) : Nat → Value
  | 0 => .int .u8 a
  | 1 => .int .i64 a
  | _ => .int .i64 (a.tmod 40)
def tabE (j : Int) : BinOp → AC → AC → Option AC
  | .rem, .sym 1, .int .i64 n => if n = 40 then some (.sym 2) else none
  | .leq, .int .i64 n, .sym 2 => if n % 5 = 0 then some (.bool (decide (n ≤ 5 * j))) else none
  | _, _, _ => none
def cvE : IntKind → AC → Option AC
  | .i64, .sym 0 => some (.sym 1)
  | _, _ => none
theorem vE_one (a : Int) (i : Nat) : (vE a i).oneCell' = true := by
  unfold vE
  split <;> rfl
theorem tabE_ok (a j : Int) (h0 : 0 ≤ a ∧ a ≤ 255) (hj : 5 * j ≤ a.tmod 40 ∧ a.tmod 40 ≤ 5 * j + 4) : ∀ op x y z, tabE j op x y = some z → ∀ ρ u v, CR (vE a) ρ x u → CR (vE a) ρ y v → ∃ k n k' n' c, u = .int k n ∧ v = .int k' n' ∧ CR (vE a) ρ z c ∧ ∀ xt, binOp op xt u v = .pure c := by
  intro op x y z h ρ u v hu hv
  unfold tabE at h
  split at h
  · split at h
    · rename_i n hn
      injection h with h
      subst h
      subst hn
      have hu : u = .int .i64 a := hu
      have hv : v = .int .i64 40 := hv
      subst hu; subst hv
      exact ⟨_, _, _, _, .int .i64 (a.tmod 40), rfl, rfl, rfl, fun xt => rfl⟩
    · cases h
  · split at h
    · rename_i n hn
      injection h with h
      subst h
      have hu : u = .int .i64 n := hu
      have hv : v = .int .i64 (a.tmod 40) := hv
      subst hu; subst hv
      refine ⟨_, _, _, _, .bool (decide (n ≤ 5 * j)), rfl, rfl, rfl, fun xt => ?_⟩
      refine bin_cmp ?_ xt
      simp only [cmpB, Option.some.injEq, decide_eq_decide]
      omega
    · cases h
  · cases h
theorem cvE_ok (a : Int) (h0 : 0 ≤ a ∧ a ≤ 255) : ∀ k i z, cvE k (.sym i) = some z → ∀ ρ, ∃ k' n, vE a i = .int k' n ∧ CR (vE a) ρ z (.int k (k.wrap n)) := by
  intro k i z h ρ
  unfold cvE at h
  split at h
  · rename_i he
    injection he with he
    subst he
    injection h with h
    subst h
    refine ⟨.u8, a, rfl, ?_⟩
    have e : IntKind.i64.wrap a = a := IntWalk.i64_in _ (by omega)
    rw [e]
    rfl
  · cases h
noncomputable def envE (j : Int) : Env := env (tabE j) cvE noExt
def argsE : List AV := [.one (.c (.sym 0))]
end Ab
end Go.Proofs.Ytoigigmjemnjpaa
