/-
  Two environments beside one another.
  Conditions: none.
-/
import Derived.Test.YtbfppnppijcnlaaGreatGat
namespace Go.Proofs.YtbfppnppijcnlaaGreat
namespace Ab
open Go.RowKit
set_option linter.unusedVariables false
set_option linter.unusedSimpArgs false
set_option maxRecDepth 100000
section
variable {P : Program} {V : Nat → Value} {DK : Nat → Prop} {wK : World}
theorem orK {e1 e2 : Nat → List AV → St → Option (AV × St)} (h1 : CallOK P V e1) (hb : ∀ f args s r, e1 f args s = some r → f < 1000000) (h2 : CallOKK DK wK P V e2) : CallOKK DK wK P V (orE e1 e2) := by
  refine ⟨fun f args s v s' hf6 h ρ w vals ha hr hf hk => ?_, fun k args v h ρ w vals ha hk => ?_⟩
  · unfold orE at h
    split at h
    · rename_i r hr'
      injection h with h
      subst h
      exact h1 f args s v s' hr' ρ w vals ha hr hf
    · exact h2.go f args s v s' hf6 h ρ w vals ha hr hf hk
  · refine h2.dp k args v ?_ ρ w vals ha hk
    unfold deepL at h ⊢
    split at h
    · rename_i i tl
      have e : orE e1 e2 (1000000 + k) (.one (.c (.sym i)) :: tl) ⟨[], 0, 0, []⟩ = e2 (1000000 + k) (.one (.c (.sym i)) :: tl) ⟨[], 0, 0, []⟩ := by
        unfold orE
        cases he : e1 (1000000 + k) (.one (.c (.sym i)) :: tl) ⟨[], 0, 0, []⟩ with
        | none => rfl
        | some r =>
          have := hb _ _ _ _ he
          omega
      rw [e] at h
      exact h
    · cases h
theorem orX {E1 E2 E : Env} (hfn : E.fn = E1.fn) (hfn2 : E.fn = E2.fn) (hE : E.ext = orE E1.ext E2.ext) (hb : ∀ f args s r, E1.ext f args s = some r → f < 1000000) (h1 : ExtOK P V E1) (h2 : ExtOKK DK wK P V E2) : ExtOKK DK wK P V E := by
  refine ⟨?_, ?_, ?_⟩
  · rw [hE]
    exact orK h1.ok hb h2.ok
  · rw [hE]
    intro f args s v s' h
    unfold orE at h
    split at h
    · rename_i r hr
      injection h with h
      subst h
      exact h1.up f args s v s' hr
    · exact h2.up f args s v s' h
  · intro f args s r hf h
    rw [hE] at h
    unfold orE at h
    split at h
    · rename_i r' hr
      rw [hfn]
      exact h1.fn f args s r' hr
    · rw [hfn2]
      exact h2.fn f args s r hf h
end
end Ab
end Go.Proofs.YtbfppnppijcnlaaGreat
