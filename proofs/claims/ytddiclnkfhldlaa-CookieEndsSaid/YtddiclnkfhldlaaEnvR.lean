/-
  The environment with a contract for Next at a known place.
  Conditions: none.
-/
import Derived.Test.YtddiclnkfhldlaaMemo
namespace Go.Proofs.Ytddiclnkfhldlaa
namespace Ab
open Go.RowKit
set_option linter.unusedVariables false
set_option maxRecDepth 100000
/-- The environment with a contract for Next. -/
noncomputable def envR (tab : BinOp → AC → AC → Option AC) (cvt : IntKind → AC → Option AC) (oth : Nat → List AV → St → Option (AV × St)) (hl : Bool) (i0 i1 : Nat) (m r : Int) : Env :=
  env tab cvt (fun f args s => bif Nat.beq f 12 then nextE hl i0 i1 m r args s else oth f args s)
theorem nextE_up {hl : Bool} {i0 i1 : Nat} {m r : Int} {args : List AV} {s s' : St} {v : AV} (h : nextE hl i0 i1 m r args s = some (v, s')) : s.next ≤ s'.next ∧ s.ncap ≤ s'.ncap := by
  unfold nextE at h
  split at h
  · rename_i i m'
    cases hk : (Nat.beq i i0 && decide (m' = m) && codesIn hl i0 i1 s 902)
    · simp [hk] at h
    · simp only [hk, cond_true, Option.some.injEq, Prod.mk.injEq] at h
      obtain ⟨_, rfl⟩ := h
      exact ⟨Nat.le_refl _, Nat.le_refl _⟩
  · cases h
theorem envR_ext {V0 : Nat → Value} {q : Ls} {ga b p : Nat} {row : Array Value} {hl : Bool} {i0 i1 : Nat} {m : Int} {tab : BinOp → AC → AC → Option AC} {cvt : IntKind → AC → Option AC} {oth : Nat → List AV → St → Option (AV × St)} (hL : LsOK hl q ga row) (hp : p ≤ q.n) (hm0 : 1 ≤ m) (hm1 : m ≤ 1099511627776)
    (ho : ExtOK Try.prog (vL V0 q ga row b p) (env tab cvt oth)) : ExtOK Try.prog (vL V0 q ga row b p) (envR tab cvt oth hl i0 i1 m (dig q row p m)) := by
  have key : ∀ f args s v s', (envR tab cvt oth hl i0 i1 m (dig q row p m)).ext f args s = some (v, s') → (f = 12 ∧ nextE hl i0 i1 m (dig q row p m) args s = some (v, s')) ∨ oth f args s = some (v, s') := by
    intro f args s v s' h
    have h : (bif Nat.beq f 12 then nextE hl i0 i1 m (dig q row p m) args s else oth f args s) = some (v, s') := h
    cases hb : Nat.beq f 12
    · rw [hb] at h
      exact .inr h
    · rw [hb] at h
      exact .inl ⟨Nat.eq_of_beq_eq_true hb, h⟩
  refine ⟨?_, ?_, ?_⟩
  · intro f args s v s' h ρ w vals hv hr hf
    rcases key _ _ _ _ _ h with ⟨rfl, h⟩ | h
    · exact nextE_ok hL hp hm0 hm1 h hv hr
    · exact ho.ok f args s v s' h ρ w vals hv hr hf
  · intro f args s v s' h
    rcases key _ _ _ _ _ h with ⟨rfl, h⟩ | h
    · exact nextE_up h
    · exact ho.up f args s v s' h
  · intro f args s r h
    rcases key f args s r.1 r.2 h with ⟨rfl, h⟩ | h
    · exact ⟨Try.f12, by kernel_rfl⟩
    · exact ho.fn f args s r h
end Ab
end Go.Proofs.Ytddiclnkfhldlaa
