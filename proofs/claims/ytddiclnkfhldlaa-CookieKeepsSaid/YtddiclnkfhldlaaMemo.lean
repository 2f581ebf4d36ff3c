/-
  Calls whose arguments and result are literals, told once for all (a table for the interpreter).
  Conditions: none.
-/
import Derived.Test.YtddiclnkfhldlaaChL
namespace Go.Proofs.Ytddiclnkfhldlaa
namespace Ab
open Go.RowKit
set_option linter.unusedVariables false
set_option linter.unusedSimpArgs false
def litC : AC → AC → Bool
  | .int k a, .int k' b => decide (k = k') && (a == b)
  | .bool a, .bool b => a == b
  | .ptr none, .ptr none => true
  | .slice none n (.lit c), .slice none m (.lit d) => Nat.beq n m && Nat.beq c d
  | .nilFunc, .nilFunc => true
  | .nilIface, .nilIface => true
  | .fn a, .fn b => Nat.beq a b
  | _, _ => false
def litL : List AC → List AC → Bool
  | [], [] => true
  | x :: r, y :: s => litC x y && litL r s
  | _, _ => false
def lit1 : AV → AV → Bool
  | .one (.c x), .one (.c y) => litC x y
  | .one (.agg l), .one (.agg m) => litL l m
  | _, _ => false
def litA : List AV → List AV → Bool
  | [], [] => true
  | x :: r, y :: s => lit1 x y && litA r s
  | _, _ => false
section
variable {V : Nat → Value}
theorem litC_ok {x y : AC} {v : Value} {ρ ρ' : Rho} (h : litC x y = true) (hx : CR V ρ x v) : CR V ρ' y v := by
  unfold litC at h
  split at h
  · simp only [Bool.and_eq_true, decide_eq_true_eq, beq_iff_eq] at h
    obtain ⟨rfl, rfl⟩ := h
    exact hx
  · simp only [beq_iff_eq] at h
    subst h
    exact hx
  · exact hx
  · simp only [Bool.and_eq_true] at h
    have e1 := Nat.eq_of_beq_eq_true h.1
    have e2 := Nat.eq_of_beq_eq_true h.2
    subst e1
    subst e2
    exact hx
  · exact hx
  · exact hx
  · have e := Nat.eq_of_beq_eq_true h
    subst e
    exact hx
  · cases h
theorem litL_ok {ρ ρ' : Rho} : ∀ {x y : List AC} {v : List Value}, litL x y = true → F2 (CR V ρ) x v → F2 (CR V ρ') y v
  | [], [], [], _, _ => trivial
  | x :: r, y :: s, v :: vs, h, hx => by
    simp only [litL, Bool.and_eq_true] at h
    exact ⟨litC_ok h.1 hx.1, litL_ok h.2 hx.2⟩
  | [], _ :: _, _, h, _ => by cases h
  | _ :: _, [], _, h, _ => by cases h
  | [], [], _ :: _, _, h => h.elim
  | _ :: _, _ :: _, [], _, h => h.elim
theorem lit1_ok {x y : AV} {v : Value} {ρ ρ' : Rho} (h : lit1 x y = true) (hx : VR V ρ x v) : VR V ρ' y v := by
  unfold lit1 at h
  split at h
  · exact litC_ok h hx
  · obtain ⟨cs, h1, h2⟩ := hx
    exact ⟨cs, h1, litL_ok h h2⟩
  · cases h
theorem litA_ok {ρ ρ' : Rho} : ∀ {x y : List AV} {v : List Value}, litA x y = true → F2 (VR V ρ) x v → F2 (VR V ρ') y v
  | [], [], [], _, _ => trivial
  | x :: r, y :: s, v :: vs, h, hx => by
    simp only [litA, Bool.and_eq_true] at h
    exact ⟨lit1_ok h.1 hx.1, litA_ok h.2 hx.2⟩
  | [], _ :: _, _, h, _ => by cases h
  | _ :: _, [], _, h, _ => by cases h
  | [], [], _ :: _, _, h => h.elim
  | _ :: _, _ :: _, [], _, h => h.elim
/-- A world in which nothing that was known has changed. -/
theorem goes_same {ρ : Rho} {s : St} {w w' : World} (hr : Rep V ρ s w) (hb : RowKit.Below w.heap.size w w') : Goes V ρ s w s w' ρ := by
  refine ⟨⟨fun i B hB => ?_, hr.inj, fun i b h => Nat.lt_of_lt_of_le (hr.bnd i b h) hb.size, hr.lt⟩, ⟨fun _ _ => rfl, fun _ _ => rfl, Nat.le_refl _, Nat.le_refl _, fun _ h => h, fun b h _ => hb.block b h, fun i b h1 h2 => absurd h2 (by omega), fun j h => .inl h, fun _ _ h => h, hb.os, hb.tape, hb.output, hb.size⟩, Le.refl _⟩
  obtain ⟨b, cs, h1, h2, h3⟩ := hr.h i B hB
  exact ⟨b, cs, h1, (hb.block b (hr.bnd _ _ h1)).trans h2, h3⟩
end
structure Memo where
  f : Nat
  args : List AV
  res : AC
def memoE (tb : List Memo) : Nat → List AV → St → Option (AV × St) := fun f args s =>
  match tb with
  | [] => none
  | x :: r => bif Nat.beq x.f f && litA args x.args then some (.one (.c x.res), s) else memoE r f args s
/-- What an entry owes: one run. -/
noncomputable def memoOK (E : Env) (x : Memo) : Bool :=
  match fnA E 60 x.f x.args st0 with
  | some (.one (.c y), _) => litC y x.res && (E.fn x.f).isSome
  | _ => false
theorem memoE_mem : ∀ {tb : List Memo} {f : Nat} {args : List AV} {s s' : St} {v : AV}, memoE tb f args s = some (v, s') → ∃ x ∈ tb, x.f = f ∧ litA args x.args = true ∧ v = .one (.c x.res) ∧ s' = s
  | x :: r, f, args, s, s', v, h => by
    unfold memoE at h
    cases hk : (Nat.beq x.f f && litA args x.args)
    · simp only [hk, cond_false] at h
      obtain ⟨y, h1, h2⟩ := memoE_mem h
      exact ⟨y, List.mem_cons_of_mem _ h1, h2⟩
    · simp only [hk, cond_true, Option.some.injEq, Prod.mk.injEq] at h
      simp only [Bool.and_eq_true] at hk
      exact ⟨x, by simp, Nat.eq_of_beq_eq_true hk.1, hk.2, h.1.symm, h.2.symm⟩
  | [], f, args, s, s', v, h => by simp [memoE] at h
theorem memoE_ok {V : Nat → Value} {E E' : Env} (hE : EnvOK Try.prog V E) (hx : ExtOK Try.prog V E) {tb : List Memo} (h : ∀ x ∈ tb, memoOK E x = true) (h' : E'.ext = memoE tb) (hf : E'.fn = E.fn) : ExtOK Try.prog V E' := by
  refine ⟨?_, ?_, ?_⟩
  · intro f args s v s' hm ρ w vals hv hr hfr
    rw [h'] at hm
    obtain ⟨x, h1, rfl, h3, rfl, rfl⟩ := memoE_mem hm
    have hk := h x h1
    unfold memoOK at hk
    split at hk
    · rename_i y s1 hrun
      simp only [Bool.and_eq_true] at hk
      have hargs := litA_ok (ρ' := ρ0) h3 hv
      refine (fnA_ok hE hx 60 x.f x.args st0 _ s1 hrun ρ0 w vals hargs (rep0 w) ⟨fun _ _ _ => rfl, fun _ _ _ => rfl⟩).mono ?_
      rintro e w' ⟨c, ρ', rfl, hg, hc⟩
      exact ⟨c, ρ, rfl, goes_same hr (goes_below hg), litC_ok hk.1 hc⟩
    · cases hk
  · intro f args s v s' hm
    rw [h'] at hm
    obtain ⟨x, _, _, _, _, rfl⟩ := memoE_mem hm
    exact ⟨Nat.le_refl _, Nat.le_refl _⟩
  · intro f args s r hm
    rw [h'] at hm
    obtain ⟨x, h1, rfl, _⟩ := memoE_mem (s' := r.2) (v := r.1) hm
    have hk := h x h1
    unfold memoOK at hk
    split at hk
    · simp only [Bool.and_eq_true] at hk
      rw [hf]
      exact Option.isSome_iff_exists.1 hk.2
    · cases hk
end Ab
end Go.Proofs.Ytddiclnkfhldlaa
