/-
  States by themselves: what holds here; code with contracts for its blocks; a state told anew under other numbers.
  Conditions: none.
-/
import Derived.Test.YtddiclnkfhldlaaAbsFn
namespace Go.Proofs.Ytddiclnkfhldlaa
namespace Ab
set_option linter.unusedVariables false
set_option linter.unusedSimpArgs false
open Go.RowKit
section
variable {P : Program} {V : Nat → Value} {E : Env}
/-- What holds here: the state tells the world; all its blocks are new since w0. -/
def Here (V : Nat → Value) (base : Nat) (w0 : World) (t : Sl) (s : St) (a : Act) (w : World) : Prop :=
  ∃ ρ, TR V ρ t a ∧ Rep V ρ s w ∧ (∀ i, s.next ≤ i → ρ.blk i = none) ∧ (∀ i, s.ncap ≤ i → ρ.cap i = none) ∧ (∀ i b, ρ.blk i = some b → base ≤ b) ∧ Below base w0 w ∧ base ≤ w.heap.size
theorem here_goes {base : Nat} {w0 w w' : World} {ρ ρ' : Rho} {t' : Sl} {s s' : St} {a' : Act} (hr : Rep V ρ s w) (h1 : ∀ i, s.next ≤ i → ρ.blk i = none) (h2 : ∀ i, s.ncap ≤ i → ρ.cap i = none) (h3 : ∀ i b, ρ.blk i = some b → base ≤ b) (h4 : Below base w0 w) (h5 : base ≤ w.heap.size)
    (hg : Goes V ρ s w s' w' ρ') (ht : TR V ρ' t' a') : Here V base w0 t' s' a' w' := by
  obtain ⟨g1, g2, g3⟩ := hg
  refine ⟨ρ', ht, g1, fun i hi => ?_, fun i hi => ?_, fun i b hb => ?_, h4.trans ⟨g2.os, g2.tape, g2.out, g2.size, fun k hk => g2.fr k (by omega) (fun i _ _ e => ?_)⟩, Nat.le_trans h5 g2.size⟩
  · rw [g2.blk i (.inr hi)]
    exact h1 i (Nat.le_trans g2.n hi)
  · rw [g2.cap i (.inr hi)]
    exact h2 i (Nat.le_trans g2.c hi)
  · by_cases hi : i < s.next ∨ s'.next ≤ i
    · rw [g2.blk i hi] at hb
      exact h3 i b hb
    · rcases g2.new i b (by omega) (by omega) hb with h | ⟨j, _, _, h⟩
      · omega
      · exact h3 j b h
  · have := h3 i k e
    omega
/-- A piece of code. -/
theorem code_here (hE : EnvOK P V E) (hx : ExtOK P V E) (m n : Nat) {c : Code} {t t' : Sl} {s s' : St} {e : AE} (h : codeA E (fnA E m) (drawA E (fnA E m)) n c t s = some (e, t', s')) {base : Nat} {w0 : World} {a : Act} {w : World} (hh : Here V base w0 t s a w)
    {Q : Exit → Act → World → Prop} (hQ : ∀ a' w', Here V base w0 t' s' a' w' → Q (AEx e) a' w') : c.wp P Q a w := by
  obtain ⟨ρ, ht, hr, h1, h2, h3, h4, h5⟩ := hh
  have hc := fnA_ok hE hx m
  have hf := fnA_fn (E := E) hx.fn m
  have hu := fnA_up (E := E) hx.up m
  refine (code_ok hE hc hf hu (draw_ok hE hc hf hu) (drawA_up hu) n).1 c h ht hr ⟨fun i hi _ => h1 i hi, fun i hi _ => h2 i hi⟩ Q ?_
  intro ρ' a' w' hg ht'
  exact hQ a' w' (here_goes hr h1 h2 h3 h4 h5 hg ht')
/-- The blocks of a number. -/
def blocksOf (id : Nat) : Code → List Code
  | .seq a b => blocksOf id a ++ blocksOf id b
  | .cond _ a b => blocksOf id a ++ blocksOf id b
  | .block j b => (bif Nat.beq j id then [b] else []) ++ blocksOf id b
  | .loop b => blocksOf id b
  | _ => []
/-- Code, with contracts for some blocks; no loop else. -/
def codeH (E : Env) (call : Call1) (hk : Nat → Sl → St → Option (AE × Sl × St)) : Code → Sl → St → Option (AE × Sl × St)
  | .seq a b, t, s => match codeH E call hk a t s with
    | some (.normal, t', s') => codeH E call hk b t' s'
    | r => r
  | .cond c a b, t, s => match eval t c with
    | .one (.c (.bool true)) => codeH E call hk a t s
    | .one (.c (.bool false)) => codeH E call hk b t s
    | _ => none
  | .block id b, t, s => match hk id t s with
    | some r => some r
    | none => match codeH E call hk b t s with
      | some (.exit j, t', s') => if j = id then some (.normal, t', s') else some (.exit j, t', s')
      | r => r
  | .loop _, _, _ => none
  | c, t, s => codeA E call (drawA E call) 2 c t s
def HookOK (P : Program) (V : Nat → Value) (base : Nat) (w0 : World) (c0 : Code) (hk : Nat → Sl → St → Option (AE × Sl × St)) : Prop :=
  ∀ id b, b ∈ blocksOf id c0 → ∀ t s e t' s', hk id t s = some (e, t', s') → ∀ a w, Here V base w0 t s a w → ∀ Q : Exit → Act → World → Prop, (∀ a' w', Here V base w0 t' s' a' w' → Q (AEx e) a' w') → (Code.block id b).wp P Q a w
theorem codeH_ok (hE : EnvOK P V E) (hx : ExtOK P V E) (m : Nat) {hk : Nat → Sl → St → Option (AE × Sl × St)} {base : Nat} {w0 : World} {c0 : Code} (hH : HookOK P V base w0 c0 hk) : ∀ (c : Code), (∀ id b, b ∈ blocksOf id c → (∃ b', b' ∈ blocksOf id c0 ∧ b' = b)) → ∀ {t t' : Sl} {s s' : St} {e : AE}, codeH E (fnA E m) hk c t s = some (e, t', s') →
    ∀ {a : Act} {w : World}, Here V base w0 t s a w → ∀ Q : Exit → Act → World → Prop, (∀ a' w', Here V base w0 t' s' a' w' → Q (AEx e) a' w') → c.wp P Q a w := by
  intro c
  induction c with
  | seq x y ihx ihy =>
    intro hb t t' s s' e h a w hh Q hQ
    simp only [codeH] at h
    refine wp_seq ?_
    have hbx : ∀ id b, b ∈ blocksOf id x → ∃ b', b' ∈ blocksOf id c0 ∧ b' = b := fun id b hm => hb id b (List.mem_append_left _ hm)
    have hby : ∀ id b, b ∈ blocksOf id y → ∃ b', b' ∈ blocksOf id c0 ∧ b' = b := fun id b hm => hb id b (List.mem_append_right _ hm)
    split at h
    · rename_i t1 s1 h1
      exact ihx hbx h1 hh _ (fun a1 w1 g1 => ihy hby h g1 Q hQ)
    · rename_i hne
      refine ihx hbx h hh _ (fun a1 w1 g1 => ?_)
      cases e with
      | normal => exact absurd h (hne _ _)
      | ret => exact hQ a1 w1 g1
      | exit id => exact hQ a1 w1 g1
  | cond b x y ihx ihy =>
    intro hb t t' s s' e h a w hh Q hQ
    simp only [codeH] at h
    obtain ⟨ρ, ht, rest⟩ := hh
    have hv := eval_ok ht b
    split at h
    · rename_i he
      rw [he] at hv
      have hv : a.eval b = .bool true := hv
      exact wp_cond hv (ihx (fun id b hm => hb id b (List.mem_append_left _ hm)) h ⟨ρ, ht, rest⟩ Q hQ)
    · rename_i he
      rw [he] at hv
      have hv : a.eval b = .bool false := hv
      exact wp_cond hv (ihy (fun id b hm => hb id b (List.mem_append_right _ hm)) h ⟨ρ, ht, rest⟩ Q hQ)
    · cases h
  | block id b ih =>
    intro hb t t' s s' e h a w hh Q hQ
    simp only [codeH] at h
    split at h
    · rename_i r hr
      simp only [Option.some.injEq] at h
      subst h
      obtain ⟨b', h1, rfl⟩ := hb id b (by simp [blocksOf])
      exact hH id b' h1 t s e t' s' hr a w hh Q hQ
    · refine wp_block ?_
      have hbb : ∀ id' b', b' ∈ blocksOf id' b → ∃ b'', b'' ∈ blocksOf id' c0 ∧ b'' = b' := by
        intro id' b' hm
        exact hb id' b' (List.mem_append_right _ hm)
      split at h
      · rename_i j t1 s1 h1
        split at h
        · rename_i hj
          simp only [Option.some.injEq, Prod.mk.injEq] at h
          obtain ⟨rfl, rfl, rfl⟩ := h
          refine ih hbb h1 hh _ (fun a1 w1 g1 => ?_)
          show (if j = id then _ else _)
          rw [if_pos hj]
          exact hQ a1 w1 g1
        · rename_i hj
          simp only [Option.some.injEq, Prod.mk.injEq] at h
          obtain ⟨rfl, rfl, rfl⟩ := h
          refine ih hbb h1 hh _ (fun a1 w1 g1 => ?_)
          show (if j = id then _ else _)
          rw [if_neg hj]
          exact hQ a1 w1 g1
      · rename_i hne
        refine ih hbb h hh _ (fun a1 w1 g1 => ?_)
        cases e with
        | normal => exact hQ a1 w1 g1
        | ret => exact hQ a1 w1 g1
        | exit id' => exact absurd h (hne _ _ _)
  | loop b ih =>
    intro hb t t' s s' e h
    simp [codeH] at h
  | skip => intro hb t t' s s' e h a w hh Q hQ; exact code_here hE hx m 2 h hh hQ
  | region _ _ _ => intro hb t t' s s' e h a w hh Q hQ; exact code_here hE hx m 2 h hh hQ
  | exit _ => intro hb t t' s s' e h a w hh Q hQ; exact code_here hE hx m 2 h hh hQ
  | ret => intro hb t t' s s' e h a w hh Q hQ; exact code_here hE hx m 2 h hh hQ
  | rangeFunc _ _ _ _ _ _ => intro hb t t' s s' e h a w hh Q hQ; exact code_here hE hx m 2 h hh hQ
  | scope _ _ => intro hb t t' s s' e h a w hh Q hQ; exact code_here hE hx m 2 h hh hQ
  | label _ => intro hb t t' s s' e h a w hh Q hQ; exact code_here hE hx m 2 h hh hQ
  | goto _ => intro hb t t' s s' e h a w hh Q hQ; exact code_here hE hx m 2 h hh hQ
  | refuse _ => intro hb t t' s s' e h a w hh Q hQ; exact code_here hE hx m 2 h hh hQ
end
end Ab
end Go.Proofs.Ytddiclnkfhldlaa
