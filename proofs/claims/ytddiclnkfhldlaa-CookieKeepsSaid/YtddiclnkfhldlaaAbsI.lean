/-
  States by themselves: what holds here; code with contracts for its blocks; a state told anew under other numbers.
  Conditions: none.
-/
import Derived.Test.YtddiclnkfhldlaaAbsFn
namespace Go.Proofs.Ytddiclnkfhldlaa
namespace Ab
set_option linter.unusedVariables false
set_option linter.unusedSimpArgs false
open Go.RowKit
section
variable {P : Program} {V : Nat → Value} {E : Env}
/-- What holds here: the state tells the world; all its blocks are new since w0. -/
def Here (V : Nat → Value) (base : Nat) (w0 : World) (t : Sl) (s : St) (a : Act) (w : World) : Prop :=
  ∃ ρ, TR V ρ t a ∧ Rep V ρ s w ∧ (∀ i, s.next ≤ i → ρ.blk i = none) ∧ (∀ i, s.ncap ≤ i → ρ.cap i = none) ∧ (∀ i b, ρ.blk i = some b → base ≤ b) ∧ Below base w0 w ∧ base ≤ w.heap.size
theorem here_goes {base : Nat} {w0 w w' : World} {ρ ρ' : Rho} {t' : Sl} {s s' : St} {a' : Act} (hr : Rep V ρ s w) (h1 : ∀ i, s.next ≤ i → ρ.blk i = none) (h2 : ∀ i, s.ncap ≤ i → ρ.cap i = none) (h3 : ∀ i b, ρ.blk i = some b → base ≤ b) (h4 : Below base w0 w) (h5 : base ≤ w.heap.size)
    (hg : Goes V ρ s w s' w' ρ') (ht : TR V ρ' t' a') : Here V base w0 t' s' a' w' := by
  obtain ⟨g1, g2, g3⟩ := hg
  refine ⟨ρ', ht, g1, fun i hi => ?_, fun i hi => ?_, fun i b hb => ?_, h4.trans ⟨g2.os, g2.tape, g2.out, g2.size, fun k hk => g2.fr k (by omega) (fun i _ _ e => ?_)⟩, Nat.le_trans h5 g2.size⟩
  · rw [g2.blk i (.inr hi)]
    exact h1 i (Nat.le_trans g2.n hi)
  · rw [g2.cap i (.inr hi)]
    exact h2 i (Nat.le_trans g2.c hi)
  · by_cases hi : i < s.next ∨ s'.next ≤ i
    · rw [g2.blk i hi] at hb
      exact h3 i b hb
    · rcases g2.new i b (by omega) (by omega) hb with h | ⟨j, _, _, h⟩
      · omega
      · exact h3 j b h
  · have := h3 i k e
    omega
/-- A piece of code. -/
theorem code_here (hE : EnvOK P V E) (hx : ExtOK P V E) (m n : Nat) {c : Code} {t t' : Sl} {s s' : St} {e : AE} (h : codeA E (fnA E m) (drawA E (fnA E m)) n c t s = some (e, t', s')) {base : Nat} {w0 : World} {a : Act} {w : World} (hh : Here V base w0 t s a w)
    {Q : Exit → Act → World → Prop} (hQ : ∀ a' w', Here V base w0 t' s' a' w' → Q (AEx e) a' w') : c.wp P Q a w := by
  obtain ⟨ρ, ht, hr, h1, h2, h3, h4, h5⟩ := hh
  have hc := fnA_ok hE hx m
  have hf := fnA_fn (E := E) hx.fn m
  have hu := fnA_up (E := E) hx.up m
  refine (code_ok hE hc hf hu (draw_ok hE hc hf hu) (drawA_up hu) n).1 c h ht hr ⟨fun i hi _ => h1 i hi, fun i hi _ => h2 i hi⟩ Q ?_
  intro ρ' a' w' hg ht'
  exact hQ a' w' (here_goes hr h1 h2 h3 h4 h5 hg ht')
/-- The blocks of a number. -/
def blocksOf (id : Nat) : Code → List Code
  | .seq a b => blocksOf id a ++ blocksOf id b
  | .cond _ a b => blocksOf id a ++ blocksOf id b
  | .block j b => (bif Nat.beq j id then [b] else []) ++ blocksOf id b
  | .loop b => blocksOf id b
  | _ => []
/-- Code, with contracts for some blocks; no loop else. -/
def codeH (E : Env) (call : Call1) (hk : Nat → Sl → St → Option (AE × Sl × St)) : Code → Sl → St → Option (AE × Sl × St)
  | .seq a b, t, s => match codeH E call hk a t s with
    | some (.normal, t', s') => codeH E call hk b t' s'
    | r => r
  | .cond c a b, t, s => match eval t c with
    | .one (.c (.bool true)) => codeH E call hk a t s
    | .one (.c (.bool false)) => codeH E call hk b t s
    | _ => none
  | .block id b, t, s => match hk id t s with
    | some r => some r
    | none => match codeH E call hk b t s with
      | some (.exit j, t', s') => if j = id then some (.normal, t', s') else some (.exit j, t', s')
      | r => r
  | .loop _, _, _ => none
  | c, t, s => codeA E call (drawA E call) 2 c t s
def HookOK (P : Program) (V : Nat → Value) (base : Nat) (w0 : World) (c0 : Code) (hk : Nat → Sl → St → Option (AE × Sl × St)) : Prop :=
  ∀ id b, b ∈ blocksOf id c0 → ∀ t s e t' s', hk id t s = some (e, t', s') → ∀ a w, Here V base w0 t s a w → ∀ Q : Exit → Act → World → Prop, (∀ a' w', Here V base w0 t' s' a' w' → Q (AEx e) a' w') → (Code.block id b).wp P Q a w
theorem codeH_ok (hE : EnvOK P V E) (hx : ExtOK P V E) (m : Nat) {hk : Nat → Sl → St → Option (AE × Sl × St)} {base : Nat} {w0 : World} {c0 : Code} (hH : HookOK P V base w0 c0 hk) : ∀ (c : Code), (∀ id b, b ∈ blocksOf id c → (∃ b', b' ∈ blocksOf id c0 ∧ b' = b)) → ∀ {t t' : Sl} {s s' : St} {e : AE}, codeH E (fnA E m) hk c t s = some (e, t', s') →
    ∀ {a : Act} {w : World}, Here V base w0 t s a w → ∀ Q : Exit → Act → World → Prop, (∀ a' w', Here V base w0 t' s' a' w' → Q (AEx e) a' w') → c.wp P Q a w := by
  intro c
  induction c with
  | seq x y ihx ihy =>
    intro hb t t' s s' e h a w hh Q hQ
    simp only [codeH] at h
    refine wp_seq ?_
    have hbx : ∀ id b, b ∈ blocksOf id x → ∃ b', b' ∈ blocksOf id c0 ∧ b' = b := fun id b hm => hb id b (List.mem_append_left _ hm)
    have hby : ∀ id b, b ∈ blocksOf id y → ∃ b', b' ∈ blocksOf id c0 ∧ b' = b := fun id b hm => hb id b (List.mem_append_right _ hm)
    split at h
    · rename_i t1 s1 h1
      exact ihx hbx h1 hh _ (fun a1 w1 g1 => ihy hby h g1 Q hQ)
    · rename_i hne
      refine ihx hbx h hh _ (fun a1 w1 g1 => ?_)
      cases e with
      | normal => exact absurd h (hne _ _)
      | ret => exact hQ a1 w1 g1
      | exit id => exact hQ a1 w1 g1
  | cond b x y ihx ihy =>
    intro hb t t' s s' e h a w hh Q hQ
    simp only [codeH] at h
    obtain ⟨ρ, ht, rest⟩ := hh
    have hv := eval_ok ht b
    split at h
    · rename_i he
      rw [he] at hv
      have hv : a.eval b = .bool true := hv
      exact wp_cond hv (ihx (fun id b hm => hb id b (List.mem_append_left _ hm)) h ⟨ρ, ht, rest⟩ Q hQ)
    · rename_i he
      rw [he] at hv
      have hv : a.eval b = .bool false := hv
      exact wp_cond hv (ihy (fun id b hm => hb id b (List.mem_append_right _ hm)) h ⟨ρ, ht, rest⟩ Q hQ)
    · cases h
  | block id b ih =>
    intro hb t t' s s' e h a w hh Q hQ
    simp only [codeH] at h
    split at h
    · rename_i r hr
      simp only [Option.some.injEq] at h
      subst h
      obtain ⟨b', h1, rfl⟩ := hb id b (by simp [blocksOf])
      exact hH id b' h1 t s e t' s' hr a w hh Q hQ
    · refine wp_block ?_
      have hbb : ∀ id' b', b' ∈ blocksOf id' b → ∃ b'', b'' ∈ blocksOf id' c0 ∧ b'' = b' := by
        intro id' b' hm
        exact hb id' b' (List.mem_append_right _ hm)
      split at h
      · rename_i j t1 s1 h1
        split at h
        · rename_i hj
          simp only [Option.some.injEq, Prod.mk.injEq] at h
          obtain ⟨rfl, rfl, rfl⟩ := h
          refine ih hbb h1 hh _ (fun a1 w1 g1 => ?_)
          show (if j = id then _ else _)
          rw [if_pos hj]
          exact hQ a1 w1 g1
        · rename_i hj
          simp only [Option.some.injEq, Prod.mk.injEq] at h
          obtain ⟨rfl, rfl, rfl⟩ := h
          refine ih hbb h1 hh _ (fun a1 w1 g1 => ?_)
          show (if j = id then _ else _)
          rw [if_neg hj]
          exact hQ a1 w1 g1
      · rename_i hne
        refine ih hbb h hh _ (fun a1 w1 g1 => ?_)
        cases e with
        | normal => exact hQ a1 w1 g1
        | ret => exact hQ a1 w1 g1
        | exit id' => exact absurd h (hne _ _ _)
  | loop b ih =>
    intro hb t t' s s' e h
    simp [codeH] at h
  | skip => intro hb t t' s s' e h a w hh Q hQ; exact code_here hE hx m 2 h hh hQ
  | region _ _ _ => intro hb t t' s s' e h a w hh Q hQ; exact code_here hE hx m 2 h hh hQ
  | exit _ => intro hb t t' s s' e h a w hh Q hQ; exact code_here hE hx m 2 h hh hQ
  | ret => intro hb t t' s s' e h a w hh Q hQ; exact code_here hE hx m 2 h hh hQ
  | rangeFunc _ _ _ _ _ _ => intro hb t t' s s' e h a w hh Q hQ; exact code_here hE hx m 2 h hh hQ
  | scope _ _ => intro hb t t' s s' e h a w hh Q hQ; exact code_here hE hx m 2 h hh hQ
  | label _ => intro hb t t' s s' e h a w hh Q hQ; exact code_here hE hx m 2 h hh hQ
  | goto _ => intro hb t t' s s' e h a w hh Q hQ; exact code_here hE hx m 2 h hh hQ
  | refuse _ => intro hb t t' s s' e h a w hh Q hQ; exact code_here hE hx m 2 h hh hQ
end
end Ab
end Go.Proofs.Ytddiclnkfhldlaa
namespace Go.Proofs.Ytddiclnkfhldlaa
namespace Ab
set_option linter.unusedVariables false
set_option linter.unusedSimpArgs false
open Go.RowKit
def lkN : List (Nat × Nat) → Nat → Option Nat
  | [], _ => none
  | x :: r, i => bif Nat.beq x.1 i then some x.2 else lkN r i
def isN (o : Option Nat) (i : Nat) : Bool := match o with | some j => Nat.beq j i | none => false
theorem isN_eq {o : Option Nat} {i : Nat} (h : isN o i = true) : o = some i := by
  unfold isN at h
  split at h
  · rw [Nat.eq_of_beq_eq_true h]
  · cases h
def subCap (fc : List (Nat × Nat)) : Cap → Cap → Bool
  | .lit a, .lit b => Nat.beq a b
  | .sym i, .sym j => isN (lkN fc j) i
  | _, _ => false
def subC (f fc : List (Nat × Nat)) : AC → AC → Bool
  | _, .any => true
  | .int k a, .int k' b => decide (k = k') && (a == b)
  | .bool a, .bool b => a == b
  | .sym i, .sym j => Nat.beq i j
  | .ptr none, .ptr none => true
  | .ptr (some (i, o)), .ptr (some (j, p)) => Nat.beq o p && isN (lkN f j) i
  | .slice none n c, .slice none m d => Nat.beq n m && subCap fc c d
  | .slice (some (i, o)) n c, .slice (some (j, p)) m d => Nat.beq o p && Nat.beq n m && isN (lkN f j) i && subCap fc c d
  | .void, .void => true
  | .nilFunc, .nilFunc => true
  | .nilIface, .nilIface => true
  | .fn a, .fn b => Nat.beq a b
  | .int k _, .num k' => decide (k = k')
  | .num k, .num k' => decide (k = k')
  | .bool _, .bo => true
  | .bo, .bo => true
  | .str a, .str b => decide (a = b)
  | .int k n, .rng m => decide (k = .i64) && (decide (0 ≤ n) && decide (n < m))
  | .rng n, .rng m => Nat.ble n m
  | .rng n, .num k => decide (k = .i64)
  | .int k n, .ivl k' lo hi => decide (k = k') && (decide (lo ≤ n) && decide (n ≤ hi))
  | .ivl k a b, .ivl k' lo hi => decide (k = k') && (decide (lo ≤ a) && decide (b ≤ hi))
  | .rng m, .ivl k' lo hi => decide (k' = .i64) && (decide (lo ≤ 0) && decide ((m : Int) - 1 ≤ hi))
  | .ivl k _ _, .num k' => decide (k = k')
  | .tag c i, .tag d j => Nat.beq i j && isN (lkN fc d) c
  | .tag _ i, .num k => decide (k = tagK i)
  | .nat c m, .nat d m' => Nat.ble m m' && isN (lkN fc d) c
  | .nat _ m, .rng m' => Nat.ble m m'
  | .nat _ _, .num k => decide (k = .i64)
  | .nat _ m, .ivl k' lo hi => decide (k' = .i64) && (decide (lo ≤ 0) && decide ((m : Int) - 1 ≤ hi))
  | .cv c, .cv d => isN (lkN fc d) c
  | _, _ => false
def subL (f fc : List (Nat × Nat)) : List AC → List AC → Bool
  | [], [] => true
  | x :: r, y :: s => subC f fc x y && subL f fc r s
  | _, _ => false
def sub1 (f fc : List (Nat × Nat)) : A1 → A1 → Bool
  | .c x, .c y => subC f fc x y
  | .agg l, .agg m => subL f fc l m
  | _, _ => false
def subV (f fc : List (Nat × Nat)) : AV → AV → Bool
  | _, .any => true
  | .undef, .undef => true
  | .one x, .one y => sub1 f fc x y
  | _, _ => false
def subT (f fc : List (Nat × Nat)) (t u : Sl) : Nat → Bool
  | 0 => true
  | d + 1 => subV f fc (lget t d) (lget u d) && subT f fc t u d
def subM (fc : List (Nat × Nat)) : Option (Nat × Nat) → Option (Nat × Nat) → Bool
  | none, none => true
  | some (c, z), some (d, y) => Nat.beq z y && (bif Nat.beq z 0 then Nat.beq c d else isN (lkN fc d) c)
  | _, _ => false
def subH (f fc : List (Nat × Nat)) (H : List (Nat × Blk)) : List (Nat × Blk) → Bool
  | [] => true
  | x :: r => (match lkN f x.1 with
    | some i => (match look H i with
      | some B => Nat.beq B.ty x.2.ty && subL f fc B.cells x.2.cells && subM fc B.more x.2.more
      | none => false)
    | none => false) && subH f fc H r
def noDup : List Nat → Bool
  | [] => true
  | x :: r => !(hasN r x) && noDup r
def allLt (n : Nat) : List (Nat × Nat) → Bool
  | [] => true
  | x :: r => Nat.blt x.1 n && allLt n r
def subOK (f fc : List (Nat × Nat)) (t : Sl) (s : St) (u : Sl) (r : St) : Bool :=
  Nat.beq t.length u.length && subT f fc t u u.length && subH f fc s.heap r.heap && noDup (f.map (·.2)) && noDup (f.map (·.1)) && allLt r.next f && allLt r.ncap fc
section
variable {V : Nat → Value}
def Rho.ren (ρ : Rho) (f fc : List (Nat × Nat)) : Rho := ⟨fun j => (lkN f j).bind ρ.blk, fun j => (lkN fc j).bind ρ.cap⟩
theorem subCap_ok {ρ : Rho} {f fc : List (Nat × Nat)} : ∀ {c d : Cap} {m : Nat}, subCap fc c d = true → CapR ρ c m → CapR (ρ.ren f fc) d m
  | .lit a, .lit b, m, h, hc => by
    have e := Nat.eq_of_beq_eq_true h
    subst e
    exact hc
  | .sym i, .sym j, m, h, hc => by
    have e := isN_eq h
    show (lkN fc j).bind ρ.cap = some m
    rw [e]
    exact hc
theorem subC_ok (hone : ∀ i, (V i).oneCell' = true) {ρ : Rho} {f fc : List (Nat × Nat)} {x y : AC} {v : Value} (h : subC f fc x y = true) (hx : CR V ρ x v) : CR V (ρ.ren f fc) y v := by
  unfold subC at h
  split at h
  · exact hx.one V hone
  · simp only [Bool.and_eq_true, decide_eq_true_eq, beq_iff_eq] at h
    obtain ⟨rfl, rfl⟩ := h
    exact hx
  · simp only [beq_iff_eq] at h
    subst h
    exact hx
  · have e := Nat.eq_of_beq_eq_true h
    subst e
    exact hx
  · exact hx
  · simp only [Bool.and_eq_true] at h
    have e1 := Nat.eq_of_beq_eq_true h.1
    have e2 := isN_eq h.2
    subst e1
    obtain ⟨b, h1, h2⟩ := hx
    exact ⟨b, by show (lkN f _).bind ρ.blk = some b; rw [e2]; exact h1, h2⟩
  · simp only [Bool.and_eq_true] at h
    have e1 := Nat.eq_of_beq_eq_true h.1
    subst e1
    obtain ⟨m, h1, h2, h3⟩ := hx
    exact ⟨m, subCap_ok h.2 h1, h2, h3⟩
  · simp only [Bool.and_eq_true] at h
    obtain ⟨⟨⟨e1, e2⟩, e3⟩, e4⟩ := h
    have e1 := Nat.eq_of_beq_eq_true e1
    have e2 := Nat.eq_of_beq_eq_true e2
    have e3 := isN_eq e3
    subst e1
    subst e2
    obtain ⟨b, m, h1, h2, h3, h4⟩ := hx
    exact ⟨b, m, by show (lkN f _).bind ρ.blk = some b; rw [e3]; exact h1, subCap_ok e4 h2, h3, h4⟩
  · exact hx
  · exact hx
  · exact hx
  · have e := Nat.eq_of_beq_eq_true h
    subst e
    exact hx
  · have e := of_decide_eq_true h
    subst e
    exact ⟨_, hx⟩
  · have e := of_decide_eq_true h
    subst e
    exact hx
  · exact ⟨_, hx⟩
  · exact hx
  · have e := of_decide_eq_true h
    subst e
    exact hx
  · rename_i k n m
    simp only [Bool.and_eq_true, decide_eq_true_eq] at h
    obtain ⟨rfl, h1, h2⟩ := h
    exact ⟨n.toNat, by omega, by rw [Int.toNat_of_nonneg h1]; exact hx⟩
  · have e := Nat.le_of_ble_eq_true h
    obtain ⟨n, h1, h2⟩ := hx
    exact ⟨n, by omega, h2⟩
  · have e := of_decide_eq_true h
    subst e
    obtain ⟨n, h1, h2⟩ := hx
    exact ⟨n, h2⟩
  · rename_i k n k' lo hi
    simp only [Bool.and_eq_true, decide_eq_true_eq] at h
    obtain ⟨rfl, h1, h2⟩ := h
    exact ⟨n, h1, h2, hx⟩
  · rename_i k a b k' lo hi
    simp only [Bool.and_eq_true, decide_eq_true_eq] at h
    obtain ⟨rfl, h1, h2⟩ := h
    obtain ⟨n, g1, g2, g3⟩ := hx
    exact ⟨n, by omega, by omega, g3⟩
  · rename_i m k' lo hi
    simp only [Bool.and_eq_true, decide_eq_true_eq] at h
    obtain ⟨rfl, h1, h2⟩ := h
    obtain ⟨n, g1, g3⟩ := hx
    exact ⟨n, by omega, by omega, g3⟩
  · have e := of_decide_eq_true h
    subst e
    obtain ⟨n, _, _, h2⟩ := hx
    exact ⟨n, h2⟩
  · rename_i c i d j
    simp only [Bool.and_eq_true] at h
    have e1 := Nat.eq_of_beq_eq_true h.1
    have e2 := isN_eq h.2
    subst e1
    obtain ⟨m, h1, h2⟩ := hx
    exact ⟨m, by show (lkN fc d).bind ρ.cap = some m; rw [e2]; exact h1, h2⟩
  · have e := of_decide_eq_true h
    subst e
    obtain ⟨m, _, _, h2⟩ := hx
    exact ⟨_, h2⟩
  · rename_i c m d m'
    simp only [Bool.and_eq_true] at h
    have e1 := Nat.le_of_ble_eq_true h.1
    have e2 := isN_eq h.2
    obtain ⟨x, h1, h2, h3⟩ := hx
    exact ⟨x, by show (lkN fc d).bind ρ.cap = some x; rw [e2]; exact h1, by omega, h3⟩
  · have e1 := Nat.le_of_ble_eq_true h
    obtain ⟨x, h1, h2, h3⟩ := hx
    exact ⟨x, by omega, h3⟩
  · have e := of_decide_eq_true h
    subst e
    obtain ⟨x, _, _, h3⟩ := hx
    exact ⟨_, h3⟩
  · rename_i c m k' lo hi
    simp only [Bool.and_eq_true, decide_eq_true_eq] at h
    obtain ⟨rfl, h1, h2⟩ := h
    obtain ⟨x, _, g1, g3⟩ := hx
    exact ⟨x, by omega, by omega, g3⟩
  · rename_i c d
    have e2 := isN_eq h
    obtain ⟨m, h1, h2⟩ := hx
    exact ⟨m, by show (lkN fc d).bind ρ.cap = some m; rw [e2]; exact h1, h2⟩
  · cases h
theorem subL_ok (hone : ∀ i, (V i).oneCell' = true) {ρ : Rho} {f fc : List (Nat × Nat)} : ∀ {x y : List AC} {v : List Value}, subL f fc x y = true → F2 (CR V ρ) x v → F2 (CR V (ρ.ren f fc)) y v
  | [], [], [], _, _ => trivial
  | x :: r, y :: s, v :: vs, h, hx => by
    simp only [subL, Bool.and_eq_true] at h
    exact ⟨subC_ok hone h.1 hx.1, subL_ok hone h.2 hx.2⟩
  | [], _ :: _, _, h, _ => by cases h
  | _ :: _, [], _, h, _ => by cases h
  | [], [], _ :: _, _, h => h.elim
  | _ :: _, _ :: _, [], _, h => h.elim
theorem subV_ok (hone : ∀ i, (V i).oneCell' = true) {ρ : Rho} {f fc : List (Nat × Nat)} {x y : AV} {v : Value} (h : subV f fc x y = true) (hx : VR V ρ x v) : VR V (ρ.ren f fc) y v := by
  unfold subV at h
  split at h
  · exact trivial
  · exact hx
  · unfold sub1 at h
    split at h
    · exact subC_ok hone h hx
    · obtain ⟨cs, h1, h2⟩ := hx
      exact ⟨cs, h1, subL_ok hone h h2⟩
    · cases h
  · cases h
theorem subT_ok {f fc : List (Nat × Nat)} {t u : Sl} : ∀ {n : Nat}, subT f fc t u n = true → ∀ d, d < n → subV f fc (lget t d) (lget u d) = true
  | n + 1, h, d, hd => by
    simp only [subT, Bool.and_eq_true] at h
    by_cases e : d = n
    · rw [e]
      exact h.1
    · exact subT_ok h.2 d (by omega)
theorem subH_ok {f fc : List (Nat × Nat)} {H : List (Nat × Blk)} : ∀ {G : List (Nat × Blk)}, subH f fc H G = true → ∀ j C, look G j = some C → ∃ i B, lkN f j = some i ∧ look H i = some B ∧ B.ty = C.ty ∧ subL f fc B.cells C.cells = true ∧ subM fc B.more C.more = true
  | [], _, j, C, h => by cases h
  | x :: r, h, j, C, hC => by
    simp only [subH, Bool.and_eq_true] at h
    rw [look_cons] at hC
    by_cases e : x.1 = j
    · rw [if_pos e, Option.some.injEq] at hC
      subst hC
      subst e
      obtain ⟨h1, _⟩ := h
      split at h1
      · rename_i i hi
        split at h1
        · rename_i B hB
          simp only [Bool.and_eq_true] at h1
          exact ⟨i, B, hi, hB, Nat.eq_of_beq_eq_true h1.1.1, h1.1.2, h1.2⟩
        · cases h1
      · cases h1
    · rw [if_neg e] at hC
      exact subH_ok h.2 j C hC
theorem lkN_mem : ∀ {f : List (Nat × Nat)} {j i : Nat}, lkN f j = some i → (j, i) ∈ f
  | x :: r, j, i, h => by
    simp only [lkN] at h
    by_cases e : x.1 = j
    · subst e
      simp only [Nat.beq_refl, cond_true, Option.some.injEq] at h
      subst h
      simp
    · simp only [beq_no e, cond_false] at h
      exact List.mem_cons_of_mem _ (lkN_mem h)
theorem allLt_ok {n : Nat} : ∀ {f : List (Nat × Nat)}, allLt n f = true → ∀ x ∈ f, x.1 < n
  | x :: r, h, y, hy => by
    simp only [allLt, Bool.and_eq_true] at h
    cases hy with
    | head =>
      have := Nat.le_of_ble_eq_true (show Nat.ble (x.1 + 1) n = true from h.1)
      omega
    | tail _ hy => exact allLt_ok h.2 y hy
theorem noDup_inj : ∀ {f : List (Nat × Nat)}, noDup (f.map (·.2)) = true → ∀ a b i, (a, i) ∈ f → (b, i) ∈ f → a = b
  | x :: r, h, a, b, i, ha, hb => by
    simp only [List.map_cons, noDup, Bool.and_eq_true, Bool.not_eq_true'] at h
    have hno : ∀ c, (c, x.2) ∉ r := by
      intro c hc
      have : x.2 ∈ r.map (·.2) := List.mem_map.2 ⟨(c, x.2), hc, rfl⟩
      rw [(hasN_iff _ _).2 this] at h
      cases h.1
    cases ha with
    | head =>
      cases hb with
      | head => rfl
      | tail _ hb => exact absurd hb (hno b)
    | tail _ ha =>
      cases hb with
      | head => exact absurd ha (hno a)
      | tail _ hb => exact noDup_inj h.2 a b i ha hb
/-- What holds here, the blocks named. -/
def HereR (V : Nat → Value) (ρ : Rho) (base : Nat) (w0 : World) (t : Sl) (s : St) (a : Act) (w : World) : Prop :=
  TR V ρ t a ∧ Rep V ρ s w ∧ (∀ i, s.next ≤ i → ρ.blk i = none) ∧ (∀ i, s.ncap ≤ i → ρ.cap i = none) ∧ (∀ i b, ρ.blk i = some b → base ≤ b) ∧ Below base w0 w ∧ base ≤ w.heap.size
theorem here_subR (hone : ∀ i, (V i).oneCell' = true) {base : Nat} {w0 : World} {t u : Sl} {s r : St} {a : Act} {w : World} {ρ : Rho} (f fc : List (Nat × Nat)) (h : subOK f fc t s u r = true) (hh : HereR V ρ base w0 t s a w) : HereR V (ρ.ren f fc) base w0 u r a w := by
  unfold subOK at h
  simp only [Bool.and_eq_true] at h
  obtain ⟨⟨⟨⟨⟨⟨h1, h2⟩, h3⟩, h4⟩, h5⟩, h6⟩, h7⟩ := h
  have h1 := Nat.eq_of_beq_eq_true h1
  obtain ⟨ht, hr, g1, g2, g3, g4, g5⟩ := hh
  have hlt : ∀ j i, lkN f j = some i → j < r.next := fun j i hj => allLt_ok h6 _ (lkN_mem hj)
  have hltc : ∀ j i, lkN fc j = some i → j < r.ncap := fun j i hj => allLt_ok h7 _ (lkN_mem hj)
  have hblk : ∀ j b, (ρ.ren f fc).blk j = some b → ∃ i, lkN f j = some i ∧ ρ.blk i = some b := by
    intro j b hb
    have hb : (lkN f j).bind ρ.blk = some b := hb
    cases hj : lkN f j with
    | none => rw [hj] at hb; cases hb
    | some i => rw [hj] at hb; exact ⟨i, rfl, hb⟩
  refine ⟨⟨by rw [ht.z, h1], fun d => ?_, ht.df⟩, ⟨?_, ?_, ?_, ?_⟩, ?_, ?_, ?_, g4, g5⟩
  · by_cases hd : d < u.length
    · exact subV_ok hone (subT_ok h2 d hd) (ht.v d)
    · have := ht.v d
      rw [lget_far (by omega)] at this
      rw [lget_far hd]
      exact this
  · intro j C hC
    obtain ⟨i, B, k1, k2, k3, k4, k5⟩ := subH_ok h3 j C hC
    obtain ⟨b, cs, q1, q2, pre, post, q3, q4, q5⟩ := hr.h i B k2
    refine ⟨b, cs, by show (lkN f j).bind ρ.blk = some b; rw [k1]; exact q1, by rw [← k3]; exact q2, pre, post, q3, subL_ok hone k4 q4, ?_⟩
    unfold subM at k5
    unfold MR at q5 ⊢
    split at k5
    · rename_i hm1 hm2
      rw [hm1] at q5
      rw [hm2]
      exact q5
    · rename_i c z d y hm1 hm2
      rw [hm1] at q5
      rw [hm2]
      simp only [Bool.and_eq_true] at k5
      have e1 := Nat.eq_of_beq_eq_true k5.1
      subst e1
      by_cases hz : z = 0
      · subst hz
        have e2 := Nat.eq_of_beq_eq_true (show Nat.beq c d = true from k5.2)
        subst e2
        simp only [if_pos] at q5 ⊢
        obtain ⟨p1, p2⟩ := q5
        rw [p1] at k4
        refine ⟨?_, p2⟩
        cases hC' : C.cells with
        | nil => rfl
        | cons _ _ => rw [hC'] at k4; cases k4
      · simp only [beq_no hz, cond_false] at k5
        have e2 := isN_eq k5.2
        simp only [if_neg hz] at q5 ⊢
        obtain ⟨m, p1, p2⟩ := q5
        exact ⟨m, by show (lkN fc d).bind ρ.cap = some m; rw [e2]; exact p1, p2⟩
    · cases k5
  · intro i j C D b hC hD hi hj
    obtain ⟨i', B, k1, k2, _⟩ := subH_ok h3 i C hC
    obtain ⟨j', B', k1', k2', _⟩ := subH_ok h3 j D hD
    obtain ⟨i2, e1, e2⟩ := hblk i b hi
    obtain ⟨j2, e3, e4⟩ := hblk j b hj
    rw [k1] at e1
    rw [k1'] at e3
    injection e1 with e1
    injection e3 with e3
    subst e1
    subst e3
    have := hr.inj i' j' B B' b k2 k2' e2 e4
    subst this
    exact noDup_inj h4 i j i' (lkN_mem k1) (lkN_mem k1')
  · intro j b hb
    obtain ⟨i, _, e⟩ := hblk j b hb
    exact hr.bnd i b e
  · intro j C hC
    obtain ⟨i, B, k1, _⟩ := subH_ok h3 j C hC
    exact hlt j i k1
  · intro j hj
    cases hb : (ρ.ren f fc).blk j with
    | none => rfl
    | some b =>
      obtain ⟨i, e, _⟩ := hblk j b hb
      have := hlt j i e
      omega
  · intro j hj
    show (lkN fc j).bind ρ.cap = none
    cases hb : lkN fc j with
    | none => rfl
    | some i =>
      have := hltc j i hb
      omega
  · intro j b hb
    obtain ⟨i, _, e⟩ := hblk j b hb
    exact g3 i b e
theorem here_sub (hone : ∀ i, (V i).oneCell' = true) {base : Nat} {w0 : World} {t u : Sl} {s r : St} {a : Act} {w : World} (f fc : List (Nat × Nat)) (h : subOK f fc t s u r = true) (hh : Here V base w0 t s a w) : Here V base w0 u r a w := by
  obtain ⟨ρ, hh⟩ := hh
  exact ⟨_, here_subR hone f fc h hh⟩
/-- A call, from its beginning. -/
theorem here_call {P : Program} {E : Env} (hE : EnvOK P V E) (hx : ExtOK P V E) (m : Nat) {f : Nat} {fn : Func} {c : Code} (hf : P.funcs[f]? = some fn) (hc : fn.body = some c) {args : List AV} {vals : Array Value} (hargs : F2 (VR V ρ0) args vals.toList) (hle : args.length ≤ fn.ntmps) (w : World)
    {hk : Nat → Sl → St → Option (AE × Sl × St)} (hH : HookOK P V w.heap.size w c hk) {t' : Sl} {s' : St} {e : AE} (h : codeH E (fnA E m) hk c (pad fn.ntmps args) st0 = some (e, t', s')) (he : e = .normal ∨ e = .ret) (hres : resultsA E t' s' fn.results.toList = some [.c (.bool true)]) :
    Calls P f vals w fun e w' => e = .returned (.bool true) ∧ Below w.heap.size w w' := by
  have hvl : vals.size = args.length := by rw [← Array.length_toList, ← hargs.length]
  have ht : TR V ρ0 (pad fn.ntmps args) { tmps := vals ++ Array.replicate (fn.ntmps - vals.size) undef, defers := [] } := by
    refine ⟨by rw [pad_length]; simp; omega, fun d => ?_, rfl⟩
    rw [pad_look _ _ _ hle]
    have h1 := lget_F2 hargs d
    have h2 : (vals ++ Array.replicate (fn.ntmps - vals.size) undef).getD d undef = vals.toList.getD d undef := by
      simp only [Array.getD_eq_getD_getElem?, List.getD_eq_getElem?_getD, Array.getElem?_append, Array.getElem?_toList]
      by_cases hd : d < vals.size
      · rw [if_pos hd]
      · rw [if_neg hd, Array.getElem?_eq_none (by omega : vals.size ≤ d), Array.getElem?_replicate]
        split <;> rfl
    show VR V ρ0 _ ((vals ++ Array.replicate (fn.ntmps - vals.size) undef).getD d undef)
    rw [h2]
    exact h1
  refine calls_of_wp hf hc ?_
  refine codeH_ok hE hx m hH c (fun id b hb => ⟨b, hb, rfl⟩) h ⟨ρ0, ht, rep0 w, fun _ _ => rfl, fun _ _ => rfl, fun i b hb => (by cases hb), Below.refl _ _, Nat.le_refl _⟩ _ ?_
  rintro a' w' ⟨ρ', ht', hr', _, _, _, hb, _⟩
  obtain ⟨vs, g1, g2⟩ := results_ok hE ht' hr' _ _ hres
  have hr2 : (results fn a'.tmps).run P w' = .ok (if h : vs.toArray.size = 1 then vs.toArray[0] else .tuple vs.toArray) w' := by
    unfold results
    rw [Array.mapM_eq_mapM_toList]
    simp only [Sem.run_bind, Sem.run_map, Sem.run_pure]
    generalize hX : Sem.run P (List.mapM _ fn.results.toList) w' = Y
    have hY : Y = .ok vs w' := hX.symm.trans g1
    rw [hY]
    simp only [Result.andThen_ok]
  have hv : vs = [.bool true] := by
    match vs, g2 with
    | [v], g2 => rw [show v = .bool true from g2.1]
  subst hv
  rcases he with rfl | rfl
  · exact ⟨ht'.df, _, hr2, rfl, hb⟩
  · exact ⟨ht'.df, _, hr2, rfl, hb⟩
end
end Ab
end Go.Proofs.Ytddiclnkfhldlaa
