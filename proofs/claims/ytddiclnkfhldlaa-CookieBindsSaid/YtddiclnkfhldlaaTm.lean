/-
  Terms as plain data, their order (a strict total one that agrees with equality), and which of two nonces is lower. No program.
  Conditions: none.
-/
import GoSem.Core.Value
namespace Go.Proofs.Ytddiclnkfhldlaa
set_option linter.unusedVariables false
/-- A term: its operator, its value and its arguments. -/
inductive Tm where
  | mk (op val : Int) (args : List Tm)
def Tm.op : Tm → Int | .mk o _ _ => o
def Tm.val : Tm → Int | .mk _ v _ => v
def Tm.args : Tm → List Tm | .mk _ _ l => l
@[simp] theorem Tm.op_mk (o v : Int) (l : List Tm) : (Tm.mk o v l).op = o := rfl
@[simp] theorem Tm.val_mk (o v : Int) (l : List Tm) : (Tm.mk o v l).val = v := rfl
@[simp] theorem Tm.args_mk (o v : Int) (l : List Tm) : (Tm.mk o v l).args = l := rfl
/-- The order of two numbers. -/
def cmpI (a b : Int) : Ordering := if a < b then .lt else if b < a then .gt else .eq
mutual
def cmpT : Tm → Tm → Ordering
  | .mk o v l, .mk o' v' l' => (cmpI o o').then ((cmpI v v').then ((cmpI (l.length : Nat) (l'.length : Nat)).then (cmpL l l')))
def cmpL : List Tm → List Tm → Ordering
  | [], [] => .eq
  | [], _ :: _ => .lt
  | _ :: _, [] => .gt
  | x :: xs, y :: ys => (cmpT x y).then (cmpL xs ys)
end
theorem Tm.ind {P : Tm → Prop} (h : ∀ o v l, (∀ t ∈ l, P t) → P (.mk o v l)) (t : Tm) : P t :=
  Tm.rec (motive_1 := P) (motive_2 := fun l => ∀ t ∈ l, P t) (fun o v l ih => h o v l ih) (fun t ht => absurd ht (by simp))
    (fun x xs hx hxs t ht => by
      rcases List.mem_cons.1 ht with rfl | ht
      · exact hx
      · exact hxs t ht) t
theorem cmpI_eq {a b : Int} : cmpI a b = .eq ↔ a = b := by unfold cmpI; split <;> (try split) <;> simp <;> omega
theorem cmpI_lt {a b : Int} : cmpI a b = .lt ↔ a < b := by unfold cmpI; split <;> (try split) <;> simp <;> omega
theorem cmpI_swap (a b : Int) : (cmpI a b).swap = cmpI b a := by unfold cmpI; split <;> (try split) <;> (try split) <;> (try split) <;> first | rfl | omega
theorem then_eq {a b : Ordering} : a.then b = .eq ↔ a = .eq ∧ b = .eq := by cases a <;> cases b <;> simp [Ordering.then]
theorem then_lt {a b : Ordering} : a.then b = .lt ↔ a = .lt ∨ (a = .eq ∧ b = .lt) := by cases a <;> cases b <;> simp [Ordering.then]
theorem swap_then (a b : Ordering) : (a.then b).swap = a.swap.then b.swap := by cases a <;> cases b <;> rfl
theorem cmpT_mk (o v o' v' : Int) (l l' : List Tm) : cmpT (.mk o v l) (.mk o' v' l') = (cmpI o o').then ((cmpI v v').then ((cmpI (l.length : Nat) (l'.length : Nat)).then (cmpL l l'))) := by rw [cmpT]
theorem cmpL_cons (x y : Tm) (xs ys : List Tm) : cmpL (x :: xs) (y :: ys) = (cmpT x y).then (cmpL xs ys) := by rw [cmpL]
/-- Three parts of an order by one induction. -/
structure Good (c : Tm → Tm → Ordering) (t : Tm) : Prop where
  eq : ∀ u, c t u = .eq ↔ t = u
  swap : ∀ u, (c t u).swap = c u t
  trans : ∀ u v, c t u = .lt → c u v = .lt → c t v = .lt
theorem cmpL_eq : ∀ (l : List Tm) (_ : ∀ t ∈ l, ∀ u, cmpT t u = .eq ↔ t = u) (l' : List Tm), cmpL l l' = .eq ↔ l = l'
  | [], _, [] => by simp [cmpL]
  | [], _, _ :: _ => by simp [cmpL]
  | _ :: _, _, [] => by simp [cmpL]
  | x :: xs, h, y :: ys => by
    rw [cmpL_cons, then_eq, h x (by simp) y, cmpL_eq xs (fun t ht => h t (by simp [ht])) ys]
    simp
theorem cmpT_eq (t u : Tm) : cmpT t u = .eq ↔ t = u := by
  revert u
  refine Tm.ind (P := fun t => ∀ u, cmpT t u = .eq ↔ t = u) ?_ t
  intro o v l ih u
  obtain ⟨o', v', l'⟩ := u
  rw [cmpT_mk, then_eq, then_eq, then_eq, cmpI_eq, cmpI_eq, cmpI_eq, cmpL_eq l ih l']
  constructor
  · rintro ⟨rfl, rfl, _, rfl⟩; rfl
  · intro h
    injection h with h1 h2 h3
    subst h1; subst h2; subst h3
    exact ⟨rfl, rfl, rfl, rfl⟩
theorem cmpL_swap : ∀ (l : List Tm) (_ : ∀ t ∈ l, ∀ u, (cmpT t u).swap = cmpT u t) (l' : List Tm), (cmpL l l').swap = cmpL l' l
  | [], _, [] => by simp [cmpL]
  | [], _, _ :: _ => by simp [cmpL]
  | _ :: _, _, [] => by simp [cmpL]
  | x :: xs, h, y :: ys => by
    rw [cmpL_cons, cmpL_cons, swap_then, h x (by simp) y, cmpL_swap xs (fun t ht => h t (by simp [ht])) ys]
theorem cmpT_swap (t u : Tm) : (cmpT t u).swap = cmpT u t := by
  revert u
  refine Tm.ind (P := fun t => ∀ u, (cmpT t u).swap = cmpT u t) ?_ t
  intro o v l ih u
  obtain ⟨o', v', l'⟩ := u
  rw [cmpT_mk, cmpT_mk, swap_then, swap_then, swap_then, cmpI_swap, cmpI_swap, cmpI_swap, cmpL_swap l ih l']
theorem cmpL_trans : ∀ (l : List Tm) (_ : ∀ t ∈ l, ∀ u v, cmpT t u = .lt → cmpT u v = .lt → cmpT t v = .lt) (l' l'' : List Tm), cmpL l l' = .lt → cmpL l' l'' = .lt → cmpL l l'' = .lt
  | [], _, [], _, h1, _ => by simp [cmpL] at h1
  | [], _, _ :: _, [], _, h2 => by simp [cmpL] at h2
  | [], _, _ :: _, _ :: _, _, _ => by simp [cmpL]
  | _ :: _, _, [], _, h1, _ => by simp [cmpL] at h1
  | _ :: _, _, _ :: _, [], _, h2 => by simp [cmpL] at h2
  | x :: xs, h, y :: ys, z :: zs, h1, h2 => by
    rw [cmpL_cons, then_lt] at h1 h2 ⊢
    rcases h1 with h1 | ⟨h1, h1'⟩
    · rcases h2 with h2 | ⟨h2, _⟩
      · exact .inl (h x (by simp) y z h1 h2)
      · rw [cmpT_eq] at h2; subst h2; exact .inl h1
    · rw [cmpT_eq] at h1; subst h1
      rcases h2 with h2 | ⟨h2, h2'⟩
      · exact .inl h2
      · exact .inr ⟨h2, cmpL_trans xs (fun t ht => h t (by simp [ht])) ys zs h1' h2'⟩
theorem cmpT_trans (t u v : Tm) : cmpT t u = .lt → cmpT u v = .lt → cmpT t v = .lt := by
  revert u v
  refine Tm.ind (P := fun t => ∀ u v, cmpT t u = .lt → cmpT u v = .lt → cmpT t v = .lt) ?_ t
  intro o a l ih u v h1 h2
  obtain ⟨o', a', l'⟩ := u
  obtain ⟨o'', a'', l''⟩ := v
  rw [cmpT_mk, then_lt, then_lt, then_lt, cmpI_lt, cmpI_lt, cmpI_lt, cmpI_eq, cmpI_eq, cmpI_eq] at h1 h2 ⊢
  have hl := cmpL_trans l ih l' l''
  rcases h1 with h1 | ⟨h1, h1 | ⟨h1', h1 | ⟨h1'', h1'''⟩⟩⟩ <;> rcases h2 with h2 | ⟨h2, h2 | ⟨h2', h2 | ⟨h2'', h2'''⟩⟩⟩ <;>
    first
    | exact .inl (by omega)
    | exact .inr ⟨by omega, .inl (by omega)⟩
    | exact .inr ⟨by omega, .inr ⟨by omega, .inl (by omega)⟩⟩
    | exact .inr ⟨by omega, .inr ⟨by omega, .inr ⟨by omega, hl ‹_› ‹_›⟩⟩⟩
theorem cmpT_refl (t : Tm) : cmpT t t = .eq := (cmpT_eq t t).2 rfl
/-- Whether one comes before the other, whether they are equal. -/
def lessT (t u : Tm) : Bool := cmpT t u == .lt
def equT (t u : Tm) : Bool := cmpT t u == .eq
theorem lessT_iff {t u : Tm} : lessT t u = true ↔ cmpT t u = .lt := by unfold lessT; cases cmpT t u <;> decide
theorem equT_iff {t u : Tm} : equT t u = true ↔ t = u := by
  rw [← cmpT_eq]; unfold equT; cases cmpT t u <;> decide
theorem equT_false {t u : Tm} : equT t u = false ↔ t ≠ u := by
  rw [← Bool.not_eq_true, equT_iff]
theorem lessT_asymm {t u : Tm} (h : lessT t u = true) : lessT u t = false := by
  rw [lessT_iff] at h
  have := cmpT_swap t u
  rw [h] at this
  unfold lessT
  rw [← this]
  rfl
theorem lessT_trans {t u v : Tm} (h : lessT t u = true) (k : lessT u v = true) : lessT t v = true := by
  rw [lessT_iff] at *
  exact cmpT_trans t u v h k
theorem lessT_total {t u : Tm} (h : lessT t u = false) (k : lessT u t = false) : equT t u = true := by
  have hs := cmpT_swap t u
  unfold lessT at h k
  unfold equT
  rw [← hs] at k
  revert h k
  cases cmpT t u <;> decide
theorem equT_lessT {t u : Tm} (h : equT t u = true) : lessT t u = false := by
  rw [equT_iff] at h
  subst h
  unfold lessT
  rw [cmpT_refl]
  rfl
theorem equT_symm (t u : Tm) : equT t u = equT u t := by
  cases h : equT u t
  · rw [equT_false] at *; exact Ne.symm h
  · rw [equT_iff] at *; exact h.symm
theorem equT_refl (t : Tm) : equT t t = true := equT_iff.2 rfl
/-- The number that decides between nonces, and which of two is lower. -/
def rankT (t : Tm) : Int := max t.val 0 * 7919 % 65536
def lowT (t u : Tm) : Bool := if rankT t ≠ rankT u then decide (rankT t < rankT u) else lessT t u
theorem lowT_asymm {t u : Tm} (h : lowT t u = true) : lowT u t = false := by
  unfold lowT at *
  by_cases e : rankT t = rankT u
  · rw [if_neg (by simp [e])] at h ⊢
    exact lessT_asymm h
  · rw [if_pos e] at h
    rw [if_pos (Ne.symm e)]
    simp at h ⊢
    omega
theorem lowT_trans {t u v : Tm} (h : lowT t u = true) (k : lowT u v = true) : lowT t v = true := by
  unfold lowT at *
  by_cases e : rankT t = rankT u
  · rw [if_neg (by simp [e])] at h
    by_cases e' : rankT u = rankT v
    · rw [if_neg (by simp [e'])] at k
      rw [if_neg (by simp [e, e'])]
      exact lessT_trans h k
    · rw [if_pos e'] at k
      rw [e, if_pos e']
      exact k
  · rw [if_pos e] at h
    simp at h
    by_cases e' : rankT u = rankT v
    · rw [← e', if_pos e]
      simpa using h
    · rw [if_pos e'] at k
      simp at k
      rw [if_pos (by omega)]
      simp
      omega
theorem lowT_total (t u : Tm) : (lowT t u || lowT u t) = !equT t u := by
  by_cases e : rankT t = rankT u
  · unfold lowT
    rw [if_neg (by simp [e]), if_neg (by simp [e])]
    cases h1 : lessT t u
    · cases h2 : lessT u t
      · rw [lessT_total h1 h2]; rfl
      · have : equT t u = false := by
          cases h : equT t u
          · rfl
          · rw [equT_symm] at h; rw [equT_lessT h] at h2; cases h2
        rw [this]; rfl
    · have : equT t u = false := by
        cases h : equT t u
        · rfl
        · rw [equT_lessT h] at h1; cases h1
      rw [this]; rfl
  · have hne : equT t u = false := by
      rw [equT_false]; rintro rfl; exact e rfl
    rw [hne]
    unfold lowT
    rw [if_pos e, if_pos (Ne.symm e)]
    simp
    omega
mutual
/-- What the reference's comparison answers. -/
def ordT : Tm → Tm → Int
  | .mk o v l, .mk o' v' l' => if o < o' then -1 else if o' < o then 1 else if v < v' then -1 else if v' < v then 1 else if l.length ≠ l'.length then (l.length : Int) - (l'.length : Int) else ordL l l'
def ordL : List Tm → List Tm → Int
  | [], _ => 0
  | _ :: _, [] => 0
  | x :: xs, y :: ys => if ordT x y = 0 then ordL xs ys else ordT x y
end
theorem ordT_mk (o v o' v' : Int) (l l' : List Tm) : ordT (.mk o v l) (.mk o' v' l') = if o < o' then -1 else if o' < o then 1 else if v < v' then -1 else if v' < v then 1 else if l.length ≠ l'.length then (l.length : Int) - (l'.length : Int) else ordL l l' := by rw [ordT]
theorem ordL_cons (x y : Tm) (xs ys : List Tm) : ordL (x :: xs) (y :: ys) = if ordT x y = 0 then ordL xs ys else ordT x y := by rw [ordL]
theorem ordL_drop {l l' : List Tm} {k : Nat} (h1 : k < l.length) (h2 : k < l'.length) : ordL (l.drop k) (l'.drop k) = if ordT l[k] l'[k] = 0 then ordL (l.drop (k + 1)) (l'.drop (k + 1)) else ordT l[k] l'[k] := by
  rw [List.drop_eq_getElem_cons h1, List.drop_eq_getElem_cons h2, ordL_cons]
/-- The number n says what the order says. -/
def Sgn (c : Ordering) (n : Int) : Prop := match c with | .lt => n < 0 | .eq => n = 0 | .gt => 0 < n
theorem sgnL : ∀ (l : List Tm) (_ : ∀ t ∈ l, ∀ u, Sgn (cmpT t u) (ordT t u)) (l' : List Tm), l.length = l'.length → Sgn (cmpL l l') (ordL l l')
  | [], _, [], _ => by simp [cmpL, ordL, Sgn]
  | [], _, _ :: _, h => by simp at h
  | _ :: _, _, [], h => by simp at h
  | x :: xs, h, y :: ys, hl => by
    rw [cmpL_cons, ordL_cons]
    have h1 := h x (by simp) y
    have h2 := sgnL xs (fun t ht => h t (by simp [ht])) ys (by simpa using hl)
    revert h1
    cases cmpT x y <;> simp only [Sgn, Ordering.then] <;> intro h1
    · rw [if_neg (by omega)]; exact h1
    · rw [if_pos h1]; exact h2
    · rw [if_neg (by omega)]; exact h1
theorem sgnT (t u : Tm) : Sgn (cmpT t u) (ordT t u) := by
  revert u
  refine Tm.ind (P := fun t => ∀ u, Sgn (cmpT t u) (ordT t u)) ?_ t
  intro o v l ih u
  obtain ⟨o', v', l'⟩ := u
  rw [cmpT_mk, ordT_mk]
  have hl := sgnL l ih l'
  unfold cmpI
  by_cases h1 : o < o'
  · simp [h1, Sgn]
  · by_cases h2 : o' < o
    · simp [h1, h2, Sgn]
    · by_cases h3 : v < v'
      · simp [h1, h2, h3, Sgn]
      · by_cases h4 : v' < v
        · simp [h1, h2, h3, h4, Sgn]
        · by_cases h5 : l.length = l'.length
          · simp [h1, h2, h3, h4, h5]; exact hl h5
          · rw [if_neg h1, if_neg h2, if_neg h3, if_neg h4, if_neg h1, if_neg h2, if_neg h3, if_neg h4, if_pos h5]
            by_cases h6 : (l.length : Int) < (l'.length : Int)
            · rw [if_pos h6]; simp [Sgn]; omega
            · rw [if_neg h6, if_pos (by omega)]; simp [Sgn]; omega
theorem ord_less (t u : Tm) : decide (ordT t u < 0) = lessT t u := by
  have h := sgnT t u
  unfold lessT
  revert h
  cases cmpT t u <;> simp only [Sgn] <;> intro h <;> simp <;> omega
/-- What the program's comparison answers. -/
def cmpV (t u : Tm) : Int := match cmpT t u with | .lt => -1 | .eq => 0 | .gt => 1
theorem cmpV_less (t u : Tm) : decide (cmpV t u < 0) = lessT t u := by
  unfold cmpV lessT
  cases cmpT t u <;> decide
theorem cmpV_equ (t u : Tm) : (cmpV t u == 0) = equT t u := by
  unfold cmpV equT
  cases cmpT t u <;> decide
theorem cmpV_range (t u : Tm) : -1 ≤ cmpV t u ∧ cmpV t u ≤ 1 := by
  unfold cmpV
  cases cmpT t u <;> decide
def cmpLV (l l' : List Tm) : Int := match cmpL l l' with | .lt => -1 | .eq => 0 | .gt => 1
theorem cmpLV_drop {l l' : List Tm} {k : Nat} (h1 : k < l.length) (h2 : k < l'.length) : cmpLV (l.drop k) (l'.drop k) = if cmpV l[k] l'[k] = 0 then cmpLV (l.drop (k + 1)) (l'.drop (k + 1)) else cmpV l[k] l'[k] := by
  rw [List.drop_eq_getElem_cons h1, List.drop_eq_getElem_cons h2]
  unfold cmpLV cmpV
  rw [cmpL_cons]
  cases cmpT l[k] l'[k] <;> simp [Ordering.then]
theorem cmpLV_nil (l l' : List Tm) (k : Nat) (h : l.length = l'.length) (hk : l.length ≤ k) : cmpLV (l.drop k) (l'.drop k) = 0 := by
  rw [List.drop_eq_nil_of_le hk, List.drop_eq_nil_of_le (by omega)]
  simp [cmpLV, cmpL]
theorem ordL_nil (l l' : List Tm) (k : Nat) (hk : l.length ≤ k) : ordL (l.drop k) (l'.drop k) = 0 := by
  rw [List.drop_eq_nil_of_le hk]
  simp [ordL]
theorem cmpV_mk (o v o' v' : Int) (l l' : List Tm) : cmpV (.mk o v l) (.mk o' v' l') = if o < o' then -1 else if o' < o then 1 else if v < v' then -1 else if v' < v then 1 else if l.length < l'.length then -1 else if l'.length < l.length then 1 else cmpLV l l' := by
  unfold cmpV cmpLV
  rw [cmpT_mk]
  unfold cmpI
  by_cases h1 : o < o'
  · simp [h1]
  · by_cases h2 : o' < o
    · simp [h1, h2]
    · by_cases h3 : v < v'
      · simp [h1, h2, h3]
      · by_cases h4 : v' < v
        · simp [h1, h2, h3, h4]
        · by_cases h5 : l.length < l'.length
          · simp [h1, h2, h3, h4, h5]
          · by_cases h6 : l'.length < l.length
            · simp [h1, h2, h3, h4, h5, h6]
            · simp [h1, h2, h3, h4, h5, h6]
end Go.Proofs.Ytddiclnkfhldlaa
