/-
  Terms as plain data, their order (a strict total one that agrees with equality), and which of two nonces is lower. No program.
  Conditions: none.
-/
import GoSem.Core.Value
import Derived.Test.YtbfppnppijcnlaaGreatCodes
import Derived.Test.YtbfppnppijcnlaaGreatProg
import Derived.WalkKit
import Derived.WalkLawsBesides
import Derived.WalkSpells
import Derived.Outline
import Derived.Lib.Hide
import Derived.Lib.QuietBelow
import Derived.BigQuiet
import Derived.Deep.QuietTactic
import Derived.Deep.DeepCutAuto
import Derived.Deep.Cut
import Derived.Deep.CutBlock
import Derived.Deep.CutRange
import Derived.Laws.BitsAllLaws
import Derived.Laws.BitsLemmas
namespace Go.Proofs.YtbfppnppijcnlaaGreat
set_option linter.unusedVariables false
/-- A term: its operator, its value and its arguments. -/
inductive Tm where
  | mk (op val : Int) (args : List Tm)
def Tm.op : Tm → Int | .mk o _ _ => o
def Tm.val : Tm → Int | .mk _ v _ => v
def Tm.args : Tm → List Tm | .mk _ _ l => l
@[simp] theorem Tm.op_mk (o v : Int) (l : List Tm) : (Tm.mk o v l).op = o := rfl
@[simp] theorem Tm.val_mk (o v : Int) (l : List Tm) : (Tm.mk o v l).val = v := rfl
@[simp] theorem Tm.args_mk (o v : Int) (l : List Tm) : (Tm.mk o v l).args = l := rfl
/-- The order of two numbers. -/
def cmpI (a b : Int) : Ordering := if a < b then .lt else if b < a then .gt else .eq
mutual
def cmpT : Tm → Tm → Ordering
  | .mk o v l, .mk o' v' l' => (cmpI o o').then ((cmpI v v').then ((cmpI (l.length : Nat) (l'.length : Nat)).then (cmpL l l')))
def cmpL : List Tm → List Tm → Ordering
  | [], [] => .eq
  | [], _ :: _ => .lt
  | _ :: _, [] => .gt
  | x :: xs, y :: ys => (cmpT x y).then (cmpL xs ys)
end
theorem Tm.ind {P : Tm → Prop} (h : ∀ o v l, (∀ t ∈ l, P t) → P (.mk o v l)) (t : Tm) : P t :=
  Tm.rec (motive_1 := P) (motive_2 := fun l => ∀ t ∈ l, P t) (fun o v l ih => h o v l ih) (fun t ht => absurd ht (by simp))
    (fun x xs hx hxs t ht => by
      rcases List.mem_cons.1 ht with rfl | ht
      · exact hx
      · exact hxs t ht) t
theorem cmpI_eq {a b : Int} : cmpI a b = .eq ↔ a = b := by unfold cmpI; split <;> (try split) <;> simp <;> omega
theorem cmpI_lt {a b : Int} : cmpI a b = .lt ↔ a < b := by unfold cmpI; split <;> (try split) <;> simp <;> omega
theorem cmpI_swap (a b : Int) : (cmpI a b).swap = cmpI b a := by unfold cmpI; split <;> (try split) <;> (try split) <;> (try split) <;> first | rfl | omega
theorem then_eq {a b : Ordering} : a.then b = .eq ↔ a = .eq ∧ b = .eq := by cases a <;> cases b <;> simp [Ordering.then]
theorem then_lt {a b : Ordering} : a.then b = .lt ↔ a = .lt ∨ (a = .eq ∧ b = .lt) := by cases a <;> cases b <;> simp [Ordering.then]
theorem swap_then (a b : Ordering) : (a.then b).swap = a.swap.then b.swap := by cases a <;> cases b <;> rfl
theorem cmpT_mk (o v o' v' : Int) (l l' : List Tm) : cmpT (.mk o v l) (.mk o' v' l') = (cmpI o o').then ((cmpI v v').then ((cmpI (l.length : Nat) (l'.length : Nat)).then (cmpL l l'))) := by rw [cmpT]
theorem cmpL_cons (x y : Tm) (xs ys : List Tm) : cmpL (x :: xs) (y :: ys) = (cmpT x y).then (cmpL xs ys) := by rw [cmpL]
/-- Three parts of an order by one induction. -/
structure Good (c : Tm → Tm → Ordering) (t : Tm) : Prop where
  eq : ∀ u, c t u = .eq ↔ t = u
  swap : ∀ u, (c t u).swap = c u t
  trans : ∀ u v, c t u = .lt → c u v = .lt → c t v = .lt
theorem cmpL_eq : ∀ (l : List Tm) (_ : ∀ t ∈ l, ∀ u, cmpT t u = .eq ↔ t = u) (l' : List Tm), cmpL l l' = .eq ↔ l = l'
  | [], _, [] => by simp [cmpL]
  | [], _, _ :: _ => by simp [cmpL]
  | _ :: _, _, [] => by simp [cmpL]
  | x :: xs, h, y :: ys => by
    rw [cmpL_cons, then_eq, h x (by simp) y, cmpL_eq xs (fun t ht => h t (by simp [ht])) ys]
    simp
theorem cmpT_eq (t u : Tm) : cmpT t u = .eq ↔ t = u := by
  revert u
  refine Tm.ind (P := fun t => ∀ u, cmpT t u = .eq ↔ t = u) ?_ t
  intro o v l ih u
  obtain ⟨o', v', l'⟩ := u
  rw [cmpT_mk, then_eq, then_eq, then_eq, cmpI_eq, cmpI_eq, cmpI_eq, cmpL_eq l ih l']
  constructor
  · rintro ⟨rfl, rfl, _, rfl⟩; rfl
  · intro h
    injection h with h1 h2 h3
    subst h1; subst h2; subst h3
    exact ⟨rfl, rfl, rfl, rfl⟩
theorem cmpL_swap : ∀ (l : List Tm) (_ : ∀ t ∈ l, ∀ u, (cmpT t u).swap = cmpT u t) (l' : List Tm), (cmpL l l').swap = cmpL l' l
  | [], _, [] => by simp [cmpL]
  | [], _, _ :: _ => by simp [cmpL]
  | _ :: _, _, [] => by simp [cmpL]
  | x :: xs, h, y :: ys => by
    rw [cmpL_cons, cmpL_cons, swap_then, h x (by simp) y, cmpL_swap xs (fun t ht => h t (by simp [ht])) ys]
theorem cmpT_swap (t u : Tm) : (cmpT t u).swap = cmpT u t := by
  revert u
  refine Tm.ind (P := fun t => ∀ u, (cmpT t u).swap = cmpT u t) ?_ t
  intro o v l ih u
  obtain ⟨o', v', l'⟩ := u
  rw [cmpT_mk, cmpT_mk, swap_then, swap_then, swap_then, cmpI_swap, cmpI_swap, cmpI_swap, cmpL_swap l ih l']
theorem cmpL_trans : ∀ (l : List Tm) (_ : ∀ t ∈ l, ∀ u v, cmpT t u = .lt → cmpT u v = .lt → cmpT t v = .lt) (l' l'' : List Tm), cmpL l l' = .lt → cmpL l' l'' = .lt → cmpL l l'' = .lt
  | [], _, [], _, h1, _ => by simp [cmpL] at h1
  | [], _, _ :: _, [], _, h2 => by simp [cmpL] at h2
  | [], _, _ :: _, _ :: _, _, _ => by simp [cmpL]
  | _ :: _, _, [], _, h1, _ => by simp [cmpL] at h1
  | _ :: _, _, _ :: _, [], _, h2 => by simp [cmpL] at h2
  | x :: xs, h, y :: ys, z :: zs, h1, h2 => by
    rw [cmpL_cons, then_lt] at h1 h2 ⊢
    rcases h1 with h1 | ⟨h1, h1'⟩
    · rcases h2 with h2 | ⟨h2, _⟩
      · exact .inl (h x (by simp) y z h1 h2)
      · rw [cmpT_eq] at h2; subst h2; exact .inl h1
    · rw [cmpT_eq] at h1; subst h1
      rcases h2 with h2 | ⟨h2, h2'⟩
      · exact .inl h2
      · exact .inr ⟨h2, cmpL_trans xs (fun t ht => h t (by simp [ht])) ys zs h1' h2'⟩
theorem cmpT_trans (t u v : Tm) : cmpT t u = .lt → cmpT u v = .lt → cmpT t v = .lt := by
  revert u v
  refine Tm.ind (P := fun t => ∀ u v, cmpT t u = .lt → cmpT u v = .lt → cmpT t v = .lt) ?_ t
  intro o a l ih u v h1 h2
  obtain ⟨o', a', l'⟩ := u
  obtain ⟨o'', a'', l''⟩ := v
  rw [cmpT_mk, then_lt, then_lt, then_lt, cmpI_lt, cmpI_lt, cmpI_lt, cmpI_eq, cmpI_eq, cmpI_eq] at h1 h2 ⊢
  have hl := cmpL_trans l ih l' l''
  rcases h1 with h1 | ⟨h1, h1 | ⟨h1', h1 | ⟨h1'', h1'''⟩⟩⟩ <;> rcases h2 with h2 | ⟨h2, h2 | ⟨h2', h2 | ⟨h2'', h2'''⟩⟩⟩ <;>
    first
    | exact .inl (by omega)
    | exact .inr ⟨by omega, .inl (by omega)⟩
    | exact .inr ⟨by omega, .inr ⟨by omega, .inl (by omega)⟩⟩
    | exact .inr ⟨by omega, .inr ⟨by omega, .inr ⟨by omega, hl ‹_› ‹_›⟩⟩⟩
theorem cmpT_refl (t : Tm) : cmpT t t = .eq := (cmpT_eq t t).2 rfl
/-- Whether one comes before the other, whether they are equal. -/
def lessT (t u : Tm) : Bool := cmpT t u == .lt
def equT (t u : Tm) : Bool := cmpT t u == .eq
theorem lessT_iff {t u : Tm} : lessT t u = true ↔ cmpT t u = .lt := by unfold lessT; cases cmpT t u <;> decide
theorem equT_iff {t u : Tm} : equT t u = true ↔ t = u := by
  rw [← cmpT_eq]; unfold equT; cases cmpT t u <;> decide
theorem equT_false {t u : Tm} : equT t u = false ↔ t ≠ u := by
  rw [← Bool.not_eq_true, equT_iff]
theorem lessT_asymm {t u : Tm} (h : lessT t u = true) : lessT u t = false := by
  rw [lessT_iff] at h
  have := cmpT_swap t u
  rw [h] at this
  unfold lessT
  rw [← this]
  rfl
theorem lessT_trans {t u v : Tm} (h : lessT t u = true) (k : lessT u v = true) : lessT t v = true := by
  rw [lessT_iff] at *
  exact cmpT_trans t u v h k
theorem lessT_total {t u : Tm} (h : lessT t u = false) (k : lessT u t = false) : equT t u = true := by
  have hs := cmpT_swap t u
  unfold lessT at h k
  unfold equT
  rw [← hs] at k
  revert h k
  cases cmpT t u <;> decide
theorem equT_lessT {t u : Tm} (h : equT t u = true) : lessT t u = false := by
  rw [equT_iff] at h
  subst h
  unfold lessT
  rw [cmpT_refl]
  rfl
theorem equT_symm (t u : Tm) : equT t u = equT u t := by
  cases h : equT u t
  · rw [equT_false] at *; exact Ne.symm h
  · rw [equT_iff] at *; exact h.symm
theorem equT_refl (t : Tm) : equT t t = true := equT_iff.2 rfl
/-- The number that decides between nonces, and which of two is lower. -/
def rankT (t : Tm) : Int := max t.val 0 * 7919 % 65536
def lowT (t u : Tm) : Bool := if rankT t ≠ rankT u then decide (rankT t < rankT u) else lessT t u
theorem lowT_asymm {t u : Tm} (h : lowT t u = true) : lowT u t = false := by
  unfold lowT at *
  by_cases e : rankT t = rankT u
  · rw [if_neg (by simp [e])] at h ⊢
    exact lessT_asymm h
  · rw [if_pos e] at h
    rw [if_pos (Ne.symm e)]
    simp at h ⊢
    omega
theorem lowT_trans {t u v : Tm} (h : lowT t u = true) (k : lowT u v = true) : lowT t v = true := by
  unfold lowT at *
  by_cases e : rankT t = rankT u
  · rw [if_neg (by simp [e])] at h
    by_cases e' : rankT u = rankT v
    · rw [if_neg (by simp [e'])] at k
      rw [if_neg (by simp [e, e'])]
      exact lessT_trans h k
    · rw [if_pos e'] at k
      rw [e, if_pos e']
      exact k
  · rw [if_pos e] at h
    simp at h
    by_cases e' : rankT u = rankT v
    · rw [← e', if_pos e]
      simpa using h
    · rw [if_pos e'] at k
      simp at k
      rw [if_pos (by omega)]
      simp
      omega
theorem lowT_total (t u : Tm) : (lowT t u || lowT u t) = !equT t u := by
  by_cases e : rankT t = rankT u
  · unfold lowT
    rw [if_neg (by simp [e]), if_neg (by simp [e])]
    cases h1 : lessT t u
    · cases h2 : lessT u t
      · rw [lessT_total h1 h2]; rfl
      · have : equT t u = false := by
          cases h : equT t u
          · rfl
          · rw [equT_symm] at h; rw [equT_lessT h] at h2; cases h2
        rw [this]; rfl
    · have : equT t u = false := by
        cases h : equT t u
        · rfl
        · rw [equT_lessT h] at h1; cases h1
      rw [this]; rfl
  · have hne : equT t u = false := by
      rw [equT_false]; rintro rfl; exact e rfl
    rw [hne]
    unfold lowT
    rw [if_pos e, if_pos (Ne.symm e)]
    simp
    omega
mutual
/-- What the reference's comparison answers. -/
def ordT : Tm → Tm → Int
  | .mk o v l, .mk o' v' l' => if o < o' then -1 else if o' < o then 1 else if v < v' then -1 else if v' < v then 1 else if l.length ≠ l'.length then (l.length : Int) - (l'.length : Int) else ordL l l'
def ordL : List Tm → List Tm → Int
  | [], _ => 0
  | _ :: _, [] => 0
  | x :: xs, y :: ys => if ordT x y = 0 then ordL xs ys else ordT x y
end
theorem ordT_mk (o v o' v' : Int) (l l' : List Tm) : ordT (.mk o v l) (.mk o' v' l') = if o < o' then -1 else if o' < o then 1 else if v < v' then -1 else if v' < v then 1 else if l.length ≠ l'.length then (l.length : Int) - (l'.length : Int) else ordL l l' := by rw [ordT]
theorem ordL_cons (x y : Tm) (xs ys : List Tm) : ordL (x :: xs) (y :: ys) = if ordT x y = 0 then ordL xs ys else ordT x y := by rw [ordL]
theorem ordL_drop {l l' : List Tm} {k : Nat} (h1 : k < l.length) (h2 : k < l'.length) : ordL (l.drop k) (l'.drop k) = if ordT l[k] l'[k] = 0 then ordL (l.drop (k + 1)) (l'.drop (k + 1)) else ordT l[k] l'[k] := by
  rw [List.drop_eq_getElem_cons h1, List.drop_eq_getElem_cons h2, ordL_cons]
/-- The number n says what the order says. -/
def Sgn (c : Ordering) (n : Int) : Prop := match c with | .lt => n < 0 | .eq => n = 0 | .gt => 0 < n
theorem sgnL : ∀ (l : List Tm) (_ : ∀ t ∈ l, ∀ u, Sgn (cmpT t u) (ordT t u)) (l' : List Tm), l.length = l'.length → Sgn (cmpL l l') (ordL l l')
  | [], _, [], _ => by simp [cmpL, ordL, Sgn]
  | [], _, _ :: _, h => by simp at h
  | _ :: _, _, [], h => by simp at h
  | x :: xs, h, y :: ys, hl => by
    rw [cmpL_cons, ordL_cons]
    have h1 := h x (by simp) y
    have h2 := sgnL xs (fun t ht => h t (by simp [ht])) ys (by simpa using hl)
    revert h1
    cases cmpT x y <;> simp only [Sgn, Ordering.then] <;> intro h1
    · rw [if_neg (by omega)]; exact h1
    · rw [if_pos h1]; exact h2
    · rw [if_neg (by omega)]; exact h1
theorem sgnT (t u : Tm) : Sgn (cmpT t u) (ordT t u) := by
  revert u
  refine Tm.ind (P := fun t => ∀ u, Sgn (cmpT t u) (ordT t u)) ?_ t
  intro o v l ih u
  obtain ⟨o', v', l'⟩ := u
  rw [cmpT_mk, ordT_mk]
  have hl := sgnL l ih l'
  unfold cmpI
  by_cases h1 : o < o'
  · simp [h1, Sgn]
  · by_cases h2 : o' < o
    · simp [h1, h2, Sgn]
    · by_cases h3 : v < v'
      · simp [h1, h2, h3, Sgn]
      · by_cases h4 : v' < v
        · simp [h1, h2, h3, h4, Sgn]
        · by_cases h5 : l.length = l'.length
          · simp [h1, h2, h3, h4, h5]; exact hl h5
          · rw [if_neg h1, if_neg h2, if_neg h3, if_neg h4, if_neg h1, if_neg h2, if_neg h3, if_neg h4, if_pos h5]
            by_cases h6 : (l.length : Int) < (l'.length : Int)
            · rw [if_pos h6]; simp [Sgn]; omega
            · rw [if_neg h6, if_pos (by omega)]; simp [Sgn]; omega
theorem ord_less (t u : Tm) : decide (ordT t u < 0) = lessT t u := by
  have h := sgnT t u
  unfold lessT
  revert h
  cases cmpT t u <;> simp only [Sgn] <;> intro h <;> simp <;> omega
/-- What the program's comparison answers. -/
def cmpV (t u : Tm) : Int := match cmpT t u with | .lt => -1 | .eq => 0 | .gt => 1
theorem cmpV_less (t u : Tm) : decide (cmpV t u < 0) = lessT t u := by
  unfold cmpV lessT
  cases cmpT t u <;> decide
theorem cmpV_equ (t u : Tm) : (cmpV t u == 0) = equT t u := by
  unfold cmpV equT
  cases cmpT t u <;> decide
theorem cmpV_range (t u : Tm) : -1 ≤ cmpV t u ∧ cmpV t u ≤ 1 := by
  unfold cmpV
  cases cmpT t u <;> decide
def cmpLV (l l' : List Tm) : Int := match cmpL l l' with | .lt => -1 | .eq => 0 | .gt => 1
theorem cmpLV_drop {l l' : List Tm} {k : Nat} (h1 : k < l.length) (h2 : k < l'.length) : cmpLV (l.drop k) (l'.drop k) = if cmpV l[k] l'[k] = 0 then cmpLV (l.drop (k + 1)) (l'.drop (k + 1)) else cmpV l[k] l'[k] := by
  rw [List.drop_eq_getElem_cons h1, List.drop_eq_getElem_cons h2]
  unfold cmpLV cmpV
  rw [cmpL_cons]
  cases cmpT l[k] l'[k] <;> simp [Ordering.then]
theorem cmpLV_nil (l l' : List Tm) (k : Nat) (h : l.length = l'.length) (hk : l.length ≤ k) : cmpLV (l.drop k) (l'.drop k) = 0 := by
  rw [List.drop_eq_nil_of_le hk, List.drop_eq_nil_of_le (by omega)]
  simp [cmpLV, cmpL]
theorem ordL_nil (l l' : List Tm) (k : Nat) (hk : l.length ≤ k) : ordL (l.drop k) (l'.drop k) = 0 := by
  rw [List.drop_eq_nil_of_le hk]
  simp [ordL]
theorem cmpV_mk (o v o' v' : Int) (l l' : List Tm) : cmpV (.mk o v l) (.mk o' v' l') = if o < o' then -1 else if o' < o then 1 else if v < v' then -1 else if v' < v then 1 else if l.length < l'.length then -1 else if l'.length < l.length then 1 else cmpLV l l' := by
  unfold cmpV cmpLV
  rw [cmpT_mk]
  unfold cmpI
  by_cases h1 : o < o'
  · simp [h1]
  · by_cases h2 : o' < o
    · simp [h1, h2]
    · by_cases h3 : v < v'
      · simp [h1, h2, h3]
      · by_cases h4 : v' < v
        · simp [h1, h2, h3, h4]
        · by_cases h5 : l.length < l'.length
          · simp [h1, h2, h3, h4, h5]
          · by_cases h6 : l'.length < l.length
            · simp [h1, h2, h3, h4, h5, h6]
            · simp [h1, h2, h3, h4, h5, h6]
end Go.Proofs.YtbfppnppijcnlaaGreat
namespace Go.Proofs.YtbfppnppijcnlaaGreat
open Go.RowKit
set_option linter.unusedVariables false
/-- A number that an int can hold. -/
noncomputable def fits (n : Int) : Prop := -9223372036854775808 ≤ n ∧ n ≤ 9223372036854775807
/-- The arguments of the term t lie at A, in a slice of capacity c. -/
inductive Tr (w : World) : Tm → Option Addr → Nat → Prop
  | mk {o v : Int} {l : List Tm} {A : Option Addr} {c : Nat} (AA : Nat → Option Addr) (CC : Nat → Nat) (ho : fits o) (hv : fits v) (hl : l.length ≤ c) (hc : l.length ≤ maxLen)
      (hcell : ∀ (i : Nat) (h : i < l.length), ∃ g k, A = some ⟨g, k, none⟩ ∧ w.cell? ⟨g, k + i * 3, none⟩ = some (.int .i64 (l[i]).op) ∧ w.cell? ⟨g, k + i * 3 + 1, none⟩ = some (.int .i64 (l[i]).val) ∧ w.cell? ⟨g, k + i * 3 + 2, none⟩ = some (.slice (AA i) (l[i]).args.length (CC i)))
      (hrec : ∀ (i : Nat) (h : i < l.length), Tr w l[i] (AA i) (CC i)) : Tr w (.mk o v l) A c
/-- The value of a term whose arguments lie at A. -/
noncomputable def tv (t : Tm) (A : Option Addr) (c : Nat) : Value := .agg #[.int .i64 t.op, .int .i64 t.val, .slice A t.args.length c]
section
variable {w w' : World} {t : Tm} {A : Option Addr} {c : Nat}
theorem Tr.keep (h : Tr w t A c) (hb : ∀ k, k < w.heap.size → w'.heap[k]? = w.heap[k]?) : Tr w' t A c := by
  induction h with
  | mk AA CC ho hv hl hc hcell hrec ih =>
    refine .mk AA CC ho hv hl hc (fun i hi => ?_) ih
    obtain ⟨g, k, hA, h0, h1, h2⟩ := hcell i hi
    have hg := hb g (World.block_lt_of_cell? w ⟨g, _, none⟩ h0)
    exact ⟨g, k, hA, (World.cell?_of_block (a := ⟨g, _, none⟩) hg).trans h0, (World.cell?_of_block (a := ⟨g, _, none⟩) hg).trans h1, (World.cell?_of_block (a := ⟨g, _, none⟩) hg).trans h2⟩
theorem Tr.bel (h : Tr w t A c) (hb : Below w.heap.size w w') : Tr w' t A c := h.keep hb.block
theorem Tr.alloc (h : Tr w t A c) (o : Obj) : Tr (w.alloc o) t A c := h.keep fun k hk => Below.heap_alloc w o k hk
theorem Tr.drewN (h : Tr w t A c) (n : Nat) : Tr (w.drewN n) t A c := h.keep fun k hk => rfl
theorem Tr.ofits (h : Tr w t A c) : fits t.op ∧ fits t.val ∧ t.args.length ≤ c ∧ t.args.length ≤ maxLen := by
  cases h with
  | mk AA CC ho hv hl hc hcell hrec => exact ⟨ho, hv, hl, hc⟩
/-- Argument i of a term. -/
theorem Tr.at (h : Tr w t A c) (i : Nat) (hi : i < t.args.length) : ∃ g k AA CC, A = some ⟨g, k, none⟩ ∧ w.cell? ⟨g, k + i * 3, none⟩ = some (.int .i64 (t.args[i]).op) ∧ w.cell? ⟨g, k + i * 3 + 1, none⟩ = some (.int .i64 (t.args[i]).val) ∧ w.cell? ⟨g, k + i * 3 + 2, none⟩ = some (.slice AA (t.args[i]).args.length CC) ∧ Tr w (t.args[i]) AA CC := by
  cases h with
  | mk AA CC ho hv hl hc hcell hrec =>
    obtain ⟨g, k, hA, h0, h1, h2⟩ := hcell i hi
    exact ⟨g, k, AA i, CC i, hA, h0, h1, h2, hrec i hi⟩
theorem Tr.leaf (w : World) (o v : Int) (A : Option Addr) (c : Nat) (ho : fits o) (hv : fits v) : Tr w (.mk o v []) A c :=
  .mk (fun _ => none) (fun _ => 0) ho hv (Nat.zero_le _) (by simp) (fun i hi => absurd hi (by simp)) (fun i hi => absurd hi (by simp))
end
end Go.Proofs.YtbfppnppijcnlaaGreat
namespace Go.Proofs.YtbfppnppijcnlaaGreat
open Go.RowKit Go.Sort
set_option linter.unusedVariables false
theorem follows_mixed : Tryz.prog.follows .mixedOrders = true := by kernel_rfl
theorem equT_mk (o v o' v' : Int) (l l' : List Tm) : equT (.mk o v l) (.mk o' v' l') = (decide (o = o') && decide (v = v') && decide (l.length = l'.length) && (cmpL l l' == .eq)) := by
  cases h : equT (.mk o v l) (.mk o' v' l')
  · rw [equT_false] at h
    have hl := cmpL_eq l (fun t _ => cmpT_eq t) l'
    cases hc : cmpL l l' == .eq
    · simp
    · have : l = l' := hl.1 (by simpa using hc)
      subst this
      simp
      intro h1 h2
      subst h1; subst h2
      exact h rfl
  · rw [equT_iff] at h
    injection h with h1 h2 h3
    subst h1; subst h2; subst h3
    have hl := (cmpL_eq l (fun t _ => cmpT_eq t) l).2 rfl
    simp [hl]
/-- The first k arguments are equal. -/
def Pre (l l' : List Tm) (k : Nat) : Prop := ∀ i, i < k → l[i]? = l'[i]?
theorem Pre.zero (l l' : List Tm) : Pre l l' 0 := fun i hi => absurd hi (by omega)
theorem Pre.succ {l l' : List Tm} {k : Nat} (h : Pre l l' k) (h1 : k < l.length) (h2 : k < l'.length) (he : equT l[k] l'[k] = true) : Pre l l' (k + 1) := by
  intro i hi
  rcases (by omega : i < k ∨ i = k) with hi | rfl
  · exact h i hi
  · rw [List.getElem?_eq_getElem h1, List.getElem?_eq_getElem h2, equT_iff.1 he]
theorem Pre.all {l l' : List Tm} {k : Nat} {o v : Int} (hl : l.length = l'.length) (hk : l.length ≤ k) (h : Pre l l' k) : equT (.mk o v l) (.mk o v l') = true := by
  have : l = l' := by
    apply List.ext_getElem?
    intro i
    by_cases hi : i < k
    · exact h i hi
    · rw [List.getElem?_eq_none (by omega), List.getElem?_eq_none (by omega)]
  rw [equT_iff, this]
theorem equT_not {l l' : List Tm} {k : Nat} {o v : Int} (h1 : k < l.length) (h2 : k < l'.length) (he : equT l[k] l'[k] = false) : equT (.mk o v l) (.mk o v l') = false := by
  rw [equT_false] at he ⊢
  intro h
  injection h with _ _ h
  subst h
  exact he rfl
theorem requal_any (t : Tm) : ∀ (u : Tm) (w : World) (A B : Option Addr) (c d : Nat), Tr w t A c → Tr w u B d →
    Calls Tryz.prog 23 #[.agg #[.int .i64 t.op, .int .i64 t.val, .slice A t.args.length c], .agg #[.int .i64 u.op, .int .i64 u.val, .slice B u.args.length d]] w fun e w' => e = .returned (.bool (equT t u)) ∧ Below w.heap.size w w' := by
  refine Tm.ind (P := fun t => ∀ (u : Tm) (w : World) (A B : Option Addr) (c d : Nat), Tr w t A c → Tr w u B d →
    Calls Tryz.prog 23 #[.agg #[.int .i64 t.op, .int .i64 t.val, .slice A t.args.length c], .agg #[.int .i64 u.op, .int .i64 u.val, .slice B u.args.length d]] w fun e w' => e = .returned (.bool (equT t u)) ∧ Below w.heap.size w w') ?_ t
  intro o v l ih u w A B c d ht hu
  obtain ⟨o', v', l'⟩ := u
  have f1 := ht.ofits
  have f2 := hu.ofits
  simp only [Tm.op_mk, Tm.val_mk, Tm.args_mk] at f1 f2 ⊢
  unfold fits maxLen at f1 f2
  by_cases ho : o = o'
  · subst ho
    by_cases hv : v = v'
    · subst hv
      by_cases hl : l.length = l'.length
      · have Hi := Lib.hid ih
        have Hl := Lib.hid hl
        have q1 : (o != o) = false := by simp
        have q2 : (v != v) = false := by simp
        have q3 : (((l.length : Nat) : Int) != ((l'.length : Nat) : Int)) = false := by simp [hl]
        have k1 := heap_alloc_new w (Obj.cells #[.int .i64 o, .int .i64 v, .slice A l.length c] 30)
        have k2 := heap_alloc_new (w.alloc (Obj.cells #[.int .i64 o, .int .i64 v, .slice A l.length c] 30)) (Obj.cells #[.int .i64 o, .int .i64 v, .slice B l'.length d] 30)
        have b1 : Blk ((w.alloc (Obj.cells #[.int .i64 o, .int .i64 v, .slice A l.length c] 30)).alloc (Obj.cells #[.int .i64 o, .int .i64 v, .slice B l'.length d] 30)) w.heap.size 30 #[.int .i64 o, .int .i64 v, .slice A l.length c] := Blk.alloc k1 _
        have b2 : Blk ((w.alloc (Obj.cells #[.int .i64 o, .int .i64 v, .slice A l.length c] 30)).alloc (Obj.cells #[.int .i64 o, .int .i64 v, .slice B l'.length d] 30)) (w.heap.size + 1) 30 #[.int .i64 o, .int .i64 v, .slice B l'.length d] := by
          have := k2
          simp only [World.size_alloc] at this
          exact this
        have tt := (ht.alloc (Obj.cells #[.int .i64 o, .int .i64 v, .slice A l.length c] 30)).alloc (Obj.cells #[.int .i64 o, .int .i64 v, .slice B l'.length d] 30)
        have tu := (hu.alloc (Obj.cells #[.int .i64 o, .int .i64 v, .slice A l.length c] 30)).alloc (Obj.cells #[.int .i64 o, .int .i64 v, .slice B l'.length d] 30)
        have bb : Below w.heap.size w ((w.alloc (Obj.cells #[.int .i64 o, .int .i64 v, .slice A l.length c] 30)).alloc (Obj.cells #[.int .i64 o, .int .i64 v, .slice B l'.length d] 30)) := ((Below.refl _ _).alloc (Nat.le_refl _) _).alloc (by simp) _
        have sz : w.heap.size + 1 < ((w.alloc (Obj.cells #[.int .i64 o, .int .i64 v, .slice A l.length c] 30)).alloc (Obj.cells #[.int .i64 o, .int .i64 v, .slice B l'.length d] 30)).heap.size := by simp
        clear k1 k2 ih hl ht hu
        have B1 := Lib.hid b1
        have B2 := Lib.hid b2
        have TT := Lib.hid tt
        have TU := Lib.hid tu
        have BB := Lib.hid bb
        have SZ := Lib.hid sz
        clear b1 b2 tt tu bb sz
        have hm := follows_mixed
        go_enter Tryz.func23, Tryz.ntmps23
        go_wp2_with fail
        generalize (w.alloc (Obj.cells #[.int .i64 o, .int .i64 v, .slice A l.length c] 30)).alloc (Obj.cells #[.int .i64 o, .int .i64 v, .slice B l'.length d] 30) = W at *
        go_loopw [5] (fun i wr => ∃ k : Nat, k ≤ l.length ∧ i = .int .i64 k ∧ Pre l l' k ∧ Below W.heap.size W wr) (fun i _ => l.length - (intOf i).toNat)
        case atStart => exact ⟨0, Nat.zero_le _, rfl, Pre.zero _ _, Below.refl _ _⟩
        case round =>
          obtain ⟨k, hk, rfl, hp, hb⟩ := hrel
          have SZ' := SZ.out
          have d2 : wr.cell? ⟨w.heap.size, 2, none⟩ = some (.slice A l.length c) := (B1.out.below hb (by omega)).cell 2
          have e2 : wr.cell? ⟨w.heap.size + 1, 2, none⟩ = some (.slice B l'.length d) := (B2.out.below hb SZ').cell 2
          by_cases hkl : k < l.length
          · obtain ⟨g, k0, AA, CC, rfl, c0, c1, c2, htr⟩ := (TT.out.bel hb).at k hkl
            obtain ⟨g', k0', BB', DD, rfl, c0', c1', c2', htr'⟩ := (TU.out.bel hb).at k (by have := Hl.out; simpa [← this] using hkl)
            have x1 : (0 : Int) ≤ (k : Int) := by omega
            have x3 : k < l'.length := by have := Hl.out; omega
            have x2 : (k : Int) < (l'.length : Int) := by omega
            simp only [Tm.args_mk] at c0 c1 c2 c0' c1' c2' htr htr'
            have G2 := cell_regrown d2
            have G3 := cell_regrown e2
            have G4 := cell_regrown c0
            have G5 := cell_regrown c1
            have G6 := cell_regrown c2
            have G7 := cell_regrown c0'
            have G8 := cell_regrown c1'
            have G9 := cell_regrown c2'
            have HC : Hid (∀ n os, Calls Tryz.prog 23 #[.agg #[.int .i64 (l[k]).op, .int .i64 (l[k]).val, .slice AA (l[k]).args.length CC], .agg #[.int .i64 (l'[k]'x3).op, .int .i64 (l'[k]'x3).val, .slice BB' (l'[k]'x3).args.length DD]] (grow (redrawn wr n) os) fun e w'' => e = .returned (.bool (equT l[k] (l'[k]'x3))) ∧ ∃ p : Regrown, w'' = grow (redrawn wr p.d) p.os) :=
              Lib.hid (fun n os => Calls.regrown_of (Hi.out _ (List.getElem_mem hkl) _ _ _ _ _ _ (htr.bel (below_regrown wr n os)) (htr'.bel (below_regrown wr n os))))
            have Hb := Lib.hid hb
            have Hp := Lib.hid hp
            clear htr htr' hb hp
            by_cases he : equT l[k] (l'[k]'x3) = true
            · rw [he] at HC
              have HE := Lib.hid he
              clear he
              go_wp2_with fail
              refine wp_region_quiet_below (by assumption) (by kernel_rfl) ?_
              repeat (go_big_quiet_step (exact HC.out _ _))
              refine wpQuiet_nil ?_
              intro _ hw'
              obtain ⟨⟨dq, osq⟩, hw''⟩ := hw'
              subst hw''
              go_wp2_with fail
              go_roundw
              case rel => exact ⟨k + 1, by omega, by go_num, Hp.out.succ hkl x3 HE.out, Hb.out.trans ((below_regrown wr dq osq).mono Hb.out.size)⟩
              case measure => simp [intOf]; omega
            · have he' : equT l[k] (l'[k]'x3) = false := by simpa using he
              rw [he'] at HC
              have HE := Lib.hid he'
              clear he he'
              go_wp2_with fail
              refine wp_region_quiet_below (by assumption) (by kernel_rfl) ?_
              repeat (go_big_quiet_step (exact HC.out _ _))
              refine wpQuiet_nil ?_
              intro _ hw'
              obtain ⟨⟨dq, osq⟩, hw''⟩ := hw'
              subst hw''
              go_wp2_with fail
              go_ret
              refine ⟨ret_bool (equT_not hkl x3 HE.out).symm, BB.out.trans ((Hb.out.trans ((below_regrown wr dq osq).mono Hb.out.size)).mono BB.out.size)⟩
          · have x2 : decide ((k : Int) < (l.length : Int)) = false := by simp; omega
            have Hb := Lib.hid hb
            have Hp := Lib.hid hp
            clear hb hp
            go_wp2_with fail
            go_ret
            exact ⟨ret_bool (Pre.all Hl.out (by omega) Hp.out).symm, BB.out.trans (Hb.out.mono BB.out.size)⟩
      · have e1 : equT (.mk o v l) (.mk o v l') = false := by rw [equT_mk]; simp [hl]
        rw [e1]
        have q3 : (((l.length : Nat) : Int) != ((l'.length : Nat) : Int)) = true := by simp; omega
        have Hi := Lib.hid ih
        have Ht := Lib.hid ht
        have Hu := Lib.hid hu
        clear ih ht hu e1
        go_enter Tryz.func23, Tryz.ntmps23
        go_wp2_with fail
        go_ret
        exact ⟨rfl, ((Below.refl _ _).alloc (Nat.le_refl _) _).alloc (by simp) _⟩
    · have e1 : equT (.mk o v l) (.mk o v' l') = false := by rw [equT_mk]; simp [hv]
      rw [e1]
      have q1 : (o != o) = false := by simp
      have q2 : (v != v') = true := by simp [hv]
      have Hi := Lib.hid ih
      have Ht := Lib.hid ht
      have Hu := Lib.hid hu
      clear ih ht hu e1
      go_enter Tryz.func23, Tryz.ntmps23
      go_wp2_with fail
      go_ret
      exact ⟨rfl, ((Below.refl _ _).alloc (Nat.le_refl _) _).alloc (by simp) _⟩
  · have e1 : equT (.mk o v l) (.mk o' v' l') = false := by rw [equT_mk]; simp [ho]
    rw [e1]
    have q1 : (o != o') = true := by simp [ho]
    have Hi := Lib.hid ih
    have Ht := Lib.hid ht
    have Hu := Lib.hid hu
    clear ih ht hu e1
    go_enter Tryz.func23, Tryz.ntmps23
    go_wp2_with fail
    go_ret
    exact ⟨rfl, ((Below.refl _ _).alloc (Nat.le_refl _) _).alloc (by simp) _⟩
end Go.Proofs.YtbfppnppijcnlaaGreat
namespace Go.Proofs.YtbfppnppijcnlaaGreat
open Go.RowKit Go.Sort
set_option linter.unusedVariables false
theorem rorder_any (t : Tm) : ∀ (u : Tm) (w : World) (A B : Option Addr) (c d : Nat), Tr w t A c → Tr w u B d →
    Calls Tryz.prog 212 #[.agg #[.int .i64 t.op, .int .i64 t.val, .slice A t.args.length c], .agg #[.int .i64 u.op, .int .i64 u.val, .slice B u.args.length d]] w fun e w' => e = .returned (.int .i64 (ordT t u)) ∧ Below w.heap.size w w' := by
  refine Tm.ind (P := fun t => ∀ (u : Tm) (w : World) (A B : Option Addr) (c d : Nat), Tr w t A c → Tr w u B d →
    Calls Tryz.prog 212 #[.agg #[.int .i64 t.op, .int .i64 t.val, .slice A t.args.length c], .agg #[.int .i64 u.op, .int .i64 u.val, .slice B u.args.length d]] w fun e w' => e = .returned (.int .i64 (ordT t u)) ∧ Below w.heap.size w w') ?_ t
  intro o v l ih u w A B c d ht hu
  obtain ⟨o', v', l'⟩ := u
  have f1 := ht.ofits
  have f2 := hu.ofits
  simp only [Tm.op_mk, Tm.val_mk, Tm.args_mk] at f1 f2 ⊢
  unfold fits maxLen at f1 f2
  by_cases h1 : o < o'
  · have e1 : ordT (.mk o v l) (.mk o' v' l') = -1 := by rw [ordT_mk, if_pos h1]
    rw [e1]
    have q1 : decide ((o : Int) < (o' : Int)) = true := by simp; omega
    have Hi := Lib.hid ih
    have Ht := Lib.hid ht
    have Hu := Lib.hid hu
    clear ih ht hu e1
    go_enter Tryz.func212, Tryz.ntmps212
    go_wp2_with fail
    go_ret
    exact ⟨rfl, ((Below.refl _ _).alloc (Nat.le_refl _) _).alloc (by simp) _⟩
  by_cases h2 : o' < o
  · have e1 : ordT (.mk o v l) (.mk o' v' l') = 1 := by rw [ordT_mk, if_neg h1, if_pos h2]
    rw [e1]
    have q1 : decide ((o : Int) < (o' : Int)) = false := by simp; omega
    have q2 : decide ((o' : Int) < (o : Int)) = true := by simp; omega
    have Hi := Lib.hid ih
    have Ht := Lib.hid ht
    have Hu := Lib.hid hu
    clear ih ht hu e1
    go_enter Tryz.func212, Tryz.ntmps212
    go_wp2_with fail
    go_ret
    exact ⟨rfl, ((Below.refl _ _).alloc (Nat.le_refl _) _).alloc (by simp) _⟩
  have ho : o = o' := by omega
  subst ho
  clear h1 h2
  by_cases h1 : v < v'
  · have e1 : ordT (.mk o v l) (.mk o v' l') = -1 := by rw [ordT_mk, if_neg (by omega), if_neg (by omega), if_pos h1]
    rw [e1]
    have q1 : decide ((o : Int) < (o : Int)) = false := by simp
    have q2 : decide ((v : Int) < (v' : Int)) = true := by simp; omega
    have Hi := Lib.hid ih
    have Ht := Lib.hid ht
    have Hu := Lib.hid hu
    clear ih ht hu e1
    go_enter Tryz.func212, Tryz.ntmps212
    go_wp2_with fail
    go_ret
    exact ⟨rfl, ((Below.refl _ _).alloc (Nat.le_refl _) _).alloc (by simp) _⟩
  by_cases h2 : v' < v
  · have e1 : ordT (.mk o v l) (.mk o v' l') = 1 := by rw [ordT_mk, if_neg (by omega), if_neg (by omega), if_neg h1, if_pos h2]
    rw [e1]
    have q1 : decide ((o : Int) < (o : Int)) = false := by simp
    have q2 : decide ((v : Int) < (v' : Int)) = false := by simp; omega
    have q3 : decide ((v' : Int) < (v : Int)) = true := by simp; omega
    have Hi := Lib.hid ih
    have Ht := Lib.hid ht
    have Hu := Lib.hid hu
    clear ih ht hu e1
    go_enter Tryz.func212, Tryz.ntmps212
    go_wp2_with fail
    go_ret
    exact ⟨rfl, ((Below.refl _ _).alloc (Nat.le_refl _) _).alloc (by simp) _⟩
  have hv : v = v' := by omega
  subst hv
  clear h1 h2
  by_cases hl : l.length = l'.length
  · have e0 : ordT (.mk o v l) (.mk o v l') = ordL (l.drop 0) (l'.drop 0) := by rw [ordT_mk, if_neg (by omega), if_neg (by omega), if_neg (by omega), if_neg (by omega), if_neg (by simp [hl])]; rfl
    rw [e0]
    clear e0
    generalize hR : ordL (l.drop 0) (l'.drop 0) = R
    have HR := Lib.hid hR
    clear hR
    have q1 : decide (o < o) = false := by simp
    have q2 : decide (v < v) = false := by simp
    have q3 : (((l.length : Nat) : Int) != ((l'.length : Nat) : Int)) = false := by simp [hl]
    have Hi := Lib.hid ih
    have Hl := Lib.hid hl
    have k1 := heap_alloc_new w (Obj.cells #[.int .i64 o, .int .i64 v, .slice A l.length c] 30)
    have k2 := heap_alloc_new (w.alloc (Obj.cells #[.int .i64 o, .int .i64 v, .slice A l.length c] 30)) (Obj.cells #[.int .i64 o, .int .i64 v, .slice B l'.length d] 30)
    have b1 : Blk ((w.alloc (Obj.cells #[.int .i64 o, .int .i64 v, .slice A l.length c] 30)).alloc (Obj.cells #[.int .i64 o, .int .i64 v, .slice B l'.length d] 30)) w.heap.size 30 #[.int .i64 o, .int .i64 v, .slice A l.length c] := Blk.alloc k1 _
    have b2 : Blk ((w.alloc (Obj.cells #[.int .i64 o, .int .i64 v, .slice A l.length c] 30)).alloc (Obj.cells #[.int .i64 o, .int .i64 v, .slice B l'.length d] 30)) (w.heap.size + 1) 30 #[.int .i64 o, .int .i64 v, .slice B l'.length d] := by
      have := k2
      simp only [World.size_alloc] at this
      exact this
    have tt := (ht.alloc (Obj.cells #[.int .i64 o, .int .i64 v, .slice A l.length c] 30)).alloc (Obj.cells #[.int .i64 o, .int .i64 v, .slice B l'.length d] 30)
    have tu := (hu.alloc (Obj.cells #[.int .i64 o, .int .i64 v, .slice A l.length c] 30)).alloc (Obj.cells #[.int .i64 o, .int .i64 v, .slice B l'.length d] 30)
    have bb : Below w.heap.size w ((w.alloc (Obj.cells #[.int .i64 o, .int .i64 v, .slice A l.length c] 30)).alloc (Obj.cells #[.int .i64 o, .int .i64 v, .slice B l'.length d] 30)) := ((Below.refl _ _).alloc (Nat.le_refl _) _).alloc (by simp) _
    have sz : w.heap.size + 1 < ((w.alloc (Obj.cells #[.int .i64 o, .int .i64 v, .slice A l.length c] 30)).alloc (Obj.cells #[.int .i64 o, .int .i64 v, .slice B l'.length d] 30)).heap.size := by simp
    clear k1 k2 ih hl ht hu
    have B1 := Lib.hid b1
    have B2 := Lib.hid b2
    have TT := Lib.hid tt
    have TU := Lib.hid tu
    have BB := Lib.hid bb
    have SZ := Lib.hid sz
    clear b1 b2 tt tu bb sz
    have hm := follows_mixed
    go_enter Tryz.func212, Tryz.ntmps212
    go_wp2_with fail
    generalize (w.alloc (Obj.cells #[.int .i64 o, .int .i64 v, .slice A l.length c] 30)).alloc (Obj.cells #[.int .i64 o, .int .i64 v, .slice B l'.length d] 30) = W at *
    go_loopw [5, 6] (fun i _ wr => ∃ k : Nat, k ≤ l.length ∧ i = .int .i64 k ∧ ordL (l.drop k) (l'.drop k) = R ∧ Below W.heap.size W wr) (fun i _ _ => l.length - (intOf i).toNat)
    case atStart => exact ⟨0, Nat.zero_le _, rfl, HR.out, Below.refl _ _⟩
    case round =>
      obtain ⟨k, hk, rfl, hp, hb⟩ := hrel
      have SZ' := SZ.out
      have d2 : wr.cell? ⟨w.heap.size, 2, none⟩ = some (.slice A l.length c) := (B1.out.below hb (by omega)).cell 2
      have e2 : wr.cell? ⟨w.heap.size + 1, 2, none⟩ = some (.slice B l'.length d) := (B2.out.below hb SZ').cell 2
      by_cases hkl : k < l.length
      · obtain ⟨g, k0, AA, CC, rfl, c0, c1, c2, htr⟩ := (TT.out.bel hb).at k hkl
        obtain ⟨g', k0', BB', DD, rfl, c0', c1', c2', htr'⟩ := (TU.out.bel hb).at k (by have := Hl.out; simpa [← this] using hkl)
        have x1 : (0 : Int) ≤ (k : Int) := by omega
        have x3 : k < l'.length := by have := Hl.out; omega
        have x2 : (k : Int) < (l'.length : Int) := by omega
        simp only [Tm.args_mk] at c0 c1 c2 c0' c1' c2' htr htr'
        have G2 := cell_regrown d2
        have G3 := cell_regrown e2
        have G4 := cell_regrown c0
        have G5 := cell_regrown c1
        have G6 := cell_regrown c2
        have G7 := cell_regrown c0'
        have G8 := cell_regrown c1'
        have G9 := cell_regrown c2'
        have hc : Hid (∀ n os, Calls Tryz.prog 212 #[.agg #[.int .i64 (l[k]).op, .int .i64 (l[k]).val, .slice AA (l[k]).args.length CC], .agg #[.int .i64 (l'[k]'x3).op, .int .i64 (l'[k]'x3).val, .slice BB' (l'[k]'x3).args.length DD]] (grow (redrawn wr n) os) fun e w'' => e = .returned (.int .i64 (ordT l[k] (l'[k]'x3))) ∧ ∃ p : Regrown, w'' = grow (redrawn wr p.d) p.os) :=
          Lib.hid (fun n os => Calls.regrown_of (Hi.out _ (List.getElem_mem hkl) _ _ _ _ _ _ (htr.bel (below_regrown wr n os)) (htr'.bel (below_regrown wr n os))))
        rw [ordL_drop hkl x3] at hp
        generalize ordT l[k] (l'[k]'x3) = z at hc hp
        have Hb := Lib.hid hb
        have HC := hc
        clear htr htr' hb hc
        by_cases hz : z = 0
        · subst hz
          rw [if_pos rfl] at hp
          have Hp := Lib.hid hp
          clear hp
          go_wp2_with fail
          refine wp_region_quiet_below (by assumption) (by kernel_rfl) ?_
          repeat (go_big_quiet_step (exact HC.out _ _))
          refine wpQuiet_nil ?_
          intro _ hw'
          obtain ⟨⟨dq, osq⟩, hw''⟩ := hw'
          subst hw''
          go_wp2_with fail
          go_roundw
          case rel => exact ⟨k + 1, by omega, by go_num, Hp.out, Hb.out.trans ((below_regrown wr dq osq).mono Hb.out.size)⟩
          case measure => simp [intOf]; omega
        · rw [if_neg hz] at hp
          subst hp
          have q4 : (z != 0) = true := by simp [hz]
          go_wp2_with fail
          refine wp_region_quiet_below (by assumption) (by kernel_rfl) ?_
          repeat (go_big_quiet_step (exact HC.out _ _))
          refine wpQuiet_nil ?_
          intro _ hw'
          obtain ⟨⟨dq, osq⟩, hw''⟩ := hw'
          subst hw''
          go_wp2_with fail
          go_ret
          exact ⟨rfl, BB.out.trans ((Hb.out.trans ((below_regrown wr dq osq).mono Hb.out.size)).mono BB.out.size)⟩
      · have x2 : decide ((k : Int) < (l.length : Int)) = false := by simp; omega
        have Hb := Lib.hid hb
        rw [ordL_nil _ _ _ (by omega)] at hp
        subst hp
        clear hb
        go_wp2_with fail
        go_ret
        exact ⟨rfl, BB.out.trans (Hb.out.mono BB.out.size)⟩
  · have e1 : ordT (.mk o v l) (.mk o v l') = (l.length : Int) - (l'.length : Int) := by rw [ordT_mk, if_neg (by omega), if_neg (by omega), if_neg (by omega), if_neg (by omega), if_pos hl]
    rw [e1]
    have q1 : decide ((o : Int) < (o : Int)) = false := by simp
    have q2 : decide ((v : Int) < (v : Int)) = false := by simp
    have q3 : (((l.length : Nat) : Int) != ((l'.length : Nat) : Int)) = true := by simp; omega
    have Hi := Lib.hid ih
    have Ht := Lib.hid ht
    have Hu := Lib.hid hu
    clear ih ht hu e1
    go_enter Tryz.func212, Tryz.ntmps212
    go_wp2_with fail
    go_ret
    exact ⟨rfl, ((Below.refl _ _).alloc (Nat.le_refl _) _).alloc (by simp) _⟩
end Go.Proofs.YtbfppnppijcnlaaGreat
namespace Go.Proofs.YtbfppnppijcnlaaGreat
open Go.RowKit Go.Sort
set_option linter.unusedVariables false
theorem cell_alloc {w : World} {a : Addr} {v : Value} {o : Obj} (h : w.cell? a = some v) : (w.alloc o).cell? a = some v :=
  (World.cell?_alloc_lt w o a (World.block_lt_of_cell? w a h)).trans h
/-- Which of the three pairs is looked at, and what the elder ones said. -/
def PairsAt (o o' v v' : Int) (n n' : Nat) (i : Value) : Prop :=
  i = .int .i64 0 ∨ (i = .int .i64 1 ∧ o = o') ∨ (i = .int .i64 2 ∧ o = o' ∧ v = v') ∨ (i = .int .i64 3 ∧ o = o' ∧ v = v' ∧ n = n')
theorem compare_any (t : Tm) : ∀ (u : Tm) (w : World) (A B : Option Addr) (c d : Nat), Tr w t A c → Tr w u B d →
    Calls Tryz.prog 97 #[.agg #[.int .i64 t.op, .int .i64 t.val, .slice A t.args.length c], .agg #[.int .i64 u.op, .int .i64 u.val, .slice B u.args.length d]] w fun e w' => e = .returned (.int .i64 (cmpV t u)) ∧ Below w.heap.size w w' := by
  refine Tm.ind (P := fun t => ∀ (u : Tm) (w : World) (A B : Option Addr) (c d : Nat), Tr w t A c → Tr w u B d →
    Calls Tryz.prog 97 #[.agg #[.int .i64 t.op, .int .i64 t.val, .slice A t.args.length c], .agg #[.int .i64 u.op, .int .i64 u.val, .slice B u.args.length d]] w fun e w' => e = .returned (.int .i64 (cmpV t u)) ∧ Below w.heap.size w w') ?_ t
  intro o v l ih u w A B c d ht hu
  obtain ⟨o', v', l'⟩ := u
  have f1 := ht.ofits
  have f2 := hu.ofits
  simp only [Tm.op_mk, Tm.val_mk, Tm.args_mk] at f1 f2 ⊢
  unfold fits maxLen at f1 f2
  have i0 : ∀ w, (Instr.index 191 (.agg #[.int .i64 o, .int .i64 o', .int .i64 v, .int .i64 v', .int .i64 (l.length : Nat), .int .i64 (l'.length : Nat)]) (.int .i64 0)).run Tryz.prog w = .ok (.agg #[.int .i64 o, .int .i64 o']) w := fun _ => by kernel_rfl
  have i1 : ∀ w, (Instr.index 191 (.agg #[.int .i64 o, .int .i64 o', .int .i64 v, .int .i64 v', .int .i64 (l.length : Nat), .int .i64 (l'.length : Nat)]) (.int .i64 1)).run Tryz.prog w = .ok (.agg #[.int .i64 v, .int .i64 v']) w := fun _ => by kernel_rfl
  have i2 : ∀ w, (Instr.index 191 (.agg #[.int .i64 o, .int .i64 o', .int .i64 v, .int .i64 v', .int .i64 (l.length : Nat), .int .i64 (l'.length : Nat)]) (.int .i64 2)).run Tryz.prog w = .ok (.agg #[.int .i64 (l.length : Nat), .int .i64 (l'.length : Nat)]) w := fun _ => by kernel_rfl
  have Hi := Lib.hid ih
  have k1 := heap_alloc_new w (Obj.cells #[.int .i64 o, .int .i64 v, .slice A l.length c] 30)
  have k2 := heap_alloc_new (w.alloc (Obj.cells #[.int .i64 o, .int .i64 v, .slice A l.length c] 30)) (Obj.cells #[.int .i64 o', .int .i64 v', .slice B l'.length d] 30)
  have b1 : Blk ((w.alloc (Obj.cells #[.int .i64 o, .int .i64 v, .slice A l.length c] 30)).alloc (Obj.cells #[.int .i64 o', .int .i64 v', .slice B l'.length d] 30)) w.heap.size 30 #[.int .i64 o, .int .i64 v, .slice A l.length c] := Blk.alloc k1 _
  have b2 : Blk ((w.alloc (Obj.cells #[.int .i64 o, .int .i64 v, .slice A l.length c] 30)).alloc (Obj.cells #[.int .i64 o', .int .i64 v', .slice B l'.length d] 30)) (w.heap.size + 1) 30 #[.int .i64 o', .int .i64 v', .slice B l'.length d] := by
    have := k2
    simp only [World.size_alloc] at this
    exact this
  have tt := (ht.alloc (Obj.cells #[.int .i64 o, .int .i64 v, .slice A l.length c] 30)).alloc (Obj.cells #[.int .i64 o', .int .i64 v', .slice B l'.length d] 30)
  have tu := (hu.alloc (Obj.cells #[.int .i64 o, .int .i64 v, .slice A l.length c] 30)).alloc (Obj.cells #[.int .i64 o', .int .i64 v', .slice B l'.length d] 30)
  have bb : Below w.heap.size w ((w.alloc (Obj.cells #[.int .i64 o, .int .i64 v, .slice A l.length c] 30)).alloc (Obj.cells #[.int .i64 o', .int .i64 v', .slice B l'.length d] 30)) := ((Below.refl _ _).alloc (Nat.le_refl _) _).alloc (by simp) _
  have sz : w.heap.size + 1 < ((w.alloc (Obj.cells #[.int .i64 o, .int .i64 v, .slice A l.length c] 30)).alloc (Obj.cells #[.int .i64 o', .int .i64 v', .slice B l'.length d] 30)).heap.size := by simp
  clear k1 k2 ih ht hu
  have B1 := Lib.hid b1
  have B2 := Lib.hid b2
  have TT := Lib.hid tt
  have TU := Lib.hid tu
  have BB := Lib.hid bb
  have SZ := Lib.hid sz
  clear b1 b2 tt tu bb sz
  generalize hR0 : cmpV (.mk o v l) (.mk o' v' l') = R
  have HR0 := Lib.hid hR0
  clear hR0
  have hm := follows_mixed
  go_enter Tryz.func97, Tryz.ntmps97
  go_wp2_with fail
  generalize (w.alloc (Obj.cells #[.int .i64 o, .int .i64 v, .slice A l.length c] 30)).alloc (Obj.cells #[.int .i64 o', .int .i64 v', .slice B l'.length d] 30) = W at *
  go_loopw [28] (fun i wr => PairsAt o o' v v' l.length l'.length i ∧ Below W.heap.size W wr) (fun i _ => 3 - (intOf i).toNat)
  case atStart => exact ⟨.inl rfl, Below.refl _ _⟩
  case round =>
    obtain ⟨hp, hb⟩ := hrel
    have SZ' := SZ.out
    rcases hp with rfl | ⟨rfl, ho⟩ | ⟨rfl, ho, hv⟩ | ⟨rfl, ho, hv, hl⟩
    · have Hb := Lib.hid hb
      clear hb
      by_cases h1 : o < o'
      · have e1 : R = -1 := by rw [← HR0.out, cmpV_mk, if_pos h1]
        subst e1
        have q1 : decide ((o : Int) < (o' : Int)) = true := by simp; omega
        clear h1
        go_wp2_with fail
        go_ret
        exact ⟨rfl, BB.out.trans ((Hb.out.alloc Hb.out.size _).mono BB.out.size)⟩
      by_cases h2 : o' < o
      · have e1 : R = 1 := by rw [← HR0.out, cmpV_mk, if_neg h1, if_pos h2]
        subst e1
        have q1 : decide ((o : Int) < (o' : Int)) = false := by simp; omega
        have q2 : decide ((o' : Int) < (o : Int)) = true := by simp; omega
        clear h1 h2
        go_wp2_with fail
        go_ret
        exact ⟨rfl, BB.out.trans ((Hb.out.alloc Hb.out.size _).mono BB.out.size)⟩
      have he : o = o' := by omega
      have HE := Lib.hid he
      have q1 : decide ((o : Int) < (o' : Int)) = false := by simp; omega
      have q2 : decide ((o' : Int) < (o : Int)) = false := by simp; omega
      clear h1 h2 he
      go_wp2_with fail
      go_roundw
      case rel => exact ⟨.inr (.inl ⟨rfl, HE.out⟩), Hb.out.alloc Hb.out.size _⟩
      case measure => simp [intOf]
    · subst ho
      have Hb := Lib.hid hb
      clear hb
      by_cases h1 : v < v'
      · have e1 : R = -1 := by rw [← HR0.out, cmpV_mk, if_neg (by omega), if_neg (by omega), if_pos h1]
        subst e1
        have q1 : decide ((v : Int) < (v' : Int)) = true := by simp; omega
        clear h1
        go_wp2_with fail
        go_ret
        exact ⟨rfl, BB.out.trans ((Hb.out.alloc Hb.out.size _).mono BB.out.size)⟩
      by_cases h2 : v' < v
      · have e1 : R = 1 := by rw [← HR0.out, cmpV_mk, if_neg (by omega), if_neg (by omega), if_neg h1, if_pos h2]
        subst e1
        have q1 : decide ((v : Int) < (v' : Int)) = false := by simp; omega
        have q2 : decide ((v' : Int) < (v : Int)) = true := by simp; omega
        clear h1 h2
        go_wp2_with fail
        go_ret
        exact ⟨rfl, BB.out.trans ((Hb.out.alloc Hb.out.size _).mono BB.out.size)⟩
      have he : v = v' := by omega
      have HE := Lib.hid he
      have q1 : decide ((v : Int) < (v' : Int)) = false := by simp; omega
      have q2 : decide ((v' : Int) < (v : Int)) = false := by simp; omega
      clear h1 h2 he
      go_wp2_with fail
      go_roundw
      case rel => exact ⟨.inr (.inr (.inl ⟨rfl, rfl, HE.out⟩)), Hb.out.alloc Hb.out.size _⟩
      case measure => simp [intOf]
    · subst ho
      subst hv
      have Hb := Lib.hid hb
      clear hb
      by_cases h1 : l.length < l'.length
      · have e1 : R = -1 := by rw [← HR0.out, cmpV_mk, if_neg (by omega), if_neg (by omega), if_neg (by omega), if_neg (by omega), if_pos h1]
        subst e1
        have q1 : decide (l.length < l'.length) = true := by simp; omega
        clear h1
        go_wp2_with fail
        go_ret
        exact ⟨rfl, BB.out.trans ((Hb.out.alloc Hb.out.size _).mono BB.out.size)⟩
      by_cases h2 : l'.length < l.length
      · have e1 : R = 1 := by rw [← HR0.out, cmpV_mk, if_neg (by omega), if_neg (by omega), if_neg (by omega), if_neg (by omega), if_neg h1, if_pos h2]
        subst e1
        have q1 : decide (l.length < l'.length) = false := by simp; omega
        have q2 : decide (l'.length < l.length) = true := by simp; omega
        clear h1 h2
        go_wp2_with fail
        go_ret
        exact ⟨rfl, BB.out.trans ((Hb.out.alloc Hb.out.size _).mono BB.out.size)⟩
      have he : l.length = l'.length := by omega
      have HE := Lib.hid he
      have q1 : decide (l.length < l'.length) = false := by simp; omega
      have q2 : decide (l'.length < l.length) = false := by simp; omega
      clear h1 h2 he
      go_wp2_with fail
      go_roundw
      case rel => exact ⟨.inr (.inr (.inr ⟨rfl, rfl, rfl, HE.out⟩)), Hb.out.alloc Hb.out.size _⟩
      case measure => simp [intOf]
    · subst ho
      subst hv
      have hR : cmpLV (l.drop 0) (l'.drop 0) = R := by
        rw [← HR0.out, cmpV_mk, if_neg (by omega), if_neg (by omega), if_neg (by omega), if_neg (by omega), if_neg (by omega), if_neg (by omega)]
        rfl
      have HR := Lib.hid hR
      have Hl := Lib.hid hl
      have d2 : wr.cell? ⟨w.heap.size, 2, none⟩ = some (.slice A l.length c) := (B1.out.below hb (by omega)).cell 2
      have HB := Lib.hid hb
      clear i0 i1 i2 hR hl hb
      go_wp2_with fail
      clear d2
      go_loopw [45] (fun i wz => ∃ k : Nat, k ≤ l.length ∧ i = .int .i64 k ∧ cmpLV (l.drop k) (l'.drop k) = R ∧ Below W.heap.size W wz) (fun i _ => l.length - (intOf i).toNat)
      case atStart => exact ⟨0, Nat.zero_le _, rfl, HR.out, HB.out⟩
      case round =>
        obtain ⟨k, hk, rfl, hp, hb⟩ := hrel
        by_cases hkl : k < l.length
        · obtain ⟨g, k0, AA, CC, rfl, c0, c1, c2, htr⟩ := (TT.out.bel hb).at k hkl
          obtain ⟨g', k0', BB', DD, rfl, c0', c1', c2', htr'⟩ := (TU.out.bel hb).at k (by have := Hl.out; simpa [← this] using hkl)
          have e2 := (B2.out.below hb SZ').alloc (Obj.cells #[.int .i64 (l[k]).op, .int .i64 (l[k]).val, .slice AA (l[k]).args.length CC] 30)
          have e3 := heap_alloc_new wr (Obj.cells #[.int .i64 (l[k]).op, .int .i64 (l[k]).val, .slice AA (l[k]).args.length CC] 30)
          have tr1 := htr.alloc (Obj.cells #[.int .i64 (l[k]).op, .int .i64 (l[k]).val, .slice AA (l[k]).args.length CC] 30)
          have tr2 := htr'.alloc (Obj.cells #[.int .i64 (l[k]).op, .int .i64 (l[k]).val, .slice AA (l[k]).args.length CC] 30)
          have u0 := (TU.out.bel hb).alloc (Obj.cells #[.int .i64 (l[k]).op, .int .i64 (l[k]).val, .slice AA (l[k]).args.length CC] 30)
          have hb2 := hb.alloc hb.size (Obj.cells #[.int .i64 (l[k]).op, .int .i64 (l[k]).val, .slice AA (l[k]).args.length CC] 30)
          have x1 : (0 : Int) ≤ (k : Int) := by omega
          have x3 : k < l'.length := by have := Hl.out; omega
          have x2 : (k : Int) < (l'.length : Int) := by omega
          simp only [Tm.args_mk] at c0 c1 c2 c0' c1' c2' tr1 tr2
          rw [cmpLV_drop hkl x3] at hp
          have HH := Lib.hid (And.intro e2 (And.intro e3 (And.intro tr1 (And.intro tr2 hb2))))
          have HC := Lib.hid (And.intro (cell_alloc (o := Obj.cells #[.int .i64 (l[k]).op, .int .i64 (l[k]).val, .slice AA (l[k]).args.length CC] 30) c0') (And.intro (cell_alloc (o := Obj.cells #[.int .i64 (l[k]).op, .int .i64 (l[k]).val, .slice AA (l[k]).args.length CC] 30) c1') (cell_alloc (o := Obj.cells #[.int .i64 (l[k]).op, .int .i64 (l[k]).val, .slice AA (l[k]).args.length CC] 30) c2')))
          have Hp := Lib.hid hp
          clear e2 e3 tr1 tr2 u0 hb2 hb htr htr' hp c0' c1' c2'
          go_wp2_with fail
          generalize wr.alloc (Obj.cells #[.int .i64 (l[k]).op, .int .i64 (l[k]).val, .slice AA (l[k]).args.length CC] 30) = W2 at *
          obtain ⟨e2, e3, tr1, tr2, hb2⟩ := HH.out
          obtain ⟨c0', c1', c2'⟩ := HC.out
          have HB2 := Lib.hid hb2
          have n0 : W2.cell? ⟨wr.heap.size, 0, none⟩ = some (.int .i64 (l[k]).op) := Blk.cell e3 0
          have n1 : W2.cell? ⟨wr.heap.size, 1, none⟩ = some (.int .i64 (l[k]).val) := Blk.cell e3 1
          have n2 : W2.cell? ⟨wr.heap.size, 2, none⟩ = some (.slice AA (l[k]).args.length CC) := Blk.cell e3 2
          have m2 : W2.cell? ⟨w.heap.size + 1, 2, none⟩ = some (.slice (some ⟨g', k0', none⟩) l'.length d) := e2.cell 2
          have G0 := cell_regrown n0
          have G1 := cell_regrown n1
          have G2 := cell_regrown n2
          have G3 := cell_regrown m2
          have G4 := cell_regrown c0'
          have G5 := cell_regrown c1'
          have G6 := cell_regrown c2'
          have hc : Hid (∀ n os, Calls Tryz.prog 97 #[.agg #[.int .i64 (l[k]).op, .int .i64 (l[k]).val, .slice AA (l[k]).args.length CC], .agg #[.int .i64 (l'[k]'x3).op, .int .i64 (l'[k]'x3).val, .slice BB' (l'[k]'x3).args.length DD]] (grow (redrawn W2 n) os) fun e w'' => e = .returned (.int .i64 (cmpV l[k] (l'[k]'x3))) ∧ ∃ p : Regrown, w'' = grow (redrawn W2 p.d) p.os) :=
            Lib.hid (fun n os => Calls.regrown_of (Hi.out _ (List.getElem_mem hkl) _ _ _ _ _ _ (tr1.bel (below_regrown W2 n os)) (tr2.bel (below_regrown W2 n os))))
          have hp2 := Hp.out
          clear e2 e3 tr1 tr2 hb2 HH HC Hp
          generalize cmpV l[k] (l'[k]'x3) = z at hc hp2
          by_cases hz : z = 0
          · subst hz
            rw [if_pos rfl] at hp2
            have Hp := Lib.hid hp2
            clear hp2
            refine wp_region_quiet_below (by assumption) (by kernel_rfl) ?_
            repeat (go_big_quiet_step (exact hc.out _ _))
            refine wpQuiet_nil ?_
            intro _ hw'
            obtain ⟨⟨dq, osq⟩, hw''⟩ := hw'
            subst hw''
            go_wp2_with fail
            go_roundw
            case rel => exact ⟨k + 1, by omega, by go_num, Hp.out, HB2.out.trans ((below_regrown W2 dq osq).mono HB2.out.size)⟩
            case measure => simp [intOf]; omega
          · rw [if_neg hz] at hp2
            subst hp2
            have q4 : (z != 0) = true := by simp [hz]
            refine wp_region_quiet_below (by assumption) (by kernel_rfl) ?_
            repeat (go_big_quiet_step (exact hc.out _ _))
            refine wpQuiet_nil ?_
            intro _ hw'
            obtain ⟨⟨dq, osq⟩, hw''⟩ := hw'
            subst hw''
            go_wp2_with fail
            go_ret
            exact ⟨rfl, BB.out.trans ((HB2.out.trans ((below_regrown W2 dq osq).mono HB2.out.size)).mono BB.out.size)⟩
        · have x2 : decide ((k : Int) < (l.length : Int)) = false := by simp; omega
          have Hb := Lib.hid hb
          rw [cmpLV_nil _ _ _ Hl.out (by omega)] at hp
          subst hp
          clear hb
          go_wp2_with fail
          go_ret
          exact ⟨rfl, BB.out.trans (Hb.out.mono BB.out.size)⟩
end Go.Proofs.YtbfppnppijcnlaaGreat
namespace Go.Proofs.YtbfppnppijcnlaaGreat
open Go.RowKit Go.Sort
set_option linter.unusedVariables false
theorem box1 {w w1 : World} {o1 : Obj} (h : Below (w.alloc o1).heap.size (w.alloc o1) w1) : Below w.heap.size w w1 :=
  ((Below.refl _ _).alloc (Nat.le_refl _) _).trans (h.mono (by simp))
theorem box2 {w w1 : World} {o1 o2 : Obj} (h : Below ((w.alloc o1).alloc o2).heap.size ((w.alloc o1).alloc o2) w1) : Below w.heap.size w w1 := box1 (box1 h)
theorem rless_any (t u : Tm) (w : World) (A B : Option Addr) (c d : Nat) (ht : Tr w t A c) (hu : Tr w u B d) :
    Calls Tryz.prog 163 #[.agg #[.int .i64 t.op, .int .i64 t.val, .slice A t.args.length c], .agg #[.int .i64 u.op, .int .i64 u.val, .slice B u.args.length d]] w fun e w' => e = .returned (.bool (lessT t u)) ∧ Below w.heap.size w w' := by
  go_enter Tryz.func163, Tryz.ntmps163
  go_wp2_with fail
  refine (rorder_any t u _ A B c d ((ht.alloc _).alloc _) ((hu.alloc _).alloc _)).mono ?_
  rintro e w1 ⟨rfl, hb⟩
  have hb0 : Below w.heap.size w w1 := box2 hb
  clear hb
  have r := cmpV_range t u
  go_wp2_with fail
  go_ret
  exact ⟨ret_bool (ord_less t u), hb0⟩
theorem less_any (t u : Tm) (w : World) (A B : Option Addr) (c d : Nat) (ht : Tr w t A c) (hu : Tr w u B d) :
    Calls Tryz.prog 90 #[.agg #[.int .i64 t.op, .int .i64 t.val, .slice A t.args.length c], .agg #[.int .i64 u.op, .int .i64 u.val, .slice B u.args.length d]] w fun e w' => e = .returned (.bool (lessT t u)) ∧ Below w.heap.size w w' := by
  go_enter Tryz.func90, Tryz.ntmps90
  go_wp2_with fail
  refine (compare_any t u _ A B c d ((ht.alloc _).alloc _) ((hu.alloc _).alloc _)).mono ?_
  rintro e w1 ⟨rfl, hb⟩
  have hb0 : Below w.heap.size w w1 := box2 hb
  clear hb
  have r := cmpV_range t u
  go_wp2_with fail
  go_ret
  exact ⟨ret_bool (cmpV_less t u), hb0⟩
theorem equal_any (t u : Tm) (w : World) (A B : Option Addr) (c d : Nat) (ht : Tr w t A c) (hu : Tr w u B d) :
    Calls Tryz.prog 67 #[.agg #[.int .i64 t.op, .int .i64 t.val, .slice A t.args.length c], .agg #[.int .i64 u.op, .int .i64 u.val, .slice B u.args.length d]] w fun e w' => e = .returned (.bool (equT t u)) ∧ Below w.heap.size w w' := by
  go_enter Tryz.func67, Tryz.ntmps67
  go_wp2_with fail
  refine (compare_any t u _ A B c d ((ht.alloc _).alloc _) ((hu.alloc _).alloc _)).mono ?_
  rintro e w1 ⟨rfl, hb⟩
  have hb0 : Below w.heap.size w w1 := box2 hb
  clear hb
  have r := cmpV_range t u
  go_wp2_with fail
  go_ret
  exact ⟨ret_bool (cmpV_equ t u), hb0⟩
end Go.Proofs.YtbfppnppijcnlaaGreat
