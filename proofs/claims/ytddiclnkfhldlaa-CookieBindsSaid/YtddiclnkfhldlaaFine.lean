/-
  Which terms are valid: the form of a node, the depth, the number of nodes; that the terms that a law draws are. No program.
  Conditions: none.
-/
import Derived.Test.YtddiclnkfhldlaaTm
namespace Go.Proofs.Ytddiclnkfhldlaa
set_option linter.unusedVariables false
mutual
/-- The number of the nodes of a term, the depth of a term. -/
def nodesT : Tm → Nat
  | .mk _ _ l => 1 + nodesL l
def nodesL : List Tm → Nat
  | [] => 0
  | x :: xs => nodesT x + nodesL xs
end
mutual
def depthT : Tm → Nat
  | .mk _ _ l => 1 + depthL l
def depthL : List Tm → Nat
  | [] => 0
  | x :: xs => max (depthT x) (depthL xs)
end
/-- The form of a node. -/
def formN (o v : Int) (l : List Tm) : Bool :=
  if o = 1 then decide (l.length = 0)
  else if o = 2 ∨ o = 9 ∨ o = 10 then decide (l.length = 0) && decide (0 ≤ v)
  else if o = 3 then decide (v = 0)
  else if o = 6 then decide (0 ≤ v)
  else if o = 4 then decide (l.length = 1) && decide (v = 0)
  else if o = 8 then decide (l.length = 1) && decide (0 ≤ v)
  else if o = 5 then (match l with | [a, b] => decide (v = 0) && !lessT b a | _ => false)
  else if o = 7 then decide (l.length = 2) && decide (v = 0)
  else false
mutual
def formsT : Tm → Bool
  | .mk o v l => formsL l && formN o v l
def formsL : List Tm → Bool
  | [] => true
  | x :: xs => formsT x && formsL xs
end
theorem nodesT_mk (o v : Int) (l : List Tm) : nodesT (.mk o v l) = 1 + nodesL l := by rw [nodesT]
theorem depthT_mk (o v : Int) (l : List Tm) : depthT (.mk o v l) = 1 + depthL l := by rw [depthT]
theorem formsT_mk (o v : Int) (l : List Tm) : formsT (.mk o v l) = (formsL l && formN o v l) := by rw [formsT]
theorem nodesL_nil : nodesL [] = 0 := by rw [nodesL]
theorem nodesL_cons (x : Tm) (xs : List Tm) : nodesL (x :: xs) = nodesT x + nodesL xs := by rw [nodesL]
theorem depthL_nil : depthL [] = 0 := by rw [depthL]
theorem depthL_cons (x : Tm) (xs : List Tm) : depthL (x :: xs) = max (depthT x) (depthL xs) := by rw [depthL]
theorem formsL_nil : formsL [] = true := by rw [formsL]
theorem formsL_cons (x : Tm) (xs : List Tm) : formsL (x :: xs) = (formsT x && formsL xs) := by rw [formsL]
theorem nodesT_pos (t : Tm) : 1 ≤ nodesT t := by obtain ⟨o, v, l⟩ := t; rw [nodesT_mk]; omega
theorem depthT_pos (t : Tm) : 1 ≤ depthT t := by obtain ⟨o, v, l⟩ := t; rw [depthT_mk]; omega
/-- How many nodes a drawn term of a depth may have. -/
def nb : Nat → Nat
  | 0 => 0
  | d + 1 => 1 + 3 * nb d
/-- A valid term of a depth. -/
structure Fine (d : Nat) (t : Tm) : Prop where
  depth : depthT t ≤ d
  nodes : nodesT t ≤ nb d
  forms : formsT t = true
theorem nb_pos (d : Nat) : d ≤ nb d := by
  induction d with
  | zero => exact Nat.le_refl _
  | succ d ih => simp only [nb]; omega
theorem nb_mono {d e : Nat} (h : d ≤ e) : nb d ≤ nb e := by
  induction h with
  | refl => exact Nat.le_refl _
  | step _ ih => simp only [nb]; omega
theorem Fine.mono {d e : Nat} {t : Tm} (h : Fine d t) (hd : d ≤ e) : Fine e t := ⟨Nat.le_trans h.depth hd, Nat.le_trans h.nodes (nb_mono hd), h.forms⟩
theorem fine_leaf {d : Nat} {o v : Int} (h : o = 1 ∨ ((o = 2 ∨ o = 9 ∨ o = 10) ∧ 0 ≤ v)) (hd : 1 ≤ d) : Fine d (.mk o v []) := by
  refine ⟨?_, ?_, ?_⟩
  · rw [depthT_mk, depthL_nil]; omega
  · rw [nodesT_mk, nodesL_nil]; have := nb_pos d; omega
  · rw [formsT_mk, formsL_nil]
    unfold formN
    rcases h with rfl | ⟨rfl | rfl | rfl, hv⟩ <;> simp <;> omega
theorem listL {d : Nat} {ts : List Tm} (h : ∀ t ∈ ts, Fine d t) : depthL ts ≤ d ∧ nodesL ts ≤ ts.length * nb d ∧ formsL ts = true := by
  induction ts with
  | nil => rw [depthL_nil, nodesL_nil, formsL_nil]; exact ⟨Nat.zero_le _, Nat.zero_le _, rfl⟩
  | cons x xs ih =>
    obtain ⟨h1, h2, h3⟩ := ih (fun t ht => h t (by simp [ht]))
    have hx := h x (by simp)
    rw [depthL_cons, nodesL_cons, formsL_cons]
    refine ⟨?_, ?_, ?_⟩
    · have := hx.depth; omega
    · have := hx.nodes
      rw [List.length_cons, Nat.add_mul]
      omega
    · rw [hx.forms, h3]; rfl
theorem fine_list {d : Nat} {ts : List Tm} (h : ∀ t ∈ ts, Fine d t) (hl : ts.length ≤ 3) : Fine (d + 1) (.mk 3 0 ts) := by
  obtain ⟨h1, h2, h3⟩ := listL h
  have h4 : ts.length * nb d ≤ 3 * nb d := Nat.mul_le_mul_right _ hl
  refine ⟨?_, ?_, ?_⟩
  · rw [depthT_mk]; omega
  · rw [nodesT_mk]; simp only [nb]; omega
  · rw [formsT_mk, h3]; simp [formN]
theorem fine_derive {d : Nat} {t : Tm} {n : Int} (h : Fine d t) (hn : 0 ≤ n) : Fine (d + 1) (.mk 6 n [t]) := by
  obtain ⟨h1, h2, h3⟩ := listL (d := d) (ts := [t]) (by intro x hx; simp at hx; subst hx; exact h)
  simp only [List.length_cons, List.length_nil] at h2
  refine ⟨?_, ?_, ?_⟩
  · rw [depthT_mk]; omega
  · rw [nodesT_mk]; simp only [nb]; omega
  · rw [formsT_mk, h3]; simp [formN, hn]
theorem fine_sign {d : Nat} {t : Tm} {n : Int} (h : Fine d t) (hn : 0 ≤ n) : Fine (d + 1) (.mk 8 n [t]) := by
  obtain ⟨h1, h2, h3⟩ := listL (d := d) (ts := [t]) (by intro x hx; simp at hx; subst hx; exact h)
  simp only [List.length_cons, List.length_nil] at h2
  refine ⟨?_, ?_, ?_⟩
  · rw [depthT_mk]; omega
  · rw [nodesT_mk]; simp only [nb]; omega
  · rw [formsT_mk, h3]; simp [formN, hn]
theorem fine_public {d : Nat} {t : Tm} (h : Fine d t) : Fine (d + 1) (.mk 4 0 [t]) := by
  obtain ⟨h1, h2, h3⟩ := listL (d := d) (ts := [t]) (by intro x hx; simp at hx; subst hx; exact h)
  simp only [List.length_cons, List.length_nil] at h2
  refine ⟨?_, ?_, ?_⟩
  · rw [depthT_mk]; omega
  · rw [nodesT_mk]; simp only [nb]; omega
  · rw [formsT_mk, h3]; simp [formN]
theorem fine_seal {d : Nat} {t u : Tm} (h : Fine d t) (k : Fine d u) : Fine (d + 1) (.mk 7 0 [t, u]) := by
  obtain ⟨h1, h2, h3⟩ := listL (d := d) (ts := [t, u]) (by intro x hx; simp at hx; rcases hx with rfl | rfl; exact h; exact k)
  simp only [List.length_cons, List.length_nil] at h2
  refine ⟨?_, ?_, ?_⟩
  · rw [depthT_mk]; omega
  · rw [nodesT_mk]; simp only [nb]; omega
  · rw [formsT_mk, h3]; simp [formN]
theorem fine_shared {d : Nat} {t u : Tm} (h : Fine d t) (k : Fine d u) (hl : lessT u t = false) : Fine (d + 1) (.mk 5 0 [t, u]) := by
  obtain ⟨h1, h2, h3⟩ := listL (d := d) (ts := [t, u]) (by intro x hx; simp at hx; rcases hx with rfl | rfl; exact h; exact k)
  simp only [List.length_cons, List.length_nil] at h2
  refine ⟨?_, ?_, ?_⟩
  · rw [depthT_mk]; omega
  · rw [nodesT_mk]; simp only [nb]; omega
  · rw [formsT_mk, h3]; simp [formN, hl]
end Go.Proofs.Ytddiclnkfhldlaa
