/-
  Which terms are valid: the form of a node, the depth, the number of nodes; that the terms that a law draws are. No program.
  Conditions: none.
-/
import Derived.Test.YtbfppnppijcnlaaGreatEqD
namespace Go.Proofs.YtbfppnppijcnlaaGreat
set_option linter.unusedVariables false
mutual
/-- The number of the nodes of a term, the depth of a term. -/
def nodesT : Tm → Nat
  | .mk _ _ l => 1 + nodesL l
def nodesL : List Tm → Nat
  | [] => 0
  | x :: xs => nodesT x + nodesL xs
end
mutual
def depthT : Tm → Nat
  | .mk _ _ l => 1 + depthL l
def depthL : List Tm → Nat
  | [] => 0
  | x :: xs => max (depthT x) (depthL xs)
end
/-- The form of a node. -/
def formN (o v : Int) (l : List Tm) : Bool :=
  if o = 1 then decide (l.length = 0)
  else if o = 2 ∨ o = 9 ∨ o = 10 then decide (l.length = 0) && decide (0 ≤ v)
  else if o = 3 then decide (v = 0)
  else if o = 6 then decide (0 ≤ v)
  else if o = 4 then decide (l.length = 1) && decide (v = 0)
  else if o = 8 then decide (l.length = 1) && decide (0 ≤ v)
  else if o = 5 then (match l with | [a, b] => decide (v = 0) && !lessT b a | _ => false)
  else if o = 7 then decide (l.length = 2) && decide (v = 0)
  else false
mutual
def formsT : Tm → Bool
  | .mk o v l => formsL l && formN o v l
def formsL : List Tm → Bool
  | [] => true
  | x :: xs => formsT x && formsL xs
end
theorem nodesT_mk (o v : Int) (l : List Tm) : nodesT (.mk o v l) = 1 + nodesL l := by rw [nodesT]
theorem depthT_mk (o v : Int) (l : List Tm) : depthT (.mk o v l) = 1 + depthL l := by rw [depthT]
theorem formsT_mk (o v : Int) (l : List Tm) : formsT (.mk o v l) = (formsL l && formN o v l) := by rw [formsT]
theorem nodesL_nil : nodesL [] = 0 := by rw [nodesL]
theorem nodesL_cons (x : Tm) (xs : List Tm) : nodesL (x :: xs) = nodesT x + nodesL xs := by rw [nodesL]
theorem depthL_nil : depthL [] = 0 := by rw [depthL]
theorem depthL_cons (x : Tm) (xs : List Tm) : depthL (x :: xs) = max (depthT x) (depthL xs) := by rw [depthL]
theorem formsL_nil : formsL [] = true := by rw [formsL]
theorem formsL_cons (x : Tm) (xs : List Tm) : formsL (x :: xs) = (formsT x && formsL xs) := by rw [formsL]
theorem nodesT_pos (t : Tm) : 1 ≤ nodesT t := by obtain ⟨o, v, l⟩ := t; rw [nodesT_mk]; omega
theorem depthT_pos (t : Tm) : 1 ≤ depthT t := by obtain ⟨o, v, l⟩ := t; rw [depthT_mk]; omega
/-- How many nodes a drawn term of a depth may have. -/
def nb : Nat → Nat
  | 0 => 0
  | d + 1 => 1 + 3 * nb d
/-- A valid term of a depth. -/
structure Fine (d : Nat) (t : Tm) : Prop where
  depth : depthT t ≤ d
  nodes : nodesT t ≤ nb d
  forms : formsT t = true
theorem nb_pos (d : Nat) : d ≤ nb d := by
  induction d with
  | zero => exact Nat.le_refl _
  | succ d ih => simp only [nb]; omega
theorem nb_mono {d e : Nat} (h : d ≤ e) : nb d ≤ nb e := by
  induction h with
  | refl => exact Nat.le_refl _
  | step _ ih => simp only [nb]; omega
theorem Fine.mono {d e : Nat} {t : Tm} (h : Fine d t) (hd : d ≤ e) : Fine e t := ⟨Nat.le_trans h.depth hd, Nat.le_trans h.nodes (nb_mono hd), h.forms⟩
theorem fine_leaf {d : Nat} {o v : Int} (h : o = 1 ∨ ((o = 2 ∨ o = 9 ∨ o = 10) ∧ 0 ≤ v)) (hd : 1 ≤ d) : Fine d (.mk o v []) := by
  refine ⟨?_, ?_, ?_⟩
  · rw [depthT_mk, depthL_nil]; omega
  · rw [nodesT_mk, nodesL_nil]; have := nb_pos d; omega
  · rw [formsT_mk, formsL_nil]
    unfold formN
    rcases h with rfl | ⟨rfl | rfl | rfl, hv⟩ <;> simp <;> omega
theorem listL {d : Nat} {ts : List Tm} (h : ∀ t ∈ ts, Fine d t) : depthL ts ≤ d ∧ nodesL ts ≤ ts.length * nb d ∧ formsL ts = true := by
  induction ts with
  | nil => rw [depthL_nil, nodesL_nil, formsL_nil]; exact ⟨Nat.zero_le _, Nat.zero_le _, rfl⟩
  | cons x xs ih =>
    obtain ⟨h1, h2, h3⟩ := ih (fun t ht => h t (by simp [ht]))
    have hx := h x (by simp)
    rw [depthL_cons, nodesL_cons, formsL_cons]
    refine ⟨?_, ?_, ?_⟩
    · have := hx.depth; omega
    · have := hx.nodes
      rw [List.length_cons, Nat.add_mul]
      omega
    · rw [hx.forms, h3]; rfl
theorem fine_list {d : Nat} {ts : List Tm} (h : ∀ t ∈ ts, Fine d t) (hl : ts.length ≤ 3) : Fine (d + 1) (.mk 3 0 ts) := by
  obtain ⟨h1, h2, h3⟩ := listL h
  have h4 : ts.length * nb d ≤ 3 * nb d := Nat.mul_le_mul_right _ hl
  refine ⟨?_, ?_, ?_⟩
  · rw [depthT_mk]; omega
  · rw [nodesT_mk]; simp only [nb]; omega
  · rw [formsT_mk, h3]; simp [formN]
theorem fine_derive {d : Nat} {t : Tm} {n : Int} (h : Fine d t) (hn : 0 ≤ n) : Fine (d + 1) (.mk 6 n [t]) := by
  obtain ⟨h1, h2, h3⟩ := listL (d := d) (ts := [t]) (by intro x hx; simp at hx; subst hx; exact h)
  simp only [List.length_cons, List.length_nil] at h2
  refine ⟨?_, ?_, ?_⟩
  · rw [depthT_mk]; omega
  · rw [nodesT_mk]; simp only [nb]; omega
  · rw [formsT_mk, h3]; simp [formN, hn]
theorem fine_sign {d : Nat} {t : Tm} {n : Int} (h : Fine d t) (hn : 0 ≤ n) : Fine (d + 1) (.mk 8 n [t]) := by
  obtain ⟨h1, h2, h3⟩ := listL (d := d) (ts := [t]) (by intro x hx; simp at hx; subst hx; exact h)
  simp only [List.length_cons, List.length_nil] at h2
  refine ⟨?_, ?_, ?_⟩
  · rw [depthT_mk]; omega
  · rw [nodesT_mk]; simp only [nb]; omega
  · rw [formsT_mk, h3]; simp [formN, hn]
theorem fine_public {d : Nat} {t : Tm} (h : Fine d t) : Fine (d + 1) (.mk 4 0 [t]) := by
  obtain ⟨h1, h2, h3⟩ := listL (d := d) (ts := [t]) (by intro x hx; simp at hx; subst hx; exact h)
  simp only [List.length_cons, List.length_nil] at h2
  refine ⟨?_, ?_, ?_⟩
  · rw [depthT_mk]; omega
  · rw [nodesT_mk]; simp only [nb]; omega
  · rw [formsT_mk, h3]; simp [formN]
theorem fine_seal {d : Nat} {t u : Tm} (h : Fine d t) (k : Fine d u) : Fine (d + 1) (.mk 7 0 [t, u]) := by
  obtain ⟨h1, h2, h3⟩ := listL (d := d) (ts := [t, u]) (by intro x hx; simp at hx; rcases hx with rfl | rfl; exact h; exact k)
  simp only [List.length_cons, List.length_nil] at h2
  refine ⟨?_, ?_, ?_⟩
  · rw [depthT_mk]; omega
  · rw [nodesT_mk]; simp only [nb]; omega
  · rw [formsT_mk, h3]; simp [formN]
theorem fine_shared {d : Nat} {t u : Tm} (h : Fine d t) (k : Fine d u) (hl : lessT u t = false) : Fine (d + 1) (.mk 5 0 [t, u]) := by
  obtain ⟨h1, h2, h3⟩ := listL (d := d) (ts := [t, u]) (by intro x hx; simp at hx; rcases hx with rfl | rfl; exact h; exact k)
  simp only [List.length_cons, List.length_nil] at h2
  refine ⟨?_, ?_, ?_⟩
  · rw [depthT_mk]; omega
  · rw [nodesT_mk]; simp only [nb]; omega
  · rw [formsT_mk, h3]; simp [formN, hl]
end Go.Proofs.YtbfppnppijcnlaaGreat
namespace Go.Proofs.YtbfppnppijcnlaaGreat
open Go.RowKit Go.Sort
set_option linter.unusedVariables false
theorem formN_else {o v : Int} {l : List Tm} (h1 : o ≠ 1) (h2 : o ≠ 2) (h3 : o ≠ 3) (h4 : o ≠ 4) (h5 : o ≠ 5) (h6 : o ≠ 6) (h7 : o ≠ 7) (h8 : o ≠ 8) (h9 : o ≠ 9) (h10 : o ≠ 10) : formN o v l = false := by
  unfold formN
  rw [if_neg h1, if_neg (by omega), if_neg h3, if_neg h6, if_neg h4, if_neg h8, if_neg h5, if_neg h7]
set_option maxHeartbeats 4000000 in
theorem form_any (t : Tm) (w : World) (A : Option Addr) (c : Nat) (ht : Tr w t A c) :
    Calls Tryz.prog 123 #[.agg #[.int .i64 t.op, .int .i64 t.val, .slice A t.args.length c]] w fun e w' => e = .returned (.bool (formN t.op t.val t.args)) ∧ Below w.heap.size w w' := by
  obtain ⟨o, v, l⟩ := t
  have hf := ht.ofits
  simp only [Tm.op_mk, Tm.val_mk, Tm.args_mk] at hf ⊢
  have hfl := hf.2.2
  have hm := follows_mixed
  unfold maxLen at hfl
  generalize hR : formN o v l = R
  have HR := Lib.hid hR
  have HT := Lib.hid ht
  clear ht hf hR
  by_cases h : o = 1 ∨ o = 2 ∨ o = 3 ∨ o = 4 ∨ o = 5 ∨ o = 6 ∨ o = 7 ∨ o = 8 ∨ o = 9 ∨ o = 10
  · rcases h with rfl | rfl | rfl | rfl | rfl | rfl | rfl | rfl | rfl | rfl
    · by_cases hn : l.length = 0
      · have e1 : R = true := by
          rw [← HR.out]
          simp [formN, hn]
        subst e1
        have q0 : (((l.length : Nat) : Int) == 0) = true := by rw [beq_iff_eq]; omega
        clear hn
        go_enter Tryz.func123, Tryz.ntmps123
        go_wp2_with fail
        go_ret
        exact ⟨rfl, (Below.refl _ _).alloc (Nat.le_refl _) _⟩
      · have e1 : R = false := by
          rw [← HR.out]
          simp [formN, hn]
        subst e1
        have q0 : (((l.length : Nat) : Int) == 0) = false := by rw [beq_eq_false_iff_ne]; omega
        clear hn
        go_enter Tryz.func123, Tryz.ntmps123
        go_wp2_with fail
        go_ret
        exact ⟨rfl, (Below.refl _ _).alloc (Nat.le_refl _) _⟩
    · by_cases hn : l.length = 0
      · by_cases hv : 0 ≤ v
        · have e1 : R = true := by
            rw [← HR.out]
            simp [formN, hn, hv]
          subst e1
          have q0 : (((l.length : Nat) : Int) == 0) = true := by rw [beq_iff_eq]; omega
          have q1 : decide (0 ≤ v) = true := decide_eq_true hv
          clear hn hv
          go_enter Tryz.func123, Tryz.ntmps123
          go_wp2_with fail
          go_ret
          exact ⟨rfl, (Below.refl _ _).alloc (Nat.le_refl _) _⟩
        · have e1 : R = false := by
            rw [← HR.out]
            simp [formN, hn, hv]; try omega
          subst e1
          have q0 : (((l.length : Nat) : Int) == 0) = true := by rw [beq_iff_eq]; omega
          have q1 : decide (0 ≤ v) = false := decide_eq_false hv
          clear hn hv
          go_enter Tryz.func123, Tryz.ntmps123
          go_wp2_with fail
          go_ret
          exact ⟨rfl, (Below.refl _ _).alloc (Nat.le_refl _) _⟩
      · have e1 : R = false := by
          rw [← HR.out]
          simp [formN, hn]
        subst e1
        have q0 : (((l.length : Nat) : Int) == 0) = false := by rw [beq_eq_false_iff_ne]; omega
        clear hn
        go_enter Tryz.func123, Tryz.ntmps123
        go_wp2_with fail
        go_ret
        exact ⟨rfl, (Below.refl _ _).alloc (Nat.le_refl _) _⟩
    · by_cases hv : v = 0
      · have e1 : R = true := by
          rw [← HR.out]
          simp [formN, hv]
        subst e1
        have q0 : (v == 0) = true := by rw [beq_iff_eq]; omega
        clear hv
        go_enter Tryz.func123, Tryz.ntmps123
        go_wp2_with fail
        go_ret
        exact ⟨rfl, (Below.refl _ _).alloc (Nat.le_refl _) _⟩
      · have e1 : R = false := by
          rw [← HR.out]
          simp [formN, hv]; try omega
        subst e1
        have q0 : (v == 0) = false := by rw [beq_eq_false_iff_ne]; omega
        clear hv
        go_enter Tryz.func123, Tryz.ntmps123
        go_wp2_with fail
        go_ret
        exact ⟨rfl, (Below.refl _ _).alloc (Nat.le_refl _) _⟩
    · by_cases hn : l.length = 1
      · by_cases hv : v = 0
        · have e1 : R = true := by
            rw [← HR.out]
            simp [formN, hn, hv]
          subst e1
          have q0 : (((l.length : Nat) : Int) == 1) = true := by rw [beq_iff_eq]; omega
          have q1 : (v == 0) = true := by rw [beq_iff_eq]; omega
          clear hn hv
          go_enter Tryz.func123, Tryz.ntmps123
          go_wp2_with fail
          go_ret
          exact ⟨rfl, (Below.refl _ _).alloc (Nat.le_refl _) _⟩
        · have e1 : R = false := by
            rw [← HR.out]
            simp [formN, hn, hv]; try omega
          subst e1
          have q0 : (((l.length : Nat) : Int) == 1) = true := by rw [beq_iff_eq]; omega
          have q1 : (v == 0) = false := by rw [beq_eq_false_iff_ne]; omega
          clear hn hv
          go_enter Tryz.func123, Tryz.ntmps123
          go_wp2_with fail
          go_ret
          exact ⟨rfl, (Below.refl _ _).alloc (Nat.le_refl _) _⟩
      · have e1 : R = false := by
          rw [← HR.out]
          simp [formN, hn]
        subst e1
        have q0 : (((l.length : Nat) : Int) == 1) = false := by rw [beq_eq_false_iff_ne]; omega
        clear hn
        go_enter Tryz.func123, Tryz.ntmps123
        go_wp2_with fail
        go_ret
        exact ⟨rfl, (Below.refl _ _).alloc (Nat.le_refl _) _⟩
    · by_cases hn : l.length = 2
      · obtain ⟨x, y, rfl⟩ : ∃ x y, l = [x, y] := by
          match l, hn with
          | [x, y], _ => exact ⟨x, y, rfl⟩
        clear hn hfl
        by_cases hv : v = 0
        · subst hv
          obtain ⟨g, k, AX, CX, rfl, c0, c1, c2, hx⟩ := HT.out.at 0 (by simp)
          obtain ⟨g', k', AY, CY, hA, c3, c4, c5, hy⟩ := HT.out.at 1 (by simp)
          injection hA with hA
          injection hA with e1 e2 _
          subst e1; subst e2
          simp only [Tm.args_mk, List.getElem_cons_zero, List.getElem_cons_succ] at c0 c1 c2 c3 c4 c5 hx hy
          have z0 : w.cell? ⟨g, k, none⟩ = some (.int .i64 x.op) := by simpa using c0
          have z1 : w.cell? ⟨g, k + 1, none⟩ = some (.int .i64 x.val) := by simpa using c1
          have z2 : w.cell? ⟨g, k + 2, none⟩ = some (.slice AX x.args.length CX) := by simpa using c2
          have z3 : w.cell? ⟨g, k + 3, none⟩ = some (.int .i64 y.op) := by simpa using c3
          have z4 : w.cell? ⟨g, k + 3 + 1, none⟩ = some (.int .i64 y.val) := by simpa using c4
          have z5 : w.cell? ⟨g, k + 3 + 2, none⟩ = some (.slice AY y.args.length CY) := by simpa using c5
          have HZ := Lib.hid (And.intro z0 (And.intro z1 (And.intro z2 (And.intro z3 (And.intro z4 z5)))))
          have HX := Lib.hid (And.intro hx hy)
          clear c0 c1 c2 c3 c4 c5 hx hy z0 z1 z2 z3 z4 z5
          have hlf : formN 5 0 [x, y] = !lessT y x := by simp [formN]
          generalize hL : lessT y x = b at hlf
          have HL := Lib.hid hL
          clear hL
          have e1 : R = !b := by
            rw [← HR.out]
            exact hlf
          subst e1
          have HB := Lib.hid (And.intro (heap_alloc_new w (Obj.cells #[.int .i64 5, .int .i64 0, .slice (some ⟨g, k, none⟩) 2 c] 30) : Blk _ _ _ _) ((Below.refl w.heap.size w).alloc (Nat.le_refl _) (Obj.cells #[.int .i64 5, .int .i64 0, .slice (some ⟨g, k, none⟩) 2 c] 30)))
          clear hlf
          go_enter Tryz.func123, Tryz.ntmps123
          go_wp2_with fail
          have HZ1 := Lib.hid (And.intro (cell_alloc (o := Obj.cells #[.int .i64 5, .int .i64 0, .slice (some ⟨g, k, none⟩) 2 c] 30) HZ.out.1) (And.intro (cell_alloc (o := Obj.cells #[.int .i64 5, .int .i64 0, .slice (some ⟨g, k, none⟩) 2 c] 30) HZ.out.2.1) (And.intro (cell_alloc (o := Obj.cells #[.int .i64 5, .int .i64 0, .slice (some ⟨g, k, none⟩) 2 c] 30) HZ.out.2.2.1) (And.intro (cell_alloc (o := Obj.cells #[.int .i64 5, .int .i64 0, .slice (some ⟨g, k, none⟩) 2 c] 30) HZ.out.2.2.2.1) (And.intro (cell_alloc (o := Obj.cells #[.int .i64 5, .int .i64 0, .slice (some ⟨g, k, none⟩) 2 c] 30) HZ.out.2.2.2.2.1) (cell_alloc (o := Obj.cells #[.int .i64 5, .int .i64 0, .slice (some ⟨g, k, none⟩) 2 c] 30) HZ.out.2.2.2.2.2))))))
          generalize w.alloc (Obj.cells #[.int .i64 5, .int .i64 0, .slice (some ⟨g, k, none⟩) 2 c] 30) = W at *
          have b2 := HB.out.1
          have d1 : W.cell? ⟨w.heap.size, 1, none⟩ = some (.int .i64 0) := Blk.cell b2 1
          have d2 : W.cell? ⟨w.heap.size, 2, none⟩ = some (.slice (some ⟨g, k, none⟩) 2 c) := Blk.cell b2 2
          have G1 := cell_regrown d1
          have G2 := cell_regrown d2
          clear b2 d1 d2
          have G3 := cell_regrown HZ1.out.1
          have G4 := cell_regrown HZ1.out.2.1
          have G5 := cell_regrown HZ1.out.2.2.1
          have G6 := cell_regrown HZ1.out.2.2.2.1
          have G7 := cell_regrown HZ1.out.2.2.2.2.1
          have G8 := cell_regrown HZ1.out.2.2.2.2.2
          have hc : ∀ n os, Calls Tryz.prog 163 #[.agg #[.int .i64 y.op, .int .i64 y.val, .slice AY y.args.length CY], .agg #[.int .i64 x.op, .int .i64 x.val, .slice AX x.args.length CX]] (grow (redrawn W n) os) fun e w'' => e = .returned (.bool b) ∧ ∃ p : Regrown, w'' = grow (redrawn W p.d) p.os := fun n os => by
            have h := rless_any y x (grow (redrawn W n) os) AY AX CY CX ((HX.out.2.bel HB.out.2).bel (below_regrown W n os)) ((HX.out.1.bel HB.out.2).bel (below_regrown W n os))
            rw [HL.out] at h
            exact Calls.regrown_of h
          have HC := Lib.hid hc
          clear hc
          refine wp_region_quiet_below (by assumption) (by kernel_rfl) ?_
          repeat (go_big_quiet_step (with_reducible exact HC.out _ _))
          refine wpQuiet_nil ?_
          intro _ hw'
          obtain ⟨⟨dq, osq⟩, hw''⟩ := hw'
          subst hw''
          go_wp2_with fail
          go_ret
          exact ⟨rfl, HB.out.2.trans ((below_regrown W dq osq).mono HB.out.2.size)⟩
        · have e1 : R = false := by
            rw [← HR.out]
            simp [formN, hv]
          subst e1
          have q0 : (v == 0) = false := by simp [hv]
          have HB := Lib.hid (And.intro (heap_alloc_new w (Obj.cells #[.int .i64 5, .int .i64 v, .slice A 2 c] 30) : Blk _ _ _ _) ((Below.refl w.heap.size w).alloc (Nat.le_refl _) (Obj.cells #[.int .i64 5, .int .i64 v, .slice A 2 c] 30)))
          clear hv
          go_enter Tryz.func123, Tryz.ntmps123
          go_wp2_with fail
          generalize w.alloc (Obj.cells #[.int .i64 5, .int .i64 v, .slice A 2 c] 30) = W at *
          have b2 := HB.out.1
          have d1 : W.cell? ⟨w.heap.size, 1, none⟩ = some (.int .i64 v) := Blk.cell b2 1
          have d2 : W.cell? ⟨w.heap.size, 2, none⟩ = some (.slice A 2 c) := Blk.cell b2 2
          have G1 := cell_regrown d1
          have G2 := cell_regrown d2
          clear b2 d1 d2
          refine wp_region_quiet_below (by assumption) (by kernel_rfl) ?_
          repeat (go_big_quiet_step (fail))
          refine wpQuiet_nil ?_
          intro _ hw'
          obtain ⟨⟨dq, osq⟩, hw''⟩ := hw'
          subst hw''
          go_wp2_with fail
          go_ret
          exact ⟨rfl, HB.out.2.trans ((below_regrown W dq osq).mono HB.out.2.size)⟩
      · have e1 : R = false := by
          rw [← HR.out]
          unfold formN; rw [if_neg (by omega), if_neg (by omega), if_neg (by omega), if_neg (by omega), if_neg (by omega), if_neg (by omega), if_pos rfl]; split
          · rename_i a b; simp at hn
          · rfl
        subst e1
        have q0 : (((l.length : Nat) : Int) == 2) = false := by rw [beq_eq_false_iff_ne]; omega
        have HB := Lib.hid (And.intro (heap_alloc_new w (Obj.cells #[.int .i64 5, .int .i64 v, .slice A l.length c] 30) : Blk _ _ _ _) ((Below.refl w.heap.size w).alloc (Nat.le_refl _) (Obj.cells #[.int .i64 5, .int .i64 v, .slice A l.length c] 30)))
        clear hn
        go_enter Tryz.func123, Tryz.ntmps123
        go_wp2_with fail
        generalize w.alloc (Obj.cells #[.int .i64 5, .int .i64 v, .slice A l.length c] 30) = W at *
        have b2 := HB.out.1
        have d1 : W.cell? ⟨w.heap.size, 1, none⟩ = some (.int .i64 v) := Blk.cell b2 1
        have d2 : W.cell? ⟨w.heap.size, 2, none⟩ = some (.slice A l.length c) := Blk.cell b2 2
        have G1 := cell_regrown d1
        have G2 := cell_regrown d2
        clear b2 d1 d2
        refine wp_region_quiet_below (by assumption) (by kernel_rfl) ?_
        repeat (go_big_quiet_step (fail))
        refine wpQuiet_nil ?_
        intro _ hw'
        obtain ⟨⟨dq, osq⟩, hw''⟩ := hw'
        subst hw''
        go_wp2_with fail
        go_ret
        exact ⟨rfl, HB.out.2.trans ((below_regrown W dq osq).mono HB.out.2.size)⟩
    · by_cases hv : 0 ≤ v
      · have e1 : R = true := by
          rw [← HR.out]
          simp [formN, hv]
        subst e1
        have q0 : decide (0 ≤ v) = true := decide_eq_true hv
        clear hv
        go_enter Tryz.func123, Tryz.ntmps123
        go_wp2_with fail
        go_ret
        exact ⟨rfl, (Below.refl _ _).alloc (Nat.le_refl _) _⟩
      · have e1 : R = false := by
          rw [← HR.out]
          simp [formN, hv]; try omega
        subst e1
        have q0 : decide (0 ≤ v) = false := decide_eq_false hv
        clear hv
        go_enter Tryz.func123, Tryz.ntmps123
        go_wp2_with fail
        go_ret
        exact ⟨rfl, (Below.refl _ _).alloc (Nat.le_refl _) _⟩
    · by_cases hn : l.length = 2
      · by_cases hv : v = 0
        · have e1 : R = true := by
            rw [← HR.out]
            simp [formN, hn, hv]
          subst e1
          have q0 : (((l.length : Nat) : Int) == 2) = true := by rw [beq_iff_eq]; omega
          have q1 : (v == 0) = true := by rw [beq_iff_eq]; omega
          clear hn hv
          go_enter Tryz.func123, Tryz.ntmps123
          go_wp2_with fail
          go_ret
          exact ⟨rfl, (Below.refl _ _).alloc (Nat.le_refl _) _⟩
        · have e1 : R = false := by
            rw [← HR.out]
            simp [formN, hn, hv]; try omega
          subst e1
          have q0 : (((l.length : Nat) : Int) == 2) = true := by rw [beq_iff_eq]; omega
          have q1 : (v == 0) = false := by rw [beq_eq_false_iff_ne]; omega
          clear hn hv
          go_enter Tryz.func123, Tryz.ntmps123
          go_wp2_with fail
          go_ret
          exact ⟨rfl, (Below.refl _ _).alloc (Nat.le_refl _) _⟩
      · have e1 : R = false := by
          rw [← HR.out]
          simp [formN, hn]
        subst e1
        have q0 : (((l.length : Nat) : Int) == 2) = false := by rw [beq_eq_false_iff_ne]; omega
        clear hn
        go_enter Tryz.func123, Tryz.ntmps123
        go_wp2_with fail
        go_ret
        exact ⟨rfl, (Below.refl _ _).alloc (Nat.le_refl _) _⟩
    · by_cases hn : l.length = 1
      · by_cases hv : 0 ≤ v
        · have e1 : R = true := by
            rw [← HR.out]
            simp [formN, hn, hv]
          subst e1
          have q0 : (((l.length : Nat) : Int) == 1) = true := by rw [beq_iff_eq]; omega
          have q1 : decide (0 ≤ v) = true := decide_eq_true hv
          clear hn hv
          go_enter Tryz.func123, Tryz.ntmps123
          go_wp2_with fail
          go_ret
          exact ⟨rfl, (Below.refl _ _).alloc (Nat.le_refl _) _⟩
        · have e1 : R = false := by
            rw [← HR.out]
            simp [formN, hn, hv]; try omega
          subst e1
          have q0 : (((l.length : Nat) : Int) == 1) = true := by rw [beq_iff_eq]; omega
          have q1 : decide (0 ≤ v) = false := decide_eq_false hv
          clear hn hv
          go_enter Tryz.func123, Tryz.ntmps123
          go_wp2_with fail
          go_ret
          exact ⟨rfl, (Below.refl _ _).alloc (Nat.le_refl _) _⟩
      · have e1 : R = false := by
          rw [← HR.out]
          simp [formN, hn]
        subst e1
        have q0 : (((l.length : Nat) : Int) == 1) = false := by rw [beq_eq_false_iff_ne]; omega
        clear hn
        go_enter Tryz.func123, Tryz.ntmps123
        go_wp2_with fail
        go_ret
        exact ⟨rfl, (Below.refl _ _).alloc (Nat.le_refl _) _⟩
    · by_cases hn : l.length = 0
      · by_cases hv : 0 ≤ v
        · have e1 : R = true := by
            rw [← HR.out]
            simp [formN, hn, hv]
          subst e1
          have q0 : (((l.length : Nat) : Int) == 0) = true := by rw [beq_iff_eq]; omega
          have q1 : decide (0 ≤ v) = true := decide_eq_true hv
          clear hn hv
          go_enter Tryz.func123, Tryz.ntmps123
          go_wp2_with fail
          go_ret
          exact ⟨rfl, (Below.refl _ _).alloc (Nat.le_refl _) _⟩
        · have e1 : R = false := by
            rw [← HR.out]
            simp [formN, hn, hv]; try omega
          subst e1
          have q0 : (((l.length : Nat) : Int) == 0) = true := by rw [beq_iff_eq]; omega
          have q1 : decide (0 ≤ v) = false := decide_eq_false hv
          clear hn hv
          go_enter Tryz.func123, Tryz.ntmps123
          go_wp2_with fail
          go_ret
          exact ⟨rfl, (Below.refl _ _).alloc (Nat.le_refl _) _⟩
      · have e1 : R = false := by
          rw [← HR.out]
          simp [formN, hn]
        subst e1
        have q0 : (((l.length : Nat) : Int) == 0) = false := by rw [beq_eq_false_iff_ne]; omega
        clear hn
        go_enter Tryz.func123, Tryz.ntmps123
        go_wp2_with fail
        go_ret
        exact ⟨rfl, (Below.refl _ _).alloc (Nat.le_refl _) _⟩
    · by_cases hn : l.length = 0
      · by_cases hv : 0 ≤ v
        · have e1 : R = true := by
            rw [← HR.out]
            simp [formN, hn, hv]
          subst e1
          have q0 : (((l.length : Nat) : Int) == 0) = true := by rw [beq_iff_eq]; omega
          have q1 : decide (0 ≤ v) = true := decide_eq_true hv
          clear hn hv
          go_enter Tryz.func123, Tryz.ntmps123
          go_wp2_with fail
          go_ret
          exact ⟨rfl, (Below.refl _ _).alloc (Nat.le_refl _) _⟩
        · have e1 : R = false := by
            rw [← HR.out]
            simp [formN, hn, hv]; try omega
          subst e1
          have q0 : (((l.length : Nat) : Int) == 0) = true := by rw [beq_iff_eq]; omega
          have q1 : decide (0 ≤ v) = false := decide_eq_false hv
          clear hn hv
          go_enter Tryz.func123, Tryz.ntmps123
          go_wp2_with fail
          go_ret
          exact ⟨rfl, (Below.refl _ _).alloc (Nat.le_refl _) _⟩
      · have e1 : R = false := by
          rw [← HR.out]
          simp [formN, hn]
        subst e1
        have q0 : (((l.length : Nat) : Int) == 0) = false := by rw [beq_eq_false_iff_ne]; omega
        clear hn
        go_enter Tryz.func123, Tryz.ntmps123
        go_wp2_with fail
        go_ret
        exact ⟨rfl, (Below.refl _ _).alloc (Nat.le_refl _) _⟩
  · have hne : o ≠ 1 ∧ o ≠ 2 ∧ o ≠ 3 ∧ o ≠ 4 ∧ o ≠ 5 ∧ o ≠ 6 ∧ o ≠ 7 ∧ o ≠ 8 ∧ o ≠ 9 ∧ o ≠ 10 := by omega
    have e1 : R = false := by
      rw [← HR.out]
      exact formN_else hne.1 hne.2.1 hne.2.2.1 hne.2.2.2.1 hne.2.2.2.2.1 hne.2.2.2.2.2.1 hne.2.2.2.2.2.2.1 hne.2.2.2.2.2.2.2.1 hne.2.2.2.2.2.2.2.2.1 hne.2.2.2.2.2.2.2.2.2
    subst e1
    have q1 : (o == 1) = false := by simp; omega
    have q2 : (o == 2) = false := by simp; omega
    have q3 : (o == 3) = false := by simp; omega
    have q4 : (o == 4) = false := by simp; omega
    have q5 : (o == 5) = false := by simp; omega
    have q6 : (o == 6) = false := by simp; omega
    have q7 : (o == 7) = false := by simp; omega
    have q8 : (o == 8) = false := by simp; omega
    have q9 : (o == 9) = false := by simp; omega
    have q10 : (o == 10) = false := by simp; omega
    clear hne h
    go_enter Tryz.func123, Tryz.ntmps123
    go_wp2_with fail
    go_ret
    exact ⟨rfl, (Below.refl _ _).alloc (Nat.le_refl _) _⟩
end Go.Proofs.YtbfppnppijcnlaaGreat
namespace Go.Proofs.YtbfppnppijcnlaaGreat
open Go.RowKit Go.Sort
set_option linter.unusedVariables false
theorem nodesL_append (xs ys : List Tm) : nodesL (xs ++ ys) = nodesL xs + nodesL ys := by
  induction xs with
  | nil => rw [nodesL_nil]; simp
  | cons x xs ih => rw [List.cons_append, nodesL_cons, nodesL_cons, ih]; omega
theorem nodesL_take {l : List Tm} {k : Nat} (h : k < l.length) : nodesL (l.take (k + 1)) = nodesL (l.take k) + nodesT l[k] := by
  rw [List.take_succ_eq_append_getElem h, nodesL_append, nodesL_cons, nodesL_nil]
  rfl
theorem nodesL_take_le (l : List Tm) (k : Nat) : nodesL (l.take k) ≤ nodesL l := by
  conv => rhs; rw [← List.take_append_drop k l, nodesL_append]
  omega
/-- The count after k arguments. -/
def Cnt (l : List Tm) (k : Nat) (n : Nat) : Prop := (n ≤ 600 ∧ n = 1 + nodesL (l.take k)) ∨ (601 ≤ n ∧ n ≤ 1300 ∧ 601 ≤ 1 + nodesL (l.take k))
theorem Cnt.step {l : List Tm} {k n : Nat} (h : Cnt l k n) (hn : n ≤ 600) (hk : k < l.length) : Cnt l (k + 1) (n + min (nodesT l[k]) 601) := by
  unfold Cnt at *
  rw [nodesL_take hk]
  omega
theorem Cnt.fin {o v : Int} {l : List Tm} {k n : Nat} (h : Cnt l k n) (hk : l.length ≤ k ∨ 601 ≤ n) : min (nodesT (.mk o v l)) 601 = min n 601 := by
  unfold Cnt at h
  rw [nodesT_mk]
  have := nodesL_take_le l k
  rcases hk with hk | hk
  · rw [List.take_of_length_le hk] at h this
    omega
  · omega
set_option maxHeartbeats 1000000 in
theorem rnodes_any (t : Tm) : ∀ (w : World) (A : Option Addr) (c : Nat), Tr w t A c →
    Calls Tryz.prog 101 #[.agg #[.int .i64 t.op, .int .i64 t.val, .slice A t.args.length c]] w fun e w' => e = .returned (.int .i64 ((min (nodesT t) 601 : Nat) : Int)) ∧ Below w.heap.size w w' := by
  refine Tm.ind (P := fun t => ∀ (w : World) (A : Option Addr) (c : Nat), Tr w t A c →
    Calls Tryz.prog 101 #[.agg #[.int .i64 t.op, .int .i64 t.val, .slice A t.args.length c]] w fun e w' => e = .returned (.int .i64 ((min (nodesT t) 601 : Nat) : Int)) ∧ Below w.heap.size w w') ?_ t
  intro o v l ih w A c ht
  have hf := ht.ofits
  simp only [Tm.op_mk, Tm.val_mk, Tm.args_mk] at hf ⊢
  have hfl := hf.2.2
  unfold maxLen at hfl
  generalize hR : min (nodesT (.mk o v l)) 601 = R
  have HR := Lib.hid hR
  clear hR
  have b1 : Blk (w.alloc (Obj.cells #[.int .i64 o, .int .i64 v, .slice A l.length c] 30)) w.heap.size 30 #[.int .i64 o, .int .i64 v, .slice A l.length c] := heap_alloc_new w _
  have tt := ht.alloc (Obj.cells #[.int .i64 o, .int .i64 v, .slice A l.length c] 30)
  have bb : Below w.heap.size w (w.alloc (Obj.cells #[.int .i64 o, .int .i64 v, .slice A l.length c] 30)) := (Below.refl _ _).alloc (Nat.le_refl _) _
  have Hi := Lib.hid ih
  have B1 := Lib.hid b1
  have TT := Lib.hid tt
  have BB := Lib.hid bb
  clear ih b1 tt bb ht hf
  go_enter Tryz.func101, Tryz.ntmps101
  go_wp2_with fail
  generalize w.alloc (Obj.cells #[.int .i64 o, .int .i64 v, .slice A l.length c] 30) = W at *
  go_loopw [3, 4] (fun nn i wr => ∃ k n : Nat, k ≤ l.length ∧ i = .int .i64 k ∧ nn = .int .i64 n ∧ Cnt l k n ∧ n ≤ 1300 ∧ Below W.heap.size W wr) (fun _ i _ => l.length - (intOf i).toNat)
  case atStart => exact ⟨0, 1, Nat.zero_le _, rfl, rfl, .inl ⟨by omega, by rw [List.take_zero, nodesL_nil]⟩, by omega, Below.refl _ _⟩
  case round =>
    obtain ⟨k, n, hk, rfl, rfl, hn, hn13, hb⟩ := hrel
    have HN := Lib.hid hn
    clear hn
    have d2 : wr.cell? ⟨w.heap.size, 2, none⟩ = some (.slice A l.length c) := (B1.out.below hb B1.out.lt).cell 2
    by_cases hkl : k < l.length
    · have x2 : decide ((k : Int) < (l.length : Int)) = true := by simp; omega
      have x2' : decide (k < l.length) = true := by simp; omega
      by_cases hn3 : n ≤ 600
      · have x3 : decide ((n : Int) ≤ 600) = true := decide_eq_true (by omega)
        obtain ⟨g, k0, AA, CC, rfl, c0, c1, c2, htr⟩ := (TT.out.bel hb).at k hkl
        have p1 : (0 : Int) ≤ (k : Int) := by omega
        have p2 : (k : Int) < (l.length : Int) := by omega
        simp only [Tm.args_mk] at c0 c1 c2 htr
        have HC := Lib.hid (Hi.out _ (List.getElem_mem hkl) _ _ _ htr)
        have hst := HN.out.step hn3 hkl
        have hz : min (nodesT l[k]) 601 ≤ 601 := by omega
        have Hb := Lib.hid hb
        clear hb htr
        generalize min (nodesT l[k]) 601 = z at *
        have HS := Lib.hid hst
        clear hst
        go_wp2_with fail
        refine HC.out.mono ?_
        rintro e w2 ⟨rfl, hb2⟩
        have Hb2 := Lib.hid (below_then Hb.out hb2 Hb.out.size)
        clear hb2
        go_wp2_with fail
        go_roundw
        case rel => exact ⟨k + 1, n + z, by omega, by go_num, by go_num, HS.out, by omega, Hb2.out⟩
        case measure => simp [intOf]; omega
      · have x3 : decide ((n : Int) ≤ 600) = false := decide_eq_false (by omega)
        have hfin := HN.out.fin (o := o) (v := v) (.inr (by omega))
        rw [HR.out] at hfin
        have Hb := Lib.hid hb
        have x4 : (601 : Int) < (n : Int) ∨ (n : Int) = 601 := by omega
        clear hb
        rcases x4 with x4 | x4
        · obtain rfl : R = 601 := by omega
          clear hfin
          go_wp2_with fail
          go_ret
          exact ⟨rfl, BB.out.trans (Hb.out.mono BB.out.size)⟩
        · obtain rfl : R = 601 := by omega
          obtain rfl : n = 601 := by omega
          clear hfin x4
          go_wp2_with fail
          go_ret
          exact ⟨rfl, BB.out.trans (Hb.out.mono BB.out.size)⟩
    · have x2 : decide ((k : Int) < (l.length : Int)) = false := by simp; omega
      have x2' : decide (k < l.length) = false := by simp; omega
      have hfin := HN.out.fin (o := o) (v := v) (.inl (by omega))
      rw [HR.out] at hfin
      have Hb := Lib.hid hb
      clear hb
      by_cases x4 : n ≤ 601
      · obtain rfl : R = n := by omega
        clear hfin
        go_wp2_with fail
        all_goals (go_ret; exact ⟨ret_int (by omega), BB.out.trans (Hb.out.mono BB.out.size)⟩)
      · obtain rfl : R = 601 := by omega
        clear hfin
        go_wp2_with fail
        all_goals (go_ret; exact ⟨ret_int (by omega), BB.out.trans (Hb.out.mono BB.out.size)⟩)
theorem formsL_append (xs ys : List Tm) : formsL (xs ++ ys) = (formsL xs && formsL ys) := by
  induction xs with
  | nil => rw [formsL_nil]; rfl
  | cons x xs ih => rw [List.cons_append, formsL_cons, formsL_cons, ih, Bool.and_assoc]
theorem formsL_take {l : List Tm} {k : Nat} (h : k < l.length) : formsL (l.take (k + 1)) = (formsL (l.take k) && formsT l[k]) := by
  rw [List.take_succ_eq_append_getElem h, formsL_append, formsL_cons, formsL_nil, Bool.and_true]
theorem formsL_not {l : List Tm} {k : Nat} (h : k < l.length) (hf : formsT l[k] = false) : formsL l = false := by
  have h1 := formsL_append (l.take (k + 1)) (l.drop (k + 1))
  rw [List.take_append_drop, formsL_take h, hf] at h1
  simpa using h1
set_option maxHeartbeats 1000000 in
theorem forms_any (t : Tm) : ∀ (w : World) (A : Option Addr) (c : Nat), Tr w t A c →
    Calls Tryz.prog 103 #[.agg #[.int .i64 t.op, .int .i64 t.val, .slice A t.args.length c]] w fun e w' => e = .returned (.bool (formsT t)) ∧ Below w.heap.size w w' := by
  refine Tm.ind (P := fun t => ∀ (w : World) (A : Option Addr) (c : Nat), Tr w t A c →
    Calls Tryz.prog 103 #[.agg #[.int .i64 t.op, .int .i64 t.val, .slice A t.args.length c]] w fun e w' => e = .returned (.bool (formsT t)) ∧ Below w.heap.size w w') ?_ t
  intro o v l ih w A c ht
  have hf := ht.ofits
  simp only [Tm.op_mk, Tm.val_mk, Tm.args_mk] at hf ⊢
  have hfl := hf.2.2
  unfold maxLen at hfl
  rw [formsT_mk]
  generalize hR : (formsL l && formN o v l) = R
  have HR := Lib.hid hR
  clear hR
  have b1 : Blk (w.alloc (Obj.cells #[.int .i64 o, .int .i64 v, .slice A l.length c] 30)) w.heap.size 30 #[.int .i64 o, .int .i64 v, .slice A l.length c] := heap_alloc_new w _
  have tt := ht.alloc (Obj.cells #[.int .i64 o, .int .i64 v, .slice A l.length c] 30)
  have bb : Below w.heap.size w (w.alloc (Obj.cells #[.int .i64 o, .int .i64 v, .slice A l.length c] 30)) := (Below.refl _ _).alloc (Nat.le_refl _) _
  have Hi := Lib.hid ih
  have B1 := Lib.hid b1
  have TT := Lib.hid tt
  have BB := Lib.hid bb
  clear ih b1 tt bb ht hf
  go_enter Tryz.func103, Tryz.ntmps103
  go_wp2_with fail
  generalize w.alloc (Obj.cells #[.int .i64 o, .int .i64 v, .slice A l.length c] 30) = W at *
  go_loopw [3] (fun i wr => ∃ k : Nat, k ≤ l.length ∧ i = .int .i64 k ∧ formsL (l.take k) = true ∧ Below W.heap.size W wr) (fun i _ => l.length - (intOf i).toNat)
  case atStart => exact ⟨0, Nat.zero_le _, rfl, by rw [List.take_zero, formsL_nil], Below.refl _ _⟩
  case round =>
    obtain ⟨k, hk, rfl, hn, hb⟩ := hrel
    have HN := Lib.hid hn
    clear hn
    have b2 := B1.out.below hb B1.out.lt
    have d0 : wr.cell? ⟨w.heap.size, 0, none⟩ = some (.int .i64 o) := b2.cell 0
    have d1 : wr.cell? ⟨w.heap.size, 1, none⟩ = some (.int .i64 v) := b2.cell 1
    have d2 : wr.cell? ⟨w.heap.size, 2, none⟩ = some (.slice A l.length c) := b2.cell 2
    clear b2
    by_cases hkl : k < l.length
    · have x2 : decide ((k : Int) < (l.length : Int)) = true := by simp; omega
      have x2' : decide (k < l.length) = true := by simp; omega
      obtain ⟨g, k0, AA, CC, rfl, c0, c1, c2, htr⟩ := (TT.out.bel hb).at k hkl
      have p1 : (0 : Int) ≤ (k : Int) := by omega
      have p2 : (k : Int) < (l.length : Int) := by omega
      simp only [Tm.args_mk] at c0 c1 c2 htr
      have HC := Lib.hid (Hi.out _ (List.getElem_mem hkl) _ _ _ htr)
      have Hb := Lib.hid hb
      clear hb htr
      cases hz : formsT l[k]
      · have e1 : R = false := by rw [← HR.out, formsL_not hkl hz]; rfl
        rw [hz] at HC
        subst e1
        clear hz
        go_wp2_with fail
        refine HC.out.mono ?_
        rintro e w2 ⟨rfl, hb2⟩
        have Hb2 := Lib.hid (below_then Hb.out hb2 Hb.out.size)
        clear hb2
        go_wp2_with fail
        go_ret
        exact ⟨rfl, BB.out.trans (Hb2.out.mono BB.out.size)⟩
      · have HS := Lib.hid (show formsL (l.take (k + 1)) = true by rw [formsL_take hkl, HN.out, hz]; rfl)
        rw [hz] at HC
        clear hz
        go_wp2_with fail
        refine HC.out.mono ?_
        rintro e w2 ⟨rfl, hb2⟩
        have Hb2 := Lib.hid (below_then Hb.out hb2 Hb.out.size)
        clear hb2
        go_wp2_with fail
        go_roundw
        case rel => exact ⟨k + 1, by omega, by go_num, HS.out, Hb2.out⟩
        case measure => simp [intOf]; omega
    · have x2 : decide ((k : Int) < (l.length : Int)) = false := by simp; omega
      have x2' : decide (k < l.length) = false := by simp; omega
      have e1 : formN o v l = R := by
        rw [← HR.out]
        have h := HN.out
        rw [List.take_of_length_le (by omega)] at h
        rw [h]; rfl
      have HE := Lib.hid e1
      have Hb := Lib.hid hb
      have HT2 := Lib.hid (TT.out.bel hb)
      clear hb e1
      go_wp2_with fail
      refine (form_any (.mk o v l) _ A c HT2.out).mono ?_
      rintro e w2 ⟨rfl, hb2⟩
      have Hb2 := Lib.hid (below_then Hb.out hb2 Hb.out.size)
      clear hb2
      go_wp2_with fail
      go_ret
      exact ⟨ret_bool HE.out, BB.out.trans (Hb2.out.mono BB.out.size)⟩
theorem depthL_append (xs ys : List Tm) : depthL (xs ++ ys) = max (depthL xs) (depthL ys) := by
  induction xs with
  | nil => rw [depthL_nil]; simp
  | cons x xs ih => rw [List.cons_append, depthL_cons, depthL_cons, ih]; omega
theorem depthL_take {l : List Tm} {k : Nat} (h : k < l.length) : depthL (l.take (k + 1)) = max (depthL (l.take k)) (depthT l[k]) := by
  rw [List.take_succ_eq_append_getElem h, depthL_append, depthL_cons, depthL_nil]
  omega
theorem depthL_ge {l : List Tm} {k : Nat} (h : k < l.length) : depthT l[k] ≤ depthL l := by
  have h1 := depthL_append (l.take (k + 1)) (l.drop (k + 1))
  rw [List.take_append_drop, depthL_take h] at h1
  omega
set_option maxHeartbeats 1000000 in
theorem rdepth_any (t : Tm) : ∀ (w : World) (A : Option Addr) (c : Nat) (m : Int), Tr w t A c → -1000000 ≤ m → m ≤ 1000000 →
    Calls Tryz.prog 102 #[.agg #[.int .i64 t.op, .int .i64 t.val, .slice A t.args.length c], .int .i64 m] w fun e w' => e = .returned (.bool (decide ((depthT t : Int) ≤ m))) ∧ Below w.heap.size w w' := by
  refine Tm.ind (P := fun t => ∀ (w : World) (A : Option Addr) (c : Nat) (m : Int), Tr w t A c → -1000000 ≤ m → m ≤ 1000000 →
    Calls Tryz.prog 102 #[.agg #[.int .i64 t.op, .int .i64 t.val, .slice A t.args.length c], .int .i64 m] w fun e w' => e = .returned (.bool (decide ((depthT t : Int) ≤ m))) ∧ Below w.heap.size w w') ?_ t
  intro o v l ih w A c m ht hm0 hm1
  have hf := ht.ofits
  simp only [Tm.op_mk, Tm.val_mk, Tm.args_mk] at hf ⊢
  have hfl := hf.2.2
  unfold maxLen at hfl
  rw [depthT_mk]
  generalize hR : decide (((1 + depthL l : Nat) : Int) ≤ m) = R
  have HR := Lib.hid hR
  clear hR
  by_cases hm2 : m < 1
  · have e1 : R = false := by rw [← HR.out]; exact decide_eq_false (by omega)
    subst e1
    have q1 : decide (m < 1) = true := decide_eq_true hm2
    clear hm2 ih ht hf
    go_enter Tryz.func102, Tryz.ntmps102
    go_wp2_with fail
    go_ret
    exact ⟨rfl, (Below.refl _ _).alloc (Nat.le_refl _) _⟩
  have q1 : decide (m < 1) = false := decide_eq_false hm2
  have b1 : Blk (w.alloc (Obj.cells #[.int .i64 o, .int .i64 v, .slice A l.length c] 30)) w.heap.size 30 #[.int .i64 o, .int .i64 v, .slice A l.length c] := heap_alloc_new w _
  have tt := ht.alloc (Obj.cells #[.int .i64 o, .int .i64 v, .slice A l.length c] 30)
  have bb : Below w.heap.size w (w.alloc (Obj.cells #[.int .i64 o, .int .i64 v, .slice A l.length c] 30)) := (Below.refl _ _).alloc (Nat.le_refl _) _
  have Hi := Lib.hid ih
  have B1 := Lib.hid b1
  have TT := Lib.hid tt
  have BB := Lib.hid bb
  clear ih b1 tt bb ht hf
  go_enter Tryz.func102, Tryz.ntmps102
  go_wp2_with fail
  generalize w.alloc (Obj.cells #[.int .i64 o, .int .i64 v, .slice A l.length c] 30) = W at *
  go_loopw [5] (fun i wr => ∃ k : Nat, k ≤ l.length ∧ i = .int .i64 k ∧ ((depthL (l.take k) : Nat) : Int) ≤ m - 1 ∧ Below W.heap.size W wr) (fun i _ => l.length - (intOf i).toNat)
  case atStart => exact ⟨0, Nat.zero_le _, rfl, by rw [List.take_zero, depthL_nil]; omega, Below.refl _ _⟩
  case round =>
    obtain ⟨k, hk, rfl, hn, hb⟩ := hrel
    have HN := Lib.hid hn
    clear hn
    have d2 : wr.cell? ⟨w.heap.size, 2, none⟩ = some (.slice A l.length c) := (B1.out.below hb B1.out.lt).cell 2
    by_cases hkl : k < l.length
    · have x2 : decide ((k : Int) < (l.length : Int)) = true := by simp; omega
      have x2' : decide (k < l.length) = true := by simp; omega
      obtain ⟨g, k0, AA, CC, rfl, c0, c1, c2, htr⟩ := (TT.out.bel hb).at k hkl
      have p1 : (0 : Int) ≤ (k : Int) := by omega
      have p2 : (k : Int) < (l.length : Int) := by omega
      simp only [Tm.args_mk] at c0 c1 c2 htr
      have HC := Lib.hid (Hi.out _ (List.getElem_mem hkl) _ _ _ (m - 1) htr (by omega) (by omega))
      have Hb := Lib.hid hb
      clear hb htr
      by_cases hz : (depthT l[k] : Int) ≤ m - 1
      · have HS := Lib.hid (show ((depthL (l.take (k + 1)) : Nat) : Int) ≤ m - 1 by rw [depthL_take hkl]; have := HN.out; omega)
        rw [decide_eq_true hz] at HC
        clear hz
        go_wp2_with fail
        refine HC.out.mono ?_
        rintro e w2 ⟨rfl, hb2⟩
        have Hb2 := Lib.hid (below_then Hb.out hb2 Hb.out.size)
        clear hb2
        go_wp2_with fail
        go_roundw
        case rel => exact ⟨k + 1, by omega, by go_num, HS.out, Hb2.out⟩
        case measure => simp [intOf]; omega
      · have e1 : R = false := by rw [← HR.out]; have := depthL_ge hkl; exact decide_eq_false (by omega)
        rw [decide_eq_false hz] at HC
        subst e1
        clear hz
        go_wp2_with fail
        refine HC.out.mono ?_
        rintro e w2 ⟨rfl, hb2⟩
        have Hb2 := Lib.hid (below_then Hb.out hb2 Hb.out.size)
        clear hb2
        go_wp2_with fail
        go_ret
        exact ⟨rfl, BB.out.trans (Hb2.out.mono BB.out.size)⟩
    · have x2 : decide ((k : Int) < (l.length : Int)) = false := by simp; omega
      have x2' : decide (k < l.length) = false := by simp; omega
      have e1 : R = true := by
        rw [← HR.out]
        have h := HN.out
        rw [List.take_of_length_le (by omega)] at h
        exact decide_eq_true (by omega)
      subst e1
      have Hb := Lib.hid hb
      clear hb
      go_wp2_with fail
      go_ret
      exact ⟨rfl, BB.out.trans (Hb.out.mono BB.out.size)⟩
/-- Whether a term is valid. -/
def validT (t : Tm) : Bool := decide (nodesT t ≤ 600) && decide (depthT t ≤ 60) && formsT t
end Go.Proofs.YtbfppnppijcnlaaGreat
namespace Go.Proofs.YtbfppnppijcnlaaGreat
open Go.RowKit Go.Sort
set_option linter.unusedVariables false
theorem rvalid_any (t : Tm) (w : World) (A : Option Addr) (c : Nat) (ht : Tr w t A c) :
    Calls Tryz.prog 73 #[.agg #[.int .i64 t.op, .int .i64 t.val, .slice A t.args.length c]] w fun e w' => e = .returned (.bool (validT t)) ∧ Below w.heap.size w w' := by
  have b1 : Blk (w.alloc (Obj.cells #[.int .i64 t.op, .int .i64 t.val, .slice A t.args.length c] 30)) w.heap.size 30 #[.int .i64 t.op, .int .i64 t.val, .slice A t.args.length c] := heap_alloc_new w _
  have bb : Below w.heap.size w (w.alloc (Obj.cells #[.int .i64 t.op, .int .i64 t.val, .slice A t.args.length c] 30)) := (Below.refl _ _).alloc (Nat.le_refl _) _
  generalize hR : validT t = R
  have HR := Lib.hid hR
  have HT := Lib.hid ht
  have B0 := Lib.hid (And.intro b1 bb)
  clear hR ht b1 bb
  go_enter Tryz.func73, Tryz.ntmps73
  go_wp2_with fail
  generalize w.alloc (Obj.cells #[.int .i64 t.op, .int .i64 t.val, .slice A t.args.length c] 30) = W at *
  refine (rnodes_any t W A c (HT.out.bel B0.out.2)).mono ?_
  rintro e w2 ⟨rfl, hb2⟩
  have b1 := B0.out.1.below hb2 B0.out.1.lt
  have bb := below_then B0.out.2 hb2 B0.out.2.size
  have B2 := Lib.hid (And.intro b1 bb)
  have x0 : w2.cell? ⟨w.heap.size, 0, none⟩ = some (.int .i64 t.op) := b1.cell 0
  have x1 : w2.cell? ⟨w.heap.size, 1, none⟩ = some (.int .i64 t.val) := b1.cell 1
  have x2 : w2.cell? ⟨w.heap.size, 2, none⟩ = some (.slice A t.args.length c) := b1.cell 2
  clear b1 bb hb2 B0
  by_cases h1 : nodesT t ≤ 600
  · have q1 : decide (((min (nodesT t) 601 : Nat) : Int) ≤ 600) = true := decide_eq_true (by omega)
    obtain ⟨z, hz⟩ : ∃ z, z = min (nodesT t) 601 := ⟨_, rfl⟩
    rw [← hz] at q1 ⊢
    clear hz
    go_wp2_with fail
    refine (rdepth_any t w2 A c 60 (HT.out.bel B2.out.2) (by omega) (by omega)).mono ?_
    rintro e w3 ⟨rfl, hb3⟩
    have b1 := B2.out.1.below hb3 B2.out.1.lt
    have bb := below_then B2.out.2 hb3 B2.out.2.size
    have B3 := Lib.hid (And.intro b1 bb)
    have y0 : w3.cell? ⟨w.heap.size, 0, none⟩ = some (.int .i64 t.op) := b1.cell 0
    have y1 : w3.cell? ⟨w.heap.size, 1, none⟩ = some (.int .i64 t.val) := b1.cell 1
    have y2 : w3.cell? ⟨w.heap.size, 2, none⟩ = some (.slice A t.args.length c) := b1.cell 2
    clear b1 bb hb3 x0 x1 x2
    by_cases h2 : depthT t ≤ 60
    · have q2 : decide ((depthT t : Int) ≤ 60) = true := decide_eq_true (by omega)
      rw [q2]
      have e1 : formsT t = R := by rw [← HR.out]; unfold validT; simp [h1, h2]
      have HE := Lib.hid e1
      clear q2 e1 h1 h2
      go_wp2_with fail
      refine (forms_any t w3 A c (HT.out.bel B3.out.2)).mono ?_
      rintro e w4 ⟨rfl, hb4⟩
      have bb := Lib.hid (below_then B3.out.2 hb4 B3.out.2.size)
      clear hb4 y0 y1 y2
      go_wp2_with fail
      go_ret
      exact ⟨ret_bool HE.out, bb.out⟩
    · have q2 : decide ((depthT t : Int) ≤ 60) = false := decide_eq_false (by omega)
      rw [q2]
      have e1 : R = false := by rw [← HR.out]; unfold validT; simp [h2]
      subst e1
      clear q2 h1 h2
      go_wp2_with fail
      go_ret
      exact ⟨rfl, B3.out.2⟩
  · have q1 : decide (((min (nodesT t) 601 : Nat) : Int) ≤ 600) = false := decide_eq_false (by omega)
    obtain ⟨z, hz⟩ : ∃ z, z = min (nodesT t) 601 := ⟨_, rfl⟩
    rw [← hz] at q1 ⊢
    have e1 : R = false := by rw [← HR.out]; unfold validT; simp [h1]
    subst e1
    clear hz h1
    go_wp2_with fail
    go_ret
    exact ⟨rfl, B2.out.2⟩
/-! ### The program's -/
/-- What a round asks of a node. -/
noncomputable def okN (x : Tm × Int) : Bool := decide (x.2 ≤ 60) && formN x.1.op x.1.val x.1.args
end Go.Proofs.YtbfppnppijcnlaaGreat
