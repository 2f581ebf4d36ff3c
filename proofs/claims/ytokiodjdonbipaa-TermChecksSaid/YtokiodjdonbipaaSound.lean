/-
  The contracts of sound (the program's) and of form (the reference's): whether a node has the right form.
  Conditions: the term lies in memory as a tree.
-/
import Derived.Test.YtokiodjdonbipaaEqD
import Derived.Test.YtokiodjdonbipaaFine
namespace Go.Proofs.Ytokiodjdonbipaa
open Go.RowKit Go.Sort
set_option linter.unusedVariables false
theorem formN_else {o v : Int} {l : List Tm} (h1 : o ≠ 1) (h2 : o ≠ 2) (h3 : o ≠ 3) (h4 : o ≠ 4) (h5 : o ≠ 5) (h6 : o ≠ 6) (h7 : o ≠ 7) (h8 : o ≠ 8) (h9 : o ≠ 9) (h10 : o ≠ 10) : formN o v l = false := by
  unfold formN
  rw [if_neg h1, if_neg (by omega), if_neg h3, if_neg h6, if_neg h4, if_neg h8, if_neg h5, if_neg h7]
set_option maxHeartbeats 4000000 in
theorem sound_any (t : Tm) (w : World) (A : Option Addr) (c : Nat) (ht : Tr w t A c) :
    Calls Try.prog 52 #[.agg #[.int .i64 t.op, .int .i64 t.val, .slice A t.args.length c]] w fun e w' => e = .returned (.bool (formN t.op t.val t.args)) ∧ Below w.heap.size w w' := by
  obtain ⟨o, v, l⟩ := t
  have hf := ht.ofits
  simp only [Tm.op_mk, Tm.val_mk, Tm.args_mk] at hf ⊢
  have hfl := hf.2.2
  have hm := follows_mixed
  unfold maxLen at hfl
  generalize hR : formN o v l = R
  have HR := Lib.hid hR
  have HT := Lib.hid ht
  clear ht hf hR
  by_cases h : o = 1 ∨ o = 2 ∨ o = 3 ∨ o = 4 ∨ o = 5 ∨ o = 6 ∨ o = 7 ∨ o = 8 ∨ o = 9 ∨ o = 10
  · rcases h with rfl | rfl | rfl | rfl | rfl | rfl | rfl | rfl | rfl | rfl
    · by_cases hn : l.length = 0
      · have e1 : R = true := by
          rw [← HR.out]
          simp [formN, hn]
        subst e1
        have q0 : (((l.length : Nat) : Int) == 0) = true := by rw [beq_iff_eq]; omega
        clear hn
        go_enter Try.func52, Try.ntmps52
        go_wp2_with fail
        go_ret
        exact ⟨rfl, (Below.refl _ _).alloc (Nat.le_refl _) _⟩
      · have e1 : R = false := by
          rw [← HR.out]
          simp [formN, hn]
        subst e1
        have q0 : (((l.length : Nat) : Int) == 0) = false := by rw [beq_eq_false_iff_ne]; omega
        clear hn
        go_enter Try.func52, Try.ntmps52
        go_wp2_with fail
        go_ret
        exact ⟨rfl, (Below.refl _ _).alloc (Nat.le_refl _) _⟩
    · by_cases hn : l.length = 0
      · by_cases hv : 0 ≤ v
        · have e1 : R = true := by
            rw [← HR.out]
            simp [formN, hn, hv]
          subst e1
          have q0 : (((l.length : Nat) : Int) == 0) = true := by rw [beq_iff_eq]; omega
          have q1 : decide (0 ≤ v) = true := decide_eq_true hv
          clear hn hv
          go_enter Try.func52, Try.ntmps52
          go_wp2_with fail
          go_ret
          exact ⟨rfl, (Below.refl _ _).alloc (Nat.le_refl _) _⟩
        · have e1 : R = false := by
            rw [← HR.out]
            simp [formN, hn, hv]; try omega
          subst e1
          have q0 : (((l.length : Nat) : Int) == 0) = true := by rw [beq_iff_eq]; omega
          have q1 : decide (0 ≤ v) = false := decide_eq_false hv
          clear hn hv
          go_enter Try.func52, Try.ntmps52
          go_wp2_with fail
          go_ret
          exact ⟨rfl, (Below.refl _ _).alloc (Nat.le_refl _) _⟩
      · have e1 : R = false := by
          rw [← HR.out]
          simp [formN, hn]
        subst e1
        have q0 : (((l.length : Nat) : Int) == 0) = false := by rw [beq_eq_false_iff_ne]; omega
        clear hn
        go_enter Try.func52, Try.ntmps52
        go_wp2_with fail
        go_ret
        exact ⟨rfl, (Below.refl _ _).alloc (Nat.le_refl _) _⟩
    · by_cases hv : v = 0
      · have e1 : R = true := by
          rw [← HR.out]
          simp [formN, hv]
        subst e1
        have q0 : (v == 0) = true := by rw [beq_iff_eq]; omega
        clear hv
        go_enter Try.func52, Try.ntmps52
        go_wp2_with fail
        go_ret
        exact ⟨rfl, (Below.refl _ _).alloc (Nat.le_refl _) _⟩
      · have e1 : R = false := by
          rw [← HR.out]
          simp [formN, hv]; try omega
        subst e1
        have q0 : (v == 0) = false := by rw [beq_eq_false_iff_ne]; omega
        clear hv
        go_enter Try.func52, Try.ntmps52
        go_wp2_with fail
        go_ret
        exact ⟨rfl, (Below.refl _ _).alloc (Nat.le_refl _) _⟩
    · by_cases hn : l.length = 1
      · by_cases hv : v = 0
        · have e1 : R = true := by
            rw [← HR.out]
            simp [formN, hn, hv]
          subst e1
          have q0 : (((l.length : Nat) : Int) == 1) = true := by rw [beq_iff_eq]; omega
          have q1 : (v == 0) = true := by rw [beq_iff_eq]; omega
          clear hn hv
          go_enter Try.func52, Try.ntmps52
          go_wp2_with fail
          go_ret
          exact ⟨rfl, (Below.refl _ _).alloc (Nat.le_refl _) _⟩
        · have e1 : R = false := by
            rw [← HR.out]
            simp [formN, hn, hv]; try omega
          subst e1
          have q0 : (((l.length : Nat) : Int) == 1) = true := by rw [beq_iff_eq]; omega
          have q1 : (v == 0) = false := by rw [beq_eq_false_iff_ne]; omega
          clear hn hv
          go_enter Try.func52, Try.ntmps52
          go_wp2_with fail
          go_ret
          exact ⟨rfl, (Below.refl _ _).alloc (Nat.le_refl _) _⟩
      · have e1 : R = false := by
          rw [← HR.out]
          simp [formN, hn]
        subst e1
        have q0 : (((l.length : Nat) : Int) == 1) = false := by rw [beq_eq_false_iff_ne]; omega
        clear hn
        go_enter Try.func52, Try.ntmps52
        go_wp2_with fail
        go_ret
        exact ⟨rfl, (Below.refl _ _).alloc (Nat.le_refl _) _⟩
    · by_cases hn : l.length = 2
      · obtain ⟨x, y, rfl⟩ : ∃ x y, l = [x, y] := by
          match l, hn with
          | [x, y], _ => exact ⟨x, y, rfl⟩
        clear hn hfl
        by_cases hv : v = 0
        · subst hv
          obtain ⟨g, k, AX, CX, rfl, c0, c1, c2, hx⟩ := HT.out.at 0 (by simp)
          obtain ⟨g', k', AY, CY, hA, c3, c4, c5, hy⟩ := HT.out.at 1 (by simp)
          injection hA with hA
          injection hA with e1 e2 _
          subst e1; subst e2
          simp only [Tm.args_mk, List.getElem_cons_zero, List.getElem_cons_succ] at c0 c1 c2 c3 c4 c5 hx hy
          have z0 : w.cell? ⟨g, k, none⟩ = some (.int .i64 x.op) := by simpa using c0
          have z1 : w.cell? ⟨g, k + 1, none⟩ = some (.int .i64 x.val) := by simpa using c1
          have z2 : w.cell? ⟨g, k + 2, none⟩ = some (.slice AX x.args.length CX) := by simpa using c2
          have z3 : w.cell? ⟨g, k + 3, none⟩ = some (.int .i64 y.op) := by simpa using c3
          have z4 : w.cell? ⟨g, k + 3 + 1, none⟩ = some (.int .i64 y.val) := by simpa using c4
          have z5 : w.cell? ⟨g, k + 3 + 2, none⟩ = some (.slice AY y.args.length CY) := by simpa using c5
          have HZ := Lib.hid (And.intro z0 (And.intro z1 (And.intro z2 (And.intro z3 (And.intro z4 z5)))))
          have HX := Lib.hid (And.intro hx hy)
          clear c0 c1 c2 c3 c4 c5 hx hy z0 z1 z2 z3 z4 z5
          have hlf : formN 5 0 [x, y] = !lessT y x := by simp [formN]
          generalize hL : lessT y x = b at hlf
          have HL := Lib.hid hL
          clear hL
          have e1 : R = !b := by
            rw [← HR.out]
            exact hlf
          subst e1
          have HB := Lib.hid (And.intro (heap_alloc_new w (Obj.cells #[.int .i64 5, .int .i64 0, .slice (some ⟨g, k, none⟩) 2 c] 24) : Blk _ _ _ _) ((Below.refl w.heap.size w).alloc (Nat.le_refl _) (Obj.cells #[.int .i64 5, .int .i64 0, .slice (some ⟨g, k, none⟩) 2 c] 24)))
          clear hlf
          go_enter Try.func52, Try.ntmps52
          go_wp2_with fail
          have HZ1 := Lib.hid (And.intro (cell_alloc (o := Obj.cells #[.int .i64 5, .int .i64 0, .slice (some ⟨g, k, none⟩) 2 c] 24) HZ.out.1) (And.intro (cell_alloc (o := Obj.cells #[.int .i64 5, .int .i64 0, .slice (some ⟨g, k, none⟩) 2 c] 24) HZ.out.2.1) (And.intro (cell_alloc (o := Obj.cells #[.int .i64 5, .int .i64 0, .slice (some ⟨g, k, none⟩) 2 c] 24) HZ.out.2.2.1) (And.intro (cell_alloc (o := Obj.cells #[.int .i64 5, .int .i64 0, .slice (some ⟨g, k, none⟩) 2 c] 24) HZ.out.2.2.2.1) (And.intro (cell_alloc (o := Obj.cells #[.int .i64 5, .int .i64 0, .slice (some ⟨g, k, none⟩) 2 c] 24) HZ.out.2.2.2.2.1) (cell_alloc (o := Obj.cells #[.int .i64 5, .int .i64 0, .slice (some ⟨g, k, none⟩) 2 c] 24) HZ.out.2.2.2.2.2))))))
          generalize w.alloc (Obj.cells #[.int .i64 5, .int .i64 0, .slice (some ⟨g, k, none⟩) 2 c] 24) = W at *
          have b2 := HB.out.1
          have d1 : W.cell? ⟨w.heap.size, 1, none⟩ = some (.int .i64 0) := Blk.cell b2 1
          have d2 : W.cell? ⟨w.heap.size, 2, none⟩ = some (.slice (some ⟨g, k, none⟩) 2 c) := Blk.cell b2 2
          have G1 := cell_regrown d1
          have G2 := cell_regrown d2
          clear b2 d1 d2
          have G3 := cell_regrown HZ1.out.1
          have G4 := cell_regrown HZ1.out.2.1
          have G5 := cell_regrown HZ1.out.2.2.1
          have G6 := cell_regrown HZ1.out.2.2.2.1
          have G7 := cell_regrown HZ1.out.2.2.2.2.1
          have G8 := cell_regrown HZ1.out.2.2.2.2.2
          have hc : ∀ n os, Calls Try.prog 13 #[.agg #[.int .i64 y.op, .int .i64 y.val, .slice AY y.args.length CY], .agg #[.int .i64 x.op, .int .i64 x.val, .slice AX x.args.length CX]] (grow (redrawn W n) os) fun e w'' => e = .returned (.bool b) ∧ ∃ p : Regrown, w'' = grow (redrawn W p.d) p.os := fun n os => by
            have h := less_any y x (grow (redrawn W n) os) AY AX CY CX ((HX.out.2.bel HB.out.2).bel (below_regrown W n os)) ((HX.out.1.bel HB.out.2).bel (below_regrown W n os))
            rw [HL.out] at h
            exact Calls.regrown_of h
          have HC := Lib.hid hc
          clear hc
          refine wp_region_quiet_below (by assumption) (by kernel_rfl) ?_
          repeat (go_big_quiet_step (with_reducible exact HC.out _ _))
          refine wpQuiet_nil ?_
          intro _ hw'
          obtain ⟨⟨dq, osq⟩, hw''⟩ := hw'
          subst hw''
          go_wp2_with fail
          go_ret
          exact ⟨rfl, HB.out.2.trans ((below_regrown W dq osq).mono HB.out.2.size)⟩
        · have e1 : R = false := by
            rw [← HR.out]
            simp [formN, hv]
          subst e1
          have q0 : (v == 0) = false := by simp [hv]
          have HB := Lib.hid (And.intro (heap_alloc_new w (Obj.cells #[.int .i64 5, .int .i64 v, .slice A 2 c] 24) : Blk _ _ _ _) ((Below.refl w.heap.size w).alloc (Nat.le_refl _) (Obj.cells #[.int .i64 5, .int .i64 v, .slice A 2 c] 24)))
          clear hv
          go_enter Try.func52, Try.ntmps52
          go_wp2_with fail
          generalize w.alloc (Obj.cells #[.int .i64 5, .int .i64 v, .slice A 2 c] 24) = W at *
          have b2 := HB.out.1
          have d1 : W.cell? ⟨w.heap.size, 1, none⟩ = some (.int .i64 v) := Blk.cell b2 1
          have d2 : W.cell? ⟨w.heap.size, 2, none⟩ = some (.slice A 2 c) := Blk.cell b2 2
          have G1 := cell_regrown d1
          have G2 := cell_regrown d2
          clear b2 d1 d2
          refine wp_region_quiet_below (by assumption) (by kernel_rfl) ?_
          repeat (go_big_quiet_step (fail))
          refine wpQuiet_nil ?_
          intro _ hw'
          obtain ⟨⟨dq, osq⟩, hw''⟩ := hw'
          subst hw''
          go_wp2_with fail
          go_ret
          exact ⟨rfl, HB.out.2.trans ((below_regrown W dq osq).mono HB.out.2.size)⟩
      · have e1 : R = false := by
          rw [← HR.out]
          unfold formN; rw [if_neg (by omega), if_neg (by omega), if_neg (by omega), if_neg (by omega), if_neg (by omega), if_neg (by omega), if_pos rfl]; split
          · rename_i a b; simp at hn
          · rfl
        subst e1
        have q0 : (((l.length : Nat) : Int) == 2) = false := by rw [beq_eq_false_iff_ne]; omega
        have HB := Lib.hid (And.intro (heap_alloc_new w (Obj.cells #[.int .i64 5, .int .i64 v, .slice A l.length c] 24) : Blk _ _ _ _) ((Below.refl w.heap.size w).alloc (Nat.le_refl _) (Obj.cells #[.int .i64 5, .int .i64 v, .slice A l.length c] 24)))
        clear hn
        go_enter Try.func52, Try.ntmps52
        go_wp2_with fail
        generalize w.alloc (Obj.cells #[.int .i64 5, .int .i64 v, .slice A l.length c] 24) = W at *
        have b2 := HB.out.1
        have d1 : W.cell? ⟨w.heap.size, 1, none⟩ = some (.int .i64 v) := Blk.cell b2 1
        have d2 : W.cell? ⟨w.heap.size, 2, none⟩ = some (.slice A l.length c) := Blk.cell b2 2
        have G1 := cell_regrown d1
        have G2 := cell_regrown d2
        clear b2 d1 d2
        refine wp_region_quiet_below (by assumption) (by kernel_rfl) ?_
        repeat (go_big_quiet_step (fail))
        refine wpQuiet_nil ?_
        intro _ hw'
        obtain ⟨⟨dq, osq⟩, hw''⟩ := hw'
        subst hw''
        go_wp2_with fail
        go_ret
        exact ⟨rfl, HB.out.2.trans ((below_regrown W dq osq).mono HB.out.2.size)⟩
    · by_cases hv : 0 ≤ v
      · have e1 : R = true := by
          rw [← HR.out]
          simp [formN, hv]
        subst e1
        have q0 : decide (0 ≤ v) = true := decide_eq_true hv
        clear hv
        go_enter Try.func52, Try.ntmps52
        go_wp2_with fail
        go_ret
        exact ⟨rfl, (Below.refl _ _).alloc (Nat.le_refl _) _⟩
      · have e1 : R = false := by
          rw [← HR.out]
          simp [formN, hv]; try omega
        subst e1
        have q0 : decide (0 ≤ v) = false := decide_eq_false hv
        clear hv
        go_enter Try.func52, Try.ntmps52
        go_wp2_with fail
        go_ret
        exact ⟨rfl, (Below.refl _ _).alloc (Nat.le_refl _) _⟩
    · by_cases hn : l.length = 2
      · by_cases hv : v = 0
        · have e1 : R = true := by
            rw [← HR.out]
            simp [formN, hn, hv]
          subst e1
          have q0 : (((l.length : Nat) : Int) == 2) = true := by rw [beq_iff_eq]; omega
          have q1 : (v == 0) = true := by rw [beq_iff_eq]; omega
          clear hn hv
          go_enter Try.func52, Try.ntmps52
          go_wp2_with fail
          go_ret
          exact ⟨rfl, (Below.refl _ _).alloc (Nat.le_refl _) _⟩
        · have e1 : R = false := by
            rw [← HR.out]
            simp [formN, hn, hv]; try omega
          subst e1
          have q0 : (((l.length : Nat) : Int) == 2) = true := by rw [beq_iff_eq]; omega
          have q1 : (v == 0) = false := by rw [beq_eq_false_iff_ne]; omega
          clear hn hv
          go_enter Try.func52, Try.ntmps52
          go_wp2_with fail
          go_ret
          exact ⟨rfl, (Below.refl _ _).alloc (Nat.le_refl _) _⟩
      · have e1 : R = false := by
          rw [← HR.out]
          simp [formN, hn]
        subst e1
        have q0 : (((l.length : Nat) : Int) == 2) = false := by rw [beq_eq_false_iff_ne]; omega
        clear hn
        go_enter Try.func52, Try.ntmps52
        go_wp2_with fail
        go_ret
        exact ⟨rfl, (Below.refl _ _).alloc (Nat.le_refl _) _⟩
    · by_cases hn : l.length = 1
      · by_cases hv : 0 ≤ v
        · have e1 : R = true := by
            rw [← HR.out]
            simp [formN, hn, hv]
          subst e1
          have q0 : (((l.length : Nat) : Int) == 1) = true := by rw [beq_iff_eq]; omega
          have q1 : decide (0 ≤ v) = true := decide_eq_true hv
          clear hn hv
          go_enter Try.func52, Try.ntmps52
          go_wp2_with fail
          go_ret
          exact ⟨rfl, (Below.refl _ _).alloc (Nat.le_refl _) _⟩
        · have e1 : R = false := by
            rw [← HR.out]
            simp [formN, hn, hv]; try omega
          subst e1
          have q0 : (((l.length : Nat) : Int) == 1) = true := by rw [beq_iff_eq]; omega
          have q1 : decide (0 ≤ v) = false := decide_eq_false hv
          clear hn hv
          go_enter Try.func52, Try.ntmps52
          go_wp2_with fail
          go_ret
          exact ⟨rfl, (Below.refl _ _).alloc (Nat.le_refl _) _⟩
      · have e1 : R = false := by
          rw [← HR.out]
          simp [formN, hn]
        subst e1
        have q0 : (((l.length : Nat) : Int) == 1) = false := by rw [beq_eq_false_iff_ne]; omega
        clear hn
        go_enter Try.func52, Try.ntmps52
        go_wp2_with fail
        go_ret
        exact ⟨rfl, (Below.refl _ _).alloc (Nat.le_refl _) _⟩
    · by_cases hn : l.length = 0
      · by_cases hv : 0 ≤ v
        · have e1 : R = true := by
            rw [← HR.out]
            simp [formN, hn, hv]
          subst e1
          have q0 : (((l.length : Nat) : Int) == 0) = true := by rw [beq_iff_eq]; omega
          have q1 : decide (0 ≤ v) = true := decide_eq_true hv
          clear hn hv
          go_enter Try.func52, Try.ntmps52
          go_wp2_with fail
          go_ret
          exact ⟨rfl, (Below.refl _ _).alloc (Nat.le_refl _) _⟩
        · have e1 : R = false := by
            rw [← HR.out]
            simp [formN, hn, hv]; try omega
          subst e1
          have q0 : (((l.length : Nat) : Int) == 0) = true := by rw [beq_iff_eq]; omega
          have q1 : decide (0 ≤ v) = false := decide_eq_false hv
          clear hn hv
          go_enter Try.func52, Try.ntmps52
          go_wp2_with fail
          go_ret
          exact ⟨rfl, (Below.refl _ _).alloc (Nat.le_refl _) _⟩
      · have e1 : R = false := by
          rw [← HR.out]
          simp [formN, hn]
        subst e1
        have q0 : (((l.length : Nat) : Int) == 0) = false := by rw [beq_eq_false_iff_ne]; omega
        clear hn
        go_enter Try.func52, Try.ntmps52
        go_wp2_with fail
        go_ret
        exact ⟨rfl, (Below.refl _ _).alloc (Nat.le_refl _) _⟩
    · by_cases hn : l.length = 0
      · by_cases hv : 0 ≤ v
        · have e1 : R = true := by
            rw [← HR.out]
            simp [formN, hn, hv]
          subst e1
          have q0 : (((l.length : Nat) : Int) == 0) = true := by rw [beq_iff_eq]; omega
          have q1 : decide (0 ≤ v) = true := decide_eq_true hv
          clear hn hv
          go_enter Try.func52, Try.ntmps52
          go_wp2_with fail
          go_ret
          exact ⟨rfl, (Below.refl _ _).alloc (Nat.le_refl _) _⟩
        · have e1 : R = false := by
            rw [← HR.out]
            simp [formN, hn, hv]; try omega
          subst e1
          have q0 : (((l.length : Nat) : Int) == 0) = true := by rw [beq_iff_eq]; omega
          have q1 : decide (0 ≤ v) = false := decide_eq_false hv
          clear hn hv
          go_enter Try.func52, Try.ntmps52
          go_wp2_with fail
          go_ret
          exact ⟨rfl, (Below.refl _ _).alloc (Nat.le_refl _) _⟩
      · have e1 : R = false := by
          rw [← HR.out]
          simp [formN, hn]
        subst e1
        have q0 : (((l.length : Nat) : Int) == 0) = false := by rw [beq_eq_false_iff_ne]; omega
        clear hn
        go_enter Try.func52, Try.ntmps52
        go_wp2_with fail
        go_ret
        exact ⟨rfl, (Below.refl _ _).alloc (Nat.le_refl _) _⟩
  · have hne : o ≠ 1 ∧ o ≠ 2 ∧ o ≠ 3 ∧ o ≠ 4 ∧ o ≠ 5 ∧ o ≠ 6 ∧ o ≠ 7 ∧ o ≠ 8 ∧ o ≠ 9 ∧ o ≠ 10 := by omega
    have e1 : R = false := by
      rw [← HR.out]
      exact formN_else hne.1 hne.2.1 hne.2.2.1 hne.2.2.2.1 hne.2.2.2.2.1 hne.2.2.2.2.2.1 hne.2.2.2.2.2.2.1 hne.2.2.2.2.2.2.2.1 hne.2.2.2.2.2.2.2.2.1 hne.2.2.2.2.2.2.2.2.2
    subst e1
    have q1 : (o == 1) = false := by simp; omega
    have q2 : (o == 2) = false := by simp; omega
    have q3 : (o == 3) = false := by simp; omega
    have q4 : (o == 4) = false := by simp; omega
    have q5 : (o == 5) = false := by simp; omega
    have q6 : (o == 6) = false := by simp; omega
    have q7 : (o == 7) = false := by simp; omega
    have q8 : (o == 8) = false := by simp; omega
    have q9 : (o == 9) = false := by simp; omega
    have q10 : (o == 10) = false := by simp; omega
    clear hne h
    go_enter Try.func52, Try.ntmps52
    go_wp2_with fail
    go_ret
    exact ⟨rfl, (Below.refl _ _).alloc (Nat.le_refl _) _⟩
set_option maxHeartbeats 4000000 in
theorem form_any (t : Tm) (w : World) (A : Option Addr) (c : Nat) (ht : Tr w t A c) :
    Calls Try.prog 58 #[.agg #[.int .i64 t.op, .int .i64 t.val, .slice A t.args.length c]] w fun e w' => e = .returned (.bool (formN t.op t.val t.args)) ∧ Below w.heap.size w w' := by
  obtain ⟨o, v, l⟩ := t
  have hf := ht.ofits
  simp only [Tm.op_mk, Tm.val_mk, Tm.args_mk] at hf ⊢
  have hfl := hf.2.2
  have hm := follows_mixed
  unfold maxLen at hfl
  generalize hR : formN o v l = R
  have HR := Lib.hid hR
  have HT := Lib.hid ht
  clear ht hf hR
  by_cases h : o = 1 ∨ o = 2 ∨ o = 3 ∨ o = 4 ∨ o = 5 ∨ o = 6 ∨ o = 7 ∨ o = 8 ∨ o = 9 ∨ o = 10
  · rcases h with rfl | rfl | rfl | rfl | rfl | rfl | rfl | rfl | rfl | rfl
    · by_cases hn : l.length = 0
      · have e1 : R = true := by
          rw [← HR.out]
          simp [formN, hn]
        subst e1
        have q0 : (((l.length : Nat) : Int) == 0) = true := by rw [beq_iff_eq]; omega
        clear hn
        go_enter Try.func58, Try.ntmps58
        go_wp2_with fail
        go_ret
        exact ⟨rfl, (Below.refl _ _).alloc (Nat.le_refl _) _⟩
      · have e1 : R = false := by
          rw [← HR.out]
          simp [formN, hn]
        subst e1
        have q0 : (((l.length : Nat) : Int) == 0) = false := by rw [beq_eq_false_iff_ne]; omega
        clear hn
        go_enter Try.func58, Try.ntmps58
        go_wp2_with fail
        go_ret
        exact ⟨rfl, (Below.refl _ _).alloc (Nat.le_refl _) _⟩
    · by_cases hn : l.length = 0
      · by_cases hv : 0 ≤ v
        · have e1 : R = true := by
            rw [← HR.out]
            simp [formN, hn, hv]
          subst e1
          have q0 : (((l.length : Nat) : Int) == 0) = true := by rw [beq_iff_eq]; omega
          have q1 : decide (0 ≤ v) = true := decide_eq_true hv
          clear hn hv
          go_enter Try.func58, Try.ntmps58
          go_wp2_with fail
          go_ret
          exact ⟨rfl, (Below.refl _ _).alloc (Nat.le_refl _) _⟩
        · have e1 : R = false := by
            rw [← HR.out]
            simp [formN, hn, hv]; try omega
          subst e1
          have q0 : (((l.length : Nat) : Int) == 0) = true := by rw [beq_iff_eq]; omega
          have q1 : decide (0 ≤ v) = false := decide_eq_false hv
          clear hn hv
          go_enter Try.func58, Try.ntmps58
          go_wp2_with fail
          go_ret
          exact ⟨rfl, (Below.refl _ _).alloc (Nat.le_refl _) _⟩
      · have e1 : R = false := by
          rw [← HR.out]
          simp [formN, hn]
        subst e1
        have q0 : (((l.length : Nat) : Int) == 0) = false := by rw [beq_eq_false_iff_ne]; omega
        clear hn
        go_enter Try.func58, Try.ntmps58
        go_wp2_with fail
        go_ret
        exact ⟨rfl, (Below.refl _ _).alloc (Nat.le_refl _) _⟩
    · by_cases hv : v = 0
      · have e1 : R = true := by
          rw [← HR.out]
          simp [formN, hv]
        subst e1
        have q0 : (v == 0) = true := by rw [beq_iff_eq]; omega
        clear hv
        go_enter Try.func58, Try.ntmps58
        go_wp2_with fail
        go_ret
        exact ⟨rfl, (Below.refl _ _).alloc (Nat.le_refl _) _⟩
      · have e1 : R = false := by
          rw [← HR.out]
          simp [formN, hv]; try omega
        subst e1
        have q0 : (v == 0) = false := by rw [beq_eq_false_iff_ne]; omega
        clear hv
        go_enter Try.func58, Try.ntmps58
        go_wp2_with fail
        go_ret
        exact ⟨rfl, (Below.refl _ _).alloc (Nat.le_refl _) _⟩
    · by_cases hn : l.length = 1
      · by_cases hv : v = 0
        · have e1 : R = true := by
            rw [← HR.out]
            simp [formN, hn, hv]
          subst e1
          have q0 : (((l.length : Nat) : Int) == 1) = true := by rw [beq_iff_eq]; omega
          have q1 : (v == 0) = true := by rw [beq_iff_eq]; omega
          clear hn hv
          go_enter Try.func58, Try.ntmps58
          go_wp2_with fail
          go_ret
          exact ⟨rfl, (Below.refl _ _).alloc (Nat.le_refl _) _⟩
        · have e1 : R = false := by
            rw [← HR.out]
            simp [formN, hn, hv]; try omega
          subst e1
          have q0 : (((l.length : Nat) : Int) == 1) = true := by rw [beq_iff_eq]; omega
          have q1 : (v == 0) = false := by rw [beq_eq_false_iff_ne]; omega
          clear hn hv
          go_enter Try.func58, Try.ntmps58
          go_wp2_with fail
          go_ret
          exact ⟨rfl, (Below.refl _ _).alloc (Nat.le_refl _) _⟩
      · have e1 : R = false := by
          rw [← HR.out]
          simp [formN, hn]
        subst e1
        have q0 : (((l.length : Nat) : Int) == 1) = false := by rw [beq_eq_false_iff_ne]; omega
        clear hn
        go_enter Try.func58, Try.ntmps58
        go_wp2_with fail
        go_ret
        exact ⟨rfl, (Below.refl _ _).alloc (Nat.le_refl _) _⟩
    · by_cases hn : l.length = 2
      · obtain ⟨x, y, rfl⟩ : ∃ x y, l = [x, y] := by
          match l, hn with
          | [x, y], _ => exact ⟨x, y, rfl⟩
        clear hn hfl
        by_cases hv : v = 0
        · subst hv
          obtain ⟨g, k, AX, CX, rfl, c0, c1, c2, hx⟩ := HT.out.at 0 (by simp)
          obtain ⟨g', k', AY, CY, hA, c3, c4, c5, hy⟩ := HT.out.at 1 (by simp)
          injection hA with hA
          injection hA with e1 e2 _
          subst e1; subst e2
          simp only [Tm.args_mk, List.getElem_cons_zero, List.getElem_cons_succ] at c0 c1 c2 c3 c4 c5 hx hy
          have z0 : w.cell? ⟨g, k, none⟩ = some (.int .i64 x.op) := by simpa using c0
          have z1 : w.cell? ⟨g, k + 1, none⟩ = some (.int .i64 x.val) := by simpa using c1
          have z2 : w.cell? ⟨g, k + 2, none⟩ = some (.slice AX x.args.length CX) := by simpa using c2
          have z3 : w.cell? ⟨g, k + 3, none⟩ = some (.int .i64 y.op) := by simpa using c3
          have z4 : w.cell? ⟨g, k + 3 + 1, none⟩ = some (.int .i64 y.val) := by simpa using c4
          have z5 : w.cell? ⟨g, k + 3 + 2, none⟩ = some (.slice AY y.args.length CY) := by simpa using c5
          have HZ := Lib.hid (And.intro z0 (And.intro z1 (And.intro z2 (And.intro z3 (And.intro z4 z5)))))
          have HX := Lib.hid (And.intro hx hy)
          clear c0 c1 c2 c3 c4 c5 hx hy z0 z1 z2 z3 z4 z5
          have hlf : formN 5 0 [x, y] = !lessT y x := by simp [formN]
          generalize hL : lessT y x = b at hlf
          have HL := Lib.hid hL
          clear hL
          have e1 : R = !b := by
            rw [← HR.out]
            exact hlf
          subst e1
          have HB := Lib.hid (And.intro (heap_alloc_new w (Obj.cells #[.int .i64 5, .int .i64 0, .slice (some ⟨g, k, none⟩) 2 c] 24) : Blk _ _ _ _) ((Below.refl w.heap.size w).alloc (Nat.le_refl _) (Obj.cells #[.int .i64 5, .int .i64 0, .slice (some ⟨g, k, none⟩) 2 c] 24)))
          clear hlf
          go_enter Try.func58, Try.ntmps58
          go_wp2_with fail
          have HZ1 := Lib.hid (And.intro (cell_alloc (o := Obj.cells #[.int .i64 5, .int .i64 0, .slice (some ⟨g, k, none⟩) 2 c] 24) HZ.out.1) (And.intro (cell_alloc (o := Obj.cells #[.int .i64 5, .int .i64 0, .slice (some ⟨g, k, none⟩) 2 c] 24) HZ.out.2.1) (And.intro (cell_alloc (o := Obj.cells #[.int .i64 5, .int .i64 0, .slice (some ⟨g, k, none⟩) 2 c] 24) HZ.out.2.2.1) (And.intro (cell_alloc (o := Obj.cells #[.int .i64 5, .int .i64 0, .slice (some ⟨g, k, none⟩) 2 c] 24) HZ.out.2.2.2.1) (And.intro (cell_alloc (o := Obj.cells #[.int .i64 5, .int .i64 0, .slice (some ⟨g, k, none⟩) 2 c] 24) HZ.out.2.2.2.2.1) (cell_alloc (o := Obj.cells #[.int .i64 5, .int .i64 0, .slice (some ⟨g, k, none⟩) 2 c] 24) HZ.out.2.2.2.2.2))))))
          generalize w.alloc (Obj.cells #[.int .i64 5, .int .i64 0, .slice (some ⟨g, k, none⟩) 2 c] 24) = W at *
          have b2 := HB.out.1
          have d1 : W.cell? ⟨w.heap.size, 1, none⟩ = some (.int .i64 0) := Blk.cell b2 1
          have d2 : W.cell? ⟨w.heap.size, 2, none⟩ = some (.slice (some ⟨g, k, none⟩) 2 c) := Blk.cell b2 2
          have G1 := cell_regrown d1
          have G2 := cell_regrown d2
          clear b2 d1 d2
          have G3 := cell_regrown HZ1.out.1
          have G4 := cell_regrown HZ1.out.2.1
          have G5 := cell_regrown HZ1.out.2.2.1
          have G6 := cell_regrown HZ1.out.2.2.2.1
          have G7 := cell_regrown HZ1.out.2.2.2.2.1
          have G8 := cell_regrown HZ1.out.2.2.2.2.2
          have hc : ∀ n os, Calls Try.prog 15 #[.agg #[.int .i64 y.op, .int .i64 y.val, .slice AY y.args.length CY], .agg #[.int .i64 x.op, .int .i64 x.val, .slice AX x.args.length CX]] (grow (redrawn W n) os) fun e w'' => e = .returned (.bool b) ∧ ∃ p : Regrown, w'' = grow (redrawn W p.d) p.os := fun n os => by
            have h := rless_any y x (grow (redrawn W n) os) AY AX CY CX ((HX.out.2.bel HB.out.2).bel (below_regrown W n os)) ((HX.out.1.bel HB.out.2).bel (below_regrown W n os))
            rw [HL.out] at h
            exact Calls.regrown_of h
          have HC := Lib.hid hc
          clear hc
          refine wp_region_quiet_below (by assumption) (by kernel_rfl) ?_
          repeat (go_big_quiet_step (with_reducible exact HC.out _ _))
          refine wpQuiet_nil ?_
          intro _ hw'
          obtain ⟨⟨dq, osq⟩, hw''⟩ := hw'
          subst hw''
          go_wp2_with fail
          go_ret
          exact ⟨rfl, HB.out.2.trans ((below_regrown W dq osq).mono HB.out.2.size)⟩
        · have e1 : R = false := by
            rw [← HR.out]
            simp [formN, hv]
          subst e1
          have q0 : (v == 0) = false := by simp [hv]
          have HB := Lib.hid (And.intro (heap_alloc_new w (Obj.cells #[.int .i64 5, .int .i64 v, .slice A 2 c] 24) : Blk _ _ _ _) ((Below.refl w.heap.size w).alloc (Nat.le_refl _) (Obj.cells #[.int .i64 5, .int .i64 v, .slice A 2 c] 24)))
          clear hv
          go_enter Try.func58, Try.ntmps58
          go_wp2_with fail
          generalize w.alloc (Obj.cells #[.int .i64 5, .int .i64 v, .slice A 2 c] 24) = W at *
          have b2 := HB.out.1
          have d1 : W.cell? ⟨w.heap.size, 1, none⟩ = some (.int .i64 v) := Blk.cell b2 1
          have d2 : W.cell? ⟨w.heap.size, 2, none⟩ = some (.slice A 2 c) := Blk.cell b2 2
          have G1 := cell_regrown d1
          have G2 := cell_regrown d2
          clear b2 d1 d2
          refine wp_region_quiet_below (by assumption) (by kernel_rfl) ?_
          repeat (go_big_quiet_step (fail))
          refine wpQuiet_nil ?_
          intro _ hw'
          obtain ⟨⟨dq, osq⟩, hw''⟩ := hw'
          subst hw''
          go_wp2_with fail
          go_ret
          exact ⟨rfl, HB.out.2.trans ((below_regrown W dq osq).mono HB.out.2.size)⟩
      · have e1 : R = false := by
          rw [← HR.out]
          unfold formN; rw [if_neg (by omega), if_neg (by omega), if_neg (by omega), if_neg (by omega), if_neg (by omega), if_neg (by omega), if_pos rfl]; split
          · rename_i a b; simp at hn
          · rfl
        subst e1
        have q0 : (((l.length : Nat) : Int) == 2) = false := by rw [beq_eq_false_iff_ne]; omega
        have HB := Lib.hid (And.intro (heap_alloc_new w (Obj.cells #[.int .i64 5, .int .i64 v, .slice A l.length c] 24) : Blk _ _ _ _) ((Below.refl w.heap.size w).alloc (Nat.le_refl _) (Obj.cells #[.int .i64 5, .int .i64 v, .slice A l.length c] 24)))
        clear hn
        go_enter Try.func58, Try.ntmps58
        go_wp2_with fail
        generalize w.alloc (Obj.cells #[.int .i64 5, .int .i64 v, .slice A l.length c] 24) = W at *
        have b2 := HB.out.1
        have d1 : W.cell? ⟨w.heap.size, 1, none⟩ = some (.int .i64 v) := Blk.cell b2 1
        have d2 : W.cell? ⟨w.heap.size, 2, none⟩ = some (.slice A l.length c) := Blk.cell b2 2
        have G1 := cell_regrown d1
        have G2 := cell_regrown d2
        clear b2 d1 d2
        refine wp_region_quiet_below (by assumption) (by kernel_rfl) ?_
        repeat (go_big_quiet_step (fail))
        refine wpQuiet_nil ?_
        intro _ hw'
        obtain ⟨⟨dq, osq⟩, hw''⟩ := hw'
        subst hw''
        go_wp2_with fail
        go_ret
        exact ⟨rfl, HB.out.2.trans ((below_regrown W dq osq).mono HB.out.2.size)⟩
    · by_cases hv : 0 ≤ v
      · have e1 : R = true := by
          rw [← HR.out]
          simp [formN, hv]
        subst e1
        have q0 : decide (0 ≤ v) = true := decide_eq_true hv
        clear hv
        go_enter Try.func58, Try.ntmps58
        go_wp2_with fail
        go_ret
        exact ⟨rfl, (Below.refl _ _).alloc (Nat.le_refl _) _⟩
      · have e1 : R = false := by
          rw [← HR.out]
          simp [formN, hv]; try omega
        subst e1
        have q0 : decide (0 ≤ v) = false := decide_eq_false hv
        clear hv
        go_enter Try.func58, Try.ntmps58
        go_wp2_with fail
        go_ret
        exact ⟨rfl, (Below.refl _ _).alloc (Nat.le_refl _) _⟩
    · by_cases hn : l.length = 2
      · by_cases hv : v = 0
        · have e1 : R = true := by
            rw [← HR.out]
            simp [formN, hn, hv]
          subst e1
          have q0 : (((l.length : Nat) : Int) == 2) = true := by rw [beq_iff_eq]; omega
          have q1 : (v == 0) = true := by rw [beq_iff_eq]; omega
          clear hn hv
          go_enter Try.func58, Try.ntmps58
          go_wp2_with fail
          go_ret
          exact ⟨rfl, (Below.refl _ _).alloc (Nat.le_refl _) _⟩
        · have e1 : R = false := by
            rw [← HR.out]
            simp [formN, hn, hv]; try omega
          subst e1
          have q0 : (((l.length : Nat) : Int) == 2) = true := by rw [beq_iff_eq]; omega
          have q1 : (v == 0) = false := by rw [beq_eq_false_iff_ne]; omega
          clear hn hv
          go_enter Try.func58, Try.ntmps58
          go_wp2_with fail
          go_ret
          exact ⟨rfl, (Below.refl _ _).alloc (Nat.le_refl _) _⟩
      · have e1 : R = false := by
          rw [← HR.out]
          simp [formN, hn]
        subst e1
        have q0 : (((l.length : Nat) : Int) == 2) = false := by rw [beq_eq_false_iff_ne]; omega
        clear hn
        go_enter Try.func58, Try.ntmps58
        go_wp2_with fail
        go_ret
        exact ⟨rfl, (Below.refl _ _).alloc (Nat.le_refl _) _⟩
    · by_cases hn : l.length = 1
      · by_cases hv : 0 ≤ v
        · have e1 : R = true := by
            rw [← HR.out]
            simp [formN, hn, hv]
          subst e1
          have q0 : (((l.length : Nat) : Int) == 1) = true := by rw [beq_iff_eq]; omega
          have q1 : decide (0 ≤ v) = true := decide_eq_true hv
          clear hn hv
          go_enter Try.func58, Try.ntmps58
          go_wp2_with fail
          go_ret
          exact ⟨rfl, (Below.refl _ _).alloc (Nat.le_refl _) _⟩
        · have e1 : R = false := by
            rw [← HR.out]
            simp [formN, hn, hv]; try omega
          subst e1
          have q0 : (((l.length : Nat) : Int) == 1) = true := by rw [beq_iff_eq]; omega
          have q1 : decide (0 ≤ v) = false := decide_eq_false hv
          clear hn hv
          go_enter Try.func58, Try.ntmps58
          go_wp2_with fail
          go_ret
          exact ⟨rfl, (Below.refl _ _).alloc (Nat.le_refl _) _⟩
      · have e1 : R = false := by
          rw [← HR.out]
          simp [formN, hn]
        subst e1
        have q0 : (((l.length : Nat) : Int) == 1) = false := by rw [beq_eq_false_iff_ne]; omega
        clear hn
        go_enter Try.func58, Try.ntmps58
        go_wp2_with fail
        go_ret
        exact ⟨rfl, (Below.refl _ _).alloc (Nat.le_refl _) _⟩
    · by_cases hn : l.length = 0
      · by_cases hv : 0 ≤ v
        · have e1 : R = true := by
            rw [← HR.out]
            simp [formN, hn, hv]
          subst e1
          have q0 : (((l.length : Nat) : Int) == 0) = true := by rw [beq_iff_eq]; omega
          have q1 : decide (0 ≤ v) = true := decide_eq_true hv
          clear hn hv
          go_enter Try.func58, Try.ntmps58
          go_wp2_with fail
          go_ret
          exact ⟨rfl, (Below.refl _ _).alloc (Nat.le_refl _) _⟩
        · have e1 : R = false := by
            rw [← HR.out]
            simp [formN, hn, hv]; try omega
          subst e1
          have q0 : (((l.length : Nat) : Int) == 0) = true := by rw [beq_iff_eq]; omega
          have q1 : decide (0 ≤ v) = false := decide_eq_false hv
          clear hn hv
          go_enter Try.func58, Try.ntmps58
          go_wp2_with fail
          go_ret
          exact ⟨rfl, (Below.refl _ _).alloc (Nat.le_refl _) _⟩
      · have e1 : R = false := by
          rw [← HR.out]
          simp [formN, hn]
        subst e1
        have q0 : (((l.length : Nat) : Int) == 0) = false := by rw [beq_eq_false_iff_ne]; omega
        clear hn
        go_enter Try.func58, Try.ntmps58
        go_wp2_with fail
        go_ret
        exact ⟨rfl, (Below.refl _ _).alloc (Nat.le_refl _) _⟩
    · by_cases hn : l.length = 0
      · by_cases hv : 0 ≤ v
        · have e1 : R = true := by
            rw [← HR.out]
            simp [formN, hn, hv]
          subst e1
          have q0 : (((l.length : Nat) : Int) == 0) = true := by rw [beq_iff_eq]; omega
          have q1 : decide (0 ≤ v) = true := decide_eq_true hv
          clear hn hv
          go_enter Try.func58, Try.ntmps58
          go_wp2_with fail
          go_ret
          exact ⟨rfl, (Below.refl _ _).alloc (Nat.le_refl _) _⟩
        · have e1 : R = false := by
            rw [← HR.out]
            simp [formN, hn, hv]; try omega
          subst e1
          have q0 : (((l.length : Nat) : Int) == 0) = true := by rw [beq_iff_eq]; omega
          have q1 : decide (0 ≤ v) = false := decide_eq_false hv
          clear hn hv
          go_enter Try.func58, Try.ntmps58
          go_wp2_with fail
          go_ret
          exact ⟨rfl, (Below.refl _ _).alloc (Nat.le_refl _) _⟩
      · have e1 : R = false := by
          rw [← HR.out]
          simp [formN, hn]
        subst e1
        have q0 : (((l.length : Nat) : Int) == 0) = false := by rw [beq_eq_false_iff_ne]; omega
        clear hn
        go_enter Try.func58, Try.ntmps58
        go_wp2_with fail
        go_ret
        exact ⟨rfl, (Below.refl _ _).alloc (Nat.le_refl _) _⟩
  · have hne : o ≠ 1 ∧ o ≠ 2 ∧ o ≠ 3 ∧ o ≠ 4 ∧ o ≠ 5 ∧ o ≠ 6 ∧ o ≠ 7 ∧ o ≠ 8 ∧ o ≠ 9 ∧ o ≠ 10 := by omega
    have e1 : R = false := by
      rw [← HR.out]
      exact formN_else hne.1 hne.2.1 hne.2.2.1 hne.2.2.2.1 hne.2.2.2.2.1 hne.2.2.2.2.2.1 hne.2.2.2.2.2.2.1 hne.2.2.2.2.2.2.2.1 hne.2.2.2.2.2.2.2.2.1 hne.2.2.2.2.2.2.2.2.2
    subst e1
    have q1 : (o == 1) = false := by simp; omega
    have q2 : (o == 2) = false := by simp; omega
    have q3 : (o == 3) = false := by simp; omega
    have q4 : (o == 4) = false := by simp; omega
    have q5 : (o == 5) = false := by simp; omega
    have q6 : (o == 6) = false := by simp; omega
    have q7 : (o == 7) = false := by simp; omega
    have q8 : (o == 8) = false := by simp; omega
    have q9 : (o == 9) = false := by simp; omega
    have q10 : (o == 10) = false := by simp; omega
    clear hne h
    go_enter Try.func58, Try.ntmps58
    go_wp2_with fail
    go_ret
    exact ⟨rfl, (Below.refl _ _).alloc (Nat.le_refl _) _⟩
end Go.Proofs.Ytokiodjdonbipaa
