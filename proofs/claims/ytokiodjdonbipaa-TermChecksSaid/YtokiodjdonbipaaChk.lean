/-
  The contracts of both Owner, of Of, and of Codes.Int.
  Conditions: none.
-/
import Derived.Test.YtokiodjdonbipaaTerms
import Derived.Test.YtokiodjdonbipaaCon
namespace Go.Proofs.Ytokiodjdonbipaa
open Go.RowKit Go.Sort
set_option linter.unusedVariables false
attribute [local go_sem ↓] Go.wp_at_zero Go.wp_at_succ
/-- The owner of a term. -/
def ownT (t : Tm) : Int := if t.op = 2 then t.val.tdiv 1048576 else -1
theorem powner_any (t : Tm) (w : World) (A : Option Addr) (c : Nat) (ht : fits t.val) :
    Calls Try.prog 31 #[.agg #[.int .i64 t.op, .int .i64 t.val, .slice A t.args.length c]] w fun e w' => e = .returned (.int .i64 (ownT t)) ∧ Below w.heap.size w w' := by
  have bb : Below w.heap.size w (w.alloc (Obj.cells #[.int .i64 t.op, .int .i64 t.val, .slice A t.args.length c] 24)) := (Below.refl _ _).alloc (Nat.le_refl _) _
  unfold fits at ht
  have BB := Lib.hid bb
  have hO : ownT t = if t.op = 2 then t.val.tdiv 1048576 else -1 := rfl
  have HO := Lib.hid hO
  generalize ownT t = R at *
  clear bb hO
  by_cases h2 : t.op = 2
  · have hR : R = t.val.tdiv 1048576 := by rw [HO.out, if_pos h2]
    have x1 : (t.op == 2) = true := by simp [h2]
    clear h2 HO
    subst hR
    go_enter Try.func31, Try.ntmps31
    go_wp2_with fail
    all_goals exact bodyPost_ret (v := .int .i64 (t.val.tdiv 1048576)) (by simp [results, Try.results31, go_sem]) rfl ⟨rfl, BB.out⟩
  · have hR : R = -1 := by rw [HO.out, if_neg h2]
    have x1 : (t.op == 2) = false := by simp [h2]
    clear HO
    subst hR
    go_enter Try.func31, Try.ntmps31
    go_wp2_with fail
    all_goals exact bodyPost_ret (v := .int .i64 (-1)) (by simp [results, Try.results31, go_sem]) rfl ⟨rfl, BB.out⟩
theorem rowner_any (t : Tm) (w : World) (A : Option Addr) (c : Nat) (ht : fits t.val) :
    Calls Try.prog 32 #[.agg #[.int .i64 t.op, .int .i64 t.val, .slice A t.args.length c]] w fun e w' => e = .returned (.int .i64 (ownT t)) ∧ Below w.heap.size w w' := by
  have bb : Below w.heap.size w (w.alloc (Obj.cells #[.int .i64 t.op, .int .i64 t.val, .slice A t.args.length c] 24)) := (Below.refl _ _).alloc (Nat.le_refl _) _
  unfold fits at ht
  have BB := Lib.hid bb
  have hO : ownT t = if t.op = 2 then t.val.tdiv 1048576 else -1 := rfl
  have HO := Lib.hid hO
  generalize ownT t = R at *
  clear bb hO
  by_cases h2 : t.op = 2
  · have hR : R = t.val.tdiv 1048576 := by rw [HO.out, if_pos h2]
    have x1 : (t.op == 2) = true := by simp [h2]
    clear h2 HO
    subst hR
    go_enter Try.func32, Try.ntmps32
    go_wp2_with fail
    all_goals exact bodyPost_ret (v := .int .i64 (t.val.tdiv 1048576)) (by simp [results, Try.results32, go_sem]) rfl ⟨rfl, BB.out⟩
  · have hR : R = -1 := by rw [HO.out, if_neg h2]
    have x1 : (t.op == 2) = false := by simp [h2]
    clear HO
    subst hR
    go_enter Try.func32, Try.ntmps32
    go_wp2_with fail
    all_goals exact bodyPost_ret (v := .int .i64 (-1)) (by simp [results, Try.results32, go_sem]) rfl ⟨rfl, BB.out⟩
theorem rof_any (S : Nat → Prop) (ts : List Tm) (w : World) (A : Option Addr) (c : Nat) (ht : TrS S w (.mk 0 0 ts) A c) (hts : ts.length ≤ 1000000) :
    Calls Try.prog 21 #[.slice A ts.length c] w (MkPost S w (.mk 3 0 ts)) := by
  have hz := heap_alloc_new w (Obj.cells #[.int .i64 0, .int .i64 0, .slice none 0 0] 24)
  have hcl := rlist_any (fun g => S g ∧ g < w.heap.size) ts (w.alloc (Obj.cells #[.int .i64 0, .int .i64 0, .slice none 0 0] 24)) A c (ht.lt.alloc _) hts
  have HC := Lib.hid hcl
  have HZ := Lib.hid hz
  clear hcl hz ht
  go_enter Try.func21, Try.ntmps21
  go_wp2_with fail
  refine HC.out.mono ?_
  rintro e w1 ⟨A1, c1, rfl, ho, hb⟩
  have z1 := Blk.below HZ.out hb (by simp)
  have c0 : w1.cell? ⟨w.heap.size, 0, none⟩ = some (.int .i64 0) := z1.cell 0
  have c1' : w1.cell? ⟨w.heap.size, 1, none⟩ = some (.int .i64 0) := z1.cell 1
  have c2 : w1.cell? ⟨w.heap.size, 2, none⟩ = some (.slice none 0 0) := z1.cell 2
  have fz0 := z1.free 0
  have fz1 := z1.free 1
  have fz2 := z1.free 2
  have HO := Lib.hid ho
  have HZ1 := Lib.hid z1
  have HB := Lib.hid (below_then ((Below.refl _ _).alloc (Nat.le_refl _) _) hb (by simp))
  clear ho z1 hb
  go_wp2_with fail
  have hz4 := ((HZ1.out.put 0 (.int .i64 3)).put 1 (.int .i64 0)).put 2 (.slice A1 ts.length c1)
  simp only [List.setIfInBounds_toArray, List.set_cons_zero, List.set_cons_succ] at hz4
  have hb4 : Below w.heap.size w (((w1.setCell ⟨w.heap.size, 0, none⟩ (.int .i64 3)).setCell ⟨w.heap.size, 1, none⟩ (.int .i64 0)).setCell ⟨w.heap.size, 2, none⟩ (.slice A1 ts.length c1)) := ((HB.out.setCell (p := ⟨w.heap.size, 0, none⟩) (Nat.le_refl _) _).setCell (p := ⟨w.heap.size, 1, none⟩) (Nat.le_refl _) _).setCell (p := ⟨w.heap.size, 2, none⟩) (Nat.le_refl _) _
  have ht4 : TrS (SN S w) (((w1.setCell ⟨w.heap.size, 0, none⟩ (.int .i64 3)).setCell ⟨w.heap.size, 1, none⟩ (.int .i64 0)).setCell ⟨w.heap.size, 2, none⟩ (.slice A1 ts.length c1)) (.mk 3 0 ts) A1 c1 := by
    have hne : ∀ g, SN (fun g => S g ∧ g < w.heap.size) (w.alloc (Obj.cells #[.int .i64 0, .int .i64 0, .slice none 0 0] 24)) g → g ≠ w.heap.size := by
      intro g hg
      rcases hg with hg | hg
      · exact Nat.ne_of_lt hg.2
      · simp at hg; omega
    refine (HO.out.keep fun g hg _ => ?_).mono fun g hg => ?_
    · have h1 := hne g hg
      rw [Below.heap_setCell _ _ _ _ (by simpa using h1), Below.heap_setCell _ _ _ _ (by simpa using h1), Below.heap_setCell _ _ _ _ (by simpa using h1)]
    · rcases hg with hg | hg
      · exact .inl hg.1
      · right; simp at hg; omega
  generalize (((w1.setCell ⟨w.heap.size, 0, none⟩ (.int .i64 3)).setCell ⟨w.heap.size, 1, none⟩ (.int .i64 0)).setCell ⟨w.heap.size, 2, none⟩ (.slice A1 ts.length c1)) = w4 at *
  have d0 : w4.cell? ⟨w.heap.size, 0, none⟩ = some (.int .i64 3) := hz4.cell 0
  have d1 : w4.cell? ⟨w.heap.size, 1, none⟩ = some (.int .i64 0) := hz4.cell 1
  have d2 : w4.cell? ⟨w.heap.size, 2, none⟩ = some (.slice A1 ts.length c1) := hz4.cell 2
  exact bodyPost_ret (v := .agg #[.int .i64 3, .int .i64 0, .slice A1 ts.length c1]) (by simp [results, Try.results21, go_sem, d0, d1, d2]) rfl ⟨A1, c1, rfl, ht4, hb4⟩
theorem wrap64_fits' (x : Int) : fits (wrap64 x) := by
  unfold fits wrap64
  omega
set_option maxHeartbeats 1000000 in
theorem cint_any (gc n p : Nat) (w : World) (hcod : Cod w gc n p) :
    Calls Try.prog 24 #[.pointer (some ⟨gc, 0, none⟩)] w fun e w' => ∃ r : Int, ∃ p' : Nat, e = .returned (.int .i64 r) ∧ fits r ∧ p ≤ p' ∧ Cod w' gc n p' ∧ w.grownBy w' (some gc) := by
  have HC := Lib.hid hcod
  clear hcod
  go_enter Try.func24, Try.ntmps24
  go_wp2_with fail
  refine (next_any gc n p 256 w HC.out (by omega) (by omega)).mono ?_
  rintro e w2 ⟨x, p2, rfl, hx, hc2, hp2, _, hg2⟩
  have C2 := Lib.hid hc2
  have G2 := Lib.hid hg2
  clear hc2 hg2
  by_cases h2 : x < 220
  · have y1 : decide ((x : Int) < 220) = true := by simp; omega
    have y2 : (0 : Int) ≤ (x : Int) := by omega
    go_wp2_with fail
    exact bodyPost_ret (v := .int .i64 ((x : Int) % 24 - 4)) (by simp [results, Try.results24, go_sem]) rfl ⟨_, p2, rfl, by unfold fits; omega, hp2, C2.out, G2.out⟩
  · have y1 : decide ((x : Int) < 220) = false := by simp; omega
    go_wp2_with fail
    refine (next_any gc n p2 60 w2 C2.out (by omega) (by omega)).mono ?_
    rintro e w3 ⟨y, p3, rfl, hy, hc3, hp3, _, hg3⟩
    have C3 := Lib.hid hc3
    have G3 := Lib.hid hg3
    have y2 : (0 : Int) ≤ (y : Int) := by omega
    clear hc3 hg3
    go_wp2_with fail
    exact bodyPost_ret (v := .int .i64 (wrap64 (((x : Int) - 236) * 2 ^ y))) (by simp [results, Try.results24, go_sem]) rfl ⟨_, p3, rfl, wrap64_fits' _, Nat.le_trans hp2 hp3, C3.out, only_trans G2.out G3.out⟩
end Go.Proofs.Ytokiodjdonbipaa
