/-
  The contract of Lower, on names.
  Conditions: the terms lie in memory as a tree.
-/
import Derived.Test.YtbfppnppijcnlaaGreatEqD
import Derived.Lib.QuietBelow
import Derived.Laws.BitsAllLaws
import Derived.Laws.BitsLemmas
namespace Go.Proofs.YtbfppnppijcnlaaGreat
open Go.RowKit Go.Sort
set_option linter.unusedVariables false
set_option maxRecDepth 100000
/-- What a product of 64 bits and the lowest 16 of them are. -/
theorem and16 (x : Int) : bits .and .i64 x 65535 = x % 65536 := by
  show IntKind.i64.wrap ((BitVec.ofInt 64 x &&& BitVec.ofInt 64 65535).toNat : Int) = _
  have h1 : (BitVec.ofInt 64 65535).toNat = 65535 := by decide
  have h2 : ((BitVec.ofInt 64 x).toNat : Int) = x % 18446744073709551616 := by
    rw [BitVec.toNat_ofInt]
    omega
  have h3 : ∀ n : Nat, n &&& 65535 = n % 65536 := fun n => Nat.and_two_pow_sub_one_eq_mod n 16
  rw [BitVec.toNat_and, h1, h3, IntKind.wrap_i64]
  omega
theorem rank_any (t : Tm) (w : World) (A : Option Addr) (c : Nat) (ht : Tr w t A c) :
    Calls Tryz.prog 159 #[.agg #[.int .i64 t.op, .int .i64 t.val, .slice A t.args.length c]] w fun e w' => e = .returned (.int .i64 (rankT t)) ∧ Below w.heap.size w w' := by
  have f := ht.ofits
  unfold fits at f
  have h16 := and16
  go_enter Tryz.func159, Tryz.ntmps159
  go_wp2_with fail
  all_goals
    go_ret
    refine ⟨ret_int ?_, (Below.refl _ _).alloc (Nat.le_refl _) _⟩
    unfold wrap64 rankT
    omega
theorem rankT_range (t : Tm) : 0 ≤ rankT t ∧ rankT t < 65536 := by unfold rankT; omega
theorem rank_q (t : Tm) (A : Option Addr) (c : Nat) {w : World} (ht : Tr w t A c) (n : Nat) (os : Array Obj) :
    Calls Tryz.prog 159 #[.agg #[.int .i64 t.op, .int .i64 t.val, .slice A t.args.length c]] (grow (redrawn w n) os) fun e w'' => e = .returned (.int .i64 (rankT t)) ∧ ∃ p : Regrown, w'' = grow (redrawn w p.d) p.os :=
  Calls.regrown_of (rank_any t _ A c (ht.bel (below_regrown w n os)))
theorem lower_any (t u : Tm) (w : World) (A B : Option Addr) (c d : Nat) (ht : Tr w t A c) (hu : Tr w u B d) :
    Calls Tryz.prog 119 #[.agg #[.int .i64 t.op, .int .i64 t.val, .slice A t.args.length c], .agg #[.int .i64 u.op, .int .i64 u.val, .slice B u.args.length d]] w fun e w' => e = .returned (.bool (lowT t u)) ∧ Below w.heap.size w w' := by
  have k1 := heap_alloc_new w (Obj.cells #[.int .i64 t.op, .int .i64 t.val, .slice A t.args.length c] 30)
  have k2 := heap_alloc_new (w.alloc (Obj.cells #[.int .i64 t.op, .int .i64 t.val, .slice A t.args.length c] 30)) (Obj.cells #[.int .i64 u.op, .int .i64 u.val, .slice B u.args.length d] 30)
  have b1 : Blk ((w.alloc (Obj.cells #[.int .i64 t.op, .int .i64 t.val, .slice A t.args.length c] 30)).alloc (Obj.cells #[.int .i64 u.op, .int .i64 u.val, .slice B u.args.length d] 30)) w.heap.size 30 #[.int .i64 t.op, .int .i64 t.val, .slice A t.args.length c] := Blk.alloc k1 _
  have b2 : Blk ((w.alloc (Obj.cells #[.int .i64 t.op, .int .i64 t.val, .slice A t.args.length c] 30)).alloc (Obj.cells #[.int .i64 u.op, .int .i64 u.val, .slice B u.args.length d] 30)) (w.heap.size + 1) 30 #[.int .i64 u.op, .int .i64 u.val, .slice B u.args.length d] := by
    have := k2
    simp only [World.size_alloc] at this
    exact this
  have tt := (ht.alloc (Obj.cells #[.int .i64 t.op, .int .i64 t.val, .slice A t.args.length c] 30)).alloc (Obj.cells #[.int .i64 u.op, .int .i64 u.val, .slice B u.args.length d] 30)
  have tu := (hu.alloc (Obj.cells #[.int .i64 t.op, .int .i64 t.val, .slice A t.args.length c] 30)).alloc (Obj.cells #[.int .i64 u.op, .int .i64 u.val, .slice B u.args.length d] 30)
  have bb : Below w.heap.size w ((w.alloc (Obj.cells #[.int .i64 t.op, .int .i64 t.val, .slice A t.args.length c] 30)).alloc (Obj.cells #[.int .i64 u.op, .int .i64 u.val, .slice B u.args.length d] 30)) := ((Below.refl _ _).alloc (Nat.le_refl _) _).alloc (by simp) _
  have rr := rankT_range t
  have ru := rankT_range u
  have hL : lowT t u = if rankT t ≠ rankT u then decide (rankT t < rankT u) else lessT t u := rfl
  have HL := Lib.hid hL
  have hm := follows_mixed
  have BB := Lib.hid bb
  have TT := Lib.hid tt
  have TU := Lib.hid tu
  have B1 := Lib.hid b1
  have B2 := Lib.hid b2
  clear k1 k2 b1 b2 tt tu bb hL ht hu
  go_enter Tryz.func119, Tryz.ntmps119
  go_wp2_with fail
  generalize (w.alloc (Obj.cells #[.int .i64 t.op, .int .i64 t.val, .slice A t.args.length c] 30)).alloc (Obj.cells #[.int .i64 u.op, .int .i64 u.val, .slice B u.args.length d] 30) = W at *
  have a0 : W.cell? ⟨w.heap.size, 0, none⟩ = some (.int .i64 t.op) := B1.out.cell 0
  have a1 : W.cell? ⟨w.heap.size, 1, none⟩ = some (.int .i64 t.val) := B1.out.cell 1
  have a2 : W.cell? ⟨w.heap.size, 2, none⟩ = some (.slice A t.args.length c) := B1.out.cell 2
  have a3 : W.cell? ⟨w.heap.size + 1, 0, none⟩ = some (.int .i64 u.op) := B2.out.cell 0
  have a4 : W.cell? ⟨w.heap.size + 1, 1, none⟩ = some (.int .i64 u.val) := B2.out.cell 1
  have a5 : W.cell? ⟨w.heap.size + 1, 2, none⟩ = some (.slice B u.args.length d) := B2.out.cell 2
  have G0 := cell_regrown a0
  have G1 := cell_regrown a1
  have G2 := cell_regrown a2
  have G3 := cell_regrown a3
  have G4 := cell_regrown a4
  have G5 := cell_regrown a5
  clear a0 a1 a2 a3 a4 a5
  refine wp_region_quiet_below (by assumption) (by kernel_rfl) ?_
  repeat (go_big_quiet_step (first | exact rank_q t A c TT.out _ _ | exact rank_q u B d TU.out _ _))
  refine wpQuiet_nil ?_
  intro _ hw'
  obtain ⟨⟨dq, osq⟩, hw''⟩ := hw'
  subst hw''
  generalize hx : rankT t = x at *
  generalize hy : rankT u = y at *
  by_cases hxy : x = y
  · subst hxy
    have q1 : (x != x) = false := by simp
    have Hy := Lib.hid (And.intro hx hy)
    clear hx hy
    go_wp2_with fail
    refine (less_any t u _ A B c d (TT.out.bel (below_regrown W dq osq)) (TU.out.bel (below_regrown W dq osq))).mono ?_
    rintro e w1 ⟨rfl, hb⟩
    go_wp2_with fail
    go_ret
    exact ⟨ret_bool (by rw [HL.out, if_neg (by simp)]), BB.out.trans (((below_regrown W dq osq).trans (hb.mono (below_regrown W dq osq).size)).mono BB.out.size)⟩
  · have q1 : (x != y) = true := by simp [hxy]
    have Hy := Lib.hid (And.intro hx hy)
    have Hn := Lib.hid hxy
    clear hx hy hxy
    go_wp2_with fail
    go_ret
    exact ⟨ret_bool (by rw [HL.out, if_pos Hn.out]), BB.out.trans ((below_regrown W dq osq).mono BB.out.size)⟩
end Go.Proofs.YtbfppnppijcnlaaGreat
