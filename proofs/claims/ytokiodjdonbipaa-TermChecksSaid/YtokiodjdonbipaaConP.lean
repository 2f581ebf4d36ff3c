/-
  The contracts of the program's constructors of terms: Public, Seal, Agree, and of Unseal.
  Conditions: the terms that come in lie in memory as a tree.
-/
import Derived.Test.YtokiodjdonbipaaAgree
namespace Go.Proofs.Ytokiodjdonbipaa
open Go.RowKit Go.Sort
set_option linter.unusedVariables false
theorem ppublic_any (S : Nat → Prop) (t : Tm) (w : World) (A : Option Addr) (c : Nat) (ht : TrS S w t A c) :
    Calls Try.prog 39 #[.agg #[.int .i64 t.op, .int .i64 t.val, .slice A t.args.length c]] w (MkPost S w (.mk 4 0 [t])) := by
  go_enter Try.func39, Try.ntmps39
  go_wp2_with fail
  have hb := heap_alloc_new ((w.alloc (Obj.cells #[.int .i64 t.op, .int .i64 t.val, .slice A t.args.length c] 24)).alloc (Obj.cells #[.int .i64 4, .int .i64 0, .slice (some ⟨w.heap.size + 1 + 1, 0, none⟩) 1 1] 24)) (Obj.cells #[.int .i64 t.op, .int .i64 t.val, .slice A t.args.length c] 24)
  simp only [World.size_alloc] at hb
  exact bodyPost_ret (v := .agg #[.int .i64 4, .int .i64 0, .slice (some ⟨w.heap.size + 1 + 1, 0, none⟩) 1 1]) (by simp [results, Try.results39, go_sem]) rfl ⟨_, 1, rfl, TrS.one hb (.inr (by omega)) (((ht.sn.alloc _).alloc _).alloc _) (fn (by omega) (by omega)) f0, (((Below.refl _ _).alloc (Nat.le_refl _) _).alloc (by simp) _).alloc (by simp; omega) _⟩
theorem pseal_any (S : Nat → Prop) (t u : Tm) (w : World) (A B : Option Addr) (c d : Nat) (ht : TrS S w t A c) (hu : TrS S w u B d) :
    Calls Try.prog 41 #[.agg #[.int .i64 t.op, .int .i64 t.val, .slice A t.args.length c], .agg #[.int .i64 u.op, .int .i64 u.val, .slice B u.args.length d]] w (MkPost S w (.mk 7 0 [t, u])) := by
  go_enter Try.func41, Try.ntmps41
  go_wp2_with fail
  have hb := heap_alloc_new (((w.alloc (Obj.cells #[.int .i64 t.op, .int .i64 t.val, .slice A t.args.length c] 24)).alloc (Obj.cells #[.int .i64 u.op, .int .i64 u.val, .slice B u.args.length d] 24)).alloc (Obj.cells #[.int .i64 7, .int .i64 0, .slice (some ⟨w.heap.size + 1 + 1 + 1, 0, none⟩) 2 2] 24)) (Obj.cells #[.int .i64 t.op, .int .i64 t.val, .slice A t.args.length c, .int .i64 u.op, .int .i64 u.val, .slice B u.args.length d] 24)
  simp only [World.size_alloc] at hb
  exact bodyPost_ret (v := .agg #[.int .i64 7, .int .i64 0, .slice (some ⟨w.heap.size + 1 + 1 + 1, 0, none⟩) 2 2]) (by simp [results, Try.results41, go_sem]) rfl ⟨_, 2, rfl, TrS.two hb (.inr (by omega)) ((((ht.sn.alloc _).alloc _).alloc _).alloc _) ((((hu.sn.alloc _).alloc _).alloc _).alloc _) (fn (by omega) (by omega)) f0, ((((Below.refl _ _).alloc (Nat.le_refl _) _).alloc (by simp) _).alloc (by simp; omega) _).alloc (by simp; omega) _⟩
theorem pagree_ret {S : Nat → Prop} {w w5 : World} {t : Tm} {A : Option Addr} {c R : Nat} {a : Act} (hr : Blk w5 R 24 #[.int .i64 t.op, .int .i64 t.val, .slice A t.args.length c]) (ht : TrS (SN S w) w5 t A c) (hb : Below w.heap.size w w5)
    (h4 : a.tmps[4]?.getD undef = .pointer (some ⟨R, 0, none⟩)) (h5 : a.tmps[5]?.getD undef = .bool true) (hd : a.defers = []) :
    bodyPost Try.prog Try.f38 (AgreePost S w t) Exit.ret a w5 := by
  have d0 : w5.cell? ⟨R, 0, none⟩ = some (.int .i64 t.op) := hr.cell 0
  have d1 : w5.cell? ⟨R, 1, none⟩ = some (.int .i64 t.val) := hr.cell 1
  have d2 : w5.cell? ⟨R, 2, none⟩ = some (.slice A t.args.length c) := hr.cell 2
  refine bodyPost_ret (v := .tuple #[.agg #[.int .i64 t.op, .int .i64 t.val, .slice A t.args.length c], .bool true]) ?_ hd ⟨A, c, rfl, ht, hb⟩
  simp [results, Try.results38, go_sem, d0, d1, d2, h4, h5]
attribute [local go_sem ↓] Go.wp_at_zero Go.wp_at_succ
theorem pagree_any (S : Nat → Prop) (t u : Tm) (w : World) (A B : Option Addr) (c d : Nat) (ht : TrS S w (.mk 4 0 [t]) A c) (hu : TrS S w u B d) :
    Calls Try.prog 38 #[.agg #[.int .i64 4, .int .i64 0, .slice A 1 c], .agg #[.int .i64 u.op, .int .i64 u.val, .slice B u.args.length d]] w (AgreePost S w (agreeT t u)) := by
  obtain ⟨g, k, AA, CC, rfl, hSg, c0, c1, c2, htr⟩ := ht.at 0 (by simp)
  simp only [Tm.args_mk, List.getElem_cons_zero] at c0 c1 c2 htr
  have hgl := World.block_lt_of_cell? w ⟨g, k + 0 * 3, none⟩ c0
  have q0 : w.cell? ⟨g, k, none⟩ = some (.int .i64 t.op) := by simpa using c0
  have q1 : w.cell? ⟨g, k + 1, none⟩ = some (.int .i64 t.val) := by simpa using c1
  have q2 : w.cell? ⟨g, k + 2, none⟩ = some (.slice AA t.args.length CC) := by simpa using c2
  clear c0 c1 c2 ht
  have Ht := Lib.hid htr
  have Hu := Lib.hid hu
  clear htr hu
  have b1 : Blk (((w.alloc (Obj.cells #[.int .i64 4, .int .i64 0, .slice (some ⟨g, k, none⟩) 1 c] 24)).alloc (Obj.cells #[.int .i64 u.op, .int .i64 u.val, .slice B u.args.length d] 24)).alloc (Obj.cells #[.int .i64 0, .int .i64 0, .slice none 0 0] 24)) w.heap.size 24 #[.int .i64 4, .int .i64 0, .slice (some ⟨g, k, none⟩) 1 c] := Blk.alloc (Blk.alloc (heap_alloc_new w _) _) _
  have b2 : Blk (((w.alloc (Obj.cells #[.int .i64 4, .int .i64 0, .slice (some ⟨g, k, none⟩) 1 c] 24)).alloc (Obj.cells #[.int .i64 u.op, .int .i64 u.val, .slice B u.args.length d] 24)).alloc (Obj.cells #[.int .i64 0, .int .i64 0, .slice none 0 0] 24)) (w.heap.size + 1) 24 #[.int .i64 u.op, .int .i64 u.val, .slice B u.args.length d] := by
    have := heap_alloc_new (w.alloc (Obj.cells #[.int .i64 4, .int .i64 0, .slice (some ⟨g, k, none⟩) 1 c] 24)) (Obj.cells #[.int .i64 u.op, .int .i64 u.val, .slice B u.args.length d] 24)
    simp only [World.size_alloc] at this
    exact Blk.alloc this _
  have b3 : Blk (((w.alloc (Obj.cells #[.int .i64 4, .int .i64 0, .slice (some ⟨g, k, none⟩) 1 c] 24)).alloc (Obj.cells #[.int .i64 u.op, .int .i64 u.val, .slice B u.args.length d] 24)).alloc (Obj.cells #[.int .i64 0, .int .i64 0, .slice none 0 0] 24)) (w.heap.size + 1 + 1) 24 #[.int .i64 0, .int .i64 0, .slice none 0 0] := by
    have := heap_alloc_new ((w.alloc (Obj.cells #[.int .i64 4, .int .i64 0, .slice (some ⟨g, k, none⟩) 1 c] 24)).alloc (Obj.cells #[.int .i64 u.op, .int .i64 u.val, .slice B u.args.length d] 24)) (Obj.cells #[.int .i64 0, .int .i64 0, .slice none 0 0] 24)
    simp only [World.size_alloc] at this
    exact this
  have tt := ((Ht.out.alloc (Obj.cells #[.int .i64 4, .int .i64 0, .slice (some ⟨g, k, none⟩) 1 c] 24)).alloc (Obj.cells #[.int .i64 u.op, .int .i64 u.val, .slice B u.args.length d] 24)).alloc (Obj.cells #[.int .i64 0, .int .i64 0, .slice none 0 0] 24)
  have tu := ((Hu.out.alloc (Obj.cells #[.int .i64 4, .int .i64 0, .slice (some ⟨g, k, none⟩) 1 c] 24)).alloc (Obj.cells #[.int .i64 u.op, .int .i64 u.val, .slice B u.args.length d] 24)).alloc (Obj.cells #[.int .i64 0, .int .i64 0, .slice none 0 0] 24)
  have r0 := cell_alloc (o := Obj.cells #[.int .i64 0, .int .i64 0, .slice none 0 0] 24) (cell_alloc (o := Obj.cells #[.int .i64 u.op, .int .i64 u.val, .slice B u.args.length d] 24) (cell_alloc (o := Obj.cells #[.int .i64 4, .int .i64 0, .slice (some ⟨g, k, none⟩) 1 c] 24) q0))
  have r1 := cell_alloc (o := Obj.cells #[.int .i64 0, .int .i64 0, .slice none 0 0] 24) (cell_alloc (o := Obj.cells #[.int .i64 u.op, .int .i64 u.val, .slice B u.args.length d] 24) (cell_alloc (o := Obj.cells #[.int .i64 4, .int .i64 0, .slice (some ⟨g, k, none⟩) 1 c] 24) q1))
  have r2 := cell_alloc (o := Obj.cells #[.int .i64 0, .int .i64 0, .slice none 0 0] 24) (cell_alloc (o := Obj.cells #[.int .i64 u.op, .int .i64 u.val, .slice B u.args.length d] 24) (cell_alloc (o := Obj.cells #[.int .i64 4, .int .i64 0, .slice (some ⟨g, k, none⟩) 1 c] 24) q2))
  have sz : (((w.alloc (Obj.cells #[.int .i64 4, .int .i64 0, .slice (some ⟨g, k, none⟩) 1 c] 24)).alloc (Obj.cells #[.int .i64 u.op, .int .i64 u.val, .slice B u.args.length d] 24)).alloc (Obj.cells #[.int .i64 0, .int .i64 0, .slice none 0 0] 24)).heap.size = w.heap.size + 1 + 1 + 1 := by simp
  have bb : Below w.heap.size w (((w.alloc (Obj.cells #[.int .i64 4, .int .i64 0, .slice (some ⟨g, k, none⟩) 1 c] 24)).alloc (Obj.cells #[.int .i64 u.op, .int .i64 u.val, .slice B u.args.length d] 24)).alloc (Obj.cells #[.int .i64 0, .int .i64 0, .slice none 0 0] 24)) := (((Below.refl _ _).alloc (Nat.le_refl _) _).alloc (by simp) _).alloc (by simp; omega) _
  have HH := Lib.hid (And.intro b1 (And.intro b2 (And.intro b3 (And.intro tt (And.intro tu (And.intro r0 (And.intro r1 (And.intro r2 (And.intro sz bb)))))))))
  clear b1 b2 b3 tt tu r0 r1 r2 sz bb
  have Ht0 := Ht
  have Hu0 := Hu
  go_enter Try.func38, Try.ntmps38
  go_wp2_with fail
  clear q0 q1 q2 Ht Hu
  generalize ((w.alloc (Obj.cells #[.int .i64 4, .int .i64 0, .slice (some ⟨g, k, none⟩) 1 c] 24)).alloc (Obj.cells #[.int .i64 u.op, .int .i64 u.val, .slice B u.args.length d] 24)).alloc (Obj.cells #[.int .i64 0, .int .i64 0, .slice none 0 0] 24) = W at *
  obtain ⟨b1, b2, b3, tt, tu, r0, r1, r2, sz, bb⟩ := HH.out
  have c2 : W.cell? ⟨w.heap.size, 2, none⟩ = some (.slice (some ⟨g, k, none⟩) 1 c) := b1.cell 2
  have d0 : W.cell? ⟨w.heap.size + 1, 0, none⟩ = some (.int .i64 u.op) := b2.cell 0
  have d1 : W.cell? ⟨w.heap.size + 1, 1, none⟩ = some (.int .i64 u.val) := b2.cell 1
  have d2 : W.cell? ⟨w.heap.size + 1, 2, none⟩ = some (.slice B u.args.length d) := b2.cell 2
  have n0 := World.new_ne W _ r0
  have n1 := World.new_ne W _ r1
  have n2 := World.new_ne W _ r2
  have n3 := World.new_ne W _ c2
  have n4 := World.new_ne W _ d0
  have n5 := World.new_ne W _ d1
  have n6 := World.new_ne W _ d2
  have HB := Lib.hid (And.intro b1 (And.intro b2 (And.intro b3 (And.intro tt (And.intro tu bb)))))
  have HS := Lib.hid sz
  clear b1 b2 b3 tt tu bb sz HH
  go_region_held3 (fun w' => w'.cell? ⟨w.heap.size, 2, none⟩ = some (.slice (some ⟨g, k, none⟩) 1 c) ∧ w'.cell? ⟨g, k, none⟩ = some (.int .i64 t.op) ∧ w'.cell? ⟨g, k + 1, none⟩ = some (.int .i64 t.val) ∧ w'.cell? ⟨g, k + 2, none⟩ = some (.slice AA t.args.length CC) ∧ w'.cell? ⟨w.heap.size + 1, 0, none⟩ = some (.int .i64 u.op) ∧ w'.cell? ⟨w.heap.size + 1, 1, none⟩ = some (.int .i64 u.val) ∧ w'.cell? ⟨w.heap.size + 1, 2, none⟩ = some (.slice B u.args.length d)) (go_keep) (fail)
  · have e1 : Blk (((W.alloc (Obj.cells #[.int .i64 t.op, .int .i64 t.val, .slice AA t.args.length CC] 24)).alloc (Obj.cells #[.int .i64 u.op, .int .i64 u.val, .slice B u.args.length d] 24)).drew) W.heap.size 24 #[.int .i64 t.op, .int .i64 t.val, .slice AA t.args.length CC] := Blk.drewN (Blk.alloc (heap_alloc_new W _) _) 1
    have e2 : Blk (((W.alloc (Obj.cells #[.int .i64 t.op, .int .i64 t.val, .slice AA t.args.length CC] 24)).alloc (Obj.cells #[.int .i64 u.op, .int .i64 u.val, .slice B u.args.length d] 24)).drew) (W.heap.size + 1) 24 #[.int .i64 u.op, .int .i64 u.val, .slice B u.args.length d] := by
      have := heap_alloc_new (W.alloc (Obj.cells #[.int .i64 t.op, .int .i64 t.val, .slice AA t.args.length CC] 24)) (Obj.cells #[.int .i64 u.op, .int .i64 u.val, .slice B u.args.length d] 24)
      simp only [World.size_alloc] at this
      exact Blk.drewN this 1
    have e3 : Blk (((W.alloc (Obj.cells #[.int .i64 t.op, .int .i64 t.val, .slice AA t.args.length CC] 24)).alloc (Obj.cells #[.int .i64 u.op, .int .i64 u.val, .slice B u.args.length d] 24)).drew) (w.heap.size + 1 + 1) 24 #[.int .i64 0, .int .i64 0, .slice none 0 0] := Blk.drewN (Blk.alloc (Blk.alloc HB.out.2.2.1 _) _) 1
    have bb : Below w.heap.size w (((W.alloc (Obj.cells #[.int .i64 t.op, .int .i64 t.val, .slice AA t.args.length CC] 24)).alloc (Obj.cells #[.int .i64 u.op, .int .i64 u.val, .slice B u.args.length d] 24)).drew) := below_drewN ((HB.out.2.2.2.2.2.alloc HB.out.2.2.2.2.2.size _).alloc (by have := HB.out.2.2.2.2.2.size; simp; omega) _) 1
    have sz3 := HS.out
    clear n0 n1 n2 n3 n4 n5 n6 c2 d0 d1 d2 r0 r1 r2
    generalize ((W.alloc (Obj.cells #[.int .i64 t.op, .int .i64 t.val, .slice AA t.args.length CC] 24)).alloc (Obj.cells #[.int .i64 u.op, .int .i64 u.val, .slice B u.args.length d] 24)).drew = W3 at *
    obtain ⟨X, hX⟩ : ∃ X, X = W.heap.size := ⟨_, rfl⟩
    rw [← hX] at e1 e2 sz3 ⊢
    clear hX
    have b1 := e1
    have b2 := e2
    clear e1 e2
    have x0 : W3.cell? ⟨X, 0, none⟩ = some (.int .i64 t.op) := b1.cell 0
    have x1 : W3.cell? ⟨X, 1, none⟩ = some (.int .i64 t.val) := b1.cell 1
    have x2 : W3.cell? ⟨X, 2, none⟩ = some (.slice AA t.args.length CC) := b1.cell 2
    have y0 : W3.cell? ⟨X + 1, 0, none⟩ = some (.int .i64 u.op) := b2.cell 0
    have y1 : W3.cell? ⟨X + 1, 1, none⟩ = some (.int .i64 u.val) := b2.cell 1
    have y2 : W3.cell? ⟨X + 1, 2, none⟩ = some (.slice B u.args.length d) := b2.cell 2
    have KB := Lib.hid (And.intro b1 (And.intro b2 (And.intro e3 bb)))
    have hXw : w.heap.size + 1 + 1 < X := by omega
    clear b1 b2 e3 bb HS HB sz3
    go_wp2_with fail
    refine (less_any u t W3 B AA d CC (Hu0.out.tr.bel KB.out.2.2.2) (Ht0.out.tr.bel KB.out.2.2.2)).mono ?_
    rintro e w4 ⟨rfl, hb4⟩
    clear x0 x1 x2 y0 y1 y2
    have b1 := KB.out.1.below hb4 KB.out.1.lt
    have b2 := KB.out.2.1.below hb4 KB.out.2.1.lt
    have b3 := KB.out.2.2.1.below hb4 KB.out.2.2.1.lt
    have bb := below_then KB.out.2.2.2 hb4 KB.out.2.2.2.size
    have x0 : w4.cell? ⟨X, 0, none⟩ = some (.int .i64 t.op) := b1.cell 0
    have x1 : w4.cell? ⟨X, 1, none⟩ = some (.int .i64 t.val) := b1.cell 1
    have x2 : w4.cell? ⟨X, 2, none⟩ = some (.slice AA t.args.length CC) := b1.cell 2
    have y0 : w4.cell? ⟨X + 1, 0, none⟩ = some (.int .i64 u.op) := b2.cell 0
    have y1 : w4.cell? ⟨X + 1, 1, none⟩ = some (.int .i64 u.val) := b2.cell 1
    have y2 : w4.cell? ⟨X + 1, 2, none⟩ = some (.slice B u.args.length d) := b2.cell 2
    have z0 : w4.cell? ⟨w.heap.size + 1 + 1, 0, none⟩ = some (.int .i64 0) := b3.cell 0
    have z1 : w4.cell? ⟨w.heap.size + 1 + 1, 1, none⟩ = some (.int .i64 0) := b3.cell 1
    have z2 : w4.cell? ⟨w.heap.size + 1 + 1, 2, none⟩ = some (.slice none 0 0) := b3.cell 2
    have fx0 := b1.free 0
    have fx1 := b1.free 1
    have fx2 := b1.free 2
    have fy0 := b2.free 0
    have fy1 := b2.free 1
    have fy2 := b2.free 2
    have fz0 := b3.free 0
    have fz1 := b3.free 1
    have fz2 := b3.free 2
    have hX4 : X + 1 < w4.heap.size := b2.lt
    have hZ4 : w.heap.size + 1 + 1 < w4.heap.size := by omega
    have hX5 : X < w4.heap.size := by omega
    have nX : w.heap.size + 1 + 1 ≠ X := by omega
    have nX1 : w.heap.size + 1 + 1 ≠ X + 1 := by omega
    have LB := Lib.hid (And.intro b1 (And.intro b2 (And.intro b3 bb)))
    clear hb4 KB b1 b2 b3 bb
    cases hless : lessT u t
    · have HL := Lib.hid hless
      clear hless
      go_wp2_with fail
      have hbV : Below w.heap.size w (((w4.setCell ⟨w.heap.size + 1 + 1, 0, none⟩ (.int .i64 5)).setCell ⟨w.heap.size + 1 + 1, 1, none⟩ (.int .i64 0)).setCell ⟨w.heap.size + 1 + 1, 2, none⟩ (.slice (some ⟨w4.heap.size, 0, none⟩) 2 2)) := by
        refine Below.setCell (p := ⟨w.heap.size + 1 + 1, 2, none⟩) (Below.setCell (p := ⟨w.heap.size + 1 + 1, 1, none⟩) (Below.setCell (p := ⟨w.heap.size + 1 + 1, 0, none⟩) ?_ (by simp; omega) _) (by simp; omega) _) (by simp; omega) _
        exact LB.out.2.2.2
      have hz := (((LB.out.2.2.1.put 0 (.int .i64 5)).put 1 (.int .i64 0)).put 2 (.slice (some ⟨w4.heap.size, 0, none⟩) 2 2)).alloc (Obj.cells #[.int .i64 t.op, .int .i64 t.val, .slice AA t.args.length CC, .int .i64 u.op, .int .i64 u.val, .slice B u.args.length d] 24)
      simp only [List.setIfInBounds_toArray, List.set_cons_zero, List.set_cons_succ] at hz
      have hn : w4.heap.size = ((((w4.setCell ⟨w.heap.size + 1 + 1, 0, none⟩ (.int .i64 5)).setCell ⟨w.heap.size + 1 + 1, 1, none⟩ (.int .i64 0)).setCell ⟨w.heap.size + 1 + 1, 2, none⟩ (.slice (some ⟨w4.heap.size, 0, none⟩) 2 2))).heap.size := by simp
      obtain ⟨hf1, hf2⟩ := agree_fin Ht0.out Hu0.out hbV hn
      have hag : agreeT t u = .mk 5 0 [t, u] := by unfold agreeT; rw [HL.out]; rfl
      rw [hag]
      exact pagree_ret (t := .mk 5 0 [t, u]) hz hf1 hf2 rfl rfl rfl
    · have HL := Lib.hid hless
      clear hless
      go_wp2_with fail
      have hbV : Below w.heap.size w (((((((((w4.setCell ⟨X, 0, none⟩ (.int .i64 u.op)).setCell ⟨X, 1, none⟩ (.int .i64 u.val)).setCell ⟨X, 2, none⟩ (.slice B u.args.length d)).setCell ⟨X + 1, 0, none⟩ (.int .i64 t.op)).setCell ⟨X + 1, 1, none⟩ (.int .i64 t.val)).setCell ⟨X + 1, 2, none⟩ (.slice AA t.args.length CC)).setCell ⟨w.heap.size + 1 + 1, 0, none⟩ (.int .i64 5)).setCell ⟨w.heap.size + 1 + 1, 1, none⟩ (.int .i64 0)).setCell ⟨w.heap.size + 1 + 1, 2, none⟩ (.slice (some ⟨w4.heap.size, 0, none⟩) 2 2)) := by
        refine Below.setCell (p := ⟨w.heap.size + 1 + 1, 2, none⟩) (Below.setCell (p := ⟨w.heap.size + 1 + 1, 1, none⟩) (Below.setCell (p := ⟨w.heap.size + 1 + 1, 0, none⟩) ?_ (by simp; omega) _) (by simp; omega) _) (by simp; omega) _
        refine Below.setCell (p := ⟨X + 1, 2, none⟩) (Below.setCell (p := ⟨X + 1, 1, none⟩) (Below.setCell (p := ⟨X + 1, 0, none⟩) ?_ (by simp; omega) _) (by simp; omega) _) (by simp; omega) _
        refine Below.setCell (p := ⟨X, 2, none⟩) (Below.setCell (p := ⟨X, 1, none⟩) (Below.setCell (p := ⟨X, 0, none⟩) ?_ (by simp; omega) _) (by simp; omega) _) (by simp; omega) _
        exact LB.out.2.2.2
      have hz := (((((((((LB.out.2.2.1.far (p := ⟨X, 0, none⟩) (by simp; omega) (.int .i64 u.op)).far (p := ⟨X, 1, none⟩) (by simp; omega) (.int .i64 u.val)).far (p := ⟨X, 2, none⟩) (by simp; omega) (.slice B u.args.length d)).far (p := ⟨X + 1, 0, none⟩) (by simp; omega) (.int .i64 t.op)).far (p := ⟨X + 1, 1, none⟩) (by simp; omega) (.int .i64 t.val)).far (p := ⟨X + 1, 2, none⟩) (by simp; omega) (.slice AA t.args.length CC)).put 0 (.int .i64 5)).put 1 (.int .i64 0)).put 2 (.slice (some ⟨w4.heap.size, 0, none⟩) 2 2)).alloc (Obj.cells #[.int .i64 u.op, .int .i64 u.val, .slice B u.args.length d, .int .i64 t.op, .int .i64 t.val, .slice AA t.args.length CC] 24)
      simp only [List.setIfInBounds_toArray, List.set_cons_zero, List.set_cons_succ] at hz
      have hn : w4.heap.size = ((((((((((w4.setCell ⟨X, 0, none⟩ (.int .i64 u.op)).setCell ⟨X, 1, none⟩ (.int .i64 u.val)).setCell ⟨X, 2, none⟩ (.slice B u.args.length d)).setCell ⟨X + 1, 0, none⟩ (.int .i64 t.op)).setCell ⟨X + 1, 1, none⟩ (.int .i64 t.val)).setCell ⟨X + 1, 2, none⟩ (.slice AA t.args.length CC)).setCell ⟨w.heap.size + 1 + 1, 0, none⟩ (.int .i64 5)).setCell ⟨w.heap.size + 1 + 1, 1, none⟩ (.int .i64 0)).setCell ⟨w.heap.size + 1 + 1, 2, none⟩ (.slice (some ⟨w4.heap.size, 0, none⟩) 2 2))).heap.size := by simp
      obtain ⟨hf1, hf2⟩ := agree_fin Hu0.out Ht0.out hbV hn
      have hag : agreeT t u = .mk 5 0 [u, t] := by unfold agreeT; rw [HL.out]; rfl
      rw [hag]
      exact pagree_ret (t := .mk 5 0 [u, t]) hz hf1 hf2 rfl rfl rfl
  · have e1 : Blk (((W.alloc (Obj.cells #[.int .i64 u.op, .int .i64 u.val, .slice B u.args.length d] 24)).alloc (Obj.cells #[.int .i64 t.op, .int .i64 t.val, .slice AA t.args.length CC] 24)).drew) W.heap.size 24 #[.int .i64 u.op, .int .i64 u.val, .slice B u.args.length d] := Blk.drewN (Blk.alloc (heap_alloc_new W _) _) 1
    have e2 : Blk (((W.alloc (Obj.cells #[.int .i64 u.op, .int .i64 u.val, .slice B u.args.length d] 24)).alloc (Obj.cells #[.int .i64 t.op, .int .i64 t.val, .slice AA t.args.length CC] 24)).drew) (W.heap.size + 1) 24 #[.int .i64 t.op, .int .i64 t.val, .slice AA t.args.length CC] := by
      have := heap_alloc_new (W.alloc (Obj.cells #[.int .i64 u.op, .int .i64 u.val, .slice B u.args.length d] 24)) (Obj.cells #[.int .i64 t.op, .int .i64 t.val, .slice AA t.args.length CC] 24)
      simp only [World.size_alloc] at this
      exact Blk.drewN this 1
    have e3 : Blk (((W.alloc (Obj.cells #[.int .i64 u.op, .int .i64 u.val, .slice B u.args.length d] 24)).alloc (Obj.cells #[.int .i64 t.op, .int .i64 t.val, .slice AA t.args.length CC] 24)).drew) (w.heap.size + 1 + 1) 24 #[.int .i64 0, .int .i64 0, .slice none 0 0] := Blk.drewN (Blk.alloc (Blk.alloc HB.out.2.2.1 _) _) 1
    have bb : Below w.heap.size w (((W.alloc (Obj.cells #[.int .i64 u.op, .int .i64 u.val, .slice B u.args.length d] 24)).alloc (Obj.cells #[.int .i64 t.op, .int .i64 t.val, .slice AA t.args.length CC] 24)).drew) := below_drewN ((HB.out.2.2.2.2.2.alloc HB.out.2.2.2.2.2.size _).alloc (by have := HB.out.2.2.2.2.2.size; simp; omega) _) 1
    have sz3 := HS.out
    clear n0 n1 n2 n3 n4 n5 n6 c2 d0 d1 d2 r0 r1 r2
    generalize ((W.alloc (Obj.cells #[.int .i64 u.op, .int .i64 u.val, .slice B u.args.length d] 24)).alloc (Obj.cells #[.int .i64 t.op, .int .i64 t.val, .slice AA t.args.length CC] 24)).drew = W3 at *
    obtain ⟨X, hX⟩ : ∃ X, X = W.heap.size := ⟨_, rfl⟩
    rw [← hX] at e1 e2 sz3 ⊢
    clear hX
    have b1 := e2
    have b2 := e1
    clear e1 e2
    have x0 : W3.cell? ⟨X + 1, 0, none⟩ = some (.int .i64 t.op) := b1.cell 0
    have x1 : W3.cell? ⟨X + 1, 1, none⟩ = some (.int .i64 t.val) := b1.cell 1
    have x2 : W3.cell? ⟨X + 1, 2, none⟩ = some (.slice AA t.args.length CC) := b1.cell 2
    have y0 : W3.cell? ⟨X, 0, none⟩ = some (.int .i64 u.op) := b2.cell 0
    have y1 : W3.cell? ⟨X, 1, none⟩ = some (.int .i64 u.val) := b2.cell 1
    have y2 : W3.cell? ⟨X, 2, none⟩ = some (.slice B u.args.length d) := b2.cell 2
    have KB := Lib.hid (And.intro b1 (And.intro b2 (And.intro e3 bb)))
    have hXw : w.heap.size + 1 + 1 < X := by omega
    clear b1 b2 e3 bb HS HB sz3
    go_wp2_with fail
    refine (less_any u t W3 B AA d CC (Hu0.out.tr.bel KB.out.2.2.2) (Ht0.out.tr.bel KB.out.2.2.2)).mono ?_
    rintro e w4 ⟨rfl, hb4⟩
    clear x0 x1 x2 y0 y1 y2
    have b1 := KB.out.1.below hb4 KB.out.1.lt
    have b2 := KB.out.2.1.below hb4 KB.out.2.1.lt
    have b3 := KB.out.2.2.1.below hb4 KB.out.2.2.1.lt
    have bb := below_then KB.out.2.2.2 hb4 KB.out.2.2.2.size
    have x0 : w4.cell? ⟨X + 1, 0, none⟩ = some (.int .i64 t.op) := b1.cell 0
    have x1 : w4.cell? ⟨X + 1, 1, none⟩ = some (.int .i64 t.val) := b1.cell 1
    have x2 : w4.cell? ⟨X + 1, 2, none⟩ = some (.slice AA t.args.length CC) := b1.cell 2
    have y0 : w4.cell? ⟨X, 0, none⟩ = some (.int .i64 u.op) := b2.cell 0
    have y1 : w4.cell? ⟨X, 1, none⟩ = some (.int .i64 u.val) := b2.cell 1
    have y2 : w4.cell? ⟨X, 2, none⟩ = some (.slice B u.args.length d) := b2.cell 2
    have z0 : w4.cell? ⟨w.heap.size + 1 + 1, 0, none⟩ = some (.int .i64 0) := b3.cell 0
    have z1 : w4.cell? ⟨w.heap.size + 1 + 1, 1, none⟩ = some (.int .i64 0) := b3.cell 1
    have z2 : w4.cell? ⟨w.heap.size + 1 + 1, 2, none⟩ = some (.slice none 0 0) := b3.cell 2
    have fx0 := b1.free 0
    have fx1 := b1.free 1
    have fx2 := b1.free 2
    have fy0 := b2.free 0
    have fy1 := b2.free 1
    have fy2 := b2.free 2
    have fz0 := b3.free 0
    have fz1 := b3.free 1
    have fz2 := b3.free 2
    have hX4 : X + 1 < w4.heap.size := b1.lt
    have hZ4 : w.heap.size + 1 + 1 < w4.heap.size := by omega
    have hX5 : X < w4.heap.size := by omega
    have nX : w.heap.size + 1 + 1 ≠ X := by omega
    have nX1 : w.heap.size + 1 + 1 ≠ X + 1 := by omega
    have LB := Lib.hid (And.intro b1 (And.intro b2 (And.intro b3 bb)))
    clear hb4 KB b1 b2 b3 bb
    cases hless : lessT u t
    · have HL := Lib.hid hless
      clear hless
      go_wp2_with fail
      have hbV : Below w.heap.size w (((w4.setCell ⟨w.heap.size + 1 + 1, 0, none⟩ (.int .i64 5)).setCell ⟨w.heap.size + 1 + 1, 1, none⟩ (.int .i64 0)).setCell ⟨w.heap.size + 1 + 1, 2, none⟩ (.slice (some ⟨w4.heap.size, 0, none⟩) 2 2)) := by
        refine Below.setCell (p := ⟨w.heap.size + 1 + 1, 2, none⟩) (Below.setCell (p := ⟨w.heap.size + 1 + 1, 1, none⟩) (Below.setCell (p := ⟨w.heap.size + 1 + 1, 0, none⟩) ?_ (by simp; omega) _) (by simp; omega) _) (by simp; omega) _
        exact LB.out.2.2.2
      have hz := (((LB.out.2.2.1.put 0 (.int .i64 5)).put 1 (.int .i64 0)).put 2 (.slice (some ⟨w4.heap.size, 0, none⟩) 2 2)).alloc (Obj.cells #[.int .i64 t.op, .int .i64 t.val, .slice AA t.args.length CC, .int .i64 u.op, .int .i64 u.val, .slice B u.args.length d] 24)
      simp only [List.setIfInBounds_toArray, List.set_cons_zero, List.set_cons_succ] at hz
      have hn : w4.heap.size = ((((w4.setCell ⟨w.heap.size + 1 + 1, 0, none⟩ (.int .i64 5)).setCell ⟨w.heap.size + 1 + 1, 1, none⟩ (.int .i64 0)).setCell ⟨w.heap.size + 1 + 1, 2, none⟩ (.slice (some ⟨w4.heap.size, 0, none⟩) 2 2))).heap.size := by simp
      obtain ⟨hf1, hf2⟩ := agree_fin Ht0.out Hu0.out hbV hn
      have hag : agreeT t u = .mk 5 0 [t, u] := by unfold agreeT; rw [HL.out]; rfl
      rw [hag]
      exact pagree_ret (t := .mk 5 0 [t, u]) hz hf1 hf2 rfl rfl rfl
    · have HL := Lib.hid hless
      clear hless
      go_wp2_with fail
      have hbV : Below w.heap.size w (((((((((w4.setCell ⟨X + 1, 0, none⟩ (.int .i64 u.op)).setCell ⟨X + 1, 1, none⟩ (.int .i64 u.val)).setCell ⟨X + 1, 2, none⟩ (.slice B u.args.length d)).setCell ⟨X, 0, none⟩ (.int .i64 t.op)).setCell ⟨X, 1, none⟩ (.int .i64 t.val)).setCell ⟨X, 2, none⟩ (.slice AA t.args.length CC)).setCell ⟨w.heap.size + 1 + 1, 0, none⟩ (.int .i64 5)).setCell ⟨w.heap.size + 1 + 1, 1, none⟩ (.int .i64 0)).setCell ⟨w.heap.size + 1 + 1, 2, none⟩ (.slice (some ⟨w4.heap.size, 0, none⟩) 2 2)) := by
        refine Below.setCell (p := ⟨w.heap.size + 1 + 1, 2, none⟩) (Below.setCell (p := ⟨w.heap.size + 1 + 1, 1, none⟩) (Below.setCell (p := ⟨w.heap.size + 1 + 1, 0, none⟩) ?_ (by simp; omega) _) (by simp; omega) _) (by simp; omega) _
        refine Below.setCell (p := ⟨X, 2, none⟩) (Below.setCell (p := ⟨X, 1, none⟩) (Below.setCell (p := ⟨X, 0, none⟩) ?_ (by simp; omega) _) (by simp; omega) _) (by simp; omega) _
        refine Below.setCell (p := ⟨X + 1, 2, none⟩) (Below.setCell (p := ⟨X + 1, 1, none⟩) (Below.setCell (p := ⟨X + 1, 0, none⟩) ?_ (by simp; omega) _) (by simp; omega) _) (by simp; omega) _
        exact LB.out.2.2.2
      have hz := (((((((((LB.out.2.2.1.far (p := ⟨X + 1, 0, none⟩) (by simp; omega) (.int .i64 u.op)).far (p := ⟨X + 1, 1, none⟩) (by simp; omega) (.int .i64 u.val)).far (p := ⟨X + 1, 2, none⟩) (by simp; omega) (.slice B u.args.length d)).far (p := ⟨X, 0, none⟩) (by simp; omega) (.int .i64 t.op)).far (p := ⟨X, 1, none⟩) (by simp; omega) (.int .i64 t.val)).far (p := ⟨X, 2, none⟩) (by simp; omega) (.slice AA t.args.length CC)).put 0 (.int .i64 5)).put 1 (.int .i64 0)).put 2 (.slice (some ⟨w4.heap.size, 0, none⟩) 2 2)).alloc (Obj.cells #[.int .i64 u.op, .int .i64 u.val, .slice B u.args.length d, .int .i64 t.op, .int .i64 t.val, .slice AA t.args.length CC] 24)
      simp only [List.setIfInBounds_toArray, List.set_cons_zero, List.set_cons_succ] at hz
      have hn : w4.heap.size = ((((((((((w4.setCell ⟨X + 1, 0, none⟩ (.int .i64 u.op)).setCell ⟨X + 1, 1, none⟩ (.int .i64 u.val)).setCell ⟨X + 1, 2, none⟩ (.slice B u.args.length d)).setCell ⟨X, 0, none⟩ (.int .i64 t.op)).setCell ⟨X, 1, none⟩ (.int .i64 t.val)).setCell ⟨X, 2, none⟩ (.slice AA t.args.length CC)).setCell ⟨w.heap.size + 1 + 1, 0, none⟩ (.int .i64 5)).setCell ⟨w.heap.size + 1 + 1, 1, none⟩ (.int .i64 0)).setCell ⟨w.heap.size + 1 + 1, 2, none⟩ (.slice (some ⟨w4.heap.size, 0, none⟩) 2 2))).heap.size := by simp
      obtain ⟨hf1, hf2⟩ := agree_fin Hu0.out Ht0.out hbV hn
      have hag : agreeT t u = .mk 5 0 [u, t] := by unfold agreeT; rw [HL.out]; rfl
      rw [hag]
      exact pagree_ret (t := .mk 5 0 [u, t]) hz hf1 hf2 rfl rfl rfl
def UnsealPost (S : Nat → Prop) (w : World) (y : Tm) (e : Ending) (w' : World) : Prop :=
  ∃ A c, e = .returned (.tuple #[.agg #[.int .i64 y.op, .int .i64 y.val, .slice A y.args.length c], .bool true]) ∧ TrS S w' y A c ∧ Below w.heap.size w w'
theorem punseal_yes (S : Nat → Prop) (x y key : Tm) (w : World) (A K : Option Addr) (c ck : Nat) (ht : TrS S w (.mk 7 0 [x, y]) A c) (hk : Tr w key K ck) (he : equT x key = true) :
    Calls Try.prog 40 #[.agg #[.int .i64 key.op, .int .i64 key.val, .slice K key.args.length ck], .agg #[.int .i64 7, .int .i64 0, .slice A 2 c]] w (UnsealPost S w y) := by
  obtain ⟨g, k, AX, CX, rfl, _, c0, c1, c2, hx⟩ := ht.at 0 (by simp)
  obtain ⟨g', k', AY, CY, hA, _, c3, c4, c5, hy⟩ := ht.at 1 (by simp)
  injection hA with hA
  injection hA with e1 e2 _
  subst e1; subst e2
  simp only [Tm.args_mk, List.getElem_cons_zero, List.getElem_cons_succ] at c0 c1 c2 c3 c4 c5 hx hy
  have z0 : w.cell? ⟨g, k, none⟩ = some (.int .i64 x.op) := by simpa using c0
  have z1 : w.cell? ⟨g, k + 1, none⟩ = some (.int .i64 x.val) := by simpa using c1
  have z2 : w.cell? ⟨g, k + 2, none⟩ = some (.slice AX x.args.length CX) := by simpa using c2
  have z3 : w.cell? ⟨g, k + 3, none⟩ = some (.int .i64 y.op) := by simpa using c3
  have z4 : w.cell? ⟨g, k + 3 + 1, none⟩ = some (.int .i64 y.val) := by simpa using c4
  have z5 : w.cell? ⟨g, k + 3 + 2, none⟩ = some (.slice AY y.args.length CY) := by simpa using c5
  have b1 : Blk (((w.alloc (Obj.cells #[.int .i64 key.op, .int .i64 key.val, .slice K key.args.length ck] 24)).alloc (Obj.cells #[.int .i64 7, .int .i64 0, .slice (some ⟨g, k, none⟩) 2 c] 24)).alloc (Obj.cells #[.int .i64 0, .int .i64 0, .slice none 0 0] 24)) w.heap.size 24 #[.int .i64 key.op, .int .i64 key.val, .slice K key.args.length ck] := Blk.alloc (Blk.alloc (heap_alloc_new w _) _) _
  have b2 : Blk (((w.alloc (Obj.cells #[.int .i64 key.op, .int .i64 key.val, .slice K key.args.length ck] 24)).alloc (Obj.cells #[.int .i64 7, .int .i64 0, .slice (some ⟨g, k, none⟩) 2 c] 24)).alloc (Obj.cells #[.int .i64 0, .int .i64 0, .slice none 0 0] 24)) (w.heap.size + 1) 24 #[.int .i64 7, .int .i64 0, .slice (some ⟨g, k, none⟩) 2 c] := by
    have := heap_alloc_new (w.alloc (Obj.cells #[.int .i64 key.op, .int .i64 key.val, .slice K key.args.length ck] 24)) (Obj.cells #[.int .i64 7, .int .i64 0, .slice (some ⟨g, k, none⟩) 2 c] 24)
    simp only [World.size_alloc] at this
    exact Blk.alloc this _
  have b3 : Blk (((w.alloc (Obj.cells #[.int .i64 key.op, .int .i64 key.val, .slice K key.args.length ck] 24)).alloc (Obj.cells #[.int .i64 7, .int .i64 0, .slice (some ⟨g, k, none⟩) 2 c] 24)).alloc (Obj.cells #[.int .i64 0, .int .i64 0, .slice none 0 0] 24)) (w.heap.size + 1 + 1) 24 #[.int .i64 0, .int .i64 0, .slice none 0 0] := by
    have := heap_alloc_new ((w.alloc (Obj.cells #[.int .i64 key.op, .int .i64 key.val, .slice K key.args.length ck] 24)).alloc (Obj.cells #[.int .i64 7, .int .i64 0, .slice (some ⟨g, k, none⟩) 2 c] 24)) (Obj.cells #[.int .i64 0, .int .i64 0, .slice none 0 0] 24)
    simp only [World.size_alloc] at this
    exact this
  have bb : Below w.heap.size w (((w.alloc (Obj.cells #[.int .i64 key.op, .int .i64 key.val, .slice K key.args.length ck] 24)).alloc (Obj.cells #[.int .i64 7, .int .i64 0, .slice (some ⟨g, k, none⟩) 2 c] 24)).alloc (Obj.cells #[.int .i64 0, .int .i64 0, .slice none 0 0] 24)) := (((Below.refl _ _).alloc (Nat.le_refl _) _).alloc (by simp) _).alloc (by simp; omega) _
  have hgl := World.block_lt_of_cell? w ⟨g, k, none⟩ z0
  have HB := Lib.hid (And.intro b1 (And.intro b2 (And.intro b3 bb)))
  have HZ := Lib.hid (And.intro (cell_alloc (o := Obj.cells #[.int .i64 0, .int .i64 0, .slice none 0 0] 24) (cell_alloc (o := Obj.cells #[.int .i64 7, .int .i64 0, .slice (some ⟨g, k, none⟩) 2 c] 24) (cell_alloc (o := Obj.cells #[.int .i64 key.op, .int .i64 key.val, .slice K key.args.length ck] 24) z0))) (And.intro (cell_alloc (o := Obj.cells #[.int .i64 0, .int .i64 0, .slice none 0 0] 24) (cell_alloc (o := Obj.cells #[.int .i64 7, .int .i64 0, .slice (some ⟨g, k, none⟩) 2 c] 24) (cell_alloc (o := Obj.cells #[.int .i64 key.op, .int .i64 key.val, .slice K key.args.length ck] 24) z1))) (And.intro (cell_alloc (o := Obj.cells #[.int .i64 0, .int .i64 0, .slice none 0 0] 24) (cell_alloc (o := Obj.cells #[.int .i64 7, .int .i64 0, .slice (some ⟨g, k, none⟩) 2 c] 24) (cell_alloc (o := Obj.cells #[.int .i64 key.op, .int .i64 key.val, .slice K key.args.length ck] 24) z2))) (And.intro (cell_alloc (o := Obj.cells #[.int .i64 0, .int .i64 0, .slice none 0 0] 24) (cell_alloc (o := Obj.cells #[.int .i64 7, .int .i64 0, .slice (some ⟨g, k, none⟩) 2 c] 24) (cell_alloc (o := Obj.cells #[.int .i64 key.op, .int .i64 key.val, .slice K key.args.length ck] 24) z3))) (And.intro (cell_alloc (o := Obj.cells #[.int .i64 0, .int .i64 0, .slice none 0 0] 24) (cell_alloc (o := Obj.cells #[.int .i64 7, .int .i64 0, .slice (some ⟨g, k, none⟩) 2 c] 24) (cell_alloc (o := Obj.cells #[.int .i64 key.op, .int .i64 key.val, .slice K key.args.length ck] 24) z4))) (cell_alloc (o := Obj.cells #[.int .i64 0, .int .i64 0, .slice none 0 0] 24) (cell_alloc (o := Obj.cells #[.int .i64 7, .int .i64 0, .slice (some ⟨g, k, none⟩) 2 c] 24) (cell_alloc (o := Obj.cells #[.int .i64 key.op, .int .i64 key.val, .slice K key.args.length ck] 24) z5))))))))
  have HX := Lib.hid (And.intro hx (And.intro hy hk))
  have HE := Lib.hid he
  have hm := follows_mixed
  clear c0 c1 c2 c3 c4 c5 hx hy hk ht z0 z1 z2 z3 z4 z5 b1 b2 b3 bb he
  go_enter Try.func40, Try.ntmps40
  go_wp2_with fail
  generalize (((w.alloc (Obj.cells #[.int .i64 key.op, .int .i64 key.val, .slice K key.args.length ck] 24)).alloc (Obj.cells #[.int .i64 7, .int .i64 0, .slice (some ⟨g, k, none⟩) 2 c] 24)).alloc (Obj.cells #[.int .i64 0, .int .i64 0, .slice none 0 0] 24)) = W at *
  have a0 : W.cell? ⟨w.heap.size, 0, none⟩ = some (.int .i64 key.op) := HB.out.1.cell 0
  have a1 : W.cell? ⟨w.heap.size, 1, none⟩ = some (.int .i64 key.val) := HB.out.1.cell 1
  have a2 : W.cell? ⟨w.heap.size, 2, none⟩ = some (.slice K key.args.length ck) := HB.out.1.cell 2
  have a3 : W.cell? ⟨w.heap.size + 1, 0, none⟩ = some (.int .i64 7) := HB.out.2.1.cell 0
  have a4 : W.cell? ⟨w.heap.size + 1, 2, none⟩ = some (.slice (some ⟨g, k, none⟩) 2 c) := HB.out.2.1.cell 2
  have G0 := cell_regrown a0
  have G1 := cell_regrown a1
  have G2 := cell_regrown a2
  have G3 := cell_regrown a3
  have G4 := cell_regrown a4
  have G5 := cell_regrown HZ.out.1
  have G6 := cell_regrown HZ.out.2.1
  have G7 := cell_regrown HZ.out.2.2.1
  have hc : ∀ n os, Calls Try.prog 14 #[.agg #[.int .i64 x.op, .int .i64 x.val, .slice AX x.args.length CX], .agg #[.int .i64 key.op, .int .i64 key.val, .slice K key.args.length ck]] (grow (redrawn W n) os) fun e w'' => e = .returned (.bool true) ∧ ∃ p : Regrown, w'' = grow (redrawn W p.d) p.os := fun n os => by
    have h := equal_any x key (grow (redrawn W n) os) AX K CX ck ((HX.out.1.tr.bel HB.out.2.2.2).bel (below_regrown W n os)) ((HX.out.2.2.bel HB.out.2.2.2).bel (below_regrown W n os))
    rw [HE.out] at h
    exact Calls.regrown_of h
  have HC := Lib.hid hc
  clear hc a0 a1 a2 a3 a4
  refine wp_region_quiet_below (by assumption) (by kernel_rfl) ?_
  repeat (go_big_quiet_step (with_reducible exact HC.out _ _))
  refine wpQuiet_nil ?_
  intro _ hw'
  obtain ⟨⟨dq, osq⟩, hw''⟩ := hw'
  subst hw''
  have hbq := below_regrown W dq osq
  generalize grow (redrawn W dq) osq = w4 at *
  have b2 := HB.out.2.1.below hbq HB.out.2.1.lt
  have b3 := HB.out.2.2.1.below hbq HB.out.2.2.1.lt
  have bb := below_then HB.out.2.2.2 hbq HB.out.2.2.2.size
  have hcell : ∀ (a : Addr) (v : Value), W.cell? a = some v → w4.cell? a = some v := fun a v h => (hbq.cell (World.block_lt_of_cell? W a h)).trans h
  have d2 : w4.cell? ⟨w.heap.size + 1, 2, none⟩ = some (.slice (some ⟨g, k, none⟩) 2 c) := b2.cell 2
  have d3 := hcell _ _ HZ.out.2.2.2.1
  have d4 := hcell _ _ HZ.out.2.2.2.2.1
  have d5 := hcell _ _ HZ.out.2.2.2.2.2
  have r0 : w4.cell? ⟨w.heap.size + 1 + 1, 0, none⟩ = some (.int .i64 0) := b3.cell 0
  have r1 : w4.cell? ⟨w.heap.size + 1 + 1, 1, none⟩ = some (.int .i64 0) := b3.cell 1
  have r2 : w4.cell? ⟨w.heap.size + 1 + 1, 2, none⟩ = some (.slice none 0 0) := b3.cell 2
  have fz0 := b3.free 0
  have fz1 := b3.free 1
  have fz2 := b3.free 2
  have H4 := Lib.hid (And.intro b3 bb)
  clear hcell b2 b3 bb hbq HB HC HZ G0 G1 G2 G3 G4 G5 G6 G7
  go_wp2_with fail
  have hz := ((H4.out.1.put 0 (.int .i64 y.op)).put 1 (.int .i64 y.val)).put 2 (.slice AY y.args.length CY)
  simp only [List.setIfInBounds_toArray, List.set_cons_zero, List.set_cons_succ] at hz
  have hb5 : Below w.heap.size w (((w4.setCell ⟨w.heap.size + 1 + 1, 0, none⟩ (.int .i64 y.op)).setCell ⟨w.heap.size + 1 + 1, 1, none⟩ (.int .i64 y.val)).setCell ⟨w.heap.size + 1 + 1, 2, none⟩ (.slice AY y.args.length CY)) := ((H4.out.2.setCell (p := ⟨w.heap.size + 1 + 1, 0, none⟩) (by simp; omega) _).setCell (p := ⟨w.heap.size + 1 + 1, 1, none⟩) (by simp; omega) _).setCell (p := ⟨w.heap.size + 1 + 1, 2, none⟩) (by simp; omega) _
  generalize (((w4.setCell ⟨w.heap.size + 1 + 1, 0, none⟩ (.int .i64 y.op)).setCell ⟨w.heap.size + 1 + 1, 1, none⟩ (.int .i64 y.val)).setCell ⟨w.heap.size + 1 + 1, 2, none⟩ (.slice AY y.args.length CY)) = w5 at *
  have u0 : w5.cell? ⟨w.heap.size + 1 + 1, 0, none⟩ = some (.int .i64 y.op) := hz.cell 0
  have u1 : w5.cell? ⟨w.heap.size + 1 + 1, 1, none⟩ = some (.int .i64 y.val) := hz.cell 1
  have u2 : w5.cell? ⟨w.heap.size + 1 + 1, 2, none⟩ = some (.slice AY y.args.length CY) := hz.cell 2
  exact bodyPost_ret (v := .tuple #[.agg #[.int .i64 y.op, .int .i64 y.val, .slice AY y.args.length CY], .bool true]) (by simp [results, Try.results40, go_sem, u0, u1, u2]) rfl ⟨AY, CY, rfl, HX.out.2.1.bel hb5, hb5⟩
theorem punseal_no (x y key : Tm) (w : World) (A K : Option Addr) (c ck : Nat) (ht : Tr w (.mk 7 0 [x, y]) A c) (hk : Tr w key K ck) (he : equT x key = false) :
    Calls Try.prog 40 #[.agg #[.int .i64 key.op, .int .i64 key.val, .slice K key.args.length ck], .agg #[.int .i64 7, .int .i64 0, .slice A 2 c]] w fun e w' => e = .returned (.tuple #[.agg #[.int .i64 0, .int .i64 0, .slice none 0 0], .bool false]) ∧ Below w.heap.size w w' := by
  obtain ⟨g, k, AX, CX, rfl, c0, c1, c2, hx⟩ := ht.at 0 (by simp)
  obtain ⟨g', k', AY, CY, hA, c3, c4, c5, hy⟩ := ht.at 1 (by simp)
  injection hA with hA
  injection hA with e1 e2 _
  subst e1; subst e2
  simp only [Tm.args_mk, List.getElem_cons_zero, List.getElem_cons_succ] at c0 c1 c2 c3 c4 c5 hx hy
  have z0 : w.cell? ⟨g, k, none⟩ = some (.int .i64 x.op) := by simpa using c0
  have z1 : w.cell? ⟨g, k + 1, none⟩ = some (.int .i64 x.val) := by simpa using c1
  have z2 : w.cell? ⟨g, k + 2, none⟩ = some (.slice AX x.args.length CX) := by simpa using c2
  have z3 : w.cell? ⟨g, k + 3, none⟩ = some (.int .i64 y.op) := by simpa using c3
  have z4 : w.cell? ⟨g, k + 3 + 1, none⟩ = some (.int .i64 y.val) := by simpa using c4
  have z5 : w.cell? ⟨g, k + 3 + 2, none⟩ = some (.slice AY y.args.length CY) := by simpa using c5
  have b1 : Blk (((w.alloc (Obj.cells #[.int .i64 key.op, .int .i64 key.val, .slice K key.args.length ck] 24)).alloc (Obj.cells #[.int .i64 7, .int .i64 0, .slice (some ⟨g, k, none⟩) 2 c] 24)).alloc (Obj.cells #[.int .i64 0, .int .i64 0, .slice none 0 0] 24)) w.heap.size 24 #[.int .i64 key.op, .int .i64 key.val, .slice K key.args.length ck] := Blk.alloc (Blk.alloc (heap_alloc_new w _) _) _
  have b2 : Blk (((w.alloc (Obj.cells #[.int .i64 key.op, .int .i64 key.val, .slice K key.args.length ck] 24)).alloc (Obj.cells #[.int .i64 7, .int .i64 0, .slice (some ⟨g, k, none⟩) 2 c] 24)).alloc (Obj.cells #[.int .i64 0, .int .i64 0, .slice none 0 0] 24)) (w.heap.size + 1) 24 #[.int .i64 7, .int .i64 0, .slice (some ⟨g, k, none⟩) 2 c] := by
    have := heap_alloc_new (w.alloc (Obj.cells #[.int .i64 key.op, .int .i64 key.val, .slice K key.args.length ck] 24)) (Obj.cells #[.int .i64 7, .int .i64 0, .slice (some ⟨g, k, none⟩) 2 c] 24)
    simp only [World.size_alloc] at this
    exact Blk.alloc this _
  have b3 : Blk (((w.alloc (Obj.cells #[.int .i64 key.op, .int .i64 key.val, .slice K key.args.length ck] 24)).alloc (Obj.cells #[.int .i64 7, .int .i64 0, .slice (some ⟨g, k, none⟩) 2 c] 24)).alloc (Obj.cells #[.int .i64 0, .int .i64 0, .slice none 0 0] 24)) (w.heap.size + 1 + 1) 24 #[.int .i64 0, .int .i64 0, .slice none 0 0] := by
    have := heap_alloc_new ((w.alloc (Obj.cells #[.int .i64 key.op, .int .i64 key.val, .slice K key.args.length ck] 24)).alloc (Obj.cells #[.int .i64 7, .int .i64 0, .slice (some ⟨g, k, none⟩) 2 c] 24)) (Obj.cells #[.int .i64 0, .int .i64 0, .slice none 0 0] 24)
    simp only [World.size_alloc] at this
    exact this
  have bb : Below w.heap.size w (((w.alloc (Obj.cells #[.int .i64 key.op, .int .i64 key.val, .slice K key.args.length ck] 24)).alloc (Obj.cells #[.int .i64 7, .int .i64 0, .slice (some ⟨g, k, none⟩) 2 c] 24)).alloc (Obj.cells #[.int .i64 0, .int .i64 0, .slice none 0 0] 24)) := (((Below.refl _ _).alloc (Nat.le_refl _) _).alloc (by simp) _).alloc (by simp; omega) _
  have hgl := World.block_lt_of_cell? w ⟨g, k, none⟩ z0
  have HB := Lib.hid (And.intro b1 (And.intro b2 (And.intro b3 bb)))
  have HZ := Lib.hid (And.intro (cell_alloc (o := Obj.cells #[.int .i64 0, .int .i64 0, .slice none 0 0] 24) (cell_alloc (o := Obj.cells #[.int .i64 7, .int .i64 0, .slice (some ⟨g, k, none⟩) 2 c] 24) (cell_alloc (o := Obj.cells #[.int .i64 key.op, .int .i64 key.val, .slice K key.args.length ck] 24) z0))) (And.intro (cell_alloc (o := Obj.cells #[.int .i64 0, .int .i64 0, .slice none 0 0] 24) (cell_alloc (o := Obj.cells #[.int .i64 7, .int .i64 0, .slice (some ⟨g, k, none⟩) 2 c] 24) (cell_alloc (o := Obj.cells #[.int .i64 key.op, .int .i64 key.val, .slice K key.args.length ck] 24) z1))) (And.intro (cell_alloc (o := Obj.cells #[.int .i64 0, .int .i64 0, .slice none 0 0] 24) (cell_alloc (o := Obj.cells #[.int .i64 7, .int .i64 0, .slice (some ⟨g, k, none⟩) 2 c] 24) (cell_alloc (o := Obj.cells #[.int .i64 key.op, .int .i64 key.val, .slice K key.args.length ck] 24) z2))) (And.intro (cell_alloc (o := Obj.cells #[.int .i64 0, .int .i64 0, .slice none 0 0] 24) (cell_alloc (o := Obj.cells #[.int .i64 7, .int .i64 0, .slice (some ⟨g, k, none⟩) 2 c] 24) (cell_alloc (o := Obj.cells #[.int .i64 key.op, .int .i64 key.val, .slice K key.args.length ck] 24) z3))) (And.intro (cell_alloc (o := Obj.cells #[.int .i64 0, .int .i64 0, .slice none 0 0] 24) (cell_alloc (o := Obj.cells #[.int .i64 7, .int .i64 0, .slice (some ⟨g, k, none⟩) 2 c] 24) (cell_alloc (o := Obj.cells #[.int .i64 key.op, .int .i64 key.val, .slice K key.args.length ck] 24) z4))) (cell_alloc (o := Obj.cells #[.int .i64 0, .int .i64 0, .slice none 0 0] 24) (cell_alloc (o := Obj.cells #[.int .i64 7, .int .i64 0, .slice (some ⟨g, k, none⟩) 2 c] 24) (cell_alloc (o := Obj.cells #[.int .i64 key.op, .int .i64 key.val, .slice K key.args.length ck] 24) z5))))))))
  have HX := Lib.hid (And.intro hx (And.intro hy hk))
  have HE := Lib.hid he
  have hm := follows_mixed
  clear c0 c1 c2 c3 c4 c5 hx hy hk ht z0 z1 z2 z3 z4 z5 b1 b2 b3 bb he
  go_enter Try.func40, Try.ntmps40
  go_wp2_with fail
  generalize (((w.alloc (Obj.cells #[.int .i64 key.op, .int .i64 key.val, .slice K key.args.length ck] 24)).alloc (Obj.cells #[.int .i64 7, .int .i64 0, .slice (some ⟨g, k, none⟩) 2 c] 24)).alloc (Obj.cells #[.int .i64 0, .int .i64 0, .slice none 0 0] 24)) = W at *
  have a0 : W.cell? ⟨w.heap.size, 0, none⟩ = some (.int .i64 key.op) := HB.out.1.cell 0
  have a1 : W.cell? ⟨w.heap.size, 1, none⟩ = some (.int .i64 key.val) := HB.out.1.cell 1
  have a2 : W.cell? ⟨w.heap.size, 2, none⟩ = some (.slice K key.args.length ck) := HB.out.1.cell 2
  have a3 : W.cell? ⟨w.heap.size + 1, 0, none⟩ = some (.int .i64 7) := HB.out.2.1.cell 0
  have a4 : W.cell? ⟨w.heap.size + 1, 2, none⟩ = some (.slice (some ⟨g, k, none⟩) 2 c) := HB.out.2.1.cell 2
  have G0 := cell_regrown a0
  have G1 := cell_regrown a1
  have G2 := cell_regrown a2
  have G3 := cell_regrown a3
  have G4 := cell_regrown a4
  have G5 := cell_regrown HZ.out.1
  have G6 := cell_regrown HZ.out.2.1
  have G7 := cell_regrown HZ.out.2.2.1
  have hc : ∀ n os, Calls Try.prog 14 #[.agg #[.int .i64 x.op, .int .i64 x.val, .slice AX x.args.length CX], .agg #[.int .i64 key.op, .int .i64 key.val, .slice K key.args.length ck]] (grow (redrawn W n) os) fun e w'' => e = .returned (.bool false) ∧ ∃ p : Regrown, w'' = grow (redrawn W p.d) p.os := fun n os => by
    have h := equal_any x key (grow (redrawn W n) os) AX K CX ck ((HX.out.1.bel HB.out.2.2.2).bel (below_regrown W n os)) ((HX.out.2.2.bel HB.out.2.2.2).bel (below_regrown W n os))
    rw [HE.out] at h
    exact Calls.regrown_of h
  have HC := Lib.hid hc
  clear hc a0 a1 a2 a3 a4
  refine wp_region_quiet_below (by assumption) (by kernel_rfl) ?_
  repeat (go_big_quiet_step (with_reducible exact HC.out _ _))
  refine wpQuiet_nil ?_
  intro _ hw'
  obtain ⟨⟨dq, osq⟩, hw''⟩ := hw'
  subst hw''
  have hbq := below_regrown W dq osq
  generalize grow (redrawn W dq) osq = w4 at *
  have b2 := HB.out.2.1.below hbq HB.out.2.1.lt
  have b3 := HB.out.2.2.1.below hbq HB.out.2.2.1.lt
  have bb := below_then HB.out.2.2.2 hbq HB.out.2.2.2.size
  have hcell : ∀ (a : Addr) (v : Value), W.cell? a = some v → w4.cell? a = some v := fun a v h => (hbq.cell (World.block_lt_of_cell? W a h)).trans h
  have d2 : w4.cell? ⟨w.heap.size + 1, 2, none⟩ = some (.slice (some ⟨g, k, none⟩) 2 c) := b2.cell 2
  have d3 := hcell _ _ HZ.out.2.2.2.1
  have d4 := hcell _ _ HZ.out.2.2.2.2.1
  have d5 := hcell _ _ HZ.out.2.2.2.2.2
  have r0 : w4.cell? ⟨w.heap.size + 1 + 1, 0, none⟩ = some (.int .i64 0) := b3.cell 0
  have r1 : w4.cell? ⟨w.heap.size + 1 + 1, 1, none⟩ = some (.int .i64 0) := b3.cell 1
  have r2 : w4.cell? ⟨w.heap.size + 1 + 1, 2, none⟩ = some (.slice none 0 0) := b3.cell 2
  have fz0 := b3.free 0
  have fz1 := b3.free 1
  have fz2 := b3.free 2
  have H4 := Lib.hid (And.intro b3 bb)
  clear hcell b2 b3 bb hbq HB HC HZ G0 G1 G2 G3 G4 G5 G6 G7
  go_wp2_with fail
  have hz := ((H4.out.1.put 0 (.int .i64 0)).put 1 (.int .i64 0)).put 2 (.slice none 0 0)
  simp only [List.setIfInBounds_toArray, List.set_cons_zero, List.set_cons_succ] at hz
  have hb5 : Below w.heap.size w (((w4.setCell ⟨w.heap.size + 1 + 1, 0, none⟩ (.int .i64 0)).setCell ⟨w.heap.size + 1 + 1, 1, none⟩ (.int .i64 0)).setCell ⟨w.heap.size + 1 + 1, 2, none⟩ (.slice none 0 0)) := ((H4.out.2.setCell (p := ⟨w.heap.size + 1 + 1, 0, none⟩) (by simp; omega) _).setCell (p := ⟨w.heap.size + 1 + 1, 1, none⟩) (by simp; omega) _).setCell (p := ⟨w.heap.size + 1 + 1, 2, none⟩) (by simp; omega) _
  generalize (((w4.setCell ⟨w.heap.size + 1 + 1, 0, none⟩ (.int .i64 0)).setCell ⟨w.heap.size + 1 + 1, 1, none⟩ (.int .i64 0)).setCell ⟨w.heap.size + 1 + 1, 2, none⟩ (.slice none 0 0)) = w5 at *
  have u0 : w5.cell? ⟨w.heap.size + 1 + 1, 0, none⟩ = some (.int .i64 0) := hz.cell 0
  have u1 : w5.cell? ⟨w.heap.size + 1 + 1, 1, none⟩ = some (.int .i64 0) := hz.cell 1
  have u2 : w5.cell? ⟨w.heap.size + 1 + 1, 2, none⟩ = some (.slice none 0 0) := hz.cell 2
  exact bodyPost_ret (v := .tuple #[.agg #[.int .i64 0, .int .i64 0, .slice none 0 0], .bool false]) (by simp [results, Try.results40, go_sem, u0, u1, u2]) rfl ⟨rfl, hb5⟩
end Go.Proofs.Ytokiodjdonbipaa
