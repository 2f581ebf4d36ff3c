/-
  The contract of the reference's Agree, where its first argument is what Public has made.
  Conditions: the terms lie in memory as a tree.
-/
import Derived.Test.YtddiclnkfhldlaaCon
import Derived.Deep.RegionHeld3
import Derived.Deep.DrawnRows
namespace Go.Proofs.Ytddiclnkfhldlaa
open Go.RowKit Go.Sort
set_option linter.unusedVariables false
def agreeT (t u : Tm) : Tm := if lessT u t = true then .mk 5 0 [u, t] else .mk 5 0 [t, u]
def AgreePost (S : Nat → Prop) (w : World) (t : Tm) (e : Ending) (w' : World) : Prop :=
  ∃ A c, e = .returned (.tuple #[.agg #[.int .i64 t.op, .int .i64 t.val, .slice A t.args.length c], .bool true]) ∧ TrS (SN S w) w' t A c ∧ Below w.heap.size w w'
theorem agree_fin {S : Nat → Prop} {w V : World} {t u : Tm} {AA B : Option Addr} {CC d n : Nat} (ht : TrS S w t AA CC) (hu : TrS S w u B d) (hb : Below w.heap.size w V) (hn : n = V.heap.size) :
    TrS (SN S w) (V.alloc (.cells #[.int .i64 t.op, .int .i64 t.val, .slice AA t.args.length CC, .int .i64 u.op, .int .i64 u.val, .slice B u.args.length d] 30)) (.mk 5 0 [t, u]) (some ⟨n, 0, none⟩) 2 ∧ Below w.heap.size w (V.alloc (.cells #[.int .i64 t.op, .int .i64 t.val, .slice AA t.args.length CC, .int .i64 u.op, .int .i64 u.val, .slice B u.args.length d] 30)) := by
  subst hn
  have h2 := hb.alloc hb.size (.cells #[.int .i64 t.op, .int .i64 t.val, .slice AA t.args.length CC, .int .i64 u.op, .int .i64 u.val, .slice B u.args.length d] 30)
  exact ⟨TrS.two (heap_alloc_new V _) (.inr hb.size) (ht.sn.bel h2) (hu.sn.bel h2) (fn (by omega) (by omega)) f0, h2⟩
theorem agree_ret {S : Nat → Prop} {w w5 : World} {t : Tm} {A : Option Addr} {c R : Nat} {a : Act} (hr : Blk w5 R 30 #[.int .i64 t.op, .int .i64 t.val, .slice A t.args.length c]) (ht : TrS (SN S w) w5 t A c) (hb : Below w.heap.size w w5)
    (h4 : a.tmps[4]?.getD undef = .pointer (some ⟨R, 0, none⟩)) (h5 : a.tmps[5]?.getD undef = .bool true) (hd : a.defers = []) :
    bodyPost Try.prog Try.f55 (AgreePost S w t) Exit.ret a w5 := by
  have d0 : w5.cell? ⟨R, 0, none⟩ = some (.int .i64 t.op) := hr.cell 0
  have d1 : w5.cell? ⟨R, 1, none⟩ = some (.int .i64 t.val) := hr.cell 1
  have d2 : w5.cell? ⟨R, 2, none⟩ = some (.slice A t.args.length c) := hr.cell 2
  refine bodyPost_ret (v := .tuple #[.agg #[.int .i64 t.op, .int .i64 t.val, .slice A t.args.length c], .bool true]) ?_ hd ⟨A, c, rfl, ht, hb⟩
  simp [results, Try.results55, go_sem, d0, d1, d2, h4, h5]
attribute [local go_sem ↓] Go.wp_at_zero Go.wp_at_succ
theorem ragree_any (S : Nat → Prop) (t u : Tm) (w : World) (A B : Option Addr) (c d : Nat) (ht : TrS S w (.mk 4 0 [t]) A c) (hu : TrS S w u B d) :
    Calls Try.prog 55 #[.agg #[.int .i64 4, .int .i64 0, .slice A 1 c], .agg #[.int .i64 u.op, .int .i64 u.val, .slice B u.args.length d]] w (AgreePost S w (agreeT t u)) := by
  obtain ⟨g, k, AA, CC, rfl, hSg, c0, c1, c2, htr⟩ := ht.at 0 (by simp)
  simp only [Tm.args_mk, List.getElem_cons_zero] at c0 c1 c2 htr
  have hgl := World.block_lt_of_cell? w ⟨g, k + 0 * 3, none⟩ c0
  have q0 : w.cell? ⟨g, k, none⟩ = some (.int .i64 t.op) := by simpa using c0
  have q1 : w.cell? ⟨g, k + 1, none⟩ = some (.int .i64 t.val) := by simpa using c1
  have q2 : w.cell? ⟨g, k + 2, none⟩ = some (.slice AA t.args.length CC) := by simpa using c2
  clear c0 c1 c2 ht
  have Ht := Lib.hid htr
  have Hu := Lib.hid hu
  clear htr hu
  have b1 : Blk (((w.alloc (Obj.cells #[.int .i64 4, .int .i64 0, .slice (some ⟨g, k, none⟩) 1 c] 30)).alloc (Obj.cells #[.int .i64 u.op, .int .i64 u.val, .slice B u.args.length d] 30)).alloc (Obj.cells #[.int .i64 0, .int .i64 0, .slice none 0 0] 30)) w.heap.size 30 #[.int .i64 4, .int .i64 0, .slice (some ⟨g, k, none⟩) 1 c] := Blk.alloc (Blk.alloc (heap_alloc_new w _) _) _
  have b2 : Blk (((w.alloc (Obj.cells #[.int .i64 4, .int .i64 0, .slice (some ⟨g, k, none⟩) 1 c] 30)).alloc (Obj.cells #[.int .i64 u.op, .int .i64 u.val, .slice B u.args.length d] 30)).alloc (Obj.cells #[.int .i64 0, .int .i64 0, .slice none 0 0] 30)) (w.heap.size + 1) 30 #[.int .i64 u.op, .int .i64 u.val, .slice B u.args.length d] := by
    have := heap_alloc_new (w.alloc (Obj.cells #[.int .i64 4, .int .i64 0, .slice (some ⟨g, k, none⟩) 1 c] 30)) (Obj.cells #[.int .i64 u.op, .int .i64 u.val, .slice B u.args.length d] 30)
    simp only [World.size_alloc] at this
    exact Blk.alloc this _
  have b3 : Blk (((w.alloc (Obj.cells #[.int .i64 4, .int .i64 0, .slice (some ⟨g, k, none⟩) 1 c] 30)).alloc (Obj.cells #[.int .i64 u.op, .int .i64 u.val, .slice B u.args.length d] 30)).alloc (Obj.cells #[.int .i64 0, .int .i64 0, .slice none 0 0] 30)) (w.heap.size + 1 + 1) 30 #[.int .i64 0, .int .i64 0, .slice none 0 0] := by
    have := heap_alloc_new ((w.alloc (Obj.cells #[.int .i64 4, .int .i64 0, .slice (some ⟨g, k, none⟩) 1 c] 30)).alloc (Obj.cells #[.int .i64 u.op, .int .i64 u.val, .slice B u.args.length d] 30)) (Obj.cells #[.int .i64 0, .int .i64 0, .slice none 0 0] 30)
    simp only [World.size_alloc] at this
    exact this
  have tt := ((Ht.out.alloc (Obj.cells #[.int .i64 4, .int .i64 0, .slice (some ⟨g, k, none⟩) 1 c] 30)).alloc (Obj.cells #[.int .i64 u.op, .int .i64 u.val, .slice B u.args.length d] 30)).alloc (Obj.cells #[.int .i64 0, .int .i64 0, .slice none 0 0] 30)
  have tu := ((Hu.out.alloc (Obj.cells #[.int .i64 4, .int .i64 0, .slice (some ⟨g, k, none⟩) 1 c] 30)).alloc (Obj.cells #[.int .i64 u.op, .int .i64 u.val, .slice B u.args.length d] 30)).alloc (Obj.cells #[.int .i64 0, .int .i64 0, .slice none 0 0] 30)
  have r0 := cell_alloc (o := Obj.cells #[.int .i64 0, .int .i64 0, .slice none 0 0] 30) (cell_alloc (o := Obj.cells #[.int .i64 u.op, .int .i64 u.val, .slice B u.args.length d] 30) (cell_alloc (o := Obj.cells #[.int .i64 4, .int .i64 0, .slice (some ⟨g, k, none⟩) 1 c] 30) q0))
  have r1 := cell_alloc (o := Obj.cells #[.int .i64 0, .int .i64 0, .slice none 0 0] 30) (cell_alloc (o := Obj.cells #[.int .i64 u.op, .int .i64 u.val, .slice B u.args.length d] 30) (cell_alloc (o := Obj.cells #[.int .i64 4, .int .i64 0, .slice (some ⟨g, k, none⟩) 1 c] 30) q1))
  have r2 := cell_alloc (o := Obj.cells #[.int .i64 0, .int .i64 0, .slice none 0 0] 30) (cell_alloc (o := Obj.cells #[.int .i64 u.op, .int .i64 u.val, .slice B u.args.length d] 30) (cell_alloc (o := Obj.cells #[.int .i64 4, .int .i64 0, .slice (some ⟨g, k, none⟩) 1 c] 30) q2))
  have sz : (((w.alloc (Obj.cells #[.int .i64 4, .int .i64 0, .slice (some ⟨g, k, none⟩) 1 c] 30)).alloc (Obj.cells #[.int .i64 u.op, .int .i64 u.val, .slice B u.args.length d] 30)).alloc (Obj.cells #[.int .i64 0, .int .i64 0, .slice none 0 0] 30)).heap.size = w.heap.size + 1 + 1 + 1 := by simp
  have bb : Below w.heap.size w (((w.alloc (Obj.cells #[.int .i64 4, .int .i64 0, .slice (some ⟨g, k, none⟩) 1 c] 30)).alloc (Obj.cells #[.int .i64 u.op, .int .i64 u.val, .slice B u.args.length d] 30)).alloc (Obj.cells #[.int .i64 0, .int .i64 0, .slice none 0 0] 30)) := (((Below.refl _ _).alloc (Nat.le_refl _) _).alloc (by simp) _).alloc (by simp; omega) _
  have HH := Lib.hid (And.intro b1 (And.intro b2 (And.intro b3 (And.intro tt (And.intro tu (And.intro r0 (And.intro r1 (And.intro r2 (And.intro sz bb)))))))))
  clear b1 b2 b3 tt tu r0 r1 r2 sz bb
  have Ht0 := Ht
  have Hu0 := Hu
  go_enter Try.func55, Try.ntmps55
  go_wp2_with fail
  clear q0 q1 q2 Ht Hu
  generalize ((w.alloc (Obj.cells #[.int .i64 4, .int .i64 0, .slice (some ⟨g, k, none⟩) 1 c] 30)).alloc (Obj.cells #[.int .i64 u.op, .int .i64 u.val, .slice B u.args.length d] 30)).alloc (Obj.cells #[.int .i64 0, .int .i64 0, .slice none 0 0] 30) = W at *
  obtain ⟨b1, b2, b3, tt, tu, r0, r1, r2, sz, bb⟩ := HH.out
  have c2 : W.cell? ⟨w.heap.size, 2, none⟩ = some (.slice (some ⟨g, k, none⟩) 1 c) := b1.cell 2
  have d0 : W.cell? ⟨w.heap.size + 1, 0, none⟩ = some (.int .i64 u.op) := b2.cell 0
  have d1 : W.cell? ⟨w.heap.size + 1, 1, none⟩ = some (.int .i64 u.val) := b2.cell 1
  have d2 : W.cell? ⟨w.heap.size + 1, 2, none⟩ = some (.slice B u.args.length d) := b2.cell 2
  have n0 := World.new_ne W _ r0
  have n1 := World.new_ne W _ r1
  have n2 := World.new_ne W _ r2
  have n3 := World.new_ne W _ c2
  have n4 := World.new_ne W _ d0
  have n5 := World.new_ne W _ d1
  have n6 := World.new_ne W _ d2
  have HB := Lib.hid (And.intro b1 (And.intro b2 (And.intro b3 (And.intro tt (And.intro tu bb)))))
  have HS := Lib.hid sz
  clear b1 b2 b3 tt tu bb sz HH
  go_region_held3 (fun w' => w'.cell? ⟨w.heap.size, 2, none⟩ = some (.slice (some ⟨g, k, none⟩) 1 c) ∧ w'.cell? ⟨g, k, none⟩ = some (.int .i64 t.op) ∧ w'.cell? ⟨g, k + 1, none⟩ = some (.int .i64 t.val) ∧ w'.cell? ⟨g, k + 2, none⟩ = some (.slice AA t.args.length CC) ∧ w'.cell? ⟨w.heap.size + 1, 0, none⟩ = some (.int .i64 u.op) ∧ w'.cell? ⟨w.heap.size + 1, 1, none⟩ = some (.int .i64 u.val) ∧ w'.cell? ⟨w.heap.size + 1, 2, none⟩ = some (.slice B u.args.length d)) (go_keep) (fail)
  · have e1 : Blk (((W.alloc (Obj.cells #[.int .i64 t.op, .int .i64 t.val, .slice AA t.args.length CC] 30)).alloc (Obj.cells #[.int .i64 u.op, .int .i64 u.val, .slice B u.args.length d] 30)).drew) W.heap.size 30 #[.int .i64 t.op, .int .i64 t.val, .slice AA t.args.length CC] := Blk.drewN (Blk.alloc (heap_alloc_new W _) _) 1
    have e2 : Blk (((W.alloc (Obj.cells #[.int .i64 t.op, .int .i64 t.val, .slice AA t.args.length CC] 30)).alloc (Obj.cells #[.int .i64 u.op, .int .i64 u.val, .slice B u.args.length d] 30)).drew) (W.heap.size + 1) 30 #[.int .i64 u.op, .int .i64 u.val, .slice B u.args.length d] := by
      have := heap_alloc_new (W.alloc (Obj.cells #[.int .i64 t.op, .int .i64 t.val, .slice AA t.args.length CC] 30)) (Obj.cells #[.int .i64 u.op, .int .i64 u.val, .slice B u.args.length d] 30)
      simp only [World.size_alloc] at this
      exact Blk.drewN this 1
    have e3 : Blk (((W.alloc (Obj.cells #[.int .i64 t.op, .int .i64 t.val, .slice AA t.args.length CC] 30)).alloc (Obj.cells #[.int .i64 u.op, .int .i64 u.val, .slice B u.args.length d] 30)).drew) (w.heap.size + 1 + 1) 30 #[.int .i64 0, .int .i64 0, .slice none 0 0] := Blk.drewN (Blk.alloc (Blk.alloc HB.out.2.2.1 _) _) 1
    have bb : Below w.heap.size w (((W.alloc (Obj.cells #[.int .i64 t.op, .int .i64 t.val, .slice AA t.args.length CC] 30)).alloc (Obj.cells #[.int .i64 u.op, .int .i64 u.val, .slice B u.args.length d] 30)).drew) := below_drewN ((HB.out.2.2.2.2.2.alloc HB.out.2.2.2.2.2.size _).alloc (by have := HB.out.2.2.2.2.2.size; simp; omega) _) 1
    have sz3 := HS.out
    clear n0 n1 n2 n3 n4 n5 n6 c2 d0 d1 d2 r0 r1 r2
    generalize ((W.alloc (Obj.cells #[.int .i64 t.op, .int .i64 t.val, .slice AA t.args.length CC] 30)).alloc (Obj.cells #[.int .i64 u.op, .int .i64 u.val, .slice B u.args.length d] 30)).drew = W3 at *
    obtain ⟨X, hX⟩ : ∃ X, X = W.heap.size := ⟨_, rfl⟩
    rw [← hX] at e1 e2 sz3 ⊢
    clear hX
    have b1 := e1
    have b2 := e2
    clear e1 e2
    have x0 : W3.cell? ⟨X, 0, none⟩ = some (.int .i64 t.op) := b1.cell 0
    have x1 : W3.cell? ⟨X, 1, none⟩ = some (.int .i64 t.val) := b1.cell 1
    have x2 : W3.cell? ⟨X, 2, none⟩ = some (.slice AA t.args.length CC) := b1.cell 2
    have y0 : W3.cell? ⟨X + 1, 0, none⟩ = some (.int .i64 u.op) := b2.cell 0
    have y1 : W3.cell? ⟨X + 1, 1, none⟩ = some (.int .i64 u.val) := b2.cell 1
    have y2 : W3.cell? ⟨X + 1, 2, none⟩ = some (.slice B u.args.length d) := b2.cell 2
    have KB := Lib.hid (And.intro b1 (And.intro b2 (And.intro e3 bb)))
    have hXw : w.heap.size + 1 + 1 < X := by omega
    clear b1 b2 e3 bb HS HB sz3
    go_wp2_with fail
    refine (rless_any u t W3 B AA d CC (Hu0.out.tr.bel KB.out.2.2.2) (Ht0.out.tr.bel KB.out.2.2.2)).mono ?_
    rintro e w4 ⟨rfl, hb4⟩
    clear x0 x1 x2 y0 y1 y2
    have b1 := KB.out.1.below hb4 KB.out.1.lt
    have b2 := KB.out.2.1.below hb4 KB.out.2.1.lt
    have b3 := KB.out.2.2.1.below hb4 KB.out.2.2.1.lt
    have bb := below_then KB.out.2.2.2 hb4 KB.out.2.2.2.size
    have x0 : w4.cell? ⟨X, 0, none⟩ = some (.int .i64 t.op) := b1.cell 0
    have x1 : w4.cell? ⟨X, 1, none⟩ = some (.int .i64 t.val) := b1.cell 1
    have x2 : w4.cell? ⟨X, 2, none⟩ = some (.slice AA t.args.length CC) := b1.cell 2
    have y0 : w4.cell? ⟨X + 1, 0, none⟩ = some (.int .i64 u.op) := b2.cell 0
    have y1 : w4.cell? ⟨X + 1, 1, none⟩ = some (.int .i64 u.val) := b2.cell 1
    have y2 : w4.cell? ⟨X + 1, 2, none⟩ = some (.slice B u.args.length d) := b2.cell 2
    have z0 : w4.cell? ⟨w.heap.size + 1 + 1, 0, none⟩ = some (.int .i64 0) := b3.cell 0
    have z1 : w4.cell? ⟨w.heap.size + 1 + 1, 1, none⟩ = some (.int .i64 0) := b3.cell 1
    have z2 : w4.cell? ⟨w.heap.size + 1 + 1, 2, none⟩ = some (.slice none 0 0) := b3.cell 2
    have fx0 := b1.free 0
    have fx1 := b1.free 1
    have fx2 := b1.free 2
    have fy0 := b2.free 0
    have fy1 := b2.free 1
    have fy2 := b2.free 2
    have fz0 := b3.free 0
    have fz1 := b3.free 1
    have fz2 := b3.free 2
    have hX4 : X + 1 < w4.heap.size := b2.lt
    have hZ4 : w.heap.size + 1 + 1 < w4.heap.size := by omega
    have hX5 : X < w4.heap.size := by omega
    have nX : w.heap.size + 1 + 1 ≠ X := by omega
    have nX1 : w.heap.size + 1 + 1 ≠ X + 1 := by omega
    have LB := Lib.hid (And.intro b1 (And.intro b2 (And.intro b3 bb)))
    clear hb4 KB b1 b2 b3 bb
    cases hless : lessT u t
    · have HL := Lib.hid hless
      clear hless
      go_wp2_with fail
      have hbV : Below w.heap.size w (((w4.setCell ⟨w.heap.size + 1 + 1, 0, none⟩ (.int .i64 5)).setCell ⟨w.heap.size + 1 + 1, 1, none⟩ (.int .i64 0)).setCell ⟨w.heap.size + 1 + 1, 2, none⟩ (.slice (some ⟨w4.heap.size, 0, none⟩) 2 2)) := by
        refine Below.setCell (p := ⟨w.heap.size + 1 + 1, 2, none⟩) (Below.setCell (p := ⟨w.heap.size + 1 + 1, 1, none⟩) (Below.setCell (p := ⟨w.heap.size + 1 + 1, 0, none⟩) ?_ (by simp; omega) _) (by simp; omega) _) (by simp; omega) _
        exact LB.out.2.2.2
      have hz := (((LB.out.2.2.1.put 0 (.int .i64 5)).put 1 (.int .i64 0)).put 2 (.slice (some ⟨w4.heap.size, 0, none⟩) 2 2)).alloc (Obj.cells #[.int .i64 t.op, .int .i64 t.val, .slice AA t.args.length CC, .int .i64 u.op, .int .i64 u.val, .slice B u.args.length d] 30)
      simp only [List.setIfInBounds_toArray, List.set_cons_zero, List.set_cons_succ] at hz
      have hn : w4.heap.size = ((((w4.setCell ⟨w.heap.size + 1 + 1, 0, none⟩ (.int .i64 5)).setCell ⟨w.heap.size + 1 + 1, 1, none⟩ (.int .i64 0)).setCell ⟨w.heap.size + 1 + 1, 2, none⟩ (.slice (some ⟨w4.heap.size, 0, none⟩) 2 2))).heap.size := by simp
      obtain ⟨hf1, hf2⟩ := agree_fin Ht0.out Hu0.out hbV hn
      have hag : agreeT t u = .mk 5 0 [t, u] := by unfold agreeT; rw [HL.out]; rfl
      rw [hag]
      exact agree_ret (t := .mk 5 0 [t, u]) hz hf1 hf2 rfl rfl rfl
    · have HL := Lib.hid hless
      clear hless
      go_wp2_with fail
      have hbV : Below w.heap.size w (((((((((w4.setCell ⟨X, 0, none⟩ (.int .i64 u.op)).setCell ⟨X, 1, none⟩ (.int .i64 u.val)).setCell ⟨X, 2, none⟩ (.slice B u.args.length d)).setCell ⟨X + 1, 0, none⟩ (.int .i64 t.op)).setCell ⟨X + 1, 1, none⟩ (.int .i64 t.val)).setCell ⟨X + 1, 2, none⟩ (.slice AA t.args.length CC)).setCell ⟨w.heap.size + 1 + 1, 0, none⟩ (.int .i64 5)).setCell ⟨w.heap.size + 1 + 1, 1, none⟩ (.int .i64 0)).setCell ⟨w.heap.size + 1 + 1, 2, none⟩ (.slice (some ⟨w4.heap.size, 0, none⟩) 2 2)) := by
        refine Below.setCell (p := ⟨w.heap.size + 1 + 1, 2, none⟩) (Below.setCell (p := ⟨w.heap.size + 1 + 1, 1, none⟩) (Below.setCell (p := ⟨w.heap.size + 1 + 1, 0, none⟩) ?_ (by simp; omega) _) (by simp; omega) _) (by simp; omega) _
        refine Below.setCell (p := ⟨X + 1, 2, none⟩) (Below.setCell (p := ⟨X + 1, 1, none⟩) (Below.setCell (p := ⟨X + 1, 0, none⟩) ?_ (by simp; omega) _) (by simp; omega) _) (by simp; omega) _
        refine Below.setCell (p := ⟨X, 2, none⟩) (Below.setCell (p := ⟨X, 1, none⟩) (Below.setCell (p := ⟨X, 0, none⟩) ?_ (by simp; omega) _) (by simp; omega) _) (by simp; omega) _
        exact LB.out.2.2.2
      have hz := (((((((((LB.out.2.2.1.far (p := ⟨X, 0, none⟩) (by simp; omega) (.int .i64 u.op)).far (p := ⟨X, 1, none⟩) (by simp; omega) (.int .i64 u.val)).far (p := ⟨X, 2, none⟩) (by simp; omega) (.slice B u.args.length d)).far (p := ⟨X + 1, 0, none⟩) (by simp; omega) (.int .i64 t.op)).far (p := ⟨X + 1, 1, none⟩) (by simp; omega) (.int .i64 t.val)).far (p := ⟨X + 1, 2, none⟩) (by simp; omega) (.slice AA t.args.length CC)).put 0 (.int .i64 5)).put 1 (.int .i64 0)).put 2 (.slice (some ⟨w4.heap.size, 0, none⟩) 2 2)).alloc (Obj.cells #[.int .i64 u.op, .int .i64 u.val, .slice B u.args.length d, .int .i64 t.op, .int .i64 t.val, .slice AA t.args.length CC] 30)
      simp only [List.setIfInBounds_toArray, List.set_cons_zero, List.set_cons_succ] at hz
      have hn : w4.heap.size = ((((((((((w4.setCell ⟨X, 0, none⟩ (.int .i64 u.op)).setCell ⟨X, 1, none⟩ (.int .i64 u.val)).setCell ⟨X, 2, none⟩ (.slice B u.args.length d)).setCell ⟨X + 1, 0, none⟩ (.int .i64 t.op)).setCell ⟨X + 1, 1, none⟩ (.int .i64 t.val)).setCell ⟨X + 1, 2, none⟩ (.slice AA t.args.length CC)).setCell ⟨w.heap.size + 1 + 1, 0, none⟩ (.int .i64 5)).setCell ⟨w.heap.size + 1 + 1, 1, none⟩ (.int .i64 0)).setCell ⟨w.heap.size + 1 + 1, 2, none⟩ (.slice (some ⟨w4.heap.size, 0, none⟩) 2 2))).heap.size := by simp
      obtain ⟨hf1, hf2⟩ := agree_fin Hu0.out Ht0.out hbV hn
      have hag : agreeT t u = .mk 5 0 [u, t] := by unfold agreeT; rw [HL.out]; rfl
      rw [hag]
      exact agree_ret (t := .mk 5 0 [u, t]) hz hf1 hf2 rfl rfl rfl
  · have e1 : Blk (((W.alloc (Obj.cells #[.int .i64 u.op, .int .i64 u.val, .slice B u.args.length d] 30)).alloc (Obj.cells #[.int .i64 t.op, .int .i64 t.val, .slice AA t.args.length CC] 30)).drew) W.heap.size 30 #[.int .i64 u.op, .int .i64 u.val, .slice B u.args.length d] := Blk.drewN (Blk.alloc (heap_alloc_new W _) _) 1
    have e2 : Blk (((W.alloc (Obj.cells #[.int .i64 u.op, .int .i64 u.val, .slice B u.args.length d] 30)).alloc (Obj.cells #[.int .i64 t.op, .int .i64 t.val, .slice AA t.args.length CC] 30)).drew) (W.heap.size + 1) 30 #[.int .i64 t.op, .int .i64 t.val, .slice AA t.args.length CC] := by
      have := heap_alloc_new (W.alloc (Obj.cells #[.int .i64 u.op, .int .i64 u.val, .slice B u.args.length d] 30)) (Obj.cells #[.int .i64 t.op, .int .i64 t.val, .slice AA t.args.length CC] 30)
      simp only [World.size_alloc] at this
      exact Blk.drewN this 1
    have e3 : Blk (((W.alloc (Obj.cells #[.int .i64 u.op, .int .i64 u.val, .slice B u.args.length d] 30)).alloc (Obj.cells #[.int .i64 t.op, .int .i64 t.val, .slice AA t.args.length CC] 30)).drew) (w.heap.size + 1 + 1) 30 #[.int .i64 0, .int .i64 0, .slice none 0 0] := Blk.drewN (Blk.alloc (Blk.alloc HB.out.2.2.1 _) _) 1
    have bb : Below w.heap.size w (((W.alloc (Obj.cells #[.int .i64 u.op, .int .i64 u.val, .slice B u.args.length d] 30)).alloc (Obj.cells #[.int .i64 t.op, .int .i64 t.val, .slice AA t.args.length CC] 30)).drew) := below_drewN ((HB.out.2.2.2.2.2.alloc HB.out.2.2.2.2.2.size _).alloc (by have := HB.out.2.2.2.2.2.size; simp; omega) _) 1
    have sz3 := HS.out
    clear n0 n1 n2 n3 n4 n5 n6 c2 d0 d1 d2 r0 r1 r2
    generalize ((W.alloc (Obj.cells #[.int .i64 u.op, .int .i64 u.val, .slice B u.args.length d] 30)).alloc (Obj.cells #[.int .i64 t.op, .int .i64 t.val, .slice AA t.args.length CC] 30)).drew = W3 at *
    obtain ⟨X, hX⟩ : ∃ X, X = W.heap.size := ⟨_, rfl⟩
    rw [← hX] at e1 e2 sz3 ⊢
    clear hX
    have b1 := e2
    have b2 := e1
    clear e1 e2
    have x0 : W3.cell? ⟨X + 1, 0, none⟩ = some (.int .i64 t.op) := b1.cell 0
    have x1 : W3.cell? ⟨X + 1, 1, none⟩ = some (.int .i64 t.val) := b1.cell 1
    have x2 : W3.cell? ⟨X + 1, 2, none⟩ = some (.slice AA t.args.length CC) := b1.cell 2
    have y0 : W3.cell? ⟨X, 0, none⟩ = some (.int .i64 u.op) := b2.cell 0
    have y1 : W3.cell? ⟨X, 1, none⟩ = some (.int .i64 u.val) := b2.cell 1
    have y2 : W3.cell? ⟨X, 2, none⟩ = some (.slice B u.args.length d) := b2.cell 2
    have KB := Lib.hid (And.intro b1 (And.intro b2 (And.intro e3 bb)))
    have hXw : w.heap.size + 1 + 1 < X := by omega
    clear b1 b2 e3 bb HS HB sz3
    go_wp2_with fail
    refine (rless_any u t W3 B AA d CC (Hu0.out.tr.bel KB.out.2.2.2) (Ht0.out.tr.bel KB.out.2.2.2)).mono ?_
    rintro e w4 ⟨rfl, hb4⟩
    clear x0 x1 x2 y0 y1 y2
    have b1 := KB.out.1.below hb4 KB.out.1.lt
    have b2 := KB.out.2.1.below hb4 KB.out.2.1.lt
    have b3 := KB.out.2.2.1.below hb4 KB.out.2.2.1.lt
    have bb := below_then KB.out.2.2.2 hb4 KB.out.2.2.2.size
    have x0 : w4.cell? ⟨X + 1, 0, none⟩ = some (.int .i64 t.op) := b1.cell 0
    have x1 : w4.cell? ⟨X + 1, 1, none⟩ = some (.int .i64 t.val) := b1.cell 1
    have x2 : w4.cell? ⟨X + 1, 2, none⟩ = some (.slice AA t.args.length CC) := b1.cell 2
    have y0 : w4.cell? ⟨X, 0, none⟩ = some (.int .i64 u.op) := b2.cell 0
    have y1 : w4.cell? ⟨X, 1, none⟩ = some (.int .i64 u.val) := b2.cell 1
    have y2 : w4.cell? ⟨X, 2, none⟩ = some (.slice B u.args.length d) := b2.cell 2
    have z0 : w4.cell? ⟨w.heap.size + 1 + 1, 0, none⟩ = some (.int .i64 0) := b3.cell 0
    have z1 : w4.cell? ⟨w.heap.size + 1 + 1, 1, none⟩ = some (.int .i64 0) := b3.cell 1
    have z2 : w4.cell? ⟨w.heap.size + 1 + 1, 2, none⟩ = some (.slice none 0 0) := b3.cell 2
    have fx0 := b1.free 0
    have fx1 := b1.free 1
    have fx2 := b1.free 2
    have fy0 := b2.free 0
    have fy1 := b2.free 1
    have fy2 := b2.free 2
    have fz0 := b3.free 0
    have fz1 := b3.free 1
    have fz2 := b3.free 2
    have hX4 : X + 1 < w4.heap.size := b1.lt
    have hZ4 : w.heap.size + 1 + 1 < w4.heap.size := by omega
    have hX5 : X < w4.heap.size := by omega
    have nX : w.heap.size + 1 + 1 ≠ X := by omega
    have nX1 : w.heap.size + 1 + 1 ≠ X + 1 := by omega
    have LB := Lib.hid (And.intro b1 (And.intro b2 (And.intro b3 bb)))
    clear hb4 KB b1 b2 b3 bb
    cases hless : lessT u t
    · have HL := Lib.hid hless
      clear hless
      go_wp2_with fail
      have hbV : Below w.heap.size w (((w4.setCell ⟨w.heap.size + 1 + 1, 0, none⟩ (.int .i64 5)).setCell ⟨w.heap.size + 1 + 1, 1, none⟩ (.int .i64 0)).setCell ⟨w.heap.size + 1 + 1, 2, none⟩ (.slice (some ⟨w4.heap.size, 0, none⟩) 2 2)) := by
        refine Below.setCell (p := ⟨w.heap.size + 1 + 1, 2, none⟩) (Below.setCell (p := ⟨w.heap.size + 1 + 1, 1, none⟩) (Below.setCell (p := ⟨w.heap.size + 1 + 1, 0, none⟩) ?_ (by simp; omega) _) (by simp; omega) _) (by simp; omega) _
        exact LB.out.2.2.2
      have hz := (((LB.out.2.2.1.put 0 (.int .i64 5)).put 1 (.int .i64 0)).put 2 (.slice (some ⟨w4.heap.size, 0, none⟩) 2 2)).alloc (Obj.cells #[.int .i64 t.op, .int .i64 t.val, .slice AA t.args.length CC, .int .i64 u.op, .int .i64 u.val, .slice B u.args.length d] 30)
      simp only [List.setIfInBounds_toArray, List.set_cons_zero, List.set_cons_succ] at hz
      have hn : w4.heap.size = ((((w4.setCell ⟨w.heap.size + 1 + 1, 0, none⟩ (.int .i64 5)).setCell ⟨w.heap.size + 1 + 1, 1, none⟩ (.int .i64 0)).setCell ⟨w.heap.size + 1 + 1, 2, none⟩ (.slice (some ⟨w4.heap.size, 0, none⟩) 2 2))).heap.size := by simp
      obtain ⟨hf1, hf2⟩ := agree_fin Ht0.out Hu0.out hbV hn
      have hag : agreeT t u = .mk 5 0 [t, u] := by unfold agreeT; rw [HL.out]; rfl
      rw [hag]
      exact agree_ret (t := .mk 5 0 [t, u]) hz hf1 hf2 rfl rfl rfl
    · have HL := Lib.hid hless
      clear hless
      go_wp2_with fail
      have hbV : Below w.heap.size w (((((((((w4.setCell ⟨X + 1, 0, none⟩ (.int .i64 u.op)).setCell ⟨X + 1, 1, none⟩ (.int .i64 u.val)).setCell ⟨X + 1, 2, none⟩ (.slice B u.args.length d)).setCell ⟨X, 0, none⟩ (.int .i64 t.op)).setCell ⟨X, 1, none⟩ (.int .i64 t.val)).setCell ⟨X, 2, none⟩ (.slice AA t.args.length CC)).setCell ⟨w.heap.size + 1 + 1, 0, none⟩ (.int .i64 5)).setCell ⟨w.heap.size + 1 + 1, 1, none⟩ (.int .i64 0)).setCell ⟨w.heap.size + 1 + 1, 2, none⟩ (.slice (some ⟨w4.heap.size, 0, none⟩) 2 2)) := by
        refine Below.setCell (p := ⟨w.heap.size + 1 + 1, 2, none⟩) (Below.setCell (p := ⟨w.heap.size + 1 + 1, 1, none⟩) (Below.setCell (p := ⟨w.heap.size + 1 + 1, 0, none⟩) ?_ (by simp; omega) _) (by simp; omega) _) (by simp; omega) _
        refine Below.setCell (p := ⟨X, 2, none⟩) (Below.setCell (p := ⟨X, 1, none⟩) (Below.setCell (p := ⟨X, 0, none⟩) ?_ (by simp; omega) _) (by simp; omega) _) (by simp; omega) _
        refine Below.setCell (p := ⟨X + 1, 2, none⟩) (Below.setCell (p := ⟨X + 1, 1, none⟩) (Below.setCell (p := ⟨X + 1, 0, none⟩) ?_ (by simp; omega) _) (by simp; omega) _) (by simp; omega) _
        exact LB.out.2.2.2
      have hz := (((((((((LB.out.2.2.1.far (p := ⟨X + 1, 0, none⟩) (by simp; omega) (.int .i64 u.op)).far (p := ⟨X + 1, 1, none⟩) (by simp; omega) (.int .i64 u.val)).far (p := ⟨X + 1, 2, none⟩) (by simp; omega) (.slice B u.args.length d)).far (p := ⟨X, 0, none⟩) (by simp; omega) (.int .i64 t.op)).far (p := ⟨X, 1, none⟩) (by simp; omega) (.int .i64 t.val)).far (p := ⟨X, 2, none⟩) (by simp; omega) (.slice AA t.args.length CC)).put 0 (.int .i64 5)).put 1 (.int .i64 0)).put 2 (.slice (some ⟨w4.heap.size, 0, none⟩) 2 2)).alloc (Obj.cells #[.int .i64 u.op, .int .i64 u.val, .slice B u.args.length d, .int .i64 t.op, .int .i64 t.val, .slice AA t.args.length CC] 30)
      simp only [List.setIfInBounds_toArray, List.set_cons_zero, List.set_cons_succ] at hz
      have hn : w4.heap.size = ((((((((((w4.setCell ⟨X + 1, 0, none⟩ (.int .i64 u.op)).setCell ⟨X + 1, 1, none⟩ (.int .i64 u.val)).setCell ⟨X + 1, 2, none⟩ (.slice B u.args.length d)).setCell ⟨X, 0, none⟩ (.int .i64 t.op)).setCell ⟨X, 1, none⟩ (.int .i64 t.val)).setCell ⟨X, 2, none⟩ (.slice AA t.args.length CC)).setCell ⟨w.heap.size + 1 + 1, 0, none⟩ (.int .i64 5)).setCell ⟨w.heap.size + 1 + 1, 1, none⟩ (.int .i64 0)).setCell ⟨w.heap.size + 1 + 1, 2, none⟩ (.slice (some ⟨w4.heap.size, 0, none⟩) 2 2))).heap.size := by simp
      obtain ⟨hf1, hf2⟩ := agree_fin Hu0.out Ht0.out hbV hn
      have hag : agreeT t u = .mk 5 0 [u, t] := by unfold agreeT; rw [HL.out]; rfl
      rw [hag]
      exact agree_ret (t := .mk 5 0 [u, t]) hz hf1 hf2 rfl rfl rfl
end Go.Proofs.Ytddiclnkfhldlaa
