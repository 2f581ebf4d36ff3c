/-
  The contract of chacha's Block.
  Conditions: the table of the quarters lies as its initialiser lays it.
-/
import Derived.Test.YtoojiofgmamjeaaDoorBlkP
import Derived.Test.YtoojiofgmamjeaaDoorFour
import Derived.Deep.AppendLies
namespace Go.Proofs.YtoojiofgmamjeaaDoor
open Go.RowKit
set_option linter.unusedVariables false
attribute [local go_sem ↓] Go.wp_at_zero Go.wp_at_succ
theorem byt3' (x : BitVec 32) : (x.toNat : Int) / 16777216 = ((byt x 3).toNat : Int) := by
  have := byt3 x
  have h := x.isLt
  omega
theorem load_one (w : World) {a : Addr} {x : Int} (h : w.cell? a = some (.int .u32 x)) : (loadVar 23 a).run Tryd.prog w = .ok (.int .u32 x) w := by
  simp [go_sem, h]
theorem codes_info : (Tryd.prog.info? 5).map (fun i => (i.zero, i.size, i.bytes)) = some (some (.int .u8 0), 1, 1) := by kernel_rfl
theorem own_ge {w : World} {base e size n : Nat} {v : Value} {xs : List Value} (h : w.ownsRow base e size v n xs) : ∀ g, v.ownBlock = some g → base ≤ g := by
  intro g hvg
  rcases h.2 with ⟨rfl, _⟩ | ⟨g', cap, cur, rfl, hb, _⟩
  · cases hvg
  · injection hvg with e
    subst e
    exact hb
/-- A block of 64 bytes. -/
def BlkPost (w : World) (b : Nat → BitVec 8) (e : Ending) (w' : World) : Prop :=
  ∃ A c, e = .returned (.tuple #[.slice A 64 c, .bool true]) ∧ (∃ g, A = some ⟨g, 0, none⟩ ∧ w.heap.size ≤ g) ∧ 64 ≤ c ∧ c ≤ maxLen ∧ Byf w' A 64 b ∧ Below w.heap.size w w'
theorem outPost {w w' : World} {base : Nat} {A : Option Addr} {c : Nat} {s : St} (h : w'.ownsRow base 5 1 (.slice A (4 * 16) c) (4 * 16) (outL s (4 * 16))) (hb : Below w.heap.size w w') (hle : w.heap.size ≤ base) :
    (∃ g, A = some ⟨g, 0, none⟩ ∧ w.heap.size ≤ g) ∧ 64 ≤ c ∧ c ≤ maxLen ∧ Byf w' A 64 (bl s) ∧ Below w.heap.size w w' := by
  rcases h.2 with ⟨h0, h1⟩ | ⟨g, cap, cur, hv, hbase, hg, hn, hm, hs, ht⟩
  · injection h0 with e1 e2 e3
    omega
  · injection hv with e1 e2 e3
    subst e1; subst e3
    refine ⟨⟨g, rfl, Nat.le_trans hle hbase⟩, hn, hm, fun k hk => ⟨g, 0, rfl, ?_⟩, hb⟩
    have h1 := h.cellAt k (by omega)
    rw [Nat.zero_add, h1]
    unfold outL
    simp [hk, u8v]
/-- What the head of a round of the third loop finds. -/
structure OIn (w1 W3 wr : World) (cs : Array Value) (s : St) (v : Value) (j : Nat) : Prop where
  f : Blk wr w1.heap.size 41 cs
  o : wr.ownsRow W3.heap.size 5 1 v (4 * j) (outL s (4 * j))
  b : Below W3.heap.size W3 wr
set_option maxRecDepth 100000 in
set_option maxHeartbeats 2000000 in
theorem block_any (g o cap g2 o2 cap2 : Nat) (f n : Nat → BitVec 8) (c : BitVec 32) (w : World) (ht : Tab w) (h : Byf w (some ⟨g, o, none⟩) 32 f) (h2 : Byf w (some ⟨g2, o2, none⟩) 12 n) (hc1 : 32 ≤ cap) (hc2 : 12 ≤ cap2) (hm1 : cap ≤ maxLen) (hm2 : cap2 ≤ maxLen) :
    Calls Tryd.prog 8 #[.slice (some ⟨g, o, none⟩) 32 cap, .int .u32 (c.toNat : Nat), .slice (some ⟨g2, o2, none⟩) 12 cap2] w (BlkPost w (bl (st0 f c n))) := by
  have hs := state_any g o cap g2 o2 cap2 f n c w h h2 hc1 hc2 hm1 hm2
  have HS := Lib.hid hs
  have HT := Lib.hid ht
  clear hs h h2 ht
  generalize hst : st0 f c n = s at *
  clear hst
  obtain ⟨i0, hi0, hz0, hz1, hz2⟩ := info_parts codes_info
  have E : Hid (∃ cs, cs = stA s) := ⟨_, rfl⟩
  obtain ⟨cs, hcs⟩ := E.out
  have hi : (Tryd.prog.info? 41).map (·.size) = some cs.size := by rw [hcs]; exact st_size
  have h1 : cs.all (·.oneCell') = true := by rw [hcs]; exact stA_one _
  have h16 : cs.size = 16 := by rw [hcs]; exact stA_size _
  have HI := Lib.hid hi
  have HO := Lib.hid h1
  have H16 := Lib.hid h16
  rw [← hcs] at HS
  have HC := Lib.hid hcs
  clear E hi h1 h16 hcs
  go_enter Tryd.func8, Tryd.ntmps8
  go_wp2_with fail
  refine HS.out.mono ?_
  rintro e w1 ⟨rfl, hb1⟩
  have HB1 := Lib.hid hb1
  clear hb1 HS
  go_wp2_with (first | ((with_reducible refine wpList_store_row (o := ⟨none, .store 41 (.tmp 8) (.tmp 21), _, _, _, _⟩) ?_ 41 (.tmp 8) (.tmp 21) ?_ (w1.heap.size) cs ?_ ?_ 41 #[.int .u32 0, .int .u32 0, .int .u32 0, .int .u32 0, .int .u32 0, .int .u32 0, .int .u32 0, .int .u32 0, .int .u32 0, .int .u32 0, .int .u32 0, .int .u32 0, .int .u32 0, .int .u32 0, .int .u32 0, .int .u32 0] ?_ ?_ ?_ ?_ ?_); exact rfl; exact rfl; exact rfl; exact rfl; exact heap_alloc_new w1 _; exact HI.out; exact H16.out.symm; exact HO.out; rw [setRow_alloc_at _ _ _ _ _ (by simp)]) | ((with_reducible refine wpList_load_row (o := ⟨some 25, .load 41 (.tmp 8), _, _, _, _⟩) ?_ 41 (.tmp 8) ?_ (w1.heap.size) ?_ 41 cs (0, 0) (.array 16 23) ?_ ?_ ?_ ?_ ?_); exact rfl; exact rfl; exact rfl; exact heap_alloc_new w1 _; exact Tryd.underlying41; exact rfl; exact HI.out) | ((with_reducible refine wpList_store_row (o := ⟨none, .store 41 (.tmp 10) (.tmp 25), _, _, _, _⟩) ?_ 41 (.tmp 10) (.tmp 25) ?_ (w1.heap.size + 1) cs ?_ ?_ 41 #[.int .u32 0, .int .u32 0, .int .u32 0, .int .u32 0, .int .u32 0, .int .u32 0, .int .u32 0, .int .u32 0, .int .u32 0, .int .u32 0, .int .u32 0, .int .u32 0, .int .u32 0, .int .u32 0, .int .u32 0, .int .u32 0] ?_ ?_ ?_ ?_ ?_); exact rfl; exact rfl; exact rfl; exact rfl; exact heap_alloc_next w1 _ _; exact HI.out; exact H16.out.symm; exact HO.out; rw [setRow_alloc_at _ _ _ _ _ (by simp)]))
  have z1 : Blk ((w1.alloc (Obj.cells cs 41)).alloc (Obj.cells cs 41)) w1.heap.size 41 cs := Blk.alloc (heap_alloc_new w1 _) _
  have z2 : Blk ((w1.alloc (Obj.cells cs 41)).alloc (Obj.cells cs 41)) (w1.heap.size + 1) 41 (stA (rnd s 0)) := by rw [show stA (rnd s 0) = cs from HC.out.symm]; exact heap_alloc_next w1 _ _
  have z3 : Below w1.heap.size w1 ((w1.alloc (Obj.cells cs 41)).alloc (Obj.cells cs 41)) := ((Below.refl _ _).alloc (Nat.le_refl _) _).alloc (by simp) _
  have Z := Lib.hid (BIn.mk z1 z2 z3)
  clear z1 z2 z3
  generalize (w1.alloc (Obj.cells cs 41)).alloc (Obj.cells cs 41) = W0 at *
  go_loopw [26] (fun i wr => ∃ m : Nat, m ≤ 10 ∧ i = .int .i64 m ∧ BIn w1 wr cs (rnd s m)) (fun i _ => 10 - (intOf i).toNat)
  case atStart => exact ⟨0, by omega, rfl, Z.out⟩
  case round =>
    obtain ⟨m, hm, rfl, hz⟩ := hrel
    have HZ := Lib.hid hz
    clear hz Z
    by_cases hlt : m < 10
    · obtain ⟨tt, fr, hg⟩ := (HT.out.bel HB1.out).bel (HZ.out.below')
      have HG := Lib.hid hg
      clear hg
      obtain ⟨wo, rfl⟩ : ∃ wo : World, wo = wr := ⟨_, rfl⟩
      go_wp2_with ((with_reducible refine wpList_load_row (o := ⟨some 28, .load 45 (.global 0), _, _, _, _⟩) ?_ 45 (.global 0) ?_ 0 ?_ tt tab fr (.array 8 44) ?_ ?_ ?_ ?_ ?_); exact rfl; exact rfl; exact rfl; exact HG.out; exact Tryd.underlying45; exact rfl; exact (by kernel_rfl))
      go_loopw [29] (fun i wr => ∃ k : Nat, k ≤ 8 ∧ i = .int .i64 k ∧ BIn w1 wr cs (dbl (rnd s m) k)) (fun i _ => 8 - (intOf i).toNat)
      case atStart => exact ⟨0, by omega, rfl, HZ.out⟩
      case round =>
        obtain ⟨k, hk, rfl, hz⟩ := hrel
        have HY := Lib.hid hz
        clear hz
        by_cases hlk : k < 8
        · have hidx := tab_at k hlk
          have r0 := qj_lt k 0 hlk (by omega)
          have r1 := qj_lt k 1 hlk (by omega)
          have r2 := qj_lt k 2 hlk (by omega)
          have r3 := qj_lt k 3 hlk (by omega)
          have hdbl : dbl (rnd s m) (k + 1) = mix4 (dbl (rnd s m) k) (qj k 0) (qj k 1) (qj k 2) (qj k 3) := rfl
          have HD := Lib.hid hdbl
          clear hdbl
          generalize qj k 0 = q0 at *
          generalize qj k 1 = q1 at *
          generalize qj k 2 = q2 at *
          generalize qj k 3 = q3 at *
          have ya : (wr.alloc (.cells #[.int .i64 (q0 : Nat), .int .i64 (q1 : Nat), .int .i64 (q2 : Nat), .int .i64 (q3 : Nat)] 44)).heap[w1.heap.size + 1]? = _ := HY.out.s.alloc _
          have yb : Blk (wr.alloc (.cells #[.int .i64 (q0 : Nat), .int .i64 (q1 : Nat), .int .i64 (q2 : Nat), .int .i64 (q3 : Nat)] 44)) wr.heap.size 44 _ := heap_alloc_new wr _
          have yc := HY.out.s.lt
          have YB := Lib.hid (BIn.mk (HY.out.f.alloc (.cells #[.int .i64 (q0 : Nat), .int .i64 (q1 : Nat), .int .i64 (q2 : Nat), .int .i64 (q3 : Nat)] 44)) ya (HY.out.b.alloc HY.out.b.size _))
          have x0 := fun (j : Nat) (hj : j < 16) => (Blk.cell ya j).trans (stA_get _ j hj)
          have f0 := fun (j : Nat) => Blk.free ya j
          have c0 := yb.cell 0
          have c1 := yb.cell 1
          have c2 := yb.cell 2
          have c3 := yb.cell 3
          have X0 := Lib.hid x0
          have F0 := Lib.hid f0
          clear ya yb x0 f0
          go_wp2_with fail
          generalize wr.alloc (.cells #[.int .i64 (q0 : Nat), .int .i64 (q1 : Nat), .int .i64 (q2 : Nat), .int .i64 (q3 : Nat)] 44) = W3 at *
          have x0 : W3.cell? ⟨w1.heap.size + 1, q0, none⟩ = some (.int .u32 ((dbl (rnd s m) k q0).toNat : Nat)) := X0.out q0 (by omega)
          have x1 : W3.cell? ⟨w1.heap.size + 1, q1, none⟩ = some (.int .u32 ((dbl (rnd s m) k q1).toNat : Nat)) := X0.out q1 (by omega)
          have x2 : W3.cell? ⟨w1.heap.size + 1, q2, none⟩ = some (.int .u32 ((dbl (rnd s m) k q2).toNat : Nat)) := X0.out q2 (by omega)
          have x3 : W3.cell? ⟨w1.heap.size + 1, q3, none⟩ = some (.int .u32 ((dbl (rnd s m) k q3).toNat : Nat)) := X0.out q3 (by omega)
          have f0 := F0.out q0
          have f1 := F0.out q1
          have f2 := F0.out q2
          have f3 := F0.out q3
          have hne : ¬ wr.heap.size = w1.heap.size + 1 := by omega
          have hne2 : ¬ w1.heap.size + 1 = wr.heap.size := by omega
          have m01 : ¬ q0 = q1 := by omega
          have m02 : ¬ q0 = q2 := by omega
          have m03 : ¬ q0 = q3 := by omega
          have m12 : ¬ q1 = q2 := by omega
          have m13 : ¬ q1 = q3 := by omega
          have m23 : ¬ q2 = q3 := by omega
          have i0 : (q0 : Int) < 16 := by omega
          have i1 : (q1 : Int) < 16 := by omega
          have i2 : (q2 : Int) < 16 := by omega
          have i3 : (q3 : Int) < 16 := by omega
          have j0 : (0 : Int) ≤ (q0 : Int) := by omega
          have j1 : (0 : Int) ≤ (q1 : Int) := by omega
          have j2 : (0 : Int) ≤ (q2 : Int) := by omega
          have j3 : (0 : Int) ≤ (q3 : Int) := by omega
          have HQ := Lib.hid (And.intro r0 (And.intro r1 (And.intro r2 r3)))
          clear r0 r1 r2 r3
          have HX := Lib.hid hidx
          clear hidx
          simp at c0 c1 c2 c3
          clear hlk hk
          have l0 := load_one W3.drew (show W3.drew.cell? ⟨w1.heap.size + 1, q0, none⟩ = some (.int .u32 ((dbl (rnd s m) k q0).toNat : Nat)) from x0)
          have l1 := load_one W3.drew (show W3.drew.cell? ⟨w1.heap.size + 1, q1, none⟩ = some (.int .u32 ((dbl (rnd s m) k q1).toNat : Nat)) from x1)
          have l2 := load_one W3.drew (show W3.drew.cell? ⟨w1.heap.size + 1, q2, none⟩ = some (.int .u32 ((dbl (rnd s m) k q2).toNat : Nat)) from x2)
          have l3 := load_one W3.drew (show W3.drew.cell? ⟨w1.heap.size + 1, q3, none⟩ = some (.int .u32 ((dbl (rnd s m) k q3).toNat : Nat)) from x3)
          have L0 := Lib.hid l0
          have L1 := Lib.hid l1
          have L2 := Lib.hid l2
          have L3 := Lib.hid l3
          clear l0 l1 l2 l3
          refine wp_region_held_drew (S := fun w' => w'.cell? ⟨wr.heap.size, 0, none⟩ = some (.int .i64 (q0 : Nat)) ∧ w'.cell? ⟨wr.heap.size, 1, none⟩ = some (.int .i64 (q1 : Nat)) ∧ w'.cell? ⟨wr.heap.size, 2, none⟩ = some (.int .i64 (q2 : Nat)) ∧ w'.cell? ⟨wr.heap.size, 3, none⟩ = some (.int .i64 (q3 : Nat))) (by kernel_rfl) ⟨c0, c1, c2, c3⟩ (fun hHeld => ?_)
          refine wpAnyH_take (i := 0) (oi := ⟨some 33, _, _, _, _, _⟩) (v := ?v0) rfl (by kernel_rfl) (by kernel_rfl) (by kernel_rfl) (fun _ _ _ h => h) (Or.inl ⟨by rfl, ?hy0⟩) hHeld ?rest0
          case hy0 => intro w hSw; (try dsimp only at hSw); go_simp; (try with_reducible rfl)
          simp only [Act.put, List.setIfInBounds_toArray, List.set_cons_zero, List.set_cons_succ]
          refine wpAnyH_take (i := 1) (oi := ⟨some 34, _, _, _, _, _⟩) (v := ?v1) rfl (by kernel_rfl) (by kernel_rfl) (by kernel_rfl) (fun _ _ _ h => h) (Or.inl ⟨by rfl, ?hy1⟩) hHeld ?rest1
          case hy1 => intro w hSw; (try dsimp only at hSw); go_simp; (try with_reducible rfl)
          simp only [Act.put, List.setIfInBounds_toArray, List.set_cons_zero, List.set_cons_succ]
          refine wpAnyH_take (i := 2) (oi := ⟨some 35, _, _, _, _, _⟩) (v := ?v2) rfl (by kernel_rfl) (by kernel_rfl) (by kernel_rfl) (fun _ _ _ h => h) (Or.inl ⟨by rfl, ?hy2⟩) hHeld ?rest2
          case hy2 => intro w hSw; (try dsimp only at hSw); go_simp; (try with_reducible rfl)
          simp only [Act.put, List.setIfInBounds_toArray, List.set_cons_zero, List.set_cons_succ]
          refine wpAnyH_take (i := 3) (oi := ⟨some 36, _, _, _, _, _⟩) (v := ?v3) rfl (by kernel_rfl) (by kernel_rfl) (by kernel_rfl) (fun _ _ _ h => h) (Or.inl ⟨by rfl, ?hy3⟩) hHeld ?rest3
          case hy3 => intro w hSw; (try dsimp only at hSw); go_simp; (try with_reducible rfl)
          simp only [Act.put, List.setIfInBounds_toArray, List.set_cons_zero, List.set_cons_succ]
          refine wpAnyH_take (i := 4) (oi := ⟨some 37, _, _, _, _, _⟩) (v := ?v4) rfl (by kernel_rfl) (by kernel_rfl) (by kernel_rfl) (fun _ _ _ h => h) (Or.inl ⟨by rfl, ?hy4⟩) hHeld ?rest4
          case hy4 => intro w hSw; (try dsimp only at hSw); go_simp; (try with_reducible rfl)
          simp only [Act.put, List.setIfInBounds_toArray, List.set_cons_zero, List.set_cons_succ]
          refine wpAnyH_take (i := 5) (oi := ⟨some 38, _, _, _, _, _⟩) (v := ?v5) rfl (by kernel_rfl) (by kernel_rfl) (by kernel_rfl) (fun _ _ _ h => h) (Or.inl ⟨by rfl, ?hy5⟩) hHeld ?rest5
          case hy5 => intro w hSw; (try dsimp only at hSw); go_simp; (try with_reducible rfl)
          simp only [Act.put, List.setIfInBounds_toArray, List.set_cons_zero, List.set_cons_succ]
          refine wpAnyH_take (i := 6) (oi := ⟨some 39, _, _, _, _, _⟩) (v := ?v6) rfl (by kernel_rfl) (by kernel_rfl) (by kernel_rfl) (fun _ _ _ h => h) (Or.inl ⟨by rfl, ?hy6⟩) hHeld ?rest6
          case hy6 => intro w hSw; (try dsimp only at hSw); go_simp; (try with_reducible rfl)
          simp only [Act.put, List.setIfInBounds_toArray, List.set_cons_zero, List.set_cons_succ]
          refine wpAnyH_take (i := 7) (oi := ⟨some 40, _, _, _, _, _⟩) (v := ?v7) rfl (by kernel_rfl) (by kernel_rfl) (by kernel_rfl) (fun _ _ _ h => h) (Or.inl ⟨by rfl, ?hy7⟩) hHeld ?rest7
          case hy7 => intro w hSw; (try dsimp only at hSw); go_simp; (try with_reducible rfl)
          simp only [Act.put, List.setIfInBounds_toArray, List.set_cons_zero, List.set_cons_succ]
          refine wpAnyH_take (i := 8) (oi := ⟨some 41, _, _, _, _, _⟩) (v := ?v8) rfl (by kernel_rfl) (by kernel_rfl) (by kernel_rfl) (fun _ _ _ h => h) (Or.inl ⟨by rfl, ?hy8⟩) hHeld ?rest8
          case hy8 => intro w hSw; (try dsimp only at hSw); go_simp; (try with_reducible rfl)
          simp only [Act.put, List.setIfInBounds_toArray, List.set_cons_zero, List.set_cons_succ]
          refine wpAnyH_take (i := 9) (oi := ⟨some 42, _, _, _, _, _⟩) (v := ?v9) rfl (by kernel_rfl) (by kernel_rfl) (by kernel_rfl) (fun _ _ _ h => h) (Or.inl ⟨by rfl, ?hy9⟩) hHeld ?rest9
          case hy9 => intro w hSw; (try dsimp only at hSw); go_simp; (try with_reducible rfl)
          simp only [Act.put, List.setIfInBounds_toArray, List.set_cons_zero, List.set_cons_succ]
          refine wpAnyH_take (i := 10) (oi := ⟨some 43, _, _, _, _, _⟩) (v := ?v10) rfl (by kernel_rfl) (by kernel_rfl) (by kernel_rfl) (fun _ _ _ h => h) (Or.inl ⟨by rfl, ?hy10⟩) hHeld ?rest10
          case hy10 => intro w hSw; (try dsimp only at hSw); go_simp; (try with_reducible rfl)
          simp only [Act.put, List.setIfInBounds_toArray, List.set_cons_zero, List.set_cons_succ]
          refine wpAnyH_take (i := 12) (oi := ⟨some 45, _, _, _, _, _⟩) (v := ?v12) rfl (by kernel_rfl) (by kernel_rfl) (by kernel_rfl) (fun _ _ _ h => h) (Or.inl ⟨by rfl, ?hy12⟩) hHeld ?rest12
          case hy12 => intro w hSw; (try dsimp only at hSw); go_simp; (try with_reducible rfl)
          simp only [Act.put, List.setIfInBounds_toArray, List.set_cons_zero, List.set_cons_succ]
          refine wpAnyH_take (i := 13) (oi := ⟨some 46, _, _, _, _, _⟩) (v := ?v13) rfl (by kernel_rfl) (by kernel_rfl) (by kernel_rfl) (fun _ _ _ h => h) (Or.inl ⟨by rfl, ?hy13⟩) hHeld ?rest13
          case hy13 => intro w hSw; (try dsimp only at hSw); go_simp; (try with_reducible rfl)
          simp only [Act.put, List.setIfInBounds_toArray, List.set_cons_zero, List.set_cons_succ]
          refine wpAnyH_take (i := 14) (oi := ⟨some 47, _, _, _, _, _⟩) (v := ?v14) rfl (by kernel_rfl) (by kernel_rfl) (by kernel_rfl) (fun _ _ _ h => h) (Or.inl ⟨by rfl, ?hy14⟩) hHeld ?rest14
          case hy14 => intro w hSw; (try dsimp only at hSw); go_simp; (try with_reducible rfl)
          simp only [Act.put, List.setIfInBounds_toArray, List.set_cons_zero, List.set_cons_succ]
          refine wpAnyH_take (i := 16) (oi := ⟨some 49, _, _, _, _, _⟩) (v := ?v16) rfl (by kernel_rfl) (by kernel_rfl) (by kernel_rfl) (fun _ _ _ h => h) (Or.inl ⟨by rfl, ?hy16⟩) hHeld ?rest16
          case hy16 => intro w hSw; (try dsimp only at hSw); go_simp; (try with_reducible rfl)
          simp only [Act.put, List.setIfInBounds_toArray, List.set_cons_zero, List.set_cons_succ]
          refine wpAnyH_take (i := 17) (oi := ⟨some 50, _, _, _, _, _⟩) (v := ?v17) rfl (by kernel_rfl) (by kernel_rfl) (by kernel_rfl) (fun _ _ _ h => h) (Or.inl ⟨by rfl, ?hy17⟩) hHeld ?rest17
          case hy17 => intro w hSw; (try dsimp only at hSw); go_simp; (try with_reducible rfl)
          simp only [Act.put, List.setIfInBounds_toArray, List.set_cons_zero, List.set_cons_succ]
          refine wpAnyH_take (i := 18) (oi := ⟨some 51, _, _, _, _, _⟩) (v := ?v18) rfl (by kernel_rfl) (by kernel_rfl) (by kernel_rfl) (fun _ _ _ h => h) (Or.inl ⟨by rfl, ?hy18⟩) hHeld ?rest18
          case hy18 => intro w hSw; (try dsimp only at hSw); go_simp; (try with_reducible rfl)
          simp only [Act.put, List.setIfInBounds_toArray, List.set_cons_zero, List.set_cons_succ]
          refine wpAnyH_take (i := 20) (oi := ⟨some 53, _, _, _, _, _⟩) (v := ?v20) rfl (by kernel_rfl) (by kernel_rfl) (by kernel_rfl) (fun _ _ _ h => h) (Or.inl ⟨by rfl, ?hy20⟩) hHeld ?rest20
          case hy20 => intro w hSw; (try dsimp only at hSw); go_simp; (try with_reducible rfl)
          simp only [Act.put, List.setIfInBounds_toArray, List.set_cons_zero, List.set_cons_succ]
          refine wpAnyH_take (i := 21) (oi := ⟨some 54, _, _, _, _, _⟩) (v := ?v21) rfl (by kernel_rfl) (by kernel_rfl) (by kernel_rfl) (fun _ _ _ h => h) (Or.inl ⟨by rfl, ?hy21⟩) hHeld ?rest21
          case hy21 => intro w hSw; (try dsimp only at hSw); go_simp; (try with_reducible rfl)
          simp only [Act.put, List.setIfInBounds_toArray, List.set_cons_zero, List.set_cons_succ]
          refine wpAnyH_take (i := 22) (oi := ⟨some 55, _, _, _, _, _⟩) (v := ?v22) rfl (by kernel_rfl) (by kernel_rfl) (by kernel_rfl) (fun _ _ _ h => h) (Or.inl ⟨by rfl, ?hy22⟩) hHeld ?rest22
          case hy22 => intro w hSw; (try dsimp only at hSw); go_simp; (try with_reducible rfl)
          simp only [Act.put, List.setIfInBounds_toArray, List.set_cons_zero, List.set_cons_succ]
          refine four_loads (i1 := 11) (i2 := 15) (i3 := 19) (i4 := 23) (t := 23) (n1 := 43) (n2 := 47) (n3 := 51) (n4 := 55) (d1 := 44) (d2 := 48) (d3 := 52) (d4 := 56) ⟨rfl, rfl, rfl, rfl⟩ ⟨rfl, rfl, rfl, rfl⟩ ⟨rfl, rfl, rfl, rfl⟩ ⟨rfl, rfl, rfl, rfl⟩ rfl L0.out rfl L1.out rfl L2.out rfl L3.out (by decide) (by decide) (by decide) (by kernel_rfl) (by kernel_rfl) (by kernel_rfl) (by kernel_rfl) (by kernel_rfl) (by kernel_rfl) (by kernel_rfl) (by kernel_rfl) (by kernel_rfl) (by kernel_rfl) (by kernel_rfl) (by kernel_rfl) (by kernel_rfl) (by kernel_rfl) (by kernel_rfl) hHeld ?_
          simp only [Act.put, List.setIfInBounds_toArray, List.set_cons_zero, List.set_cons_succ]
          refine wpAnyH_ready (rs := [24]) (by kernel_rfl) (by simp) ?_
          refine AllReadyH.cons (o := ⟨some 57, _, _, _, _, _⟩) rfl (fun K hK => ?_) AllReadyH.nil
          go_simp
          refine (quarter_any _ _ _ _ _).mono ?_
          rintro e w' ⟨rfl, rfl⟩
          refine hK.out _ _ hHeld (fun hHeld => ?_)
          clear hK K
          try simp only [Act.put, List.setIfInBounds_toArray, List.set_cons_zero, List.set_cons_succ]
          refine wpAnyH_take (i := 25) (oi := ⟨some 32, _, _, _, _, _⟩) (v := ?v25) rfl (by kernel_rfl) (by kernel_rfl) (by kernel_rfl) (fun _ _ _ h => h) (Or.inl ⟨by rfl, ?hy25⟩) hHeld ?rest25
          case hy25 => intro w hSw; (try dsimp only at hSw); go_simp; (try with_reducible rfl)
          try simp only [Act.put, List.setIfInBounds_toArray, List.set_cons_zero, List.set_cons_succ]
          refine wpAnyH_take (i := 26) (oi := ⟨some 58, _, _, _, _, _⟩) (v := ?v26) rfl (by kernel_rfl) (by kernel_rfl) (by kernel_rfl) (fun _ _ _ h => h) (Or.inl ⟨by rfl, ?hy26⟩) hHeld ?rest26
          case hy26 => intro w hSw; (try dsimp only at hSw); go_simp; (try with_reducible rfl)
          try simp only [Act.put, List.setIfInBounds_toArray, List.set_cons_zero, List.set_cons_succ]
          refine wpAnyH_take (i := 27) (oi := ⟨some 59, _, _, _, _, _⟩) (v := ?v27) rfl (by kernel_rfl) (by kernel_rfl) (by kernel_rfl) (fun _ _ _ h => h) (Or.inl ⟨by rfl, ?hy27⟩) hHeld ?rest27
          case hy27 => intro w hSw; (try dsimp only at hSw); go_simp; (try with_reducible rfl)
          try simp only [Act.put, List.setIfInBounds_toArray, List.set_cons_zero, List.set_cons_succ]
          refine wpAnyH_take (i := 28) (oi := ⟨some 60, _, _, _, _, _⟩) (v := ?v28) rfl (by kernel_rfl) (by kernel_rfl) (by kernel_rfl) (fun _ _ _ h => h) (Or.inl ⟨by rfl, ?hy28⟩) hHeld ?rest28
          case hy28 => intro w hSw; (try dsimp only at hSw); go_simp; (try with_reducible rfl)
          try simp only [Act.put, List.setIfInBounds_toArray, List.set_cons_zero, List.set_cons_succ]
          refine wpAnyH_take (i := 29) (oi := ⟨some 61, _, _, _, _, _⟩) (v := ?v29) rfl (by kernel_rfl) (by kernel_rfl) (by kernel_rfl) (fun _ _ _ h => h) (Or.inl ⟨by rfl, ?hy29⟩) hHeld ?rest29
          case hy29 => intro w hSw; (try dsimp only at hSw); go_simp; (try with_reducible rfl)
          try simp only [Act.put, List.setIfInBounds_toArray, List.set_cons_zero, List.set_cons_succ]
          refine wpAnyH_take (i := 30) (oi := ⟨some 62, _, _, _, _, _⟩) (v := ?v30) rfl (by kernel_rfl) (by kernel_rfl) (by kernel_rfl) (fun _ _ _ h => h) (Or.inl ⟨by rfl, ?hy30⟩) hHeld ?rest30
          case hy30 => intro w hSw; (try dsimp only at hSw); go_simp; (try with_reducible rfl)
          try simp only [Act.put, List.setIfInBounds_toArray, List.set_cons_zero, List.set_cons_succ]
          refine wpAnyH_ready (rs := [31]) (by kernel_rfl) (by simp) ?_
          refine AllReadyH.cons (o := ⟨none, _, _, _, _, _⟩) rfl (fun K hK => ?_) AllReadyH.nil
          go_simp
          refine hK.out _ _ ?_ (fun hHeld => ?_)
          · obtain ⟨s0, s1, s2, s3⟩ := hHeld
            exact ⟨(World.cell?_setCell_other _ _ _ _ (fun e => hne2 (by injection e))).trans s0, (World.cell?_setCell_other _ _ _ _ (fun e => hne2 (by injection e))).trans s1, (World.cell?_setCell_other _ _ _ _ (fun e => hne2 (by injection e))).trans s2, (World.cell?_setCell_other _ _ _ _ (fun e => hne2 (by injection e))).trans s3⟩
          clear hK K
          try simp only [Act.put, List.setIfInBounds_toArray, List.set_cons_zero, List.set_cons_succ]
          refine wpAnyH_take (i := 32) (oi := ⟨some 63, _, _, _, _, _⟩) (v := ?v32) rfl (by kernel_rfl) (by kernel_rfl) (by kernel_rfl) (fun _ _ _ h => h) (Or.inl ⟨by rfl, ?hy32⟩) hHeld ?rest32
          case hy32 => intro w hSw; (try dsimp only at hSw); go_simp; (try with_reducible rfl)
          try simp only [Act.put, List.setIfInBounds_toArray, List.set_cons_zero, List.set_cons_succ]
          refine wpAnyH_ready (rs := [33]) (by kernel_rfl) (by simp) ?_
          refine AllReadyH.cons (o := ⟨none, _, _, _, _, _⟩) rfl (fun K hK => ?_) AllReadyH.nil
          go_simp
          refine hK.out _ _ ?_ (fun hHeld => ?_)
          · obtain ⟨s0, s1, s2, s3⟩ := hHeld
            exact ⟨(World.cell?_setCell_other _ _ _ _ (fun e => hne2 (by injection e))).trans s0, (World.cell?_setCell_other _ _ _ _ (fun e => hne2 (by injection e))).trans s1, (World.cell?_setCell_other _ _ _ _ (fun e => hne2 (by injection e))).trans s2, (World.cell?_setCell_other _ _ _ _ (fun e => hne2 (by injection e))).trans s3⟩
          clear hK K
          try simp only [Act.put, List.setIfInBounds_toArray, List.set_cons_zero, List.set_cons_succ]
          refine wpAnyH_take (i := 34) (oi := ⟨some 64, _, _, _, _, _⟩) (v := ?v34) rfl (by kernel_rfl) (by kernel_rfl) (by kernel_rfl) (fun _ _ _ h => h) (Or.inl ⟨by rfl, ?hy34⟩) hHeld ?rest34
          case hy34 => intro w hSw; (try dsimp only at hSw); go_simp; (try with_reducible rfl)
          try simp only [Act.put, List.setIfInBounds_toArray, List.set_cons_zero, List.set_cons_succ]
          refine wpAnyH_ready (rs := [35]) (by kernel_rfl) (by simp) ?_
          refine AllReadyH.cons (o := ⟨none, _, _, _, _, _⟩) rfl (fun K hK => ?_) AllReadyH.nil
          go_simp
          refine hK.out _ _ ?_ (fun hHeld => ?_)
          · obtain ⟨s0, s1, s2, s3⟩ := hHeld
            exact ⟨(World.cell?_setCell_other _ _ _ _ (fun e => hne2 (by injection e))).trans s0, (World.cell?_setCell_other _ _ _ _ (fun e => hne2 (by injection e))).trans s1, (World.cell?_setCell_other _ _ _ _ (fun e => hne2 (by injection e))).trans s2, (World.cell?_setCell_other _ _ _ _ (fun e => hne2 (by injection e))).trans s3⟩
          clear hK K
          try simp only [Act.put, List.setIfInBounds_toArray, List.set_cons_zero, List.set_cons_succ]
          refine wpAnyH_take (i := 36) (oi := ⟨some 65, _, _, _, _, _⟩) (v := ?v36) rfl (by kernel_rfl) (by kernel_rfl) (by kernel_rfl) (fun _ _ _ h => h) (Or.inl ⟨by rfl, ?hy36⟩) hHeld ?rest36
          case hy36 => intro w hSw; (try dsimp only at hSw); go_simp; (try with_reducible rfl)
          try simp only [Act.put, List.setIfInBounds_toArray, List.set_cons_zero, List.set_cons_succ]
          refine wpAnyH_ready (rs := [37]) (by kernel_rfl) (by simp) ?_
          refine AllReadyH.cons (o := ⟨none, _, _, _, _, _⟩) rfl (fun K hK => ?_) AllReadyH.nil
          go_simp
          refine hK.out _ _ ?_ (fun hHeld => ?_)
          · obtain ⟨s0, s1, s2, s3⟩ := hHeld
            exact ⟨(World.cell?_setCell_other _ _ _ _ (fun e => hne2 (by injection e))).trans s0, (World.cell?_setCell_other _ _ _ _ (fun e => hne2 (by injection e))).trans s1, (World.cell?_setCell_other _ _ _ _ (fun e => hne2 (by injection e))).trans s2, (World.cell?_setCell_other _ _ _ _ (fun e => hne2 (by injection e))).trans s3⟩
          clear hK K
          try simp only [Act.put, List.setIfInBounds_toArray, List.set_cons_zero, List.set_cons_succ]
          refine wpAnyH_done (by kernel_rfl) ?_ _
          go_wp2_with fail
          go_roundw
          case rel =>
            refine ⟨k + 1, by omega, by go_num, ?_, ?_, ?_⟩
            · exact ((((YB.out.f.far (by simp) _).far (by simp) _).far (by simp) _).far (by simp) _)
            · have hz := ((((YB.out.s.put q0 (u32v (qr (dbl (rnd s m) k q0) (dbl (rnd s m) k q1) (dbl (rnd s m) k q2) (dbl (rnd s m) k q3)).a)).put q1 (u32v (qr (dbl (rnd s m) k q0) (dbl (rnd s m) k q1) (dbl (rnd s m) k q2) (dbl (rnd s m) k q3)).b)).put q2 (u32v (qr (dbl (rnd s m) k q0) (dbl (rnd s m) k q1) (dbl (rnd s m) k q2) (dbl (rnd s m) k q3)).c)).put q3 (u32v (qr (dbl (rnd s m) k q0) (dbl (rnd s m) k q1) (dbl (rnd s m) k q2) (dbl (rnd s m) k q3)).d))
              rw [stA_set _ _ (by omega), stA_set _ _ (by omega), stA_set _ _ (by omega), stA_set _ _ (by omega)] at hz
              rw [HD.out]
              exact hz
            · have hb := (((YB.out.b.setCell (p := ⟨w1.heap.size + 1, q0, none⟩) (Nat.le_succ _) (.int .u32 ((qr (dbl (rnd s m) k q0) (dbl (rnd s m) k q1) (dbl (rnd s m) k q2) (dbl (rnd s m) k q3)).a.toNat : Nat))).setCell (p := ⟨w1.heap.size + 1, q1, none⟩) (Nat.le_succ _) (.int .u32 ((qr (dbl (rnd s m) k q0) (dbl (rnd s m) k q1) (dbl (rnd s m) k q2) (dbl (rnd s m) k q3)).b.toNat : Nat))).setCell (p := ⟨w1.heap.size + 1, q2, none⟩) (Nat.le_succ _) (.int .u32 ((qr (dbl (rnd s m) k q0) (dbl (rnd s m) k q1) (dbl (rnd s m) k q2) (dbl (rnd s m) k q3)).c.toNat : Nat))).setCell (p := ⟨w1.heap.size + 1, q3, none⟩) (Nat.le_succ _) (.int .u32 ((qr (dbl (rnd s m) k q0) (dbl (rnd s m) k q1) (dbl (rnd s m) k q2) (dbl (rnd s m) k q3)).d.toNat : Nat))
              exact ⟨hb.os, hb.tape, hb.output, hb.size, hb.block⟩
          case measure => simp [intOf]; omega
        · obtain rfl : k = 8 := by omega
          go_wp2_with fail
          go_roundw
          case rel => exact ⟨m + 1, by omega, by go_num, HY.out⟩
          case measure => simp [intOf]; omega
    · obtain rfl : m = 10 := by omega
      have hf := HZ.out.f
      have hs := HZ.out.s
      have hB := below_then HB1.out HZ.out.b HB1.out.size
      have hlo : w1.heap.size + 1 < wr.heap.size := hs.lt
      have HF := Lib.hid hf
      have HL := Lib.hid (below_then HB1.out HZ.out.b HB1.out.size)
      have E2 : Hid (∃ es, es = stA (rnd s 10) ∧ Blk wr (w1.heap.size + 1) 41 es) := ⟨_, rfl, hs⟩
      obtain ⟨es, hes, hs'⟩ := E2.out
      have zi : (Tryd.prog.info? 41).map (·.size) = some es.size := by rw [hes]; exact st_size
      have hidx : ∀ i, i < 16 → ∀ w : World, (Instr.index 41 (.agg es) (.int .i64 (i : Nat))).run Tryd.prog w = .ok (.int .u32 ((rnd s 10 i).toNat : Nat)) w := by rw [hes]; exact idx_at _
      have JI := Lib.hid zi
      have JX := Lib.hid hidx
      have JS := Lib.hid hs'
      clear HZ hlt hf hs hB zi hidx hs' hes E2 hm
      rw [show ((10 : Nat) : Int) = 10 from rfl]
      go_wp2_with ((with_reducible refine wpList_load_row (o := ⟨some 68, .load 41 (.tmp 10), _, _, _, _⟩) ?_ 41 (.tmp 10) ?_ (w1.heap.size + 1) ?_ 41 es (0, 0) (.array 16 23) ?_ ?_ ?_ ?_ ?_); exact rfl; exact rfl; exact rfl; exact JS.out; exact Tryd.underlying41; exact rfl; exact JI.out)
      obtain ⟨W3, rfl⟩ : ∃ W3 : World, W3 = wr := ⟨_, rfl⟩
      go_loopw [13, 69] (fun v i wr => ∃ j : Nat, j ≤ 16 ∧ i = .int .i64 j ∧ OIn w1 W3 wr cs s v j) (fun _ i _ => 16 - (intOf i).toNat)
      case atStart => exact ⟨0, by omega, rfl, HF.out, World.ownsRow_nil _ _ _ _, Below.refl _ _⟩
      case round =>
        obtain ⟨j, hj, rfl, hz⟩ := hrel
        have HY := Lib.hid hz
        clear hz HF
        by_cases hlj : j < 16
        · have hix := JX.out j hlj
          obtain ⟨A, c', rfl⟩ : ∃ A c, u13 = .slice A (4 * j) c := own_form HY.out.o
          have hfc : wr.cell? ⟨w1.heap.size, j, none⟩ = some (.int .u32 ((s j).toNat : Nat)) := by rw [HY.out.f.cell, HC.out]; exact stA_get s j hlj
          have e1 := w_ad
          have hx : fin s j = ad (rnd s 10 j) (s j) := rfl
          have h4 := outL_four s j
          rw [hx] at h4
          have H4 := Lib.hid h4
          clear h4 hx
          have y0 := byt0 (ad (rnd s 10 j) (s j))
          have y1 := byt1 (ad (rnd s 10 j) (s j))
          have y2 := byt2 (ad (rnd s 10 j) (s j))
          have y3 := byt3' (ad (rnd s 10 j) (s j))
          have q0 : (0 : Int) ≤ (j : Int) := by omega
          have q1 : (j : Int) < 16 := by omega
          have hbase : W3.heap.size ≤ (wr.alloc (Obj.cells #[.int .u8 ((byt (ad (rnd s 10 j) (s j)) 0).toNat : Nat), .int .u8 ((byt (ad (rnd s 10 j) (s j)) 1).toNat : Nat), .int .u8 ((byt (ad (rnd s 10 j) (s j)) 2).toNat : Nat), .int .u8 ((byt (ad (rnd s 10 j) (s j)) 3).toNat : Nat)] 5)).heap.size := Nat.le_trans HY.out.b.size (by simp)
          have hown := HY.out.o.alloc (Obj.cells #[.int .u8 ((byt (ad (rnd s 10 j) (s j)) 0).toNat : Nat), .int .u8 ((byt (ad (rnd s 10 j) (s j)) 1).toNat : Nat), .int .u8 ((byt (ad (rnd s 10 j) (s j)) 2).toNat : Nat), .int .u8 ((byt (ad (rnd s 10 j) (s j)) 3).toNat : Nat)] 5)
          have hnews := World.news_of_block (heap_alloc_new wr (Obj.cells #[.int .u8 ((byt (ad (rnd s 10 j) (s j)) 0).toNat : Nat), .int .u8 ((byt (ad (rnd s 10 j) (s j)) 1).toNat : Nat), .int .u8 ((byt (ad (rnd s 10 j) (s j)) 2).toNat : Nat), .int .u8 ((byt (ad (rnd s 10 j) (s j)) 3).toNat : Nat)] 5))
          have h1 : ∀ u ∈ ([.int .u8 ((byt (ad (rnd s 10 j) (s j)) 0).toNat : Nat), .int .u8 ((byt (ad (rnd s 10 j) (s j)) 1).toNat : Nat), .int .u8 ((byt (ad (rnd s 10 j) (s j)) 2).toNat : Nat), .int .u8 ((byt (ad (rnd s 10 j) (s j)) 3).toNat : Nat)] : List Value), u.oneCell' = true := by
            intro u hu
            simp only [List.mem_cons, List.not_mem_nil, or_false] at hu
            rcases hu with rfl | rfl | rfl | rfl <;> rfl
          have h63 : 4 * j + 4 ≤ maxLen := by unfold maxLen; omega
          have hbytes : (4 * j + 4) * 1 ≤ 140737488355328 := by omega
          have HO1 := Lib.hid hown
          have HN := Lib.hid hnews
          have H1 := Lib.hid h1
          clear hown hnews h1
          go_wp2_with (at_builtin; refine wpList_append_lies _ rfl (.tmp 78) (.tmp 90) 22 rfl W3.heap.size 5 i0 (.int .u8 0) 1 1 Tryd.underlying22 hi0 hz0 hz1 hz2 rfl (by decide) (.slice A (4 * j) c') (4 * j) (outL s (4 * j)) rfl HO1.out ⟨wr.heap.size, 0, none⟩ 4 4 [.int .u8 ((byt (ad (rnd s 10 j) (s j)) 0).toNat : Nat), .int .u8 ((byt (ad (rnd s 10 j) (s j)) 1).toNat : Nat), .int .u8 ((byt (ad (rnd s 10 j) (s j)) 2).toNat : Nat), .int .u8 ((byt (ad (rnd s 10 j) (s j)) 3).toNat : Nat)] rfl rfl HN.out H1.out (by decide) h63 hbytes hbase (wr.heap.size + 1) (by simp) ?_; intro g9 c9 w9 hown9 hg9 _ _)
          go_roundw
          case rel =>
            have hge := own_ge HY.out.o
            have hlt2 : w1.heap.size < W3.heap.size := by omega
            refine ⟨j + 1, by omega, by go_num, ?_, ?_, ?_⟩
            · exact (HY.out.f.alloc _).grown hg9 (fun e => by have := hge _ e.symm; omega)
            · rw [H4.out]; exact hown9
            · exact (HY.out.b.alloc HY.out.b.size _).grown hg9 hbase hge
          case measure => simp [intOf]; omega
        · obtain rfl : j = 16 := by omega
          obtain ⟨A, c', rfl⟩ : ∃ A c, u13 = .slice A (4 * 16) c := own_form HY.out.o
          go_wp2_with fail
          go_ret2
          refine ⟨A, c', rfl, ?_⟩
          exact outPost HY.out.o (below_then HL.out HY.out.b HL.out.size) HL.out.size
end Go.Proofs.YtoojiofgmamjeaaDoor
