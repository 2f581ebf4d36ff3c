/-
  The walk of the law WindowRefuses: a number that is refused leaves the window as it was, and looking changes nothing.
  Conditions: none.
-/
import Derived.Test.YtbepkfdfabgigaaWinF
import Derived.Deep.CutBlock
import Derived.Deep.AppendLies
import Derived.Deep.RegionHeld3
namespace Go.Proofs.Ytbepkfdfabgigaa.windowRefuses
open Go.RowKit
set_option linter.unusedVariables false
theorem ne_blk {w : World} {g n S b : Nat} {B : Nat → Bool} {t : TypeId} {cs : Array Value} (h : WRow w g n S B) (hS : 1 ≤ S) (hb : Blk w b t cs) (hv : ∀ x, cs[0]? ≠ some (.int .u64 x)) : g ≠ b := by
  rintro rfl
  obtain ⟨x, hx⟩ := h.cell hS
  exact hv _ ((hb.cell 0).symm.trans hx)
theorem acc_bad {S T m : Nat} {B : Nat → Bool} (h : chk S T B m ≠ 0) : accT S T B m = T ∧ accB S T B m = B := by
  refine ⟨by unfold accT; rw [if_neg h], funext fun k => ?_⟩
  unfold accB
  rw [if_neg h]
/-- The first loop's world. -/
def Rel (w : World) (gc q bw s p : Nat) (v : Value) (wr : World) : Prop :=
  ∃ N T : Nat, ∃ B : Nat → Bool, v = .int .u64 (N : Nat) ∧ N ≤ 9 * p ∧ Cod wr gc q p ∧ T ≤ 9 * p ∧ WBox wr bw s T B ∧ Below w.heap.size w wr
/-- The copy. -/
def Old (wr : World) (s T : Nat) (B : Nat → Bool) (v : Value) (wx : World) : Prop :=
  ∃ bo : Nat, v = .pointer (some ⟨bo, 0, none⟩) ∧ wr.heap.size ≤ bo ∧ WBox wx bo s T B ∧ Below wr.heap.size wr wx
/-- The list of numbers. -/
def Lst (wr : World) (v54 v55 v56 : Value) (wx : World) : Prop :=
  ∃ bl : Nat, ∃ vs : Array Value, v54 = .slice (some ⟨bl, 0, none⟩) 4 4 ∧ v55 = .int .i64 4 ∧ v56 = .int .i64 0 ∧ Blk wx bl 22 vs ∧ (∀ k, k < 4 → ∃ m : Nat, vs[k]? = some (.int .u64 (m : Nat)) ∧ m < 18446744073709551616) ∧ Below wr.heap.size wr wx
/-- The second loop's world. -/
def Rel3 (w : World) (bw bo bl s T : Nat) (B : Nat → Bool) (vs : Array Value) (v : Value) (wr : World) : Prop :=
  ∃ k : Nat, v = .int .i64 (k : Nat) ∧ k ≤ 4 ∧ Blk wr bl 22 vs ∧ WBox wr bw s T B ∧ WBox wr bo s T B ∧ Below w.heap.size w wr
theorem nums (a b c d : Nat) (k : Nat) (hk : k < 4) (ha : a < 18446744073709551616) (hb : b < 18446744073709551616) (hc : c < 18446744073709551616) (hd : d < 18446744073709551616) :
    ∃ m : Nat, (#[Value.int .u64 (a : Nat), .int .u64 (b : Nat), .int .u64 (c : Nat), .int .u64 (d : Nat)] : Array Value)[k]? = some (.int .u64 (m : Nat)) ∧ m < 18446744073709551616 := by
  rcases k with _ | _ | _ | _ | k
  · exact ⟨a, rfl, ha⟩
  · exact ⟨b, rfl, hb⟩
  · exact ⟨c, rfl, hc⟩
  · exact ⟨d, rfl, hd⟩
  · omega
set_option maxRecDepth 100000 in
set_option maxHeartbeats 4000000 in
theorem windowRefuses_walk (w : World) (A : Option Addr) (len cap : Nat) (h : Byts w A len) (hl : len ≤ cap ∧ cap ≤ maxLen) (a1 : Int) (h1 : 0 ≤ a1 ∧ a1 ≤ 18446744073709551615) :
    Calls Try.prog 5 #[.slice A len cap, .int .u64 a1] w fun e w' => e = .returned (.bool true) ∧ Below w.heap.size w w' := by
  obtain ⟨i0, hi0, hz0, hz1, hz2⟩ := info_parts u64_info
  obtain ⟨a, rfl⟩ : ∃ a : Nat, a1 = (a : Nat) := ⟨a1.toNat, by omega⟩
  have ha : a < 18446744073709551616 := by omega
  go_enter Try.func5, Try.ntmps5
  go_wp2_with fail
  refine (awake_any _).mono ?_
  rintro e w' ⟨rfl, rfl⟩
  go_wp2_with fail
  refine (new_any A len cap 60 w h hl.1 hl.2 (by omega) (by omega)).mono ?_
  rintro e w1 ⟨gc, q, rfl, hgc, hcod, hq, hb1⟩
  have Hcod := Lib.hid hcod
  have Hb1 := Lib.hid hb1
  clear hcod hb1 hq
  go_wp2_with fail
  refine (next_any gc q 0 100 _ Hcod.out (by omega) (by omega)).mono ?_
  rintro e w2 ⟨r1, p1, rfl, hr1, hc1, _, _, ho1⟩
  have Hc1 := Lib.hid hc1
  have hb2 := below_only Hb1.out ho1 Hb1.out.size hgc
  have Hb2 := Lib.hid hb2
  clear hc1 ho1 hb2
  obtain ⟨s, hs⟩ : ∃ s, s = r1 + 1 := ⟨_, rfl⟩
  have hsi : (1 : Int) + (r1 : Int) = (s : Nat) := by omega
  have hs0 : 1 ≤ s := by omega
  have hs8 : s ≤ 100 := by omega
  have Hs := Lib.hid hs
  clear hs
  go_wp2_with fail
  refine (rwinnew_any s _ (by omega) (by omega)).mono ?_
  rintro e w4 ⟨g, rfl, hg, hr, hb4⟩
  have hz4 := hb4.size
  have hwz := Hb2.out.size
  have hc4 := (Hc1.out.below hb4).alloc (Obj.cells #[.int .i64 (s : Nat), .int .u64 0, .slice (some ⟨g, 0, none⟩) ((s + 63) / 64) ((s + 63) / 64)] 30)
  have hk4 : Blk (w4.alloc (Obj.cells #[.int .i64 (s : Nat), .int .u64 0, .slice (some ⟨g, 0, none⟩) ((s + 63) / 64) ((s + 63) / 64)] 30)) w4.heap.size 30 #[.int .i64 (s : Nat), .int .u64 (0 : Nat), .slice (some ⟨g, 0, none⟩) ((s + 63) / 64) ((s + 63) / 64)] := heap_alloc_new w4 _
  have hr4 := (wrow_new hr).alloc (Obj.cells #[.int .i64 (s : Nat), .int .u64 0, .slice (some ⟨g, 0, none⟩) ((s + 63) / 64) ((s + 63) / 64)] 30)
  have hbw := (Hb2.out.trans (hb4.mono Hb2.out.size)).alloc (by omega) (Obj.cells #[.int .i64 (s : Nat), .int .u64 0, .slice (some ⟨g, 0, none⟩) ((s + 63) / 64) ((s + 63) / 64)] 30)
  have hbw0 : w.heap.size ≤ w4.heap.size := by omega
  have nbg : w4.heap.size ≠ gc := by have := Hc1.out.lt; omega
  go_upto_region 5 with (fail)
  generalize w4.alloc (Obj.cells #[.int .i64 (s : Nat), .int .u64 0, .slice (some ⟨g, 0, none⟩) ((s + 63) / 64) ((s + 63) / 64)] 30) = W5 at *
  generalize w4.heap.size = bw at *
  have H0 : Hid (Rel w gc q bw s p1 (.int .u64 (0 : Nat)) W5) := Lib.hid ⟨0, 0, _, rfl, by omega, hc4, by omega, ⟨g, _, _, hk4, hr4⟩, hbw⟩
  clear hc4 hk4 hr4 hbw hb4 hr
  go_wp2_with fail
  go_loopw [8] (fun v wr => ∃ p, Rel w gc q bw s p v wr) (fun _ wr => q - atOf wr gc)
  case atStart => exact ⟨p1, H0.out⟩
  case round =>
    obtain ⟨p, N, T, B, rfl, hN, hcod, hT, hbox, hbw⟩ := hrel
    have hat := hcod.atOf
    have hpq := hcod.le
    have hq250 := hcod.2.1
    have Hbox := Lib.hid hbox
    have Hbw := Lib.hid hbw
    have Hcod := Lib.hid hcod
    have Hat := Lib.hid hat
    clear hbw hcod hat hbox
    by_cases hpn : p < q
    · have Hl : ∀ W', W' = wr → Calls Try.prog 20 #[.pointer (some ⟨gc, 0, none⟩)] W' fun e w' => e = .returned (.bool true) ∧ ∃ d, w' = wr.drewN d := by
        rintro W' rfl
        have := left_any gc q p W' Hcod.out
        rw [decide_eq_true hpn] at this
        exact this
      have HL := Lib.hid Hl
      clear Hl
      go_wp2_with fail
      refine (HL.out _ rfl).mono ?_
      rintro e w1 ⟨rfl, d, rfl⟩
      go_wp2_with fail
      refine (next_any gc q p 9 _ (Hcod.out.drewN d) (by omega) (by omega)).mono ?_
      rintro e w2 ⟨r, p2, rfl, hr9, hc2, _, hp2, ho2⟩
      have hp2' : p < p2 := hp2 hpn
      have ho2' : wr.grownBy w2 (some gc) := only_trans (only_drewN (only_refl wr _) d) ho2
      have hb2 := below_only Hbw.out ho2' Hbw.out.size hgc
      have hp2q := hc2.le
      obtain ⟨g2, n2, c2, hk2, hr2⟩ := Hbox.out.only hs0 Hcod.out ho2'
      obtain ⟨M, hM⟩ : ∃ M, M = N + r := ⟨_, rfl⟩
      have hMi : (N : Int) + (r : Int) = (M : Nat) := by omega
      have hMb : M ≤ 9 * p2 := by omega
      have x0 : w2.cell? ⟨bw, 0, none⟩ = some (.int .i64 (s : Nat)) := hk2.cell 0
      have x1 : w2.cell? ⟨bw, 1, none⟩ = some (.int .u64 (T : Nat)) := hk2.cell 1
      have x2 : w2.cell? ⟨bw, 2, none⟩ = some (.slice (some ⟨g2, 0, none⟩) n2 c2) := hk2.cell 2
      have hl2 := hk2.lt
      have Hk2 := Lib.hid hk2
      have Hr2 := Lib.hid hr2
      have Hc2 := Lib.hid hc2
      have Hb2 := Lib.hid hb2
      have HM := Lib.hid hM
      clear hk2 hr2 hc2 hb2 ho2 ho2' hp2 hM
      go_wp2_with fail
      refine (wraccept s T g2 n2 c2 B M _ hs0 (by omega) (by omega) (by omega) Hr2.out).mono ?_
      rintro e w5 ⟨g5, c5, rfl, hr5, hb5⟩
      have hT5 := accT_le s T M B
      have hk5 := Hk2.out.below hb5 hl2
      have hc5 := Hc2.out.below hb5
      have hb5' := Hb2.out.trans (hb5.mono Hb2.out.size)
      clear x0 x1 x2 hb5
      generalize hT5e : accT s T B M = T5 at *
      generalize hB5e : accB s T B M = B5 at *
      generalize hE5e : chk s T B M = E5 at *
      clear hT5e hB5e hE5e
      have x0 : w5.cell? ⟨bw, 0, none⟩ = some (.int .i64 (s : Nat)) := hk5.cell 0
      have x1 : w5.cell? ⟨bw, 1, none⟩ = some (.int .u64 (T : Nat)) := hk5.cell 1
      have x2 : w5.cell? ⟨bw, 2, none⟩ = some (.slice (some ⟨g2, 0, none⟩) n2 c2) := hk5.cell 2
      have f0 := hk5.free 0
      have f1 := hk5.free 1
      have f2 := hk5.free 2
      have n5 := ne_blk hr5 hs0 hk5 (by intro x hx; cases hx)
      have e1 : WBox _ bw s T5 B5 := WBox.store (c' := c5) (T' := T5) hk5 hr5 n5
      have e2 := hc5.store (u0 := .int .i64 (s : Nat)) (u1 := .int .u64 (T5 : Nat)) (u2 := .slice (some ⟨g5, 0, none⟩) n2 c5) hk5 (by intro _ h; cases h) (by intro _ h; cases h) nbg
      have e3 := ((hb5'.setCell (p := ⟨bw, 0, none⟩) hbw0 (.int .i64 (s : Nat))).setCell (p := ⟨bw, 1, none⟩) hbw0 (.int .u64 (T5 : Nat))).setCell (p := ⟨bw, 2, none⟩) hbw0 (.slice (some ⟨g5, 0, none⟩) n2 c5)
      have hm := e2.atOf
      have E1 := Lib.hid e1
      have E2 := Lib.hid e2
      have E3 := Lib.hid e3
      have HM := Lib.hid hm
      clear e1 e2 e3 hm hk5 hr5 hc5 hb5'
      go_wp2_with fail
      go_roundw
      case rel => exact ⟨p2, M, T5, B5, rfl, hMb, E2.out, by omega, E1.out, E3.out⟩
      case measure => rw [HM.out, Hat.out]; omega
    · have Hl : ∀ W', W' = wr → Calls Try.prog 20 #[.pointer (some ⟨gc, 0, none⟩)] W' fun e w' => e = .returned (.bool false) ∧ ∃ d, w' = wr.drewN d := by
        rintro W' rfl
        have := left_any gc q p W' Hcod.out
        rw [decide_eq_false hpn] at this
        exact this
      have HL := Lib.hid Hl
      clear Hl
      go_wp2_with fail
      refine (HL.out _ rfl).mono ?_
      rintro e w1 ⟨rfl, d, rfl⟩
      go_upto_region 9 with (fail)
      have hbox6 := Hbox.out.drewN d
      have hbw6 := below_drewN Hbw.out d
      generalize wr.drewN d = W6 at *
      obtain ⟨g6, n6, c6, hk6, hr6⟩ := hbox6
      have x0 : W6.cell? ⟨bw, 0, none⟩ = some (.int .i64 (s : Nat)) := hk6.cell 0
      have x1 : W6.cell? ⟨bw, 1, none⟩ = some (.int .u64 (T : Nat)) := hk6.cell 1
      have x2 : W6.cell? ⟨bw, 2, none⟩ = some (.slice (some ⟨g6, 0, none⟩) n6 c6) := hk6.cell 2
      have hl6 := hk6.lt
      have Hk6 := Lib.hid hk6
      have Hr6 := Lib.hid hr6
      have Hb6 := Lib.hid hbw6
      clear hk6 hr6 hbw6
      go_cut [9] (Old W6 s T B)
      case first =>
        have hlt6 : ⟨bw, 0, none⟩ = (⟨bw, 0, none⟩ : Addr) := rfl
        obtain ⟨WW, hn6, hrow, hWW, hBB, hhi⟩ := Hr6.out
        have hn61 : 1 ≤ n6 := by omega
        have hn62 : n6 ≤ 3 := by omega
        have hlen : ((List.range n6).map fun k => Value.int .u64 (WW k : Nat)).length = n6 * 1 := by simp
        have hone : ∀ u ∈ ((List.range n6).map fun k => Value.int .u64 (WW k : Nat)), u.oneCell' = true := (by intro u hu; obtain ⟨k, _, rfl⟩ := List.mem_map.1 hu; rfl)
        have Hlen := Lib.hid hlen
        have Hone := Lib.hid hone
        have HA : Hid (∀ wx, Below W6.heap.size W6 wx → W6.heap.size ≤ wx.heap.size ∧ ∀ j u, ((List.range n6).map fun k => Value.int .u64 (WW k : Nat))[j]? = some u → wx.cell? ((⟨g6, 0, none⟩ : Addr).add j) = some u) :=
          Lib.hid (fun wx hx => ⟨hx.size, rowAt (hrow.below' hx)⟩)
        have h63 : 0 + n6 ≤ maxLen := (by unfold maxLen; omega)
        have hby : (0 + n6) * 8 ≤ 140737488355328 := (by omega)
        have H63 := Lib.hid h63
        have Hby := Lib.hid hby
        have HB := Lib.hid hBB
        have HW := Lib.hid hWW
        have Hhi := Lib.hid hhi
        have Hn := Lib.hid hn6
        have hm0 : 0 < n6 := by omega
        clear hlen hone hrow h63 hby hWW hBB hhi hlt6 hn6
        have nw0 := World.new_ne W6 ⟨bw, 0, none⟩ x0
        have nw1 := World.new_ne W6 ⟨bw, 1, none⟩ x1
        have nw2 := World.new_ne W6 ⟨bw, 2, none⟩ x2
        have WR : ∀ (g7 c7 : Nat) (w7 : World), w7.ownsRow W6.heap.size 22 1 (.slice (some ⟨g7, 0, none⟩) (0 + n6) c7) (0 + n6) ([] ++ ((List.range n6).map fun k => Value.int .u64 (WW k : Nat))) → WRow w7 g7 n6 s B := by
          intro g7 c7 w7 ho
          rw [Nat.zero_add, List.nil_append] at ho
          obtain ⟨cs, hb, hbase, hnc, hcm, hcs, hget⟩ := Blk.of_own ho
          refine ⟨WW, Hn.out, fun i hi => ?_, HW.out, HB.out, Hhi.out⟩
          show w7.cell? ⟨g7, i, none⟩ = some (.int .u64 (WW i : Nat))
          rw [hb.cell i, hget i hi]
          simp [hi]
        have FinA : Hid (∀ (g7 c7 : Nat) (w7 : World), w7.ownsRow W6.heap.size 22 1 (.slice (some ⟨g7, 0, none⟩) (0 + n6) c7) (0 + n6) ([] ++ ((List.range n6).map fun k => Value.int .u64 (WW k : Nat))) → Below W6.heap.size W6 w7 →
            Old W6 s T B (.pointer (some ⟨w7.heap.size, 0, none⟩)) ((w7.alloc (Obj.cells #[.int .i64 (s : Nat), .int .u64 (T : Nat), .slice (some ⟨g7, 0, none⟩) n6 c7] 30)))) := Lib.hid (fun g7 c7 w7 ho hb =>
          ⟨_, rfl, hb.size, ⟨g7, n6, c7, heap_alloc_new w7 _, (WR g7 c7 w7 ho).alloc _⟩, hb.alloc hb.size _⟩)
        have FinB : Hid (∀ (g7 c7 : Nat) (w7 : World), w7.ownsRow W6.heap.size 22 1 (.slice (some ⟨g7, 0, none⟩) (0 + n6) c7) (0 + n6) ([] ++ ((List.range n6).map fun k => Value.int .u64 (WW k : Nat))) → Below W6.heap.size W6 w7 → Blk w7 W6.heap.size 30 #[.int .i64 0, .int .u64 0, .slice none 0 0] →
            Old W6 s T B (.pointer (some ⟨W6.heap.size, 0, none⟩)) (((w7.setCell ⟨W6.heap.size, 0, none⟩ (.int .i64 (s : Nat))).setCell ⟨W6.heap.size, 1, none⟩ (.int .u64 (T : Nat))).setCell ⟨W6.heap.size, 2, none⟩ (.slice (some ⟨g7, 0, none⟩) n6 c7))) := Lib.hid (fun g7 c7 w7 ho hb hk =>
          ⟨_, rfl, Nat.le_refl _, WBox.store hk (WR g7 c7 w7 ho) (ne_blk (WR g7 c7 w7 ho) hs0 hk (by intro x hx; cases hx)), ((hb.setCell (p := ⟨W6.heap.size, 0, none⟩) (Nat.le_refl _) _).setCell (p := ⟨W6.heap.size, 1, none⟩) (Nat.le_refl _) _).setCell (p := ⟨W6.heap.size, 2, none⟩) (Nat.le_refl _) _⟩)
        have KN : Hid (∀ wx w7 : World, Blk wx W6.heap.size 30 #[.int .i64 0, .int .u64 0, .slice none 0 0] → wx.grownBy w7 (Value.slice none 0 0).ownBlock → Hid (Blk w7 W6.heap.size 30 #[.int .i64 0, .int .u64 0, .slice none 0 0]) ∧ w7.cell? ⟨W6.heap.size, 0, none⟩ = some (.int .i64 0) ∧ w7.cell? ⟨W6.heap.size, 1, none⟩ = some (.int .u64 0) ∧ w7.cell? ⟨W6.heap.size, 2, none⟩ = some (.slice none 0 0) ∧
            w7.frozen? ⟨W6.heap.size, 0, none⟩ = false ∧ w7.frozen? ⟨W6.heap.size, 1, none⟩ = false ∧ w7.frozen? ⟨W6.heap.size, 2, none⟩ = false) := Lib.hid (fun wx w7 hx hgr => by
          have hk7 : Blk w7 W6.heap.size 30 #[.int .i64 0, .int .u64 0, .slice none 0 0] := (hgr.block _ hx.lt (by intro hk; cases hk)).trans hx
          exact ⟨Lib.hid hk7, hk7.cell 0, hk7.cell 1, hk7.cell 2, hk7.free 0, hk7.free 1, hk7.free 2⟩)
        have KK : Hid (∀ wx w7 : World, Below W6.heap.size W6 wx → wx.grownBy w7 (Value.slice none 0 0).ownBlock → w7.cell? ⟨bw, 0, none⟩ = some (.int .i64 (s : Nat)) ∧ w7.cell? ⟨bw, 1, none⟩ = some (.int .u64 (T : Nat)) ∧ w7.cell? ⟨bw, 2, none⟩ = some (.slice (some ⟨g6, 0, none⟩) n6 c6) ∧ bw < w7.heap.size ∧ Below W6.heap.size W6 w7) := Lib.hid (fun wx w7 hx hgr => by
          have hb7 : Below W6.heap.size W6 w7 := hx.grown hgr hx.size (fun k hk => by cases hk)
          have hk7 := Hk6.out.below hb7 hl6
          exact ⟨hk7.cell 0, hk7.cell 1, hk7.cell 2, hk7.lt, hb7⟩)
        go_wp2_with fail
        go_region_held3 (fun w' => w'.cell? ⟨bw, 0, none⟩ = some (.int .i64 (s : Nat)) ∧ w'.cell? ⟨bw, 1, none⟩ = some (.int .u64 (T : Nat)) ∧ w'.cell? ⟨bw, 2, none⟩ = some (.slice (some ⟨g6, 0, none⟩) n6 c6))
          (first
            | (exact ⟨y0, y1, y2⟩)
            | go_keep)
          (first
            | ((refine step_append_lies _ (by rfl) _ _ _ (by rfl) W6.heap.size 22 i0 _ 1 8 Try.underlying25 hi0 hz0 hz1 hz2 rfl (by omega) (.slice none 0 0) 0 [] (by rfl) (World.ownsRow_nil _ _ _ _) ⟨g6, 0, none⟩ n6 _ _ (by rfl) Hlen.out (HA.out _ (by first | exact Below.refl _ _ | exact (Below.refl _ _).drew)).2 Hone.out hm0 H63.out Hby.out (HA.out _ (by first | exact Below.refl _ _ | exact (Below.refl _ _).drew)).1 _ rfl ?_; intro g7 c7 w7 hown hgrow hat7 hlt7; obtain ⟨y0, y1, y2, yl, yb⟩ := KK.out _ _ (by first | exact Below.refl _ _ | exact (Below.refl _ _).drew) hgrow; clear hgrow; have z0 := World.new_ne w7 _ y0; have z1 := World.new_ne w7 _ y1; have z2 := World.new_ne w7 _ y2))
            | ((refine step_append_lies _ (by rfl) _ _ _ (by rfl) W6.heap.size 22 i0 _ 1 8 Try.underlying25 hi0 hz0 hz1 hz2 rfl (by omega) (.slice none 0 0) 0 [] (by rfl) (World.ownsRow_nil _ _ _ _) ⟨g6, 0, none⟩ n6 _ _ (by rfl) Hlen.out (HA.out _ (by first | exact ((Below.refl _ _).alloc (Nat.le_refl _) _) | exact ((Below.refl _ _).alloc (Nat.le_refl _) _).drew)).2 Hone.out hm0 H63.out Hby.out (HA.out _ (by first | exact ((Below.refl _ _).alloc (Nat.le_refl _) _) | exact ((Below.refl _ _).alloc (Nat.le_refl _) _).drew)).1 _ rfl ?_; intro g7 c7 w7 hown hgrow hat7 hlt7; obtain ⟨y0, y1, y2, yl, yb⟩ := KK.out _ _ (by first | exact ((Below.refl _ _).alloc (Nat.le_refl _) _) | exact ((Below.refl _ _).alloc (Nat.le_refl _) _).drew) hgrow; obtain ⟨vb, v0, v1, v2, t0, t1, t2⟩ := KN.out _ _ (by first | exact heap_alloc_new W6 _) hgrow; clear hgrow; have z0 := World.new_ne w7 _ y0; have z1 := World.new_ne w7 _ y1; have z2 := World.new_ne w7 _ y2)))
        all_goals go_wp2_with fail
        all_goals go_meet
        · exact FinA.out _ _ _ hown yb
        · exact FinB.out _ _ _ hown yb vb.out
      case rest =>
        obtain ⟨bo, rfl, hbo, hboxo, hbel⟩ := hcut
        have hbw7 := Hb6.out.trans (hbel.mono Hb6.out.size)
        have hbox7 : WBox wc bw s T B := WBox.below ⟨g6, n6, c6, Hk6.out, Hr6.out⟩ hbel
        have Hbx := Lib.hid hbox7
        have Hbo := Lib.hid hboxo
        have Hbb := Lib.hid hbw7
        clear hboxo hbel hbw7 hbox7 x0 x1 x2
        go_upto_region 10 with (fail)
        go_cut [54, 55, 56] (Lst wc)
        case first =>
          have Fin : Hid (∀ (b c : Int) (M2 : Nat), b = (N : Nat) → c = (M2 : Nat) → M2 < 18446744073709551616 → Lst wc (.slice (some ⟨wc.heap.size, 0, none⟩) 4 4) (.int .i64 4) (.int .i64 0) (wc.alloc (Obj.cells #[.int .u64 (a : Nat), .int .u64 b, .int .u64 c, .int .u64 0] 22))) := Lib.hid (fun b c M2 hb hc hM => by
            subst hb hc
            exact ⟨_, _, rfl, rfl, rfl, heap_alloc_new wc _, fun k hk => nums a N M2 0 k hk ha (by omega) hM (by omega), (Below.refl _ _).alloc (Nat.le_refl _) _⟩)
          go_wp2_with fail
          all_goals go_meet
          · exact Fin.out _ _ (N - a % 200) rfl (by omega) (by omega)
          · exact Fin.out _ _ 0 rfl rfl (by omega)
        case rest =>
          obtain ⟨bl, vs, rfl, rfl, rfl, hbl, hvs, hbel⟩ := hcut
          have H3 : Hid (Rel3 w bw bo bl s T B vs (.int .i64 (0 : Nat)) wc) := Lib.hid ⟨0, rfl, by omega, hbl, Hbx.out.below hbel, Hbo.out.below hbel, Hbb.out.trans (hbel.mono Hbb.out.size)⟩
          clear hbl hbel
          go_wp2_with fail
          go_loopw [56] (fun v wr => Rel3 w bw bo bl s T B vs v wr) (fun v _ => (4 - intOf v).toNat)
          case atStart => exact H3.out
          case round =>
            obtain ⟨k, rfl, hk4, hbl, hbox, hboxo, hbw⟩ := hrel
            by_cases hk : k < 4
            · have q1 : decide ((k : Int) < 4) = true := decide_eq_true (by omega)
              have i0 : (0 : Int) ≤ (k : Int) := by omega
              have i1 : (k : Int) < 4 := by omega
              obtain ⟨m, hm, hm64⟩ := hvs k hk
              have z : wr.cell? ⟨bl, k, none⟩ = some (.int .u64 (m : Nat)) := (hbl.cell k).trans hm
              obtain ⟨g1, n1, c1, hk1, hr1⟩ := hbox
              obtain ⟨g2, n2, c2, hk2, hr2⟩ := hboxo
              have x0 : wr.cell? ⟨bw, 0, none⟩ = some (.int .i64 (s : Nat)) := hk1.cell 0
              have x1 : wr.cell? ⟨bw, 1, none⟩ = some (.int .u64 (T : Nat)) := hk1.cell 1
              have x2 : wr.cell? ⟨bw, 2, none⟩ = some (.slice (some ⟨g1, 0, none⟩) n1 c1) := hk1.cell 2
              have Hbl := Lib.hid hbl
              have Hk1 := Lib.hid hk1
              have Hk2 := Lib.hid hk2
              have Hr1 := Lib.hid hr1
              have Hr2 := Lib.hid hr2
              have Hbw := Lib.hid hbw
              have HV := Lib.hid hvs
              clear hbl hk1 hk2 hr1 hr2 hbw hm hvs
              go_wp2_with fail
              refine (waccept s T g1 n1 c1 B m _ hs0 (by omega) (by omega) hm64 Hr1.out).mono ?_
              rintro e w5 ⟨g5, c5, rfl, hg5, hr5, hb5⟩
              have hz5 := hb5.size
              have hzw := Hbw.out.size
              have hbad := fun hb => acc_bad (S := s) (T := T) (m := m) (B := B) hb
              obtain ⟨E5, hE5⟩ : ∃ E5, E5 = chk s T B m := ⟨_, rfl⟩
              rw [← hE5] at hbad ⊢
              generalize hT5e : accT s T B m = T5 at *
              generalize hB5e : accB s T B m = B5 at *
              have HE := Lib.hid hE5
              have HBad := Lib.hid hbad
              clear hT5e hB5e hE5 hbad
              have k5 : Blk (w5.alloc (Obj.cells #[.int .i64 (s : Nat), .int .u64 (T5 : Nat), .slice (some ⟨g5, 0, none⟩) n1 c5] 30)) w5.heap.size 30 #[.int .i64 (s : Nat), .int .u64 (T5 : Nat), .slice (some ⟨g5, 0, none⟩) n1 c5] := heap_alloc_new w5 _
              have b5 := (hb5.alloc hz5 (Obj.cells #[.int .i64 (s : Nat), .int .u64 (T5 : Nat), .slice (some ⟨g5, 0, none⟩) n1 c5] 30))
              have r5 := hr5.alloc (Obj.cells #[.int .i64 (s : Nat), .int .u64 (T5 : Nat), .slice (some ⟨g5, 0, none⟩) n1 c5] 30)
              clear x0 x1 x2 z hb5 hr5
              go_upto_region 14 with (fail)
              generalize w5.alloc (Obj.cells #[.int .i64 (s : Nat), .int .u64 (T5 : Nat), .slice (some ⟨g5, 0, none⟩) n1 c5] 30) = W6 at *
              generalize w5.heap.size = bn at *
              have Fr : Hid (∀ wx, Below W6.heap.size W6 wx → (wx.cell? ⟨bw, 0, none⟩ = some (.int .i64 (s : Nat)) ∧ wx.cell? ⟨bw, 1, none⟩ = some (.int .u64 (T : Nat)) ∧ wx.cell? ⟨bw, 2, none⟩ = some (.slice (some ⟨g1, 0, none⟩) n1 c1)) ∧
                  (wx.cell? ⟨bo, 0, none⟩ = some (.int .i64 (s : Nat)) ∧ wx.cell? ⟨bo, 1, none⟩ = some (.int .u64 (T : Nat)) ∧ wx.cell? ⟨bo, 2, none⟩ = some (.slice (some ⟨g2, 0, none⟩) n2 c2)) ∧
                  (wx.cell? ⟨bn, 0, none⟩ = some (.int .i64 (s : Nat)) ∧ wx.cell? ⟨bn, 1, none⟩ = some (.int .u64 (T5 : Nat)) ∧ wx.cell? ⟨bn, 2, none⟩ = some (.slice (some ⟨g5, 0, none⟩) n1 c5))) := Lib.hid (fun wx hx => by
                have j1 := (Hk1.out.below b5 Hk1.out.lt)
                have j1 := j1.below hx j1.lt
                have j2 := (Hk2.out.below b5 Hk2.out.lt)
                have j2 := j2.below hx j2.lt
                have j5 := k5.below hx k5.lt
                exact ⟨⟨j1.cell 0, j1.cell 1, j1.cell 2⟩, ⟨j2.cell 0, j2.cell 1, j2.cell 2⟩, ⟨j5.cell 0, j5.cell 1, j5.cell 2⟩⟩)
              have R1 := Lib.hid (Hr1.out.below b5)
              have R2 := Lib.hid (Hr2.out.below b5)
              have R5 := Lib.hid r5
              have B5' := Lib.hid b5
              have e12 : n2 = n1 := (wrow_inj Hr2.out Hr1.out).1
              subst e12
              clear r5 k5 b5
              obtain ⟨⟨x0, x1, x2⟩, ⟨y0, y1, y2⟩, ⟨z0, z1, z2⟩⟩ := Fr.out _ (Below.refl _ _)
              go_wp2_with fail
              refine (wsame s T g1 n2 c1 g2 c2 B _ hs0 (by omega) R1.out R2.out).mono ?_
              rintro e w7 ⟨rfl, hb7⟩
              clear x0 x1 x2 y0 y1 y2 z0 z1 z2
              obtain ⟨⟨x0, x1, x2⟩, ⟨y0, y1, y2⟩, ⟨z0, z1, z2⟩⟩ := Fr.out _ hb7
              have Hb7 := Lib.hid hb7
              clear hb7
              have Fin : Hid (∀ w9, Below W6.heap.size W6 w9 → Rel3 w bw bo bl s T B vs (.int .i64 ((k : Int) + 1)) w9) := Lib.hid (fun w9 h9 => by
                have hh := B5'.out.trans (h9.mono B5'.out.size)
                exact ⟨k + 1, by rw [Int.natCast_add]; rfl, by omega, Hbl.out.below hh Hbl.out.lt, WBox.below ⟨g1, n2, c1, Hk1.out, Hr1.out⟩ hh, WBox.below ⟨g2, n2, c2, Hk2.out, Hr2.out⟩ hh, Hbw.out.trans (hh.mono Hbw.out.size)⟩)
              by_cases hE : E5 = 0
              · have q2 : ((E5 : Int) == 0) = true := beq_iff_eq.2 (by omega)
                have q3 : ((E5 : Int) != 0) = false := (by rw [bne, q2]; rfl)
                have HEz := Lib.hid hE
                clear hE
                go_wp2_with fail
                refine (wcheck s T g1 n2 c1 B m _ hs0 (by omega) (by omega) hm64 (R1.out.below Hb7.out)).mono ?_
                rintro e w8 ⟨rfl, hb8⟩
                rw [← HE.out]
                have Hb8 := Lib.hid (Hb7.out.trans (hb8.mono Hb7.out.size))
                clear hb8 x0 x1 x2 y0 y1 y2 z0 z1 z2
                go_wp2_with fail
                go_roundw
                case rel => exact Fin.out _ Hb8.out
                case measure => simp [intOf]; omega
              · have q2 : ((E5 : Int) == 0) = false := beq_eq_false_iff_ne.2 (by omega)
                have q3 : ((E5 : Int) != 0) = true := (by rw [bne, q2]; rfl)
                obtain ⟨hT5, hB5⟩ := HBad.out hE
                subst hT5 hB5
                clear hE
                go_wp2_with fail
                refine (wsame s _ g5 n2 c5 g2 c2 _ _ hs0 (by omega) (R5.out.below Hb7.out) (R2.out.below Hb7.out)).mono ?_
                rintro e w8 ⟨rfl, hb8⟩
                have Hb8 := Lib.hid (Hb7.out.trans (hb8.mono Hb7.out.size))
                clear hb8 x0 x1 x2 y0 y1 y2 z0 z1 z2
                obtain ⟨⟨x0, x1, x2⟩, ⟨y0, y1, y2⟩, ⟨z0, z1, z2⟩⟩ := Fr.out _ Hb8.out
                go_wp2_with fail
                refine (wcheck s _ g1 n2 c1 _ m _ hs0 (by omega) (by omega) hm64 (R1.out.below Hb8.out)).mono ?_
                rintro e w9 ⟨rfl, hb9⟩
                rw [← HE.out]
                have Hb9 := Lib.hid (Hb8.out.trans (hb9.mono Hb8.out.size))
                clear hb9 x0 x1 x2 y0 y1 y2 z0 z1 z2
                go_wp2_with fail
                go_roundw
                case rel => exact Fin.out _ Hb9.out
                case measure => simp [intOf]; omega
            · have q1 : decide ((k : Int) < 4) = false := decide_eq_false (by omega)
              go_wp2_with fail
              go_ret
              exact ⟨rfl, hbw⟩
end Go.Proofs.Ytbepkfdfabgigaa.windowRefuses
