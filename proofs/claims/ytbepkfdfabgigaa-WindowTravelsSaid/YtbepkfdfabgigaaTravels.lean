/-
  The walk of the law WindowTravels: numbers of which only the lowest bits are sent arrive rightly, in any order within the window, as long as not too many in a row are lost.
  Conditions: none.
-/
import Derived.Test.YtbepkfdfabgigaaWinF
import Derived.Deep.CutBlock
namespace Go.Proofs.Ytbepkfdfabgigaa.windowTravels
open Go.RowKit
set_option linter.unusedVariables false
theorem ne_blk {w : World} {g n S b : Nat} {B : Nat → Bool} {t : TypeId} {cs : Array Value} (h : WRow w g n S B) (hS : 1 ≤ S) (hb : Blk w b t cs) (hv : ∀ x, cs[0]? ≠ some (.int .u64 x)) : g ≠ b := by
  rintro rfl
  obtain ⟨x, hx⟩ := h.cell hS
  exact hv _ ((hb.cell 0).symm.trans hx)
theorem inf_back (L late M : Int) (h0 : L ≤ late) (h1 : late < L + M) : inf L (late % M) M = late := by
  unfold inf
  rw [Int.emod_sub_emod, Int.emod_eq_of_lt (by omega) (by omega)]
  omega
/-- The loop's world. -/
def Rel (w : World) (gc q bw s p : Nat) (wr : World) : Prop :=
  ∃ T : Nat, ∃ B : Nat → Bool, Cod wr gc q p ∧ 1 ≤ T ∧ T ≤ 1152921504606846976 + 64 * p ∧ WBox wr bw s T B ∧ Below w.heap.size w wr
/-- The number that arrives. -/
def Rel2 (w1 : World) (gc q p1 T s : Nat) (M : Int) (v : Value) (wx : World) : Prop := ∃ N p2 : Nat, v = .int .u64 (N : Nat) ∧ lst T s ≤ (N : Int) ∧ (N : Int) < lst T s + M ∧ N ≤ T + 64 ∧ Cod wx gc q p2 ∧ p1 ≤ p2 ∧ w1.grownBy wx (some gc)
set_option maxRecDepth 100000 in
set_option maxHeartbeats 4000000 in
theorem windowTravels_walk (w : World) (A : Option Addr) (len cap : Nat) (h : Byts w A len) (hl : len ≤ cap ∧ cap ≤ maxLen) (a1 : Int) (h1 : 0 ≤ a1 ∧ a1 ≤ 18446744073709551615) :
    Calls Try.prog 7 #[.slice A len cap, .int .u64 a1] w fun e w' => e = .returned (.bool true) ∧ Below w.heap.size w w' := by
  obtain ⟨F, hF⟩ : ∃ F : Nat, 1 + a1 % 1152921504606846976 = (F : Nat) := ⟨(1 + a1 % 1152921504606846976).toNat, by omega⟩
  have hF0 : 1 ≤ F := by omega
  have hF1 : F ≤ 1152921504606846976 := by omega
  go_enter Try.func7, Try.ntmps7
  go_wp2_with fail
  refine (awake_any _).mono ?_
  rintro e w' ⟨rfl, rfl⟩
  go_wp2_with fail
  refine (new_any A len cap 120 w h hl.1 hl.2 (by omega) (by omega)).mono ?_
  rintro e w1 ⟨gc, q, rfl, hgc, hcod, hq, hb1⟩
  have Hcod := Lib.hid hcod
  have Hb1 := Lib.hid hb1
  clear hcod hb1 hq
  go_wp2_with fail
  refine (next_any gc q 0 8 _ Hcod.out (by omega) (by omega)).mono ?_
  rintro e w2 ⟨r1, p1, rfl, hr1, hc1, _, _, ho1⟩
  have Hc1 := Lib.hid hc1
  have hb2 := below_only Hb1.out ho1 Hb1.out.size hgc
  have Hb2 := Lib.hid hb2
  clear hc1 ho1 hb2
  obtain ⟨s, hs⟩ : ∃ s, s = r1 + 1 := ⟨_, rfl⟩
  have hsi : (1 : Int) + (r1 : Int) = (s : Nat) := by omega
  have hs0 : 1 ≤ s := by omega
  have hs8 : s ≤ 8 := by omega
  have Hs := Lib.hid hs
  clear hs
  go_wp2_with fail
  refine (next_any gc q p1 3 _ Hc1.out (by omega) (by omega)).mono ?_
  rintro e w3 ⟨r2, p2, rfl, hr2, hc2, _, _, ho2⟩
  have Hc2 := Lib.hid hc2
  have hb3 := below_only Hb2.out ho2 Hb2.out.size hgc
  have Hb3 := Lib.hid hb3
  clear hc2 ho2 hb3
  obtain ⟨kb, hkb⟩ : ∃ kb : Int, kb = 4 + (r2 : Int) := ⟨_, rfl⟩
  have hkb0 : 4 ≤ kb := by omega
  have hkb6 : kb ≤ 6 := by omega
  have hkbi : 4 + (r2 : Int) = kb := hkb.symm
  clear hkb
  obtain ⟨M, hM⟩ : ∃ M : Int, (2 : Int) ^ kb.toNat = M := ⟨_, rfl⟩
  have hM0 : 16 ≤ M := by rw [← hM]; exact two_pow_le 4 kb.toNat (by omega)
  have hM1 : M ≤ 64 := by rw [← hM]; exact two_pow_le kb.toNat 6 (by omega)
  go_wp2_with fail
  refine (winnew_any s _ (by omega) (by omega)).mono ?_
  rintro e w4 ⟨g, rfl, hg, hr, hb4⟩
  have hz4 := hb4.size
  have hwz := Hb3.out.size
  have hc4 := (Hc2.out.below hb4).alloc (Obj.cells #[.int .i64 (s : Nat), .int .u64 0, .slice (some ⟨g, 0, none⟩) ((s + 63) / 64) ((s + 63) / 64)] 30)
  have hk4 : Blk (w4.alloc (Obj.cells #[.int .i64 (s : Nat), .int .u64 0, .slice (some ⟨g, 0, none⟩) ((s + 63) / 64) ((s + 63) / 64)] 30)) w4.heap.size 30 #[.int .i64 (s : Nat), .int .u64 (0 : Nat), .slice (some ⟨g, 0, none⟩) ((s + 63) / 64) ((s + 63) / 64)] := heap_alloc_new w4 _
  have hr4 := (wrow_new hr).alloc (Obj.cells #[.int .i64 (s : Nat), .int .u64 0, .slice (some ⟨g, 0, none⟩) ((s + 63) / 64) ((s + 63) / 64)] 30)
  have hbw := (Hb3.out.trans (hb4.mono Hb3.out.size)).alloc (by omega) (Obj.cells #[.int .i64 (s : Nat), .int .u64 0, .slice (some ⟨g, 0, none⟩) ((s + 63) / 64) ((s + 63) / 64)] 30)
  have hbw0 : w.heap.size ≤ w4.heap.size := by omega
  have nbg : w4.heap.size ≠ gc := by have := Hc2.out.lt; omega
  go_upto_region 9 with (fail)
  generalize w4.alloc (Obj.cells #[.int .i64 (s : Nat), .int .u64 0, .slice (some ⟨g, 0, none⟩) ((s + 63) / 64) ((s + 63) / 64)] 30) = W5 at *
  generalize w4.heap.size = bw at *
  have x0 : W5.cell? ⟨bw, 0, none⟩ = some (.int .i64 (s : Nat)) := hk4.cell 0
  have x1 : W5.cell? ⟨bw, 1, none⟩ = some (.int .u64 0) := hk4.cell 1
  have x2 : W5.cell? ⟨bw, 2, none⟩ = some (.slice (some ⟨g, 0, none⟩) ((s + 63) / 64) ((s + 63) / 64)) := hk4.cell 2
  have hl4 := hk4.lt
  have HC4 := Lib.hid hc4
  have HK4 := Lib.hid hk4
  have HR4 := Lib.hid hr4
  have HBW := Lib.hid hbw
  clear hc4 hk4 hr4 hbw hb4 hr
  go_wp2_with fail
  refine (waccept s 0 g ((s + 63) / 64) ((s + 63) / 64) (fun _ => false) F _ hs0 (by omega) (by omega) (by omega) HR4.out).mono ?_
  rintro e w6 ⟨g6, c6, rfl, hg6, hr6, hb6⟩
  have hok : chk s 0 (fun _ => false) F = 0 := by unfold chk; rw [if_neg (by omega), if_pos (by omega)]
  have hT6 : accT s 0 (fun _ => false) F = F := by unfold accT; rw [if_pos hok]; omega
  rw [hok, hT6]
  have hk6 := HK4.out.below hb6 hl4
  have hc6 := HC4.out.below hb6
  have hb6' := HBW.out.trans (hb6.mono HBW.out.size)
  clear x0 x1 x2 hb6
  have x0 : w6.cell? ⟨bw, 0, none⟩ = some (.int .i64 (s : Nat)) := hk6.cell 0
  have x1 : w6.cell? ⟨bw, 1, none⟩ = some (.int .u64 0) := hk6.cell 1
  have x2 : w6.cell? ⟨bw, 2, none⟩ = some (.slice (some ⟨g, 0, none⟩) ((s + 63) / 64) ((s + 63) / 64)) := hk6.cell 2
  have f0 := hk6.free 0
  have f1 := hk6.free 1
  have f2 := hk6.free 2
  have n6 := ne_blk hr6 hs0 hk6 (by intro x hx; cases hx)
  go_upto_region 10 with (fail)
  have e1 : WBox _ bw s F (accB s 0 (fun _ => false) F) := WBox.store (c' := c6) (T' := F) hk6 hr6 n6
  have e2 := hc6.store (u0 := .int .i64 (s : Nat)) (u1 := .int .u64 (F : Nat)) (u2 := .slice (some ⟨g6, 0, none⟩) ((s + 63) / 64) c6) hk6 (by intro _ h; cases h) (by intro _ h; cases h) nbg
  have e3 := ((hb6'.setCell (p := ⟨bw, 0, none⟩) hbw0 (.int .i64 (s : Nat))).setCell (p := ⟨bw, 1, none⟩) hbw0 (.int .u64 (F : Nat))).setCell (p := ⟨bw, 2, none⟩) hbw0 (.slice (some ⟨g6, 0, none⟩) ((s + 63) / 64) c6)
  generalize ((w6.setCell ⟨bw, 0, none⟩ (.int .i64 (s : Nat))).setCell ⟨bw, 1, none⟩ (.int .u64 (F : Nat))).setCell ⟨bw, 2, none⟩ (.slice (some ⟨g6, 0, none⟩) ((s + 63) / 64) c6) = W7 at *
  have H0 : Hid (Rel w gc q bw s p2 W7) := Lib.hid ⟨F, _, e2, hF0, by omega, e1, e3⟩
  clear e1 e2 e3 x0 x1 x2 f0 f1 f2 hok hT6 hk6 hc6 hb6' hr6
  go_wp2_with fail
  go_loopw [11] (fun _ wr => ∃ p, Rel w gc q bw s p wr) (fun _ wr => q - atOf wr gc)
  case atStart => exact ⟨p2, H0.out⟩
  case round =>
    obtain ⟨p, T, B, hcod, hT0, hT1, hbox, hbw⟩ := hrel
    have hat := hcod.atOf
    have hpq := hcod.le
    have hq250 := hcod.2.1
    have Hbox := Lib.hid hbox
    have Hbw := Lib.hid hbw
    have Hcod := Lib.hid hcod
    have Hat := Lib.hid hat
    clear hbw hcod hat hbox
    by_cases hpn : p < q
    · have Hl : ∀ W', W' = wr → Calls Try.prog 20 #[.pointer (some ⟨gc, 0, none⟩)] W' fun e w' => e = .returned (.bool true) ∧ ∃ d, w' = wr.drewN d := by
        rintro W' rfl
        have := left_any gc q p W' Hcod.out
        rw [decide_eq_true hpn] at this
        exact this
      have HL := Lib.hid Hl
      clear Hl
      go_wp2_with fail
      refine (HL.out _ rfl).mono ?_
      rintro e w1 ⟨rfl, d, rfl⟩
      obtain ⟨gx, nx, cx, hk, hrow⟩ := Hbox.out
      have x1 : wr.cell? ⟨bw, 1, none⟩ = some (.int .u64 (T : Nat)) := hk.cell 1
      have Nx : Hid (∀ (d : Nat), Calls Try.prog 19 #[.pointer (some ⟨gc, 0, none⟩), .int .i64 (M - (s : Int))] (wr.drewN d) fun e w' =>
          ∃ r p' : Nat, e = .returned (.int .i64 (r : Nat)) ∧ (r : Int) < M - s ∧ Cod w' gc q p' ∧ p < p' ∧ wr.grownBy w' (some gc) ∧ w'.cell? ⟨bw, 1, none⟩ = some (.int .u64 (T : Nat))) := Lib.hid (by
        intro d
        refine (next_any gc q p (M - s) _ (Hcod.out.drewN d) (by omega) (by omega)).mono ?_
        rintro e w' ⟨r, p', rfl, hr, hc, _, hp, ho⟩
        have ho' : wr.grownBy w' (some gc) := only_trans (only_drewN (only_refl wr _) d) ho
        exact ⟨r, p', rfl, hr, hc, hp hpn, ho', ((hk.grown ho' (by simp [nbg])).cell 1)⟩)
      clear hk hrow
      have hw1 : IntKind.i64.wrap M = M := IntWalk.i64_in _ (by omega)
      have hw2 : IntKind.i64.wrap (M - (s : Int)) = M - (s : Int) := IntWalk.i64_in _ (by omega)
      go_wp2_with fail
      go_region_held3 (fun w' => w'.cell? ⟨bw, 1, none⟩ = some (.int .u64 (T : Nat))) (go_keep)
        (first
          | (go_at_call 19; refine (Nx.out _).mono ?_; rintro e w1 ⟨r, p1, rfl, hr6, hc1, hp1, ho1, y1⟩))
      clear hw1 hw2
      have hrr : r < 64 := by omega
      have hrM : (r : Int) < M - s := hr6
      have hp250 := hc1.le
      have hp1x : p < p1 := hp1
      have eq1 : IntKind.u64.wrap (IntKind.u64.wrap ((T : Int) + 1) + IntKind.u64.wrap (r : Int)) = ((T + 1 + r : Nat) : Int) := by rw [IntKind.wrap_u64, IntKind.wrap_u64, IntKind.wrap_u64]; omega
      rw [eq1]
      obtain ⟨N, hN⟩ : ∃ N, N = T + 1 + r := ⟨_, rfl⟩
      rw [← hN]
      have Hc1 := Lib.hid hc1
      have Ho1 := Lib.hid ho1
      have HN := Lib.hid hN
      have hl0 : lst T s ≤ (T : Int) + 1 - s ∨ ((T : Int) < s ∧ lst T s = 0) := by unfold lst; split <;> omega
      have hl1 : (T : Int) + 1 - s ≤ lst T s := by unfold lst; split <;> omega
      have hN1 : lst T s ≤ (N : Int) ∧ (N : Int) < lst T s + M := by omega
      have HN1 := Lib.hid hN1
      have HL0 := Lib.hid hl0
      have HL1 := Lib.hid hl1
      clear hc1 ho1 hN eq1 hl0 hl1 hN1 hr6 x1 y1
      go_upto_region 16 with (fail)
      go_wp2_with fail
      refine (next_any gc q p1 3 _ Hc1.out (by omega) (by omega)).mono ?_
      rintro e w2 ⟨r3, p2, rfl, hr3, hc2, hp2, _, ho2⟩
      have Hc2 := Lib.hid hc2
      have Ho2 := Lib.hid ho2
      clear hc2 ho2
      go_upto_if 61 with (fail)
      go_cut [12] (Rel2 w1 gc q p1 T s M)
      case first =>
        by_cases hr2' : r3 = 2
        · have q1 : ((r3 : Int) == 2) = true := beq_iff_eq.2 (by omega)
          obtain ⟨g2, n2, c2, hk2, hrow2⟩ := (Hbox.out.only hs0 Hcod.out (only_trans Ho1.out Ho2.out))
          have x1 : w2.cell? ⟨bw, 1, none⟩ = some (.int .u64 (T : Nat)) := hk2.cell 1
          have Nx : Hid (∀ (d : Nat), Calls Try.prog 19 #[.pointer (some ⟨gc, 0, none⟩), .int .i64 (s : Nat)] (w2.drewN d) fun e w' =>
              ∃ r p' : Nat, e = .returned (.int .i64 (r : Nat)) ∧ (r : Int) < (s : Nat) ∧ Cod w' gc q p' ∧ p2 ≤ p' ∧ w2.grownBy w' (some gc) ∧ w'.cell? ⟨bw, 1, none⟩ = some (.int .u64 (T : Nat))) := Lib.hid (by
            intro d
            refine (next_any gc q p2 (s : Nat) _ (Hc2.out.drewN d) (by omega) (by omega)).mono ?_
            rintro e w' ⟨r, p', rfl, hr, hc, hp, _, ho⟩
            have ho' : w2.grownBy w' (some gc) := only_trans (only_drewN (only_refl w2 _) d) ho
            exact ⟨r, p', rfl, hr, hc, hp, ho', ((hk2.grown ho' (by simp [nbg])).cell 1)⟩)
          have hw1 : IntKind.u64.wrap ((T : Int) - 1) = (T : Int) - 1 := by rw [IntKind.wrap_u64]; omega
          clear hr2' hk2 hrow2
          go_wp2_with fail
          go_region_held3 (fun w' => w'.cell? ⟨bw, 1, none⟩ = some (.int .u64 (T : Nat))) (go_keep)
            (first
              | (go_at_call 19; refine (Nx.out _).mono ?_; rintro e w3 ⟨r4, p3, rfl, hr4, hc3, hp3, ho3, y1⟩))
          have eq2 : IntKind.u64.wrap (r4 : Int) = (r4 : Int) := by rw [IntKind.wrap_u64]; omega
          obtain ⟨N4, hN4⟩ : ∃ N4 : Nat, (N4 : Int) = (T : Int) - if (r4 : Int) < (T : Int) - 1 then (r4 : Int) else (T : Int) - 1 := ⟨((T : Int) - if (r4 : Int) < (T : Int) - 1 then (r4 : Int) else (T : Int) - 1).toNat, by split <;> omega⟩
          have hb4 : 1 ≤ N4 ∧ N4 ≤ T ∧ (T : Int) - r4 ≤ N4 := by split at hN4 <;> omega
          have hw3 : IntKind.u64.wrap ((T : Int) - if IntKind.u64.wrap (r4 : Int) < (T : Int) - 1 then IntKind.u64.wrap (r4 : Int) else (T : Int) - 1) = (N4 : Int) := by
            rw [eq2, ← hN4, IntKind.wrap_u64]; omega
          have hfin : Rel2 w1 gc q p1 T s M (.int .u64 (N4 : Nat)) w3 := by
            have h0 := HL0.out
            have h1 := HL1.out
            exact ⟨N4, p3, rfl, by omega, by omega, by omega, hc3, by omega, only_trans Ho2.out ho3⟩
          rw [hw3]
          clear hN4 hb4 hw3 eq2
          go_wp2_with fail
          all_goals (go_meet; exact hfin)
        · have q1 : ((r3 : Int) == 2) = false := beq_eq_false_iff_ne.2 (by omega)
          have hfin : Rel2 w1 gc q p1 T s M (.int .u64 (N : Nat)) w2 := ⟨N, p2, rfl, HN1.out.1, HN1.out.2, by have := HN.out; omega, Hc2.out, hp2, Ho2.out⟩
          clear hr2'
          go_wp2_with fail
          go_meet
          exact hfin
      case rest =>
        obtain ⟨m, p3, rfl, hm0, hm1, hm2, hc3, hp3, ho3⟩ := hcut
        have hbox3 := Hbox.out.only hs0 Hcod.out (only_trans Ho1.out ho3)
        have hgb : w.heap.size ≤ gc := hgc
        have hb3 := below_only (below_only Hbw.out Ho1.out Hbw.out.size hgb) ho3 (below_only Hbw.out Ho1.out Hbw.out.size hgb).size hgb
        obtain ⟨g3, n3, c3, hk3, hrow3⟩ := hbox3
        have x0 : wc.cell? ⟨bw, 0, none⟩ = some (.int .i64 (s : Nat)) := hk3.cell 0
        have x1 : wc.cell? ⟨bw, 1, none⟩ = some (.int .u64 (T : Nat)) := hk3.cell 1
        have x2 : wc.cell? ⟨bw, 2, none⟩ = some (.slice (some ⟨g3, 0, none⟩) n3 c3) := hk3.cell 2
        have hl3 := hk3.lt
        have hinf : inf (lst T s) ((m : Int) % M) M = m := inf_back _ _ _ hm0 hm1
        have In : Hid (∀ wx, Below wc.heap.size wc wx → Calls Try.prog 13 #[.int .u64 (T : Nat), .int .i64 (s : Nat), .int .u64 ((m : Int) % M), .int .i64 kb] wx fun e w' => e = .returned (.int .u64 (m : Nat)) ∧ Below wc.heap.size wc w' ∧ w'.cell? ⟨bw, 1, none⟩ = some (.int .u64 (T : Nat))) := Lib.hid (by
          intro wx hx
          refine (infer_any T s ((m : Int) % M) kb M _ (by omega) (by omega) (by omega) (by omega) (Int.emod_nonneg _ (by omega)) (by have := Int.emod_lt_of_pos (m : Int) (b := M) (by omega); omega) (by omega) (by omega) hM (by omega) (by omega)).mono ?_
          rintro e w' ⟨rfl, rfl⟩
          rw [hinf]
          exact ⟨rfl, hx, (hk3.below hx hl3).cell 1⟩)
        have hbits : bits .and .u64 (m : Nat) (M - 1) = (m : Int) % M := by
          rw [← hM]; exact mask_u64 _ _ (by omega) (by omega) (by omega)
        have hw1 : IntKind.u64.wrap M = M := by rw [IntKind.wrap_u64]; omega
        have hw2 : IntKind.u64.wrap (M - 1) = M - 1 := by rw [IntKind.wrap_u64]; omega
        have Hk3 := Lib.hid hk3
        have Hr3 := Lib.hid hrow3
        have Hc3 := Lib.hid hc3
        have Hb3 := Lib.hid hb3
        clear hk3 hrow3 hc3 hb3 ho3 hinf
        go_wp2_with fail
        go_region_held3 (fun w' => w'.cell? ⟨bw, 1, none⟩ = some (.int .u64 (T : Nat))) (go_keep)
          (first
            | (go_at_call 13; refine (In.out _ ?_).mono ?_; (first | exact Below.refl _ _ | exact (Below.refl _ _).drew | assumption); rintro e w3 ⟨rfl, hb3, y1⟩))
        clear hw1 hw2 hbits x0 x1 x2
        have hk4 := Hk3.out.below hb3 hl3
        have x0 : w3.cell? ⟨bw, 0, none⟩ = some (.int .i64 (s : Nat)) := hk4.cell 0
        have x1 : w3.cell? ⟨bw, 1, none⟩ = some (.int .u64 (T : Nat)) := hk4.cell 1
        have x2 : w3.cell? ⟨bw, 2, none⟩ = some (.slice (some ⟨g3, 0, none⟩) n3 c3) := hk4.cell 2
        have hl4 := hk4.lt
        have Hk4 := Lib.hid hk4
        have Hr4 := Lib.hid (Hr3.out.below hb3)
        have Hc4 := Lib.hid (Hc3.out.below hb3)
        have Hb4 := Lib.hid (Hb3.out.trans (hb3.mono Hb3.out.size))
        clear hk4 hb3 y1
        have hmb : m < 18446744073709551616 := by omega
        have hTb : T < 18446744073709551616 := by omega
        go_wp2_with fail
        refine (waccept s T g3 n3 c3 B m _ hs0 (by omega) hTb hmb Hr4.out).mono ?_
        rintro e w5 ⟨g5, c5, rfl, hg5, hr5, hb5⟩
        have hT5 := accT_le s T m B
        generalize hT5e : accT s T B m = T5 at *
        generalize hB5e : accB s T B m = B5 at *
        generalize hE5e : chk s T B m = E5 at *
        clear hT5e hB5e hE5e
        have hz5 := hb5.size
        have hz4 := Hb4.out.size
        have k5 : Blk (w5.alloc (Obj.cells #[.int .i64 (s : Nat), .int .u64 (T5 : Nat), .slice (some ⟨g5, 0, none⟩) n3 c5] 30)) w5.heap.size 30 #[.int .i64 (s : Nat), .int .u64 (T5 : Nat), .slice (some ⟨g5, 0, none⟩) n3 c5] := heap_alloc_new w5 _
        have k4 := (Hk4.out.below hb5 hl4).alloc (Obj.cells #[.int .i64 (s : Nat), .int .u64 (T5 : Nat), .slice (some ⟨g5, 0, none⟩) n3 c5] 30)
        have r5 := hr5.alloc (Obj.cells #[.int .i64 (s : Nat), .int .u64 (T5 : Nat), .slice (some ⟨g5, 0, none⟩) n3 c5] 30)
        have r4 := (Hr4.out.below hb5).alloc (Obj.cells #[.int .i64 (s : Nat), .int .u64 (T5 : Nat), .slice (some ⟨g5, 0, none⟩) n3 c5] 30)
        have c4 := (Hc4.out.below hb5).alloc (Obj.cells #[.int .i64 (s : Nat), .int .u64 (T5 : Nat), .slice (some ⟨g5, 0, none⟩) n3 c5] 30)
        have b5 := (Hb4.out.trans (hb5.mono Hb4.out.size)).alloc (by omega) (Obj.cells #[.int .i64 (s : Nat), .int .u64 (T5 : Nat), .slice (some ⟨g5, 0, none⟩) n3 c5] 30)
        clear x0 x1 x2 hb5 hr5
        go_upto_region 22 with (fail)
        generalize w5.alloc (Obj.cells #[.int .i64 (s : Nat), .int .u64 (T5 : Nat), .slice (some ⟨g5, 0, none⟩) n3 c5] 30) = W6 at *
        generalize w5.heap.size = bn at *
        have y0 : W6.cell? ⟨bn, 0, none⟩ = some (.int .i64 (s : Nat)) := k5.cell 0
        have y1 : W6.cell? ⟨bn, 1, none⟩ = some (.int .u64 (T5 : Nat)) := k5.cell 1
        have y2 : W6.cell? ⟨bn, 2, none⟩ = some (.slice (some ⟨g5, 0, none⟩) n3 c5) := k5.cell 2
        have x0 : W6.cell? ⟨bw, 0, none⟩ = some (.int .i64 (s : Nat)) := k4.cell 0
        have x1 : W6.cell? ⟨bw, 1, none⟩ = some (.int .u64 (T : Nat)) := k4.cell 1
        have x2 : W6.cell? ⟨bw, 2, none⟩ = some (.slice (some ⟨g3, 0, none⟩) n3 c3) := k4.cell 2
        have f0 := k4.free 0
        have f1 := k4.free 1
        have f2 := k4.free 2
        have n5 := ne_blk r5 hs0 k4 (by intro x hx; cases hx)
        have Hp := Lib.hid hp3
        have Hb5 := Lib.hid b5
        clear b5
        by_cases hE : E5 = 0
        · have q1 : ((E5 : Int) == 0) = true := beq_iff_eq.2 (by omega)
          have e1 : WBox _ bw s T5 B5 := WBox.store (c' := c5) (T' := T5) k4 r5 n5
          have e2 := c4.store (u0 := .int .i64 (s : Nat)) (u1 := .int .u64 (T5 : Nat)) (u2 := .slice (some ⟨g5, 0, none⟩) n3 c5) k4 (by intro _ h; cases h) (by intro _ h; cases h) nbg
          have e3 := ((Hb5.out.setCell (p := ⟨bw, 0, none⟩) hbw0 (.int .i64 (s : Nat))).setCell (p := ⟨bw, 1, none⟩) hbw0 (.int .u64 (T5 : Nat))).setCell (p := ⟨bw, 2, none⟩) hbw0 (.slice (some ⟨g5, 0, none⟩) n3 c5)
          have E1 := Lib.hid e1
          have E2 := Lib.hid e2
          have E3 := Lib.hid e3
          have hm := e2.atOf
          have HM := Lib.hid hm
          clear e1 e2 e3 hm k4 k5 r4 r5 c4
          go_wp2_with fail
          go_roundw
          case rel => exact ⟨p3, T5, B5, E2.out, by omega, by omega, E1.out, E3.out⟩
          case measure => rw [HM.out, Hat.out]; omega
        · have q1 : ((E5 : Int) == 0) = false := beq_eq_false_iff_ne.2 (by omega)
          have C4 := Lib.hid c4
          have K4 := Lib.hid k4
          have R4 := Lib.hid r4
          clear c4 k4 r4 k5 r5
          go_wp2_with fail
          go_roundw
          case rel => exact ⟨p3, T, B, C4.out, hT0, by omega, ⟨g3, n3, c3, K4.out, R4.out⟩, Hb5.out⟩
          case measure => rw [C4.out.atOf, Hat.out]; omega
    · have Hl : ∀ W', W' = wr → Calls Try.prog 20 #[.pointer (some ⟨gc, 0, none⟩)] W' fun e w' => e = .returned (.bool false) ∧ ∃ d, w' = wr.drewN d := by
        rintro W' rfl
        have := left_any gc q p W' Hcod.out
        rw [decide_eq_false hpn] at this
        exact this
      have HL := Lib.hid Hl
      clear Hl
      go_wp2_with fail
      refine (HL.out _ rfl).mono ?_
      rintro e w1 ⟨rfl, d, rfl⟩
      go_wp2_with fail
      go_ret
      exact ⟨rfl, below_drewN Hbw.out d⟩
end Go.Proofs.Ytbepkfdfabgigaa.windowTravels
