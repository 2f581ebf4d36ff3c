/-
  The walk of the law WindowWider: a wider window accepts whatever a narrower one does, and in order nothing is missed.
  Conditions: none.
-/
import Derived.Test.YtbepkfdfabgigaaWinF
import Derived.Deep.CutBlock
namespace Go.Proofs.Ytbepkfdfabgigaa.windowWider
open Go.RowKit
set_option linter.unusedVariables false
theorem ne_blk {w : World} {g n S b : Nat} {B : Nat → Bool} {t : TypeId} {cs : Array Value} (h : WRow w g n S B) (hS : 1 ≤ S) (hb : Blk w b t cs) (hv : ∀ x, cs[0]? ≠ some (.int .u64 x)) : g ≠ b := by
  rintro rfl
  obtain ⟨x, hx⟩ := h.cell hS
  exact hv _ ((hb.cell 0).symm.trans hx)
theorem wider_chk {s s' T m : Nat} {A B : Nat → Bool} (hs : s ≤ s') (h : ∀ k, k < s → A k = B k) (hc : chk s T A m = 0) : chk s' T B m = 0 := by
  obtain ⟨h0, h1 | ⟨h1, h2, h3⟩⟩ := chk_zero hc
  · unfold chk; rw [if_neg (by omega), if_pos h1]
  · unfold chk; rw [if_neg (by omega), if_neg (by omega), if_neg (by omega), ← h _ h2, h3]; rfl
theorem wider_acc {s s' T m : Nat} {A B : Nat → Bool} (hs : s ≤ s') (h : ∀ k, k < s → A k = B k) (hc : chk s T A m = 0) (k : Nat) (hk : k < s) : accB s T A m k = accB s' T B m k := by
  unfold accB
  rw [if_pos hc, if_pos (wider_chk hs h hc)]
  have h1 : k < s' := by omega
  rw [h (k - (max T m - T)) (by omega)]
  simp [hk, h1]
theorem acc_top {s T m : Nat} {A : Nat → Bool} (hc : chk s T A m = 0) : accT s T A m = max T m := by unfold accT; rw [if_pos hc]
/-- The loop's world. -/
def Rel (w : World) (gc q ba bb s s' p : Nat) (v : Value) (wr : World) : Prop :=
  ∃ T N : Nat, ∃ A B : Nat → Bool, v = .int .u64 (N : Nat) ∧ Cod wr gc q p ∧ T ≤ 9 * p ∧ N ≤ 9 * p ∧ WBox wr ba s T A ∧ WBox wr bb s' T B ∧ (∀ k, k < s → A k = B k) ∧ Below w.heap.size w wr
/-- The number that is tried. -/
def Rel2 (w1 : World) (gc q p1 M : Nat) (v : Value) (wx : World) : Prop := ∃ N p2 : Nat, v = .int .u64 (N : Nat) ∧ N ≤ M ∧ Cod wx gc q p2 ∧ p1 ≤ p2 ∧ w1.grownBy wx (some gc)
/-- In order: the first k are accepted. -/
theorem order_chk (s k : Nat) (B : Nat → Bool) : chk s k B (k + 1) = 0 := by unfold chk; rw [if_neg (by omega), if_pos (by omega)]
theorem order_acc {s k : Nat} {B : Nat → Bool} (h : ∀ i, i < min s k → B i = true) (i : Nat) (hi : i < min s (k + 1)) : accB s k B (k + 1) i = true := by
  unfold accB
  rw [if_pos (order_chk s k B)]
  have e : max k (k + 1) = k + 1 := by omega
  rw [e]
  have h1 : i < s := by omega
  by_cases hz : i = 0
  · simp [hz]; omega
  · rw [h (i - (k + 1 - k)) (by omega)]
    simp [h1]
    omega
theorem cnt0_zero {B : Nat → Bool} {k : Nat} (h : ∀ i, i < k → B i = true) : cnt0 B k = 0 := by
  induction k with
  | zero => rfl
  | succ k ih => simp only [cnt0]; rw [ih (fun i hi => h i (by omega)), h k (by omega)]; rfl
set_option maxRecDepth 100000 in
set_option maxHeartbeats 4000000 in
theorem windowWider_walk (w : World) (A : Option Addr) (len cap : Nat) (h : Byts w A len) (hl : len ≤ cap ∧ cap ≤ maxLen) (a1 : Int) (h1 : -9223372036854775808 ≤ a1 ∧ a1 ≤ 9223372036854775807) (a2 : Int) (h2 : -9223372036854775808 ≤ a2 ∧ a2 ≤ 9223372036854775807) :
    Calls Try.prog 9 #[.slice A len cap, .int .i64 a1, .int .i64 a2] w fun e w' => e = .returned (.bool true) ∧ Below w.heap.size w w' := by
  obtain ⟨s, hs⟩ : ∃ s : Nat, (s : Int) = 1 + a1 % 60 := ⟨(1 + a1 % 60).toNat, by omega⟩
  have hs0 : 1 ≤ s := by omega
  have hs1 : s ≤ 60 := by omega
  obtain ⟨s', ht⟩ : ∃ s' : Nat, (s' : Int) = s + 1 + a2 % 60 := ⟨((s : Int) + 1 + a2 % 60).toNat, by omega⟩
  have ht0 : s < s' := by omega
  have ht1 : s' ≤ 120 := by omega
  have hsi : 1 + a1 % 60 = (s : Nat) := hs.symm
  have hti : (s : Int) + 1 + a2 % 60 = (s' : Nat) := ht.symm
  clear hs ht
  go_enter Try.func9, Try.ntmps9
  go_wp2_with fail
  refine (awake_any _).mono ?_
  rintro e w' ⟨rfl, rfl⟩
  go_wp2_with fail
  refine (new_any A len cap 100 w h hl.1 hl.2 (by omega) (by omega)).mono ?_
  rintro e w1 ⟨gc, q, rfl, hgc, hcod, hq, hb1⟩
  go_wp2_with fail
  refine (mod_any a1 60 _ (by omega) (by omega) h1.1 h1.2).mono ?_
  rintro e w' ⟨rfl, rfl⟩
  have hgclt := hcod.lt
  have Hcod := Lib.hid hcod
  have Hb1 := Lib.hid hb1
  clear hcod hb1 hq
  go_wp2_with fail
  refine (winnew_any s _ (by omega) (by omega)).mono ?_
  rintro e w2 ⟨g, rfl, hg, hr, hb2⟩
  have hz2 := hb2.size
  go_wp2_with fail
  refine (mod_any a2 60 _ (by omega) (by omega) h2.1 h2.2).mono ?_
  rintro e w' ⟨rfl, rfl⟩
  have hbx : WBox (w2.alloc (Obj.cells #[.int .i64 (s : Nat), .int .u64 0, .slice (some ⟨g, 0, none⟩) ((s + 63) / 64) ((s + 63) / 64)] 30)) w2.heap.size s 0 (fun _ => false) := ⟨g, _, _, heap_alloc_new w2 _, (wrow_new hr).alloc _⟩
  have hc2 := (Hcod.out.below hb2).alloc (Obj.cells #[.int .i64 (s : Nat), .int .u64 0, .slice (some ⟨g, 0, none⟩) ((s + 63) / 64) ((s + 63) / 64)] 30)
  have hbw2 := (Hb1.out.trans (hb2.mono Hb1.out.size)).alloc (by have := Hb1.out.size; omega) (Obj.cells #[.int .i64 (s : Nat), .int .u64 0, .slice (some ⟨g, 0, none⟩) ((s + 63) / 64) ((s + 63) / 64)] 30)
  have hba : w.heap.size ≤ w2.heap.size := by have := Hb1.out.size; omega
  generalize hWA : w2.alloc (Obj.cells #[.int .i64 (s : Nat), .int .u64 0, .slice (some ⟨g, 0, none⟩) ((s + 63) / 64) ((s + 63) / 64)] 30) = WA at *
  have hWAz : w2.heap.size < WA.heap.size := hbx.lt
  generalize w2.heap.size = ba at *
  have Hbx := Lib.hid hbx
  have Hc2 := Lib.hid hc2
  have Hbw2 := Lib.hid hbw2
  clear hbx hc2 hbw2 hb2 hr hWA
  go_wp2_with fail
  refine (winnew_any s' _ (by omega) (by omega)).mono ?_
  rintro e w3 ⟨g', rfl, hg', hr', hb3⟩
  have hz3 := hb3.size
  go_wp2_with fail
  have h0 : Rel w gc q ba w3.heap.size s s' 0 (.int .u64 0) (w3.alloc (Obj.cells #[.int .i64 (s' : Nat), .int .u64 0, .slice (some ⟨g', 0, none⟩) ((s' + 63) / 64) ((s' + 63) / 64)] 30)) :=
    ⟨0, 0, fun _ => false, fun _ => false, rfl, (Hc2.out.below hb3).alloc _, by omega, by omega, (Hbx.out.below hb3).alloc _, ⟨g', _, _, heap_alloc_new w3 _, (wrow_new hr').alloc _⟩, fun _ _ => rfl, (Hbw2.out.trans (hb3.mono Hbw2.out.size)).alloc (by omega) _⟩
  have H0 := Lib.hid h0
  have hab : ba ≠ w3.heap.size := by omega
  have hbb : w.heap.size ≤ w3.heap.size := by omega
  have hgcw : w.heap.size ≤ gc := hgc
  clear h0 hb3 hr'
  generalize w3.alloc (Obj.cells #[.int .i64 (s' : Nat), .int .u64 0, .slice (some ⟨g', 0, none⟩) ((s' + 63) / 64) ((s' + 63) / 64)] 30) = W3 at *
  generalize w3.heap.size = bb at *
  go_loopw [13] (fun v wr => ∃ p, Rel w gc q ba bb s s' p v wr) (fun _ wr => q - atOf wr gc)
  case atStart => exact ⟨0, H0.out⟩
  case round =>
    obtain ⟨p, T, N, Ba, Bb, rfl, hcod, hT, hN, hboxa, hboxb, hAB, hbw⟩ := hrel
    have hat := hcod.atOf
    have hpq := hcod.le
    have hq250 := hcod.2.1
    have nag := hboxa.ne hcod
    have nbg := hboxb.ne hcod
    have Hba := Lib.hid hboxa
    have Hbb := Lib.hid hboxb
    have Hbw := Lib.hid hbw
    have Hcod := Lib.hid hcod
    have Hat := Lib.hid hat
    have HAB := Lib.hid hAB
    clear hbw hcod hat hboxa hboxb hAB
    by_cases hpn : p < q
    · have Hl : ∀ W', W' = wr → Calls Try.prog 20 #[.pointer (some ⟨gc, 0, none⟩)] W' fun e w' => e = .returned (.bool true) ∧ ∃ d, w' = wr.drewN d := by
        rintro W' rfl
        have := left_any gc q p W' Hcod.out
        rw [decide_eq_true hpn] at this
        exact this
      have HL := Lib.hid Hl
      clear Hl
      go_wp2_with fail
      refine (HL.out _ rfl).mono ?_
      rintro e w1 ⟨rfl, d, rfl⟩
      go_wp2_with fail
      refine (next_any gc q p 9 _ (Hcod.out.drewN d) (by omega) (by omega)).mono ?_
      rintro e w1 ⟨r, p1, rfl, hr8, hc1, _, hp1, ho1⟩
      have hp1' : p < p1 := hp1 hpn
      have ho1' : wr.grownBy w1 (some gc) := only_trans (only_drewN (only_refl wr _) d) ho1
      have hp1q := hc1.le
      have Hc1 := Lib.hid hc1
      have Ho1 := Lib.hid ho1'
      clear hc1 ho1 ho1' hp1
      go_upto_region 12 with (fail)
      obtain ⟨M, hM⟩ : ∃ M, M = N + r := ⟨_, rfl⟩
      have hMi : ((N : Int) + (r : Int)) = (M : Nat) := by omega
      have hM1 : M ≤ 9 * p1 := by omega
      rw [hMi]
      have HM := Lib.hid hM
      clear hM
      go_cut [13] (Rel2 w1 gc q p1 M)
      case first =>
        go_wp2_with fail
        refine (next_any gc q p1 7 _ Hc1.out (by omega) (by omega)).mono ?_
        rintro e w2 ⟨r2, p2, rfl, hr2, hc2, hp2, _, ho2⟩
        have Fin : Hid (∀ (x : Int) (m : Nat), x = (m : Nat) → m ≤ M → Rel2 w1 gc q p1 M (.int .u64 x) w2) :=
          Lib.hid (fun x m hx hm => ⟨m, p2, by rw [hx], hm, hc2, hp2, ho2⟩)
        clear hc2 ho2
        go_wp2_with fail
        all_goals go_meet
        · exact Fin.out _ (M - r2) (by omega) (by omega)
        · exact Fin.out _ 0 rfl (by omega)
      case rest =>
        obtain ⟨m, p2, rfl, hm, hc2, hp2, ho2⟩ := hcut
        have hp2q := hc2.le
        have ho := only_trans Ho1.out ho2
        have hbaa := Hba.out.only hs0 Hcod.out ho
        have hbbb := Hbb.out.only (by omega) Hcod.out ho
        have hbw2 := below_only Hbw.out ho Hbw.out.size hgcw
        obtain ⟨ga, na, ca, hka, hra⟩ := hbaa
        obtain ⟨gb, nb, cb, hkb, hrb⟩ := hbbb
        have x0 : wc.cell? ⟨ba, 0, none⟩ = some (.int .i64 (s : Nat)) := hka.cell 0
        have x1 : wc.cell? ⟨ba, 1, none⟩ = some (.int .u64 (T : Nat)) := hka.cell 1
        have x2 : wc.cell? ⟨ba, 2, none⟩ = some (.slice (some ⟨ga, 0, none⟩) na ca) := hka.cell 2
        have Hka := Lib.hid hka
        have Hra := Lib.hid hra
        have Hkb := Lib.hid hkb
        have Hrb := Lib.hid hrb
        have Hbw2 := Lib.hid hbw2
        have Hc2 := Lib.hid hc2
        have hlta := hka.lt
        have hltb := hkb.lt
        clear hka hra hkb hrb hbw2 hc2 ho ho2
        go_wp2_with fail
        refine (wcheck s T ga na ca Ba m _ hs0 (by omega) (by omega) (by omega) Hra.out).mono ?_
        rintro e w4 ⟨rfl, hb4⟩
        have Hb4 := Lib.hid hb4
        have hka4 := Hka.out.below hb4 hlta
        have hkb4 := Hkb.out.below hb4 hltb
        clear x0 x1 x2 hb4
        have x0 : w4.cell? ⟨ba, 0, none⟩ = some (.int .i64 (s : Nat)) := hka4.cell 0
        have x1 : w4.cell? ⟨ba, 1, none⟩ = some (.int .u64 (T : Nat)) := hka4.cell 1
        have x2 : w4.cell? ⟨ba, 2, none⟩ = some (.slice (some ⟨ga, 0, none⟩) na ca) := hka4.cell 2
        have y0 : w4.cell? ⟨bb, 0, none⟩ = some (.int .i64 (s' : Nat)) := hkb4.cell 0
        have y1 : w4.cell? ⟨bb, 1, none⟩ = some (.int .u64 (T : Nat)) := hkb4.cell 1
        have y2 : w4.cell? ⟨bb, 2, none⟩ = some (.slice (some ⟨gb, 0, none⟩) nb cb) := hkb4.cell 2
        have Hka4 := Lib.hid hka4
        have Hkb4 := Lib.hid hkb4
        clear hka4 hkb4
        by_cases hc0 : chk s T Ba m = 0
        · have q1 : (((chk s T Ba m : Nat) : Int) == 0) = true := by rw [hc0]; rfl
          have hcb := wider_chk (s' := s') (by omega) HAB.out hc0
          have q2 : (((chk s' T Bb m : Nat) : Int) != 0) = false := by rw [hcb]; rfl
          have eT := acc_top hc0
          have eT' := acc_top hcb
          have eB := wider_acc (s' := s') (by omega) HAB.out hc0
          have HeT := Lib.hid eT
          have HeT' := Lib.hid eT'
          have HeB := Lib.hid eB
          have Hc0 := Lib.hid hc0
          have Hcb := Lib.hid hcb
          clear hc0 hcb eT eT' eB
          go_wp2_with fail
          refine (wcheck s' T gb nb cb Bb m _ (by omega) (by omega) (by omega) (by omega) (Hrb.out.below Hb4.out)).mono ?_
          rintro e w5 ⟨rfl, hb5⟩
          have hbl4 := Hb4.out.size
          have hbc5 := Hb4.out.trans (hb5.mono hbl4)
          have hka5 := Hka4.out.below hb5 (by omega)
          have hkb5 := Hkb4.out.below hb5 (by omega)
          clear x0 x1 x2 y0 y1 y2 hb5
          have x0 : w5.cell? ⟨ba, 0, none⟩ = some (.int .i64 (s : Nat)) := hka5.cell 0
          have x1 : w5.cell? ⟨ba, 1, none⟩ = some (.int .u64 (T : Nat)) := hka5.cell 1
          have x2 : w5.cell? ⟨ba, 2, none⟩ = some (.slice (some ⟨ga, 0, none⟩) na ca) := hka5.cell 2
          have Hbc5 := Lib.hid hbc5
          have Hka5 := Lib.hid hka5
          have Hkb5 := Lib.hid hkb5
          clear hbc5 hka5 hkb5
          go_wp2_with fail
          refine (waccept s T ga na ca Ba m _ hs0 (by omega) (by omega) (by omega) (Hra.out.below Hbc5.out)).mono ?_
          rintro e w6 ⟨g6, c6, rfl, hg6, hr6, hb6⟩
          rw [HeT.out, Hc0.out]
          have hz5 := Hbc5.out.size
          have hz6 := hb6.size
          have hka6 := (Hka5.out.below hb6 (by omega)).alloc (Obj.cells #[.int .i64 (s : Nat), .int .u64 (max T m : Nat), .slice (some ⟨g6, 0, none⟩) na c6] 30)
          have hkb6 := (Hkb5.out.below hb6 (by omega)).alloc (Obj.cells #[.int .i64 (s : Nat), .int .u64 (max T m : Nat), .slice (some ⟨g6, 0, none⟩) na c6] 30)
          have hk14 : Blk (w6.alloc (Obj.cells #[.int .i64 (s : Nat), .int .u64 (max T m : Nat), .slice (some ⟨g6, 0, none⟩) na c6] 30)) w6.heap.size 30 #[.int .i64 (s : Nat), .int .u64 (max T m : Nat), .slice (some ⟨g6, 0, none⟩) na c6] := heap_alloc_new w6 _
          have hr6' := hr6.alloc (Obj.cells #[.int .i64 (s : Nat), .int .u64 (max T m : Nat), .slice (some ⟨g6, 0, none⟩) na c6] 30)
          have hbc6 := (Hbc5.out.trans (hb6.mono hz5)).alloc (by omega) (Obj.cells #[.int .i64 (s : Nat), .int .u64 (max T m : Nat), .slice (some ⟨g6, 0, none⟩) na c6] 30)
          obtain ⟨P, hP⟩ : ∃ P, P = max T m := ⟨_, rfl⟩
          rw [← hP] at hka6 hkb6 hk14 hr6' hbc6
          rw [← hP]
          have hP1 : P ≤ 9 * p2 := by omega
          have HP := Lib.hid hP
          clear x0 x1 x2 hb6 hr6 hP
          go_upto_region 16 with (fail)
          generalize w6.alloc (Obj.cells #[.int .i64 (s : Nat), .int .u64 (P : Nat), .slice (some ⟨g6, 0, none⟩) na c6] 30) = W7 at *
          have hl14 := hk14.lt
          have nb14 : ba ≠ w6.heap.size := by omega
          generalize w6.heap.size = b14 at *
          have x0 : W7.cell? ⟨b14, 0, none⟩ = some (.int .i64 (s : Nat)) := hk14.cell 0
          have x1 : W7.cell? ⟨b14, 1, none⟩ = some (.int .u64 (P : Nat)) := hk14.cell 1
          have x2 : W7.cell? ⟨b14, 2, none⟩ = some (.slice (some ⟨g6, 0, none⟩) na c6) := hk14.cell 2
          have z0 : W7.cell? ⟨ba, 0, none⟩ = some (.int .i64 (s : Nat)) := hka6.cell 0
          have z1 : W7.cell? ⟨ba, 1, none⟩ = some (.int .u64 (T : Nat)) := hka6.cell 1
          have z2 : W7.cell? ⟨ba, 2, none⟩ = some (.slice (some ⟨ga, 0, none⟩) na ca) := hka6.cell 2
          have f0 := hka6.free 0
          have f1 := hka6.free 1
          have f2 := hka6.free 2
          have Hka6 := Lib.hid hka6
          have Hkb6 := Lib.hid hkb6
          have Hr6 := Lib.hid hr6'
          have Hbc6 := Lib.hid hbc6
          clear hka6 hkb6 hr6' hbc6 hk14
          go_upto_region 18 with (fail)
          have hxa : ∀ x : Int, (#[Value.int IntKind.i64 (s : Nat), Value.int IntKind.u64 (T : Nat), Value.slice (some ⟨ga, 0, none⟩) na ca] : Array Value)[0]? ≠ some (.int .u64 x) := by intro x hx; cases hx
          have hxb : ∀ x : Int, (#[Value.int IntKind.i64 (s' : Nat), Value.int IntKind.u64 (T : Nat), Value.slice (some ⟨gb, 0, none⟩) nb cb] : Array Value)[0]? ≠ some (.int .u64 x) := by intro x hx; cases hx
          have hrb7 := Hrb.out.below Hbc6.out
          have n6a := ne_blk Hr6.out hs0 Hka6.out hxa
          have nba := ne_blk hrb7 (by omega) Hka6.out hxa
          have b8 : WBox _ ba s P (accB s T Ba m) := WBox.store (c' := c6) (T' := P) Hka6.out Hr6.out n6a
          have c8 := (Hc2.out.below Hbc6.out).store (u0 := .int .i64 (s : Nat)) (u1 := .int .u64 (P : Nat)) (u2 := .slice (some ⟨g6, 0, none⟩) na c6) Hka6.out (by intro _ h; cases h) (by intro _ h; cases h) nag
          have k8 := ((Hkb6.out.far (p := ⟨ba, 0, none⟩) (Ne.symm hab) (.int .i64 (s : Nat))).far (p := ⟨ba, 1, none⟩) (Ne.symm hab) (.int .u64 (P : Nat))).far (p := ⟨ba, 2, none⟩) (Ne.symm hab) (.slice (some ⟨g6, 0, none⟩) na c6)
          have r8 := ((hrb7.far nba 0 (.int .i64 (s : Nat))).far nba 1 (.int .u64 (P : Nat))).far nba 2 (.slice (some ⟨g6, 0, none⟩) na c6)
          have w8 := (((Hbw2.out.trans (Hbc6.out.mono Hbw2.out.size)).setCell (p := ⟨ba, 0, none⟩) hba (.int .i64 (s : Nat))).setCell (p := ⟨ba, 1, none⟩) hba (.int .u64 (P : Nat))).setCell (p := ⟨ba, 2, none⟩) hba (.slice (some ⟨g6, 0, none⟩) na c6)
          generalize ((W7.setCell ⟨ba, 0, none⟩ (.int .i64 (s : Nat))).setCell ⟨ba, 1, none⟩ (.int .u64 (P : Nat))).setCell ⟨ba, 2, none⟩ (.slice (some ⟨g6, 0, none⟩) na c6) = W8 at *
          clear x0 x1 x2 z0 z1 z2 f0 f1 f2 hrb7
          have y0 : W8.cell? ⟨bb, 0, none⟩ = some (.int .i64 (s' : Nat)) := k8.cell 0
          have y1 : W8.cell? ⟨bb, 1, none⟩ = some (.int .u64 (T : Nat)) := k8.cell 1
          have y2 : W8.cell? ⟨bb, 2, none⟩ = some (.slice (some ⟨gb, 0, none⟩) nb cb) := k8.cell 2
          have hl8 := k8.lt
          have B8 := Lib.hid b8
          have C8 := Lib.hid c8
          have K8 := Lib.hid k8
          have R8 := Lib.hid r8
          have U8 := Lib.hid w8
          clear b8 c8 k8 r8 w8
          go_wp2_with fail
          refine (waccept s' T gb nb cb Bb m _ (by omega) (by omega) (by omega) (by omega) R8.out).mono ?_
          rintro e w9 ⟨g9, c9, rfl, hg9, hr9, hb9⟩
          rw [HeT'.out, Hcb.out, ← HP.out]
          have k9 := K8.out.below hb9 hl8
          have b9 := B8.out.below hb9
          have c9' := C8.out.below hb9
          have u9 := U8.out.trans (hb9.mono U8.out.size)
          clear y0 y1 y2 hb9
          have y0 : w9.cell? ⟨bb, 0, none⟩ = some (.int .i64 (s' : Nat)) := k9.cell 0
          have y1 : w9.cell? ⟨bb, 1, none⟩ = some (.int .u64 (T : Nat)) := k9.cell 1
          have y2 : w9.cell? ⟨bb, 2, none⟩ = some (.slice (some ⟨gb, 0, none⟩) nb cb) := k9.cell 2
          have f0 := k9.free 0
          have f1 := k9.free 1
          have f2 := k9.free 2
          have n9b := ne_blk hr9 (by omega) k9 hxb
          have bb9 : WBox _ bb s' P (accB s' T Bb m) := WBox.store (c' := c9) (T' := P) k9 hr9 n9b
          have cc9 := c9'.store (u0 := .int .i64 (s' : Nat)) (u1 := .int .u64 (P : Nat)) (u2 := .slice (some ⟨g9, 0, none⟩) nb c9) k9 (by intro _ h; cases h) (by intro _ h; cases h) nbg
          have ba9 := ((b9.far hs0 k9 hxb hab 0 (.int .i64 (s' : Nat))).far hs0 (k9.put 0 (.int .i64 (s' : Nat))) (by intro x hx; simp at hx) hab 1 (.int .u64 (P : Nat))).far hs0 ((k9.put 0 (.int .i64 (s' : Nat))).put 1 (.int .u64 (P : Nat))) (by intro x hx; simp at hx) hab 2 (.slice (some ⟨g9, 0, none⟩) nb c9)
          have uu9 := ((u9.setCell (p := ⟨bb, 0, none⟩) hbb (.int .i64 (s' : Nat))).setCell (p := ⟨bb, 1, none⟩) hbb (.int .u64 (P : Nat))).setCell (p := ⟨bb, 2, none⟩) hbb (.slice (some ⟨g9, 0, none⟩) nb c9)
          have BB9 := Lib.hid bb9
          have CC9 := Lib.hid cc9
          have BA9 := Lib.hid ba9
          have UU9 := Lib.hid uu9
          clear k9 b9 c9' u9 bb9 cc9 ba9 uu9 hr9
          go_wp2_with fail
          have e2 : ∀ x, x = p2 → q - x < q - atOf wr gc := fun x hx => by rw [hx, Hat.out]; omega
          exact ⟨⟨p2, P, m, accB s T Ba m, accB s' T Bb m, rfl, CC9.out, hP1, by omega, BA9.out, BB9.out, HeB.out, UU9.out⟩, e2 _ CC9.out.atOf⟩
        · have q1 : (((chk s T Ba m : Nat) : Int) == 0) = false := beq_eq_false_iff_ne.2 (by omega)
          have hrf : accT s T Ba m = T := by unfold accT; rw [if_neg hc0]
          have Hrf := Lib.hid hrf
          clear hrf
          go_wp2_with fail
          refine (waccept s T ga na ca Ba m _ hs0 (by omega) (by omega) (by omega) (Hra.out.below Hb4.out)).mono ?_
          rintro e w6 ⟨g6, c6, rfl, hg6, hr6, hb6⟩
          have hbz := Hb4.out.trans (hb6.mono Hb4.out.size)
          have e1 := ((Hc2.out.below hbz).alloc (Obj.cells #[.int .i64 (s : Nat), .int .u64 (accT s T Ba m : Nat), .slice (some ⟨g6, 0, none⟩) na c6] 30))
          have e3 := (WBox.below ⟨ga, na, ca, Hka.out, Hra.out⟩ hbz).alloc (Obj.cells #[.int .i64 (s : Nat), .int .u64 (accT s T Ba m : Nat), .slice (some ⟨g6, 0, none⟩) na c6] 30)
          have e4 := (WBox.below ⟨gb, nb, cb, Hkb.out, Hrb.out⟩ hbz).alloc (Obj.cells #[.int .i64 (s : Nat), .int .u64 (accT s T Ba m : Nat), .slice (some ⟨g6, 0, none⟩) na c6] 30)
          have hsz := hbz.size
          have hsw := Hbw2.out.size
          have e5 := (Hbw2.out.trans (hbz.mono Hbw2.out.size)).alloc (by omega) (Obj.cells #[.int .i64 (s : Nat), .int .u64 (accT s T Ba m : Nat), .slice (some ⟨g6, 0, none⟩) na c6] 30)
          have E1 := Lib.hid e1
          have E3 := Lib.hid e3
          have E4 := Lib.hid e4
          have E5 := Lib.hid e5
          clear e1 e3 e4 e5 hbz hb6 hr6 hc0
          go_wp2_with fail
          have e2 : ∀ x, x = p2 → q - x < q - atOf wr gc := fun x hx => by rw [hx, Hat.out]; omega
          exact ⟨⟨p2, T, m, Ba, Bb, rfl, E1.out, by omega, by omega, E3.out, E4.out, HAB.out, E5.out⟩, e2 _ E1.out.atOf⟩
    · have Hl : ∀ W', W' = wr → Calls Try.prog 20 #[.pointer (some ⟨gc, 0, none⟩)] W' fun e w' => e = .returned (.bool false) ∧ ∃ d, w' = wr.drewN d := by
        rintro W' rfl
        have := left_any gc q p W' Hcod.out
        rw [decide_eq_false hpn] at this
        exact this
      have HL := Lib.hid Hl
      clear Hl
      go_wp2_with fail
      refine (HL.out _ rfl).mono ?_
      rintro e w1 ⟨rfl, d, rfl⟩
      go_wp2_with fail
      refine (winnew_any s _ (by omega) (by omega)).mono ?_
      rintro e w2 ⟨g2, rfl, hg2, hr2, hb2⟩
      have hbd := below_drewN Hbw.out d
      have hbx2 := (hbd.trans (hb2.mono hbd.size)).alloc (by have := hbd.size; have := hb2.size; omega) (Obj.cells #[.int .i64 (s : Nat), .int .u64 0, .slice (some ⟨g2, 0, none⟩) ((s + 63) / 64) ((s + 63) / 64)] 30)
      have hbox2 : WBox (w2.alloc (Obj.cells #[.int .i64 (s : Nat), .int .u64 0, .slice (some ⟨g2, 0, none⟩) ((s + 63) / 64) ((s + 63) / 64)] 30)) w2.heap.size s 0 (fun _ => false) := ⟨g2, _, _, heap_alloc_new w2 _, (wrow_new hr2).alloc _⟩
      have hwd : w.heap.size ≤ w2.heap.size := by have := hbd.size; have := hb2.size; omega
      go_upto_region 22 with (fail)
      generalize w2.alloc (Obj.cells #[.int .i64 (s : Nat), .int .u64 0, .slice (some ⟨g2, 0, none⟩) ((s + 63) / 64) ((s + 63) / 64)] 30) = W5 at *
      generalize w2.heap.size = bd at *
      have HX2 := Lib.hid hbx2
      have HO2 := Lib.hid hbox2
      clear hb2 hbd hbx2 hbox2 hr2
      go_wp2_with fail
      go_loopw [10, 18] (fun _ kk wr => ∃ k T : Nat, k = T + 1 ∧ k ≤ 40 ∧ kk = .int .i64 k ∧ ∃ B : Nat → Bool, WBox wr bd s T B ∧ (∀ i, i < min s T → B i = true) ∧ Below w.heap.size w wr) (fun _ kk _ => 40 - (intOf kk).toNat)
      case atStart => exact ⟨1, 0, rfl, by omega, rfl, fun _ => false, HO2.out, fun i hi => absurd hi (by omega), HX2.out⟩
      case round =>
        obtain ⟨k, T2, hkT, hk40, rfl, B2, hbox, hall, hbl⟩ := hrel
        have Hall := Lib.hid hall
        have Hbl := Lib.hid hbl
        obtain ⟨g3, n3, c3, hk3, hr3⟩ := hbox
        have x0 : wr.cell? ⟨bd, 0, none⟩ = some (.int .i64 (s : Nat)) := hk3.cell 0
        have x1 : wr.cell? ⟨bd, 1, none⟩ = some (.int .u64 (T2 : Nat)) := hk3.cell 1
        have x2 : wr.cell? ⟨bd, 2, none⟩ = some (.slice (some ⟨g3, 0, none⟩) n3 c3) := hk3.cell 2
        have hl3 := hk3.lt
        have Hk3 := Lib.hid hk3
        have Hr3 := Lib.hid hr3
        have HkT := Lib.hid hkT
        clear hall hbl hk3 hr3
        by_cases hk : k < 40
        · have q1 : decide ((k : Int) < 40) = true := decide_eq_true (by omega)
          clear hkT
          go_wp2_with fail
          refine (waccept s T2 g3 n3 c3 B2 k _ hs0 (by omega) (by have := HkT.out; omega) (by omega) Hr3.out).mono ?_
          rintro e w4 ⟨g4, c4, rfl, hg4, hr4, hb4⟩
          have hok : chk s T2 B2 k = 0 := by rw [HkT.out]; exact order_chk s T2 B2
          have hT4 : accT s T2 B2 k = k := by rw [acc_top hok]; have := HkT.out; omega
          have hB4 : ∀ i, i < min s k → accB s T2 B2 k i = true := by
            rw [HkT.out]; exact order_acc Hall.out
          rw [hok, hT4]
          have hk4 := Hk3.out.below hb4 hl3
          have hbl4 := Hbl.out.trans (hb4.mono Hbl.out.size)
          clear x0 x1 x2 hb4
          have x0 : w4.cell? ⟨bd, 0, none⟩ = some (.int .i64 (s : Nat)) := hk4.cell 0
          have x1 : w4.cell? ⟨bd, 1, none⟩ = some (.int .u64 (T2 : Nat)) := hk4.cell 1
          have x2 : w4.cell? ⟨bd, 2, none⟩ = some (.slice (some ⟨g3, 0, none⟩) n3 c3) := hk4.cell 2
          have f0 := hk4.free 0
          have f1 := hk4.free 1
          have f2 := hk4.free 2
          have n4 := ne_blk hr4 hs0 hk4 (by intro x hx; cases hx)
          go_upto_region 26 with (fail)
          have b5 : WBox _ bd s k (accB s T2 B2 k) := WBox.store (c' := c4) (T' := k) hk4 hr4 n4
          have u5 := ((hbl4.setCell (p := ⟨bd, 0, none⟩) hwd (.int .i64 (s : Nat))).setCell (p := ⟨bd, 1, none⟩) hwd (.int .u64 (k : Nat))).setCell (p := ⟨bd, 2, none⟩) hwd (.slice (some ⟨g4, 0, none⟩) n3 c4)
          generalize ((w4.setCell ⟨bd, 0, none⟩ (.int .i64 (s : Nat))).setCell ⟨bd, 1, none⟩ (.int .u64 (k : Nat))).setCell ⟨bd, 2, none⟩ (.slice (some ⟨g4, 0, none⟩) n3 c4) = W6 at *
          clear x0 x1 x2 f0 f1 f2 hok hT4 hk4 hr4
          generalize accB s T2 B2 k = B4 at *
          obtain ⟨g5, n5, c5, hk5, hr5⟩ := b5
          have x0 : W6.cell? ⟨bd, 0, none⟩ = some (.int .i64 (s : Nat)) := hk5.cell 0
          have x1 : W6.cell? ⟨bd, 1, none⟩ = some (.int .u64 (k : Nat)) := hk5.cell 1
          have x2 : W6.cell? ⟨bd, 2, none⟩ = some (.slice (some ⟨g5, 0, none⟩) n5 c5) := hk5.cell 2
          have hl5 := hk5.lt
          have Hk5 := Lib.hid hk5
          have Hr5 := Lib.hid hr5
          have Hu5 := Lib.hid u5
          have HB4 := Lib.hid hB4
          clear hk5 hr5 u5 hB4 hbl4
          go_wp2_with fail
          refine (wmissed s k g5 n5 c5 B4 _ hs0 (by omega) (by omega) Hr5.out).mono ?_
          rintro e w7 ⟨rfl, hb7⟩
          rw [cnt0_zero HB4.out]
          have hk7 := Hk5.out.below hb7 hl5
          clear x0 x1 x2
          have x1 : w7.cell? ⟨bd, 1, none⟩ = some (.int .u64 (k : Nat)) := hk7.cell 1
          have Hb7 := Lib.hid hb7
          clear hk7 hb7
          go_wp2_with fail
          go_roundw
          case rel => exact ⟨k + 1, k, rfl, by omega, by go_num, B4, WBox.below ⟨g5, n5, c5, Hk5.out, Hr5.out⟩ Hb7.out, HB4.out, Hu5.out.trans (Hb7.out.mono Hu5.out.size)⟩
          case measure => simp [intOf]; omega
        · have q1 : decide ((k : Int) < 40) = false := decide_eq_false (by omega)
          clear hkT
          go_wp2_with fail
          go_ret
          exact ⟨rfl, Hbl.out⟩
end Go.Proofs.Ytbepkfdfabgigaa.windowWider
