/-
  The walk of the law WindowPlays: behind any numbers the window is the reference's, with the same errors and the same number of missed ones.
  Conditions: none.
-/
import Derived.Test.YtbepkfdfabgigaaWinF
import Derived.Deep.CutBlock
namespace Go.Proofs.Ytbepkfdfabgigaa.windowPlays
open Go.RowKit
set_option linter.unusedVariables false
/-- The loop's world: the choices, the two windows, the number. -/
def Rel (w : World) (gc q ba bb S p : Nat) (v : Value) (wr : World) : Prop :=
  ∃ T N : Nat, ∃ B : Nat → Bool, v = .int .u64 (N : Nat) ∧ Cod wr gc q p ∧ T < 4611686018427387904 + 200 * p ∧ N < 4611686018427387904 + 200 * p ∧ WBox wr ba S T B ∧ WBox wr bb S T B ∧ ba ≠ bb ∧ w.heap.size ≤ ba ∧ w.heap.size ≤ bb ∧ Below w.heap.size w wr
/-- The number that is tried. -/
def Rel2 (wr : World) (gc q p : Nat) (v : Value) (wx : World) : Prop := ∃ N p2 : Nat, v = .int .u64 (N : Nat) ∧ N < 4611686018427387904 + 200 * p2 ∧ Cod wx gc q p2 ∧ p < p2 ∧ wr.grownBy wx (some gc)
theorem ne_blk {w : World} {g n S b : Nat} {B : Nat → Bool} {t : TypeId} {cs : Array Value} (h : WRow w g n S B) (hS : 1 ≤ S) (hb : Blk w b t cs) (hv : ∀ x, cs[0]? ≠ some (.int .u64 x)) : g ≠ b := by
  rintro rfl
  obtain ⟨x, hx⟩ := h.cell hS
  exact hv _ ((hb.cell 0).symm.trans hx)
/-- Both windows stored. -/
theorem stores {w u : World} {gc q p2 ba bb S T3 ga na ca gb nb cb g5 c5 g7 c7 T : Nat} {B3 : Nat → Bool}
    (ja : Blk u ba 30 #[.int .i64 (S : Nat), .int .u64 (T : Nat), .slice (some ⟨ga, 0, none⟩) na ca]) (jb : Blk u bb 30 #[.int .i64 (S : Nat), .int .u64 (T : Nat), .slice (some ⟨gb, 0, none⟩) nb cb])
    (hva : ∀ x : Int, (#[Value.int IntKind.i64 (S : Nat), Value.int IntKind.u64 (T : Nat), Value.slice (some ⟨ga, 0, none⟩) na ca] : Array Value)[0]? ≠ some (.int .u64 x)) (hvb : ∀ x : Int, (#[Value.int IntKind.i64 (S : Nat), Value.int IntKind.u64 (T : Nat), Value.slice (some ⟨gb, 0, none⟩) nb cb] : Array Value)[0]? ≠ some (.int .u64 x))
    (r5 : WRow u g5 na S B3) (r7 : WRow u g7 nb S B3) (hc : Cod u gc q p2) (hS : 1 ≤ S) (hab : ba ≠ bb) (haw : w.heap.size ≤ ba) (hbw : w.heap.size ≤ bb) (hbel : Below w.heap.size w u) (m : Nat) (hT : T3 < 4611686018427387904 + 200 * p2) (hm : m < 4611686018427387904 + 200 * p2) :
    Rel w gc q ba bb S p2 (.int .u64 (m : Nat)) ((((((u.setCell ⟨ba, 0, none⟩ (.int .i64 (S : Nat))).setCell ⟨ba, 1, none⟩ (.int .u64 (T3 : Nat))).setCell ⟨ba, 2, none⟩ (.slice (some ⟨g5, 0, none⟩) na c5)).setCell ⟨bb, 0, none⟩ (.int .i64 (S : Nat))).setCell ⟨bb, 1, none⟩ (.int .u64 (T3 : Nat))).setCell ⟨bb, 2, none⟩ (.slice (some ⟨g7, 0, none⟩) nb c7)).drew ∧
    Cod ((((((u.setCell ⟨ba, 0, none⟩ (.int .i64 (S : Nat))).setCell ⟨ba, 1, none⟩ (.int .u64 (T3 : Nat))).setCell ⟨ba, 2, none⟩ (.slice (some ⟨g5, 0, none⟩) na c5)).setCell ⟨bb, 0, none⟩ (.int .i64 (S : Nat))).setCell ⟨bb, 1, none⟩ (.int .u64 (T3 : Nat))).setCell ⟨bb, 2, none⟩ (.slice (some ⟨g7, 0, none⟩) nb c7)).drew gc q p2 := by
  have n5a := ne_blk r5 hS ja hva
  have n7a := ne_blk r7 hS ja hva
  have n7b := ne_blk r7 hS jb hvb
  have nag : ba ≠ gc := hc.ne (ja.cell 0) (by intro _ _ _ h; cases h)
  have nbg : bb ≠ gc := hc.ne (jb.cell 0) (by intro _ _ _ h; cases h)
  have b1 : WBox _ ba S T3 B3 := WBox.store (c' := c5) (T' := T3) ja r5 n5a
  have c1 := hc.store (u0 := .int .i64 (S : Nat)) (u1 := .int .u64 (T3 : Nat)) (u2 := .slice (some ⟨g5, 0, none⟩) na c5) ja (by intro _ h; cases h) (by intro _ h; cases h) nag
  have j1 := ((jb.far (p := ⟨ba, 0, none⟩) (Ne.symm hab) (.int .i64 (S : Nat))).far (p := ⟨ba, 1, none⟩) (Ne.symm hab) (.int .u64 (T3 : Nat))).far (p := ⟨ba, 2, none⟩) (Ne.symm hab) (.slice (some ⟨g5, 0, none⟩) na c5)
  have r1 := ((r7.far n7a 0 (.int .i64 (S : Nat))).far n7a 1 (.int .u64 (T3 : Nat))).far n7a 2 (.slice (some ⟨g5, 0, none⟩) na c5)
  have w1 := ((hbel.setCell (p := ⟨ba, 0, none⟩) haw (.int .i64 (S : Nat))).setCell (p := ⟨ba, 1, none⟩) haw (.int .u64 (T3 : Nat))).setCell (p := ⟨ba, 2, none⟩) haw (.slice (some ⟨g5, 0, none⟩) na c5)
  generalize ((u.setCell ⟨ba, 0, none⟩ (.int .i64 (S : Nat))).setCell ⟨ba, 1, none⟩ (.int .u64 (T3 : Nat))).setCell ⟨ba, 2, none⟩ (.slice (some ⟨g5, 0, none⟩) na c5) = u1 at *
  have b2 : WBox _ bb S T3 B3 := WBox.store (c' := c7) (T' := T3) j1 r1 n7b
  have c2 := c1.store (u0 := .int .i64 (S : Nat)) (u1 := .int .u64 (T3 : Nat)) (u2 := .slice (some ⟨g7, 0, none⟩) nb c7) j1 (by intro _ h; cases h) (by intro _ h; cases h) nbg
  have w2 := ((w1.setCell (p := ⟨bb, 0, none⟩) hbw (.int .i64 (S : Nat))).setCell (p := ⟨bb, 1, none⟩) hbw (.int .u64 (T3 : Nat))).setCell (p := ⟨bb, 2, none⟩) hbw (.slice (some ⟨g7, 0, none⟩) nb c7)
  have x1 := b1.far hS j1 hvb hab 0 (.int .i64 (S : Nat))
  have j2 := j1.put 0 (.int .i64 (S : Nat))
  have x2 := x1.far hS j2 (by intro x hx; simp at hx) hab 1 (.int .u64 (T3 : Nat))
  have j3 := j2.put 1 (.int .u64 (T3 : Nat))
  have x3 := x2.far hS j3 (by intro x hx; simp at hx) hab 2 (.slice (some ⟨g7, 0, none⟩) nb c7)
  exact ⟨⟨T3, m, B3, rfl, c2.drewN 1, hT, hm, x3.drewN 1, b2.drewN 1, hab, haw, hbw, w2.drew⟩, c2.drewN 1⟩
set_option maxRecDepth 100000 in
set_option maxHeartbeats 4000000 in
theorem windowPlays_walk (w : World) (A : Option Addr) (len cap : Nat) (h : Byts w A len) (hl : len ≤ cap ∧ cap ≤ maxLen) (a1 : Int) (h1 : -9223372036854775808 ≤ a1 ∧ a1 ≤ 9223372036854775807) (a2 : Int) (h2 : 0 ≤ a2 ∧ a2 ≤ 18446744073709551615) :
    Calls Try.prog 8 #[.slice A len cap, .int .i64 a1, .int .u64 a2] w fun e w' => e = .returned (.bool true) ∧ Below w.heap.size w w' := by
  obtain ⟨s, hs⟩ : ∃ s : Nat, (s : Int) = a1 % 150 := ⟨(a1 % 150).toNat, by omega⟩
  have hs1 : s < 150 := by omega
  have Hs := Lib.hid hs
  clear hs
  obtain ⟨G, hG⟩ : ∃ G : Nat, a2 % 4611686018427387904 = (G : Nat) := ⟨(a2 % 4611686018427387904).toNat, by omega⟩
  have hG1 : G < 4611686018427387904 := by omega
  go_enter Try.func8, Try.ntmps8
  go_wp2_with fail
  refine (awake_any _).mono ?_
  rintro e w' ⟨rfl, rfl⟩
  go_wp2_with fail
  refine (new_any A len cap 120 w h hl.1 hl.2 (by omega) (by omega)).mono ?_
  rintro e w1 ⟨gc, q, rfl, hgc, hcod, hq, hb1⟩
  go_wp2_with fail
  refine (mod_any a1 150 _ (by omega) (by omega) h1.1 h1.2).mono ?_
  rintro e w' ⟨rfl, rfl⟩
  rw [← Hs.out]
  have hs2 : ((1 : Int) + (s : Int)) = ((s + 1 : Nat) : Int) := by omega
  have hgclt := hcod.lt
  have Hcod := Lib.hid hcod
  have Hb1 := Lib.hid hb1
  clear hcod hb1 hq
  go_wp2_with fail
  refine (winnew_any (s + 1) _ (by omega) (by omega)).mono ?_
  rintro e w2 ⟨g, rfl, hg, hr, hb2⟩
  have hz2 := hb2.size
  go_wp2_with fail
  refine (mod_any a1 150 _ (by omega) (by omega) h1.1 h1.2).mono ?_
  rintro e w' ⟨rfl, rfl⟩
  rw [← Hs.out]
  have hbx : WBox (w2.alloc (Obj.cells #[.int .i64 ((s : Int) + 1), .int .u64 0, .slice (some ⟨g, 0, none⟩) ((s + 1 + 63) / 64) ((s + 1 + 63) / 64)] 30)) w2.heap.size (s + 1) 0 (fun _ => false) := ⟨g, _, _, heap_alloc_new w2 _, (wrow_new hr).alloc _⟩
  have hc2 := (Hcod.out.below hb2).alloc (Obj.cells #[.int .i64 ((s : Int) + 1), .int .u64 0, .slice (some ⟨g, 0, none⟩) ((s + 1 + 63) / 64) ((s + 1 + 63) / 64)] 30)
  have hbw2 := (Hb1.out.trans (hb2.mono Hb1.out.size)).alloc (by have := Hb1.out.size; omega) (Obj.cells #[.int .i64 ((s : Int) + 1), .int .u64 0, .slice (some ⟨g, 0, none⟩) ((s + 1 + 63) / 64) ((s + 1 + 63) / 64)] 30)
  have hba : w.heap.size ≤ w2.heap.size := by have := Hb1.out.size; omega
  generalize hWA : w2.alloc (Obj.cells #[.int .i64 ((s : Int) + 1), .int .u64 0, .slice (some ⟨g, 0, none⟩) ((s + 1 + 63) / 64) ((s + 1 + 63) / 64)] 30) = WA at *
  have hWAz : w2.heap.size < WA.heap.size := hbx.lt
  generalize w2.heap.size = ba at *
  have Hbx := Lib.hid hbx
  have Hc2 := Lib.hid hc2
  have Hbw2 := Lib.hid hbw2
  clear hbx hc2 hbw2 hb2 hr hWA
  go_wp2_with fail
  refine (rwinnew_any (s + 1) _ (by omega) (by omega)).mono ?_
  rintro e w3 ⟨g', rfl, hg', hr', hb3⟩
  have hz3 := hb3.size
  go_wp2_with fail
  have h0 : Rel w gc q ba w3.heap.size (s + 1) 0 (.int .u64 1) (w3.alloc (Obj.cells #[.int .i64 ((s : Int) + 1), .int .u64 0, .slice (some ⟨g', 0, none⟩) ((s + 1 + 63) / 64) ((s + 1 + 63) / 64)] 30)) :=
    ⟨0, 1, fun _ => false, rfl, (Hc2.out.below hb3).alloc _, by omega, by omega, (Hbx.out.below hb3).alloc _, ⟨g', _, _, heap_alloc_new w3 _, (wrow_new hr').alloc _⟩, by omega, hba, by omega, (Hbw2.out.trans (hb3.mono Hbw2.out.size)).alloc (by omega) _⟩
  have H0 := Lib.hid h0
  clear h0 hb3 hr'
  generalize w3.alloc (Obj.cells #[.int .i64 ((s : Int) + 1), .int .u64 0, .slice (some ⟨g', 0, none⟩) ((s + 1 + 63) / 64) ((s + 1 + 63) / 64)] 30) = W3 at *
  generalize w3.heap.size = bb at *
  go_loopw [12] (fun v wr => ∃ p, Rel w gc q ba bb (s + 1) p v wr) (fun _ wr => q - atOf wr gc)
  case atStart => exact ⟨0, H0.out⟩
  case round =>
    obtain ⟨p, T, N, B, rfl, hcod, hT, hN, hboxa, hboxb, hab, haw, hbwb, hbw⟩ := hrel
    have hat := hcod.atOf
    have hpq := hcod.le
    have hq250 := hcod.2.1
    have hgcw : w.heap.size ≤ gc := hgc
    have Hba := Lib.hid hboxa
    have Hbb := Lib.hid hboxb
    have Hbw := Lib.hid hbw
    have Hcod := Lib.hid hcod
    have Hat := Lib.hid hat
    clear hbw hcod hat hboxa hboxb
    by_cases hpn : p < q
    · have Hl : ∀ W', W' = wr → Calls Try.prog 20 #[.pointer (some ⟨gc, 0, none⟩)] W' fun e w' => e = .returned (.bool true) ∧ ∃ d, w' = wr.drewN d := by
        rintro W' rfl
        have := left_any gc q p W' Hcod.out
        rw [decide_eq_true hpn] at this
        exact this
      have HL := Lib.hid Hl
      clear Hl
      go_wp2_with fail
      refine (HL.out _ rfl).mono ?_
      rintro e w1 ⟨rfl, d, rfl⟩
      go_upto_region 8 with (fail)
      go_wp2_with fail
      refine (next_any gc q p 8 _ (Hcod.out.drewN d) (by omega) (by omega)).mono ?_
      rintro e w1 ⟨r, p1, rfl, hr8, hc1, _, hp1, ho1⟩
      have hp1' : p < p1 := hp1 hpn
      have ho1' : wr.grownBy w1 (some gc) := only_trans (only_drewN (only_refl wr _) d) ho1
      have hp1q := hc1.le
      have Hc1 := Lib.hid hc1
      have Ho1 := Lib.hid ho1'
      clear hc1 ho1 ho1' hp1
      go_upto_block 2 with fail
      go_cut [12] (Rel2 wr gc q p)
      case first =>
        have Fin : Hid (∀ (x : Int) (M p2 : Nat) (w2 : World), x = (M : Nat) → M < 4611686018427387904 + 200 * p2 → Cod w2 gc q p2 → p < p2 → w1.grownBy w2 (some gc) → Rel2 wr gc q p (.int .u64 x) w2) :=
          Lib.hid (fun x M p2 w2 hx hM hc hp ho => ⟨M, p2, by rw [hx], hM, hc, hp, only_trans Ho1.out ho⟩)
        by_cases hr0 : r = 0
        · have q1 : ((r : Int) == 0) = true := beq_iff_eq.2 (by omega)
          have Q := Lib.hid hr0
          clear hr0
          go_wp2_with fail
          refine (next_any gc q p1 200 _ Hc1.out (by omega) (by omega)).mono ?_
          rintro e w2 ⟨r2, p2, rfl, hr2, hc2, hp2, _, ho2⟩
          have Hc2 := Lib.hid hc2
          have Ho2 := Lib.hid ho2
          clear hc2 ho2
          go_wp2_with fail
          go_meet
          exact Fin.out _ (N + r2) p2 _ (by omega) (by omega) Hc2.out (by omega) Ho2.out
        have q1 : ((r : Int) == 0) = false := beq_eq_false_iff_ne.2 (by omega)
        by_cases hr1 : r = 1
        · have q2 : ((r : Int) == 1) = true := beq_iff_eq.2 (by omega)
          have Q := Lib.hid hr1
          clear hr1 hr0
          go_wp2_with fail
          go_meet
          exact Fin.out _ G p1 _ hG (by omega) Hc1.out (by omega) (only_refl _ _)
        have q2 : ((r : Int) == 1) = false := beq_eq_false_iff_ne.2 (by omega)
        by_cases hr2 : r = 2
        · have q3 : ((r : Int) == 2) = true := beq_iff_eq.2 (by omega)
          have Q := Lib.hid hr2
          clear hr2
          go_wp2_with fail
          refine (next_any gc q p1 20 _ Hc1.out (by omega) (by omega)).mono ?_
          rintro e w2 ⟨r2, p2, rfl, hr2, hc2, hp2, _, ho2⟩
          have Hc2 := Lib.hid hc2
          have Ho2 := Lib.hid ho2
          clear hc2 ho2
          go_wp2_with fail
          all_goals go_meet
          · exact Fin.out _ (N - r2) p2 _ (by omega) (by omega) Hc2.out (by omega) Ho2.out
          · exact Fin.out _ 0 p2 _ rfl (by omega) Hc2.out (by omega) Ho2.out
        have q3 : ((r : Int) == 2) = false := beq_eq_false_iff_ne.2 (by omega)
        by_cases hr3 : r = 3
        · have q4 : ((r : Int) == 3) = true := beq_iff_eq.2 (by omega)
          have Q := Lib.hid hr3
          clear hr3
          go_wp2_with fail
          refine (next_any gc q p1 20 _ Hc1.out (by omega) (by omega)).mono ?_
          rintro e w2 ⟨r2, p2, rfl, hr2, hc2, hp2, _, ho2⟩
          have Hc2 := Lib.hid hc2
          have Ho2 := Lib.hid ho2
          clear hc2 ho2
          go_wp2_with fail
          all_goals go_meet
          · exact Fin.out _ (N - r2) p2 _ (by omega) (by omega) Hc2.out (by omega) Ho2.out
          · exact Fin.out _ 0 p2 _ rfl (by omega) Hc2.out (by omega) Ho2.out
        have q4 : ((r : Int) == 3) = false := beq_eq_false_iff_ne.2 (by omega)
        · clear hr3 hr2 hr1 hr0
          go_wp2_with fail
          refine (next_any gc q p1 4 _ Hc1.out (by omega) (by omega)).mono ?_
          rintro e w2 ⟨r2, p2, rfl, hr2, hc2, hp2, _, ho2⟩
          have Hc2 := Lib.hid hc2
          have Ho2 := Lib.hid ho2
          clear hc2 ho2
          go_wp2_with fail
          go_meet
          exact Fin.out _ (N + r2) p2 _ (by omega) (by omega) Hc2.out (by omega) Ho2.out
      case rest =>
        obtain ⟨m, p2, rfl, hm, hc2, hp2, ho⟩ := hcut
        have hp2q := hc2.le
        have hbaa := Hba.out.only (by omega) Hcod.out ho
        have hbbb := Hbb.out.only (by omega) Hcod.out ho
        have hbw2 := below_only Hbw.out ho Hbw.out.size hgcw
        obtain ⟨ga, na, ca, hka, hra⟩ := hbaa
        obtain ⟨gb, nb, cb, hkb, hrb⟩ := hbbb
        have F : ∀ wx, Below wc.heap.size wc wx → wx.cell? ⟨ba, 0, none⟩ = some (.int .i64 ((s + 1 : Nat) : Nat)) ∧ wx.cell? ⟨ba, 1, none⟩ = some (.int .u64 (T : Nat)) ∧ wx.cell? ⟨ba, 2, none⟩ = some (.slice (some ⟨ga, 0, none⟩) na ca) ∧
            wx.cell? ⟨bb, 0, none⟩ = some (.int .i64 ((s + 1 : Nat) : Nat)) ∧ wx.cell? ⟨bb, 1, none⟩ = some (.int .u64 (T : Nat)) ∧ wx.cell? ⟨bb, 2, none⟩ = some (.slice (some ⟨gb, 0, none⟩) nb cb) := fun wx hx =>
          ⟨(hka.below hx hka.lt).cell 0, (hka.below hx hka.lt).cell 1, (hka.below hx hka.lt).cell 2, (hkb.below hx hkb.lt).cell 0, (hkb.below hx hkb.lt).cell 1, (hkb.below hx hkb.lt).cell 2⟩
        have K1 : Hid (∀ wx, Below wc.heap.size wc wx → Calls Try.prog 23 #[.agg #[.int .i64 ((s : Int) + 1), .int .u64 (T : Nat), .slice (some ⟨ga, 0, none⟩) na ca], .int .u64 (m : Nat)] wx fun e w' => e = .returned (.int .i64 (chk (s + 1) T B m : Nat)) ∧ Below wc.heap.size wc w' ∧
            w'.cell? ⟨ba, 0, none⟩ = some (.int .i64 ((s + 1 : Nat) : Nat)) ∧ w'.cell? ⟨ba, 1, none⟩ = some (.int .u64 (T : Nat)) ∧ w'.cell? ⟨ba, 2, none⟩ = some (.slice (some ⟨ga, 0, none⟩) na ca) ∧
            w'.cell? ⟨bb, 0, none⟩ = some (.int .i64 ((s + 1 : Nat) : Nat)) ∧ w'.cell? ⟨bb, 1, none⟩ = some (.int .u64 (T : Nat)) ∧ w'.cell? ⟨bb, 2, none⟩ = some (.slice (some ⟨gb, 0, none⟩) nb cb)) :=
          Lib.hid (fun wx hx => (wcheck (s + 1) T ga na ca B m wx (by omega) (by omega) (by omega) (by omega) (hra.below hx)).mono fun e w' ⟨he, hb⟩ => ⟨he, hx.trans (hb.mono hx.size), F w' (hx.trans (hb.mono hx.size))⟩)
        have K2 : Hid (∀ wx, Below wc.heap.size wc wx → Calls Try.prog 24 #[.agg #[.int .i64 ((s : Int) + 1), .int .u64 (T : Nat), .slice (some ⟨gb, 0, none⟩) nb cb], .int .u64 (m : Nat)] wx fun e w' => e = .returned (.int .i64 (chk (s + 1) T B m : Nat)) ∧ Below wc.heap.size wc w' ∧
            w'.cell? ⟨ba, 0, none⟩ = some (.int .i64 ((s + 1 : Nat) : Nat)) ∧ w'.cell? ⟨ba, 1, none⟩ = some (.int .u64 (T : Nat)) ∧ w'.cell? ⟨ba, 2, none⟩ = some (.slice (some ⟨ga, 0, none⟩) na ca) ∧
            w'.cell? ⟨bb, 0, none⟩ = some (.int .i64 ((s + 1 : Nat) : Nat)) ∧ w'.cell? ⟨bb, 1, none⟩ = some (.int .u64 (T : Nat)) ∧ w'.cell? ⟨bb, 2, none⟩ = some (.slice (some ⟨gb, 0, none⟩) nb cb)) :=
          Lib.hid (fun wx hx => (wrcheck (s + 1) T gb nb cb B m wx (by omega) (by omega) (by omega) (by omega) (hrb.below hx)).mono fun e w' ⟨he, hb⟩ => ⟨he, hx.trans (hb.mono hx.size), F w' (hx.trans (hb.mono hx.size))⟩)
        obtain ⟨x0, x1, x2, y0, y1, y2⟩ := F wc (Below.refl _ _)
        have Hka := Lib.hid hka
        have Hra := Lib.hid hra
        have Hkb := Lib.hid hkb
        have Hrb := Lib.hid hrb
        have HF := Lib.hid F
        have Hbw2 := Lib.hid hbw2
        have Hc2 := Lib.hid hc2
        clear hka hra hkb hrb F hbw2 hc2 ho
        go_wp2_with fail
        go_region_held3 (fun w' => w'.cell? ⟨ba, 0, none⟩ = some (.int .i64 ((s + 1 : Nat) : Nat)) ∧ w'.cell? ⟨ba, 1, none⟩ = some (.int .u64 (T : Nat)) ∧ w'.cell? ⟨ba, 2, none⟩ = some (.slice (some ⟨ga, 0, none⟩) na ca) ∧
            w'.cell? ⟨bb, 0, none⟩ = some (.int .i64 ((s + 1 : Nat) : Nat)) ∧ w'.cell? ⟨bb, 1, none⟩ = some (.int .u64 (T : Nat)) ∧ w'.cell? ⟨bb, 2, none⟩ = some (.slice (some ⟨gb, 0, none⟩) nb cb)) (go_keep)
          (first
            | (go_at_call 23; refine (K1.out _ ?_).mono ?_; (first | exact Below.refl _ _ | exact (Below.refl _ _).drew | assumption); rintro e w4 ⟨rfl, hb4, x0', x1', x2', y0', y1', y2'⟩)
            | (go_at_call 24; refine (K2.out _ ?_).mono ?_; (first | exact Below.refl _ _ | exact (Below.refl _ _).drew | assumption); rintro e w5 ⟨rfl, hb5, x0', x1', x2', y0', y1', y2'⟩))
        clear x0 x1 x2 y0 y1 y2 x0' x1' x2' y0' y1' y2'
        obtain ⟨x0, x1, x2, y0, y1, y2⟩ := HF.out _ hb5
        have Hb5 := Lib.hid hb5
        have Hra5 := Lib.hid (Hra.out.below hb5)
        clear hb4 hb5
        go_wp2_with fail
        refine (waccept (s + 1) T ga na ca B m _ (by omega) (by omega) (by omega) (by omega) Hra5.out).mono ?_
        rintro e w6 ⟨g5, c5, rfl, hg5, hr5, hb6⟩
        have hb6' := Hb5.out.trans (hb6.mono Hb5.out.size)
        clear x0 x1 x2 y0 y1 y2
        obtain ⟨x0, x1, x2, y0, y1, y2⟩ := HF.out _ hb6'
        have hbblt := Hkb.out.lt
        have hbblt6 : bb < w6.heap.size := by have := hb6'.size; omega
        have Hb6 := Lib.hid hb6'
        have Hr5 := Lib.hid hr5
        clear hb6 hb6' hr5
        go_wp2_with fail
        refine (wraccept (s + 1) T gb nb cb B m _ (by omega) (by omega) (by omega) (by omega) ((Hrb.out.below Hb6.out).alloc _)).mono ?_
        rintro e w7 ⟨g7, c7, rfl, hr7, hb7⟩
        have hT3b := (accT_le (s + 1) T m B).2
        have hT3c : accT (s + 1) T B m < 4611686018427387904 + 200 * p2 := by omega
        have hr5 := Hr5.out
        clear Hr5 hT3b
        generalize hT3 : accT (s + 1) T B m = T3 at *
        generalize hB3 : accB (s + 1) T B m = B3 at *
        generalize hE3 : chk (s + 1) T B m = E3 at *
        clear hT3 hB3 hE3
        go_upto_region 20 with (fail)
        have hz6 := Hb6.out.size
        have hz7 := hb7.size
        simp only [World.size_alloc] at hz7
        have hk5 : Blk w7 w6.heap.size 30 #[.int .i64 ((s : Int) + 1), .int .u64 (T3 : Nat), .slice (some ⟨g5, 0, none⟩) na c5] :=
          Blk.below (w := w6.alloc (Obj.cells #[.int .i64 ((s : Int) + 1), .int .u64 (T3 : Nat), .slice (some ⟨g5, 0, none⟩) na c5] 30)) (heap_alloc_new w6 _) hb7 (by simp)
        have h5 : Blk (w7.alloc (Obj.cells #[.int .i64 ((s : Int) + 1), .int .u64 (T3 : Nat), .slice (some ⟨g7, 0, none⟩) nb c7] 30)) w6.heap.size 30 #[.int .i64 ((s + 1 : Nat) : Nat), .int .u64 (T3 : Nat), .slice (some ⟨g5, 0, none⟩) na c5] := hk5.alloc _
        have h7 : Blk (w7.alloc (Obj.cells #[.int .i64 ((s : Int) + 1), .int .u64 (T3 : Nat), .slice (some ⟨g7, 0, none⟩) nb c7] 30)) w7.heap.size 30 #[.int .i64 ((s + 1 : Nat) : Nat), .int .u64 (T3 : Nat), .slice (some ⟨g7, 0, none⟩) nb c7] := heap_alloc_new w7 _
        have r5 := ((hr5.alloc (Obj.cells #[.int .i64 ((s : Int) + 1), .int .u64 (T3 : Nat), .slice (some ⟨g5, 0, none⟩) na c5] 30)).below hb7).alloc (Obj.cells #[.int .i64 ((s : Int) + 1), .int .u64 (T3 : Nat), .slice (some ⟨g7, 0, none⟩) nb c7] 30)
        have r7 := hr7.alloc (Obj.cells #[.int .i64 ((s : Int) + 1), .int .u64 (T3 : Nat), .slice (some ⟨g7, 0, none⟩) nb c7] 30)
        have hbz := ((Hb6.out.alloc Hb6.out.size (Obj.cells #[.int .i64 ((s : Int) + 1), .int .u64 (T3 : Nat), .slice (some ⟨g5, 0, none⟩) na c5] 30)).trans (hb7.mono (by simp; omega))).alloc (by omega) (Obj.cells #[.int .i64 ((s : Int) + 1), .int .u64 (T3 : Nat), .slice (some ⟨g7, 0, none⟩) nb c7] 30)
        have hbalt := Hka.out.lt
        have nb5 : wc.heap.size ≤ w6.heap.size := hz6
        generalize w7.alloc (Obj.cells #[.int .i64 ((s : Int) + 1), .int .u64 (T3 : Nat), .slice (some ⟨g7, 0, none⟩) nb c7] 30) = W8 at *
        have n57 : w6.heap.size < w7.heap.size := by omega
        generalize w6.heap.size = b5 at *
        generalize w7.heap.size = b7 at *
        clear x0 x1 x2 y0 y1 y2 hk5 hb7 hr5 hr7
        have F8 : ∀ wx, Below W8.heap.size W8 wx → wx.cell? ⟨b5, 0, none⟩ = some (.int .i64 ((s + 1 : Nat) : Nat)) ∧ wx.cell? ⟨b5, 1, none⟩ = some (.int .u64 (T3 : Nat)) ∧ wx.cell? ⟨b5, 2, none⟩ = some (.slice (some ⟨g5, 0, none⟩) na c5) ∧
            wx.cell? ⟨b7, 0, none⟩ = some (.int .i64 ((s + 1 : Nat) : Nat)) ∧ wx.cell? ⟨b7, 1, none⟩ = some (.int .u64 (T3 : Nat)) ∧ wx.cell? ⟨b7, 2, none⟩ = some (.slice (some ⟨g7, 0, none⟩) nb c7) := fun wx hx =>
          ⟨(h5.below hx h5.lt).cell 0, (h5.below hx h5.lt).cell 1, (h5.below hx h5.lt).cell 2, (h7.below hx h7.lt).cell 0, (h7.below hx h7.lt).cell 1, (h7.below hx h7.lt).cell 2⟩
        have K3 : Hid (∀ wx, Below W8.heap.size W8 wx → Calls Try.prog 17 #[.agg #[.int .i64 ((s : Int) + 1), .int .u64 (T3 : Nat), .slice (some ⟨g5, 0, none⟩) na c5], .agg #[.int .i64 ((s : Int) + 1), .int .u64 (T3 : Nat), .slice (some ⟨g7, 0, none⟩) nb c7]] wx fun e w' => e = .returned (.bool true) ∧ Below W8.heap.size W8 w' ∧
            w'.cell? ⟨b5, 0, none⟩ = some (.int .i64 ((s + 1 : Nat) : Nat)) ∧ w'.cell? ⟨b5, 1, none⟩ = some (.int .u64 (T3 : Nat)) ∧ w'.cell? ⟨b5, 2, none⟩ = some (.slice (some ⟨g5, 0, none⟩) na c5) ∧
            w'.cell? ⟨b7, 0, none⟩ = some (.int .i64 ((s + 1 : Nat) : Nat)) ∧ w'.cell? ⟨b7, 1, none⟩ = some (.int .u64 (T3 : Nat)) ∧ w'.cell? ⟨b7, 2, none⟩ = some (.slice (some ⟨g7, 0, none⟩) nb c7)) :=
          Lib.hid (fun wx hx => by
            have hn := (wrow_inj r5 r7).1
            subst hn
            exact (wsame (s + 1) T3 g5 na c5 g7 c7 B3 wx (by omega) (by omega) (r5.below hx) (r7.below hx)).mono fun e w' ⟨he, hb⟩ => ⟨he, hx.trans (hb.mono hx.size), F8 w' (hx.trans (hb.mono hx.size))⟩)
        have K4 : Hid (∀ wx, Below W8.heap.size W8 wx → Calls Try.prog 25 #[.agg #[.int .i64 ((s : Int) + 1), .int .u64 (T3 : Nat), .slice (some ⟨g5, 0, none⟩) na c5]] wx fun e w' => e = .returned (.int .i64 (cnt0 B3 (min (s + 1) T3) : Nat)) ∧ Below W8.heap.size W8 w' ∧
            w'.cell? ⟨b5, 0, none⟩ = some (.int .i64 ((s + 1 : Nat) : Nat)) ∧ w'.cell? ⟨b5, 1, none⟩ = some (.int .u64 (T3 : Nat)) ∧ w'.cell? ⟨b5, 2, none⟩ = some (.slice (some ⟨g5, 0, none⟩) na c5) ∧
            w'.cell? ⟨b7, 0, none⟩ = some (.int .i64 ((s + 1 : Nat) : Nat)) ∧ w'.cell? ⟨b7, 1, none⟩ = some (.int .u64 (T3 : Nat)) ∧ w'.cell? ⟨b7, 2, none⟩ = some (.slice (some ⟨g7, 0, none⟩) nb c7)) :=
          Lib.hid (fun wx hx => (wmissed (s + 1) T3 g5 na c5 B3 wx (by omega) (by omega) (by omega) (r5.below hx)).mono fun e w' ⟨he, hb⟩ => ⟨he, hx.trans (hb.mono hx.size), F8 w' (hx.trans (hb.mono hx.size))⟩)
        have K5 : Hid (∀ wx, Below W8.heap.size W8 wx → Calls Try.prog 26 #[.agg #[.int .i64 ((s : Int) + 1), .int .u64 (T3 : Nat), .slice (some ⟨g7, 0, none⟩) nb c7]] wx fun e w' => e = .returned (.int .i64 (cnt0 B3 (min (s + 1) T3) : Nat)) ∧ Below W8.heap.size W8 w' ∧
            w'.cell? ⟨b5, 0, none⟩ = some (.int .i64 ((s + 1 : Nat) : Nat)) ∧ w'.cell? ⟨b5, 1, none⟩ = some (.int .u64 (T3 : Nat)) ∧ w'.cell? ⟨b5, 2, none⟩ = some (.slice (some ⟨g5, 0, none⟩) na c5) ∧
            w'.cell? ⟨b7, 0, none⟩ = some (.int .i64 ((s + 1 : Nat) : Nat)) ∧ w'.cell? ⟨b7, 1, none⟩ = some (.int .u64 (T3 : Nat)) ∧ w'.cell? ⟨b7, 2, none⟩ = some (.slice (some ⟨g7, 0, none⟩) nb c7)) :=
          Lib.hid (fun wx hx => (wrmissed (s + 1) T3 g7 nb c7 B3 wx (by omega) (by omega) (by omega) (r7.below hx)).mono fun e w' ⟨he, hb⟩ => ⟨he, hx.trans (hb.mono hx.size), F8 w' (hx.trans (hb.mono hx.size))⟩)
        obtain ⟨x0, x1, x2, y0, y1, y2⟩ := F8 W8 (Below.refl _ _)
        have H5 := Lib.hid h5
        have H7 := Lib.hid h7
        have R5 := Lib.hid r5
        have R7 := Lib.hid r7
        have HF8 := Lib.hid F8
        have Hbz := Lib.hid hbz
        clear h5 h7 r5 r7 F8 hbz
        go_region_held3 (fun w' => w'.cell? ⟨b5, 0, none⟩ = some (.int .i64 ((s + 1 : Nat) : Nat)) ∧ w'.cell? ⟨b5, 1, none⟩ = some (.int .u64 (T3 : Nat)) ∧ w'.cell? ⟨b5, 2, none⟩ = some (.slice (some ⟨g5, 0, none⟩) na c5) ∧
            w'.cell? ⟨b7, 0, none⟩ = some (.int .i64 ((s + 1 : Nat) : Nat)) ∧ w'.cell? ⟨b7, 1, none⟩ = some (.int .u64 (T3 : Nat)) ∧ w'.cell? ⟨b7, 2, none⟩ = some (.slice (some ⟨g7, 0, none⟩) nb c7)) (go_keep)
          (first
            | (go_at_call 17; refine (K3.out _ ?_).mono ?_; (first | exact Below.refl _ _ | exact (Below.refl _ _).drew | assumption); rintro e w9 ⟨rfl, hb9, x0', x1', x2', y0', y1', y2'⟩)
            | (go_at_call 25; refine (K4.out _ ?_).mono ?_; (first | exact Below.refl _ _ | exact (Below.refl _ _).drew | assumption); rintro e w10 ⟨rfl, hb10, x0', x1', x2', y0', y1', y2'⟩)
            | (go_at_call 26; refine (K5.out _ ?_).mono ?_; (first | exact Below.refl _ _ | exact (Below.refl _ _).drew | assumption); rintro e w11 ⟨rfl, hb11, x0', x1', x2', y0', y1', y2'⟩))
        clear x0 x1 x2 y0 y1 y2 x0' x1' x2' y0' y1' y2'
        obtain ⟨x0, x1, x2, y0, y1, y2⟩ := HF8.out _ hb11
        have hza := Hbz.out.size
        have jka := (Hka.out.below Hbz.out hbalt).below hb11 (by omega)
        have jkb := (Hkb.out.below Hbz.out hbblt).below hb11 (by omega)
        have u0 : w11.cell? ⟨ba, 0, none⟩ = some (.int .i64 ((s + 1 : Nat) : Nat)) := jka.cell 0
        have u1 : w11.cell? ⟨ba, 1, none⟩ = some (.int .u64 (T : Nat)) := jka.cell 1
        have u2 : w11.cell? ⟨ba, 2, none⟩ = some (.slice (some ⟨ga, 0, none⟩) na ca) := jka.cell 2
        have v0 : w11.cell? ⟨bb, 0, none⟩ = some (.int .i64 ((s + 1 : Nat) : Nat)) := jkb.cell 0
        have v1 : w11.cell? ⟨bb, 1, none⟩ = some (.int .u64 (T : Nat)) := jkb.cell 1
        have v2 : w11.cell? ⟨bb, 2, none⟩ = some (.slice (some ⟨gb, 0, none⟩) nb cb) := jkb.cell 2
        have fa0 := jka.free 0
        have fa1 := jka.free 1
        have fa2 := jka.free 2
        have fb0 := jkb.free 0
        have fb1 := jkb.free 1
        have fb2 := jkb.free 2
        have hbalt5 : ba < b5 := by omega
        have hbblt5 : bb < b5 := by omega
        have na5 : ba ≠ b5 := by omega
        have na7 : ba ≠ b7 := by omega
        have nb5' : bb ≠ b5 := by omega
        have nb7 : bb ≠ b7 := by omega
        have Jka := Lib.hid jka
        have Jkb := Lib.hid jkb
        have J5 := Lib.hid (H5.out.below hb11 H5.out.lt)
        have J7 := Lib.hid (H7.out.below hb11 H7.out.lt)
        have JR5 := Lib.hid (R5.out.below hb11)
        have JR7 := Lib.hid (R7.out.below hb11)
        have Hb11 := Lib.hid hb11
        clear jka jkb hb9 hb10 hb11
        go_wp2_with fail
        go_region
        go_wp2_with fail
        have hx30 : ∀ x : Int, (#[Value.int IntKind.i64 ((s + 1 : Nat) : Nat), Value.int IntKind.u64 (T : Nat), Value.slice (some ⟨ga, 0, none⟩) na ca] : Array Value)[0]? ≠ some (.int .u64 x) := by intro x hx; cases hx
        have hx31 : ∀ x : Int, (#[Value.int IntKind.i64 ((s + 1 : Nat) : Nat), Value.int IntKind.u64 (T : Nat), Value.slice (some ⟨gb, 0, none⟩) nb cb] : Array Value)[0]? ≠ some (.int .u64 x) := by intro x hx; cases hx
        have e1 := stores (w := w) (u := w11) (S := s + 1) (T3 := T3) (c5 := c5) (c7 := c7) (p2 := p2) (q := q) (gc := gc) Jka.out Jkb.out hx30 hx31 JR5.out JR7.out (((Hc2.out.below Hbz.out)).below Hb11.out) (by omega) hab haw hbwb (Hbw2.out.trans ((Hbz.out.trans (Hb11.out.mono hza)).mono Hbw2.out.size)) m (by omega) (by omega)
        have e2 : ∀ x, x = p2 → q - x < q - atOf wr gc := fun x hx => by rw [hx, Hat.out]; omega
        exact ⟨⟨p2, e1.1⟩, e2 _ e1.2.atOf⟩
    · have Hl : ∀ W', W' = wr → Calls Try.prog 20 #[.pointer (some ⟨gc, 0, none⟩)] W' fun e w' => e = .returned (.bool false) ∧ ∃ d, w' = wr.drewN d := by
        rintro W' rfl
        have := left_any gc q p W' Hcod.out
        rw [decide_eq_false hpn] at this
        exact this
      have HL := Lib.hid Hl
      clear Hl
      go_wp2_with fail
      refine (HL.out _ rfl).mono ?_
      rintro e w1 ⟨rfl, d, rfl⟩
      go_wp2_with fail
      go_ret
      exact ⟨rfl, below_drewN Hbw.out d⟩
end Go.Proofs.Ytbepkfdfabgigaa.windowPlays
