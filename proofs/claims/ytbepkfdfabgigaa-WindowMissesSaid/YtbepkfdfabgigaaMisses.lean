/-
  The walk of the law WindowMisses: what Missed answers is the number of the judged numbers that Check would accept, counted one by one.
  Conditions: none.
-/
import Derived.Test.YtbepkfdfabgigaaWinF
namespace Go.Proofs.Ytbepkfdfabgigaa.windowMisses
open Go.RowKit
set_option linter.unusedVariables false
/-- How many of the numbers 1 to k are accepted. -/
def opn (S T : Nat) (B : Nat → Bool) : Nat → Nat
  | 0 => 0
  | k + 1 => opn S T B k + if chk S T B (k + 1) = 0 then 1 else 0
theorem opn_le (S T : Nat) (B : Nat → Bool) (k : Nat) : opn S T B k ≤ k := by
  induction k with
  | zero => simp [opn]
  | succ k ih => simp only [opn]; split <;> omega
/-- How many of the first j bits below the size are not set. -/
def cnt1 (S : Nat) (B : Nat → Bool) : Nat → Nat
  | 0 => 0
  | j + 1 => cnt1 S B j + if j < S ∧ B j = false then 1 else 0
theorem cnt1_eq (S : Nat) (B : Nat → Bool) (j : Nat) : cnt1 S B j = cnt0 B (min S j) := by
  induction j with
  | zero => simp [cnt1, cnt0]
  | succ j ih =>
    simp only [cnt1]
    rw [ih]
    by_cases h : j < S
    · have e1 : min S j = j := by omega
      have e2 : min S (j + 1) = j + 1 := by omega
      rw [e1, e2]
      simp only [cnt0]
      cases hb : B j <;> simp [h]
    · have e1 : min S j = S := by omega
      have e2 : min S (j + 1) = S := by omega
      rw [e1, e2]
      simp [h]
theorem opn_cnt (S T : Nat) (B : Nat → Bool) (k : Nat) (hk : k ≤ T) : opn S T B k + cnt1 S B (T - k) = cnt1 S B T := by
  induction k with
  | zero => simp [opn]
  | succ k ih =>
    have h := ih (by omega)
    obtain ⟨j, hj⟩ : ∃ j, T - k = j + 1 := ⟨T - k - 1, by omega⟩
    rw [hj] at h
    simp only [cnt1] at h
    simp only [opn]
    have e : T - (k + 1) = j := by omega
    rw [e]
    have : chk S T B (k + 1) = 0 ↔ (j < S ∧ B j = false) := by
      unfold chk
      rw [if_neg (by omega), if_neg (by omega), e]
      by_cases h1 : S ≤ j
      · rw [if_pos h1]; constructor
        · intro h; cases h
        · intro h; omega
      · rw [if_neg h1]
        cases B j <;> simp
        omega
    by_cases hc : chk S T B (k + 1) = 0
    · rw [if_pos hc]; rw [if_pos (this.1 hc)] at h; omega
    · rw [if_neg hc]; rw [if_neg (fun x => hc (this.2 x))] at h; omega
theorem opn_all (S T : Nat) (B : Nat → Bool) : opn S T B T = cnt0 B (min S T) := by
  have h := opn_cnt S T B T (Nat.le_refl _)
  simp only [Nat.sub_self, cnt1, Nat.add_zero] at h
  rw [h, cnt1_eq]
/-- The loop's world: the choices, and the window in block ba. -/
def Rel (w : World) (gc q ba S p : Nat) (wr : World) : Prop :=
  ∃ T : Nat, ∃ B : Nat → Bool, Cod wr gc q p ∧ T ≤ 6 * p ∧ WBox wr ba S T B ∧ Below w.heap.size w wr
/-- The number that is tried. -/
def Rel2 (wr : World) (gc q N p1 : Nat) (v : Value) (wx : World) : Prop := ∃ m p2 : Nat, v = .int .u64 (m : Nat) ∧ m ≤ N ∧ Cod wx gc q p2 ∧ p1 ≤ p2 ∧ wr.grownBy wx (some gc)
set_option maxRecDepth 100000 in
set_option maxHeartbeats 2000000 in
theorem windowMisses_walk (w : World) (A : Option Addr) (len cap : Nat) (h : Byts w A len) (hl : len ≤ cap ∧ cap ≤ maxLen) (a1 : Int) (h1 : -9223372036854775808 ≤ a1 ∧ a1 ≤ 9223372036854775807) :
    Calls Try.prog 10 #[.slice A len cap, .int .i64 a1] w fun e w' => e = .returned (.bool true) ∧ Below w.heap.size w w' := by
  obtain ⟨s, hs⟩ : ∃ s : Nat, (s : Int) = a1 % 80 := ⟨(a1 % 80).toNat, by omega⟩
  have hs1 : s < 80 := by omega
  have Hs := Lib.hid hs
  clear hs
  go_enter Try.func10, Try.ntmps10
  go_wp2_with fail
  refine (awake_any _).mono ?_
  rintro e w' ⟨rfl, rfl⟩
  go_wp2_with fail
  refine (new_any A len cap 80 w h hl.1 hl.2 (by omega) (by omega)).mono ?_
  rintro e w1 ⟨gc, q, rfl, hgc, hcod, hq, hb1⟩
  go_wp2_with fail
  refine (mod_any a1 80 _ (by omega) (by omega) h1.1 h1.2).mono ?_
  rintro e w' ⟨rfl, rfl⟩
  rw [← Hs.out]
  have hs2 : ((1 : Int) + (s : Int)) = ((s + 1 : Nat) : Int) := by omega
  have hgclt := hcod.lt
  have Hcod := Lib.hid hcod
  have Hb1 := Lib.hid hb1
  clear hcod hb1 hq
  go_wp2_with fail
  refine (winnew_any (s + 1) _ (by omega) (by omega)).mono ?_
  rintro e w2 ⟨g, rfl, hg, hr, hb2⟩
  have hz2 := hb2.size
  go_wp2_with fail
  have h0 : Rel w gc q w2.heap.size (s + 1) 0 (w2.alloc (Obj.cells #[.int .i64 ((s : Int) + 1), .int .u64 0, .slice (some ⟨g, 0, none⟩) ((s + 1 + 63) / 64) ((s + 1 + 63) / 64)] 30)) :=
    ⟨0, fun _ => false, (Hcod.out.below hb2).alloc _, by omega, ⟨g, _, _, heap_alloc_new w2 _, (wrow_new hr).alloc _⟩, (Hb1.out.trans (hb2.mono Hb1.out.size)).alloc (by have := Hb1.out.size; omega) _⟩
  have H0 := Lib.hid h0
  have hgcw : w.heap.size ≤ gc := hgc
  have hbaw : w.heap.size ≤ w2.heap.size := by have := Hb1.out.size; omega
  clear h0 hb2 hr
  generalize w2.alloc (Obj.cells #[.int .i64 ((s : Int) + 1), .int .u64 0, .slice (some ⟨g, 0, none⟩) ((s + 1 + 63) / 64) ((s + 1 + 63) / 64)] 30) = W3 at *
  generalize w2.heap.size = ba at *
  go_loopw [8] (fun _ wr => ∃ p, Rel w gc q ba (s + 1) p wr) (fun _ wr => q - atOf wr gc)
  case atStart => exact ⟨0, H0.out⟩
  case round =>
    obtain ⟨p, T, B, hcod, hT, hbox, hbw⟩ := hrel
    have hat := hcod.atOf
    have hpq := hcod.le
    have hq250 := hcod.2.1
    have hne := hbox.ne hcod
    have Hbox := Lib.hid hbox
    have Hbw := Lib.hid hbw
    have Hcod := Lib.hid hcod
    have Hat := Lib.hid hat
    clear hbw hcod hat hbox
    by_cases hpn : p < q
    · have Hl : ∀ W', W' = wr → Calls Try.prog 20 #[.pointer (some ⟨gc, 0, none⟩)] W' fun e w' => e = .returned (.bool true) ∧ ∃ d, w' = wr.drewN d := by
        rintro W' rfl
        have := left_any gc q p W' Hcod.out
        rw [decide_eq_true hpn] at this
        exact this
      have HL := Lib.hid Hl
      clear Hl
      go_wp2_with fail
      refine (HL.out _ rfl).mono ?_
      rintro e w1 ⟨rfl, d, rfl⟩
      obtain ⟨g, n, c, hk, hrow⟩ := Hbox.out
      have x1 : wr.cell? ⟨ba, 1, none⟩ = some (.int .u64 (T : Nat)) := hk.cell 1
      have Nx : Hid (∀ (d : Nat) m, 1 ≤ m → m ≤ 6 → Calls Try.prog 19 #[.pointer (some ⟨gc, 0, none⟩), .int .i64 m] (wr.drewN d) fun e w' =>
          ∃ r p' : Nat, e = .returned (.int .i64 (r : Nat)) ∧ (r : Int) < m ∧ Cod w' gc q p' ∧ p < p' ∧ wr.grownBy w' (some gc) ∧ w'.cell? ⟨ba, 1, none⟩ = some (.int .u64 (T : Nat))) := Lib.hid (by
        intro d m hm0 hm1
        refine (next_any gc q p m _ (Hcod.out.drewN d) hm0 (by omega)).mono ?_
        rintro e w' ⟨r, p', rfl, hr, hc, _, hp, ho⟩
        have ho' : wr.grownBy w' (some gc) := only_trans (only_drewN (only_refl wr _) d) ho
        exact ⟨r, p', rfl, hr, hc, hp hpn, ho', ((hk.grown ho' (by simp [hne])).cell 1)⟩)
      clear hk hrow
      have k1 : (1 : Int) ≤ 6 := by omega
      go_wp2_with fail
      go_region_held3 (fun w' => w'.cell? ⟨ba, 1, none⟩ = some (.int .u64 (T : Nat))) (go_keep)
        (first
          | (go_at_call 19; refine (Nx.out _ 6 k1 (Int.le_refl _)).mono ?_; rintro e w1 ⟨r, p1, rfl, hr6, hc1, hp1, ho1, y1⟩))
      have e1 : IntKind.u64.wrap ((T : Int) + IntKind.u64.wrap (r : Int)) = ((T + r : Nat) : Int) := by rw [IntKind.wrap_u64, IntKind.wrap_u64]; omega
      rw [e1]
      have hrr : r ≤ 5 := by omega
      have hp250 := hc1.le
      have Hc1 := Lib.hid hc1
      have Ho1 := Lib.hid ho1
      obtain ⟨N, hN⟩ : ∃ N, N = T + r := ⟨_, rfl⟩
      have HN := Lib.hid hN
      have hN1 : N ≤ 6 * p + 5 := by omega
      rw [← hN]
      clear hc1 ho1 e1 hr6 hN x1 y1
      go_upto_region 7 with (fail)
      go_cut [8] (Rel2 wr gc q N p1)
      case first =>
        go_wp2_with fail
        refine (next_any gc q p1 5 _ Hc1.out (by omega) (by omega)).mono ?_
        rintro e w2 ⟨r2, p2, rfl, hr2, hc2, hp2, _, ho2⟩
        have Hfin : Hid (∀ m : Nat, m ≤ N → ∀ x : Int, x = (m : Nat) → Rel2 wr gc q N p1 (.int .u64 x) w2) := Lib.hid (fun m hm x hx => ⟨m, p2, by rw [hx], hm, hc2, hp2, only_trans Ho1.out ho2⟩)
        clear ho2 hc2
        go_wp2_with fail
        all_goals go_meet
        · exact Hfin.out (N - r2) (by omega) _ (by omega)
        · exact Hfin.out 0 (by omega) _ rfl
      case rest =>
        obtain ⟨m, p2, rfl, hmN, hc2, hp2, ho⟩ := hcut
        obtain ⟨g, n, c, hk2, hr2⟩ := Hbox.out.only (by omega) Hcod.out ho
        have hbw2 := below_only Hbw.out ho Hbw.out.size hgcw
        have y0 : wc.cell? ⟨ba, 0, none⟩ = some (.int .i64 ((s + 1 : Nat) : Nat)) := hk2.cell 0
        have y1 : wc.cell? ⟨ba, 1, none⟩ = some (.int .u64 (T : Nat)) := hk2.cell 1
        have y2 : wc.cell? ⟨ba, 2, none⟩ = some (.slice (some ⟨g, 0, none⟩) n c) := hk2.cell 2
        have hlba := hk2.lt
        have hlgc := hc2.lt
        have Hk2 := Lib.hid hk2
        have Hr2 := Lib.hid hr2
        have Hbw2 := Lib.hid hbw2
        have Hc2 := Lib.hid hc2
        clear hk2 hr2 hbw2 hc2 ho
        go_wp2_with fail
        refine (waccept (s + 1) T g n c B m _ (by omega) (by omega) (by omega) (by omega) Hr2.out).mono ?_
        rintro e w3 ⟨g3, c3, rfl, hg3, hr3, hbel3⟩
        have hk3 := Hk2.out.below hbel3 hlba
        have hc3 := Hc2.out.below hbel3
        have hbw3 := Hbw2.out.trans (hbel3.mono Hbw2.out.size)
        have v0 : w3.cell? ⟨ba, 0, none⟩ = some (.int .i64 ((s + 1 : Nat) : Nat)) := hk3.cell 0
        have v1 : w3.cell? ⟨ba, 1, none⟩ = some (.int .u64 (T : Nat)) := hk3.cell 1
        have v2 : w3.cell? ⟨ba, 2, none⟩ = some (.slice (some ⟨g, 0, none⟩) n c) := hk3.cell 2
        have f0 := hk3.free 0
        have f1 := hk3.free 1
        have f2 := hk3.free 2
        clear y0 y1 y2
        have hT3b := (accT_le (s + 1) T m B).2
        generalize hT3 : accT (s + 1) T B m = T3 at *
        generalize hB3 : accB (s + 1) T B m = B3 at *
        generalize hE3 : chk (s + 1) T B m = E3 at *
        clear hT3 hB3 hE3
        go_upto_region 9 with (fail)
        have jbox : WBox (((w3.setCell ⟨ba, 0, none⟩ (.int .i64 ((s : Int) + 1))).setCell ⟨ba, 1, none⟩ (.int .u64 (T3 : Nat))).setCell ⟨ba, 2, none⟩ (.slice (some ⟨g3, 0, none⟩) n c3)) ba (s + 1) T3 B3 := WBox.store hk3 hr3 (by omega)
        have jcod := hc3.store (u0 := .int .i64 ((s : Int) + 1)) (u1 := .int .u64 (T3 : Nat)) (u2 := .slice (some ⟨g3, 0, none⟩) n c3) hk3 (by intro _ h; cases h) (by intro _ h; cases h) hne
        have jbw : Below w.heap.size w (((w3.setCell ⟨ba, 0, none⟩ (.int .i64 ((s : Int) + 1))).setCell ⟨ba, 1, none⟩ (.int .u64 (T3 : Nat))).setCell ⟨ba, 2, none⟩ (.slice (some ⟨g3, 0, none⟩) n c3)) := ((hbw3.setCell (p := ⟨ba, 0, none⟩) hbaw _).setCell (p := ⟨ba, 1, none⟩) hbaw _).setCell (p := ⟨ba, 2, none⟩) hbaw _
        generalize ((w3.setCell ⟨ba, 0, none⟩ (.int .i64 ((s : Int) + 1))).setCell ⟨ba, 1, none⟩ (.int .u64 (T3 : Nat))).setCell ⟨ba, 2, none⟩ (.slice (some ⟨g3, 0, none⟩) n c3) = w4 at *
        have Jbox := Lib.hid jbox
        have Jcod := Lib.hid jcod
        have Jbw := Lib.hid jbw
        clear hk3 hc3 hbw3 v0 v1 v2 f0 f1 f2 hr3 hbel3 jbox jcod jbw
        go_wp2_with fail
        have hT3' : T3 ≤ 6 * p + 5 := by omega
        go_loopw [9, 10] (fun o kk wi => ∃ j : Nat, 1 ≤ j ∧ j ≤ T3 + 1 ∧ kk = .int .u64 j ∧ o = .int .i64 (opn (s + 1) T3 B3 (j - 1) : Nat) ∧ Below w4.heap.size w4 wi) (fun _ kk _ => T3 + 1 - (intOf kk).toNat)
        case atStart => exact ⟨1, by omega, by omega, rfl, rfl, Below.refl _ _⟩
        case round =>
          obtain ⟨j, hj1, hj2, rfl, rfl, hbi⟩ := hrel
          obtain ⟨g4, n4, c4, hk4, hr4⟩ := Jbox.out.below hbi
          have y0 : wr.cell? ⟨ba, 0, none⟩ = some (.int .i64 ((s + 1 : Nat) : Nat)) := hk4.cell 0
          have y1 : wr.cell? ⟨ba, 1, none⟩ = some (.int .u64 (T3 : Nat)) := hk4.cell 1
          have y2 : wr.cell? ⟨ba, 2, none⟩ = some (.slice (some ⟨g4, 0, none⟩) n4 c4) := hk4.cell 2
          have Hr4 := Lib.hid hr4
          have Hbi := Lib.hid hbi
          have hol := opn_le (s + 1) T3 B3 (j - 1)
          clear hk4 hr4 hbi
          by_cases hjT : j ≤ T3
          · have q1 : decide ((j : Int) ≤ T3) = true := decide_eq_true (by omega)
            go_wp2_with fail
            refine (wcheck (s + 1) T3 g4 n4 c4 B3 j _ (by omega) (by omega) (by omega) (by omega) Hr4.out).mono ?_
            rintro e w5 ⟨rfl, hb5⟩
            have Hb5 := Lib.hid (Hbi.out.trans (hb5.mono Hbi.out.size))
            have hstep : opn (s + 1) T3 B3 (j + 1 - 1) = opn (s + 1) T3 B3 (j - 1) + if chk (s + 1) T3 B3 j = 0 then 1 else 0 := by
              obtain ⟨i, rfl⟩ : ∃ i, j = i + 1 := ⟨j - 1, by omega⟩
              simp [opn]
            have Hstep := Lib.hid hstep
            clear hstep hb5
            by_cases hc0 : chk (s + 1) T3 B3 j = 0
            · have q2 : (((chk (s + 1) T3 B3 j : Nat) : Int) == 0) = true := by rw [hc0]; rfl
              have He : Hid (opn (s + 1) T3 B3 (j + 1 - 1) = opn (s + 1) T3 B3 (j - 1) + 1) := Lib.hid (by rw [Hstep.out, if_pos hc0])
              clear hc0
              go_wp2_with fail
              go_roundw
              case rel => exact ⟨j + 1, by omega, by omega, by go_num, by rw [He.out]; go_num, Hb5.out⟩
              case measure => simp [intOf]; omega
            · have q2 : (((chk (s + 1) T3 B3 j : Nat) : Int) == 0) = false := by rw [beq_eq_false_iff_ne]; omega
              have He : Hid (opn (s + 1) T3 B3 (j + 1 - 1) = opn (s + 1) T3 B3 (j - 1)) := Lib.hid (by rw [Hstep.out, if_neg hc0]; rfl)
              clear hc0
              go_wp2_with fail
              go_roundw
              case rel => exact ⟨j + 1, by omega, by omega, by go_num, by rw [He.out], Hb5.out⟩
              case measure => simp [intOf]; omega
          · have q1 : decide ((j : Int) ≤ T3) = false := decide_eq_false (by omega)
            have He : Hid (opn (s + 1) T3 B3 (j - 1) = cnt0 B3 (min (s + 1) T3)) := Lib.hid (by rw [← opn_all, show j - 1 = T3 by omega])
            go_wp2_with fail
            refine (wmissed (s + 1) T3 g4 n4 c4 B3 _ (by omega) (by omega) (by omega) Hr4.out).mono ?_
            rintro e w5 ⟨rfl, hb5⟩
            rw [He.out]
            have Hb5 := Lib.hid (Hbi.out.trans (hb5.mono Hbi.out.size))
            clear hb5
            go_wp2_with fail
            have hc5 := Jcod.out.below Hb5.out
            refine ⟨⟨p2, T3, B3, hc5, by omega, Jbox.out.below Hb5.out, Jbw.out.trans (Hb5.out.mono Jbw.out.size)⟩, ?_⟩
            rw [hc5.atOf, Hat.out]
            omega
    · have Hl : ∀ W', W' = wr → Calls Try.prog 20 #[.pointer (some ⟨gc, 0, none⟩)] W' fun e w' => e = .returned (.bool false) ∧ ∃ d, w' = wr.drewN d := by
        rintro W' rfl
        have := left_any gc q p W' Hcod.out
        rw [decide_eq_false hpn] at this
        exact this
      have HL := Lib.hid Hl
      clear Hl
      go_wp2_with fail
      refine (HL.out _ rfl).mono ?_
      rintro e w1 ⟨rfl, d, rfl⟩
      go_wp2_with fail
      go_ret
      exact ⟨rfl, below_drewN Hbw.out d⟩
end Go.Proofs.Ytbepkfdfabgigaa.windowMisses
