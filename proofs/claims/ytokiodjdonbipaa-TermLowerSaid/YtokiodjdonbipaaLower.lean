/-
  The walk of the law TermLower: which of two nonces is lower: of two different ones exactly one, without a circle.
  Conditions: none.
-/
import Derived.Test.YtokiodjdonbipaaName
import Derived.LoopTactic
namespace Go.Proofs.Ytokiodjdonbipaa.termLower
open Go.RowKit Go.Sort
set_option linter.unusedVariables false
/-- Five names lie in block g. -/
def Names (w : World) (g : Nat) (v : Nat → Int) : Prop :=
  ∀ i, i < 5 → fits (v i) ∧ w.cell? ⟨g, i * 3, none⟩ = some (.int .i64 2) ∧ w.cell? ⟨g, i * 3 + 1, none⟩ = some (.int .i64 (v i)) ∧ w.cell? ⟨g, i * 3 + 2, none⟩ = some (.slice none 0 0)
theorem Names.bel {w w' : World} {g : Nat} {v : Nat → Int} (h : Names w g v) (hb : Below w.heap.size w w') : Names w' g v := by
  intro i hi
  obtain ⟨h0, h1, h2, h3⟩ := h i hi
  have hg : g < w.heap.size := World.block_lt_of_cell? w ⟨g, i * 3, none⟩ h1
  exact ⟨h0, (hb.cell (p := ⟨g, _, none⟩) hg).trans h1, (hb.cell (p := ⟨g, _, none⟩) hg).trans h2, (hb.cell (p := ⟨g, _, none⟩) hg).trans h3⟩
theorem Names.mk (w : World) (a b c d e : Int) (ha : fits a) (hb : fits b) (hc : fits c) (hd : fits d) (he : fits e) :
    ∃ v, Names (w.alloc (.cells #[.int .i64 2, .int .i64 a, .slice none 0 0, .int .i64 2, .int .i64 b, .slice none 0 0, .int .i64 2, .int .i64 c, .slice none 0 0, .int .i64 2, .int .i64 d, .slice none 0 0, .int .i64 2, .int .i64 e, .slice none 0 0] 24)) w.heap.size v := by
  refine ⟨fun i => match i with | 0 => a | 1 => b | 2 => c | 3 => d | _ => e, fun i hi => ?_⟩
  have h : Blk _ w.heap.size _ _ := heap_alloc_new w (.cells #[.int .i64 2, .int .i64 a, .slice none 0 0, .int .i64 2, .int .i64 b, .slice none 0 0, .int .i64 2, .int .i64 c, .slice none 0 0, .int .i64 2, .int .i64 d, .slice none 0 0, .int .i64 2, .int .i64 e, .slice none 0 0] 24)
  match i, hi with
  | 0, _ => exact ⟨ha, h.cell 0, h.cell 1, h.cell 2⟩
  | 1, _ => exact ⟨hb, h.cell 3, h.cell 4, h.cell 5⟩
  | 2, _ => exact ⟨hc, h.cell 6, h.cell 7, h.cell 8⟩
  | 3, _ => exact ⟨hd, h.cell 9, h.cell 10, h.cell 11⟩
  | 4, _ => exact ⟨he, h.cell 12, h.cell 13, h.cell 14⟩
def nm (x : Int) : Tm := .mk 2 x []
abbrev nv (x : Int) : Value := .agg #[.int .i64 2, .int .i64 x, .slice none 0 0]
theorem nm_tr (w : World) {x : Int} (h : fits x) : Tr w (nm x) none 0 := Tr.leaf w 2 x none 0 (by unfold fits; omega) h (Nat.zero_le _)
theorem low_q {x y : Int} (hx : fits x) (hy : fits y) {b : Bool} (h : lowT (nm x) (nm y) = b) (w : World) (n : Nat) (os : Array Obj) :
    Calls Try.prog 18 #[nv x, nv y] (grow (redrawn w n) os) fun e w'' => e = .returned (.bool b) ∧ ∃ p : Regrown, w'' = grow (redrawn w p.d) p.os := by
  subst h
  exact Calls.regrown_of (lower_any (nm x) (nm y) _ none none 0 0 (nm_tr _ hx) (nm_tr _ hy))
theorem rlow_q {x y : Int} (hx : fits x) (hy : fits y) {b : Bool} (h : lowT (nm x) (nm y) = b) (w : World) (n : Nat) (os : Array Obj) :
    Calls Try.prog 19 #[nv x, nv y] (grow (redrawn w n) os) fun e w'' => e = .returned (.bool b) ∧ ∃ p : Regrown, w'' = grow (redrawn w p.d) p.os := by
  subst h
  exact Calls.regrown_of (rlower_any (nm x) (nm y) _ none none 0 0 (nm_tr _ hx) (nm_tr _ hy))
theorem equ_q {x y : Int} (hx : fits x) (hy : fits y) {b : Bool} (h : equT (nm x) (nm y) = b) (w : World) (n : Nat) (os : Array Obj) :
    Calls Try.prog 14 #[nv x, nv y] (grow (redrawn w n) os) fun e w'' => e = .returned (.bool b) ∧ ∃ p : Regrown, w'' = grow (redrawn w p.d) p.os := by
  subst h
  exact Calls.regrown_of (equal_any (nm x) (nm y) _ none none 0 0 (nm_tr _ hx) (nm_tr _ hy))
set_option maxRecDepth 100000 in
set_option maxHeartbeats 2000000 in
theorem termLower_walk (w : World) (a0 : Int) (h0 : -9223372036854775808 ≤ a0 ∧ a0 ≤ 9223372036854775807) (a1 : Int) (h1 : -9223372036854775808 ≤ a1 ∧ a1 ≤ 9223372036854775807) (a2 : Int) (h2 : -9223372036854775808 ≤ a2 ∧ a2 ≤ 9223372036854775807)
    (A : Option Addr) (len cap : Nat) (h : Byts w A len) (hl : len ≤ cap ∧ cap ≤ maxLen) :
    Calls Try.prog 4 #[.int .i64 a0, .int .i64 a1, .int .i64 a2, .slice A len cap] w fun e w' => e = .returned (.bool true) ∧ Below w.heap.size w w' := by
  have hm := follows_mixed
  go_enter Try.func4, Try.ntmps4
  go_wp2_with fail
  refine (awake_any _).mono ?_
  rintro e w1 ⟨rfl, hb1⟩
  have hby : Byts w1 A len := by
    intro k hk
    obtain ⟨ad, x, e, hx, hc⟩ := h k hk
    exact ⟨ad, x, e, hx, (hb1.cell (World.block_lt_of_cell? w _ hc)).trans hc⟩
  have B1 := Lib.hid hb1
  have HB := Lib.hid hby
  clear hb1 h hby
  go_wp2_with fail
  refine (new_any A len cap 20 _ HB.out hl.1 hl.2 (by omega) (by omega)).mono ?_
  rintro e w2 ⟨gc, q, rfl, hgc, hcod, hq, hb2⟩
  have hgcw : w.heap.size ≤ gc := Nat.le_trans B1.out.size hgc
  have B2 := Lib.hid (below_then B1.out hb2 B1.out.size)
  have C2 := Lib.hid hcod
  clear hcod hq hb2 hgc
  go_wp2_with fail
  refine (cname_any gc q 0 _ C2.out).mono ?_
  rintro e w3 ⟨o, k, p3, rfl, ho, hk1, hk5, hc3, _, hg3⟩
  have B3 := Lib.hid (below_only B2.out hg3 B2.out.size hgcw)
  have C3 := Lib.hid hc3
  have ex : ∃ x : Int, x = ((o * 1048576 + k : Nat) : Int) ∧ fits x := ⟨_, rfl, by unfold fits; omega⟩
  obtain ⟨x, hx, hxf⟩ := ex
  rw [← hx]
  clear hc3 hg3 hx
  go_wp2_with fail
  refine (cname_any gc q p3 _ C3.out).mono ?_
  rintro e w4 ⟨o', k', p4, rfl, ho', hk1', hk5', hc4, _, hg4⟩
  have B4 := Lib.hid (below_only B3.out hg4 B3.out.size hgcw)
  have ey : ∃ x : Int, x = ((o' * 1048576 + k' : Nat) : Int) ∧ fits x := ⟨_, rfl, by unfold fits; omega⟩
  obtain ⟨y, hy, hyf⟩ := ey
  rw [← hy]
  clear hc4 hg4 hy
  go_wp2_with fail
  obtain ⟨v, hv⟩ := Names.mk w4 a0 a1 a2 x y (by unfold fits; omega) (by unfold fits; omega) (by unfold fits; omega) hxf hyf
  have hb5 := B4.out.alloc B4.out.size (.cells #[.int .i64 2, .int .i64 a0, .slice none 0 0, .int .i64 2, .int .i64 a1, .slice none 0 0, .int .i64 2, .int .i64 a2, .slice none 0 0, .int .i64 2, .int .i64 x, .slice none 0 0, .int .i64 2, .int .i64 y, .slice none 0 0] 24)
  have V := Lib.hid hv
  have B5 := Lib.hid hb5
  clear hv hb5 hxf hyf
  generalize w4.alloc (Obj.cells #[.int .i64 2, .int .i64 a0, .slice none 0 0, .int .i64 2, .int .i64 a1, .slice none 0 0, .int .i64 2, .int .i64 a2, .slice none 0 0, .int .i64 2, .int .i64 x, .slice none 0 0, .int .i64 2, .int .i64 y, .slice none 0 0] 24) = W at *
  generalize w4.heap.size = g at *
  go_loopw [11] (fun i wr => ∃ k : Nat, k ≤ 5 ∧ i = .int .i64 k ∧ Below W.heap.size W wr) (fun i _ => 5 - (intOf i).toNat)
  case atStart => exact ⟨0, by omega, rfl, Below.refl _ _⟩
  case round =>
    obtain ⟨i, hi, rfl, hb⟩ := hrel
    obtain ⟨wo, hwo⟩ : ∃ wo : World, wo = wr := ⟨_, rfl⟩
    have Hb := Lib.hid hb
    clear hb
    by_cases hi5 : i < 5
    · rw [← hwo] at Hb ⊢
      clear hwo
      have x1 : decide ((i : Int) < 5) = true := by simp; omega
      go_wp2_with fail
      go_loopw [12] (fun j wr => ∃ k : Nat, k ≤ 5 ∧ j = .int .i64 k ∧ Below W.heap.size W wr) (fun j _ => 5 - (intOf j).toNat)
      case atStart => exact ⟨0, by omega, rfl, Hb.out⟩
      case round =>
        obtain ⟨j, hj, rfl, hb⟩ := hrel
        have Hb2 := Lib.hid hb
        by_cases hj5 : j < 5
        · have z1 : decide ((j : Int) < 5) = true := by simp; omega
          have N := Lib.hid (V.out.bel hb)
          clear hb
          have p1 : (0 : Int) ≤ (i : Int) := by omega
          have p2 : (i : Int) < 5 := by omega
          have p3 : (0 : Int) ≤ (j : Int) := by omega
          have p4 : (j : Int) < 5 := by omega
          have hfi := (N.out i hi5).1
          have hfj := (N.out j hj5).1
          have ltot := lowT_total (nm (v i)) (nm (v j))
          have lasy := @lowT_asymm (nm (v i)) (nm (v j))
          have hcase : (lowT (nm (v i)) (nm (v j)) = true ∧ lowT (nm (v j)) (nm (v i)) = false ∧ equT (nm (v i)) (nm (v j)) = false) ∨ (lowT (nm (v i)) (nm (v j)) = false ∧ lowT (nm (v j)) (nm (v i)) = true ∧ equT (nm (v i)) (nm (v j)) = false) ∨ (lowT (nm (v i)) (nm (v j)) = false ∧ lowT (nm (v j)) (nm (v i)) = false ∧ equT (nm (v i)) (nm (v j)) = true) := by
            revert ltot lasy
            cases lowT (nm (v i)) (nm (v j)) <;> cases lowT (nm (v j)) (nm (v i)) <;> cases equT (nm (v i)) (nm (v j)) <;> simp
          clear ltot lasy
          have Fi := Lib.hid hfi
          have Fj := Lib.hid hfj
          clear hfi hfj
          obtain ⟨_, yi0, yi1, yi2⟩ := N.out i hi5
          have gi0 := cell_regrown yi0
          have gi1 := cell_regrown yi1
          have gi2 := cell_regrown yi2
          clear yi0 yi1 yi2
          obtain ⟨_, yj0, yj1, yj2⟩ := N.out j hj5
          have gj0 := cell_regrown yj0
          have gj1 := cell_regrown yj1
          have gj2 := cell_regrown yj2
          clear yj0 yj1 yj2
          rcases hcase with ⟨e1, e2, e3⟩ | ⟨e1, e2, e3⟩ | ⟨e1, e2, e3⟩
          all_goals
            have E1 := Lib.hid e1
            have E2 := Lib.hid e2
            have E3 := Lib.hid e3
            clear e1 e2 e3
            go_wp2_with fail
            refine wp_region_quiet_below (by assumption) (by kernel_rfl) ?_
            repeat (go_big_quiet_step (first | with_reducible exact low_q Fi.out Fj.out E1.out _ _ _ | with_reducible exact rlow_q Fi.out Fj.out E1.out _ _ _ | with_reducible exact low_q Fj.out Fi.out E2.out _ _ _ | with_reducible exact equ_q Fi.out Fj.out E3.out _ _ _))
            refine wpQuiet_nil ?_
            intro _ hw'
            obtain ⟨⟨dq, osq⟩, hw''⟩ := hw'
            subst hw''
            have hbq := below_regrown wr dq osq
            generalize grow (redrawn wr dq) osq = w6 at *
            have N6 := Lib.hid (N.out.bel hbq)
            have Hb6 := Lib.hid (below_then Hb2.out hbq Hb2.out.size)
            clear hbq gi0 gi1 gi2 gj0 gj1 gj2
            obtain ⟨_, yi0, yi1, yi2⟩ := N6.out i hi5
            have gi0 := cell_regrown yi0
            have gi1 := cell_regrown yi1
            have gi2 := cell_regrown yi2
            clear yi0 yi1 yi2
            obtain ⟨_, yj0, yj1, yj2⟩ := N6.out j hj5
            have gj0 := cell_regrown yj0
            have gj1 := cell_regrown yj1
            have gj2 := cell_regrown yj2
            clear yj0 yj1 yj2
            go_wp2_with fail
            refine wp_region_quiet_below (by assumption) (by kernel_rfl) ?_
            repeat (go_big_quiet_step (first | with_reducible exact low_q Fi.out Fj.out E1.out _ _ _ | with_reducible exact rlow_q Fi.out Fj.out E1.out _ _ _ | with_reducible exact low_q Fj.out Fi.out E2.out _ _ _ | with_reducible exact equ_q Fi.out Fj.out E3.out _ _ _))
            refine wpQuiet_nil ?_
            intro _ hw'
            obtain ⟨⟨dq, osq⟩, hw''⟩ := hw'
            subst hw''
            have hbq := below_regrown w6 dq osq
            generalize grow (redrawn w6 dq) osq = w7 at *
            have N7 := Lib.hid (N6.out.bel hbq)
            have Hb7 := Lib.hid (below_then Hb6.out hbq Hb6.out.size)
            clear hbq gi0 gi1 gi2 gj0 gj1 gj2
            go_wp2_with fail
            go_loopw [14] (fun k wr => ∃ n : Nat, n ≤ 5 ∧ k = .int .i64 n ∧ Below W.heap.size W wr) (fun k _ => 5 - (intOf k).toNat)
            case atStart => exact ⟨0, by omega, rfl, Hb7.out⟩
          · case round =>
              obtain ⟨k, hk, rfl, hb⟩ := hrel
              by_cases hk5 : k < 5
              · have t1 : decide ((k : Int) < 5) = true := by simp; omega
                have p5 : (0 : Int) ≤ (k : Int) := by omega
                have p6 : (k : Int) < 5 := by omega
                have N8 := Lib.hid (V.out.bel hb)
                have Hb8 := Lib.hid hb
                clear hb
                obtain ⟨_, yi0, yi1, yi2⟩ := N8.out i hi5
                have gi0 := cell_regrown yi0
                have gi1 := cell_regrown yi1
                have gi2 := cell_regrown yi2
                obtain ⟨_, yj0, yj1, yj2⟩ := N8.out j hj5
                have gj0 := cell_regrown yj0
                have gj1 := cell_regrown yj1
                have gj2 := cell_regrown yj2
                obtain ⟨hfk, yk0, yk1, yk2⟩ := N8.out k hk5
                have gk0 := cell_regrown yk0
                have gk1 := cell_regrown yk1
                have gk2 := cell_regrown yk2
                have Fk := Lib.hid hfk
                clear hfk yi0 yi1 yi2 yj0 yj1 yj2 yk0 yk1 yk2
                by_cases hjk : lowT (nm (v j)) (nm (v k)) = true
                · have EK := Lib.hid hjk
                  have EL := Lib.hid (lowT_trans E1.out hjk)
                  clear hjk
                  go_wp2_with fail
                  refine wp_region_quiet_below (by assumption) (by kernel_rfl) ?_
                  repeat (go_big_quiet_step (first | with_reducible exact low_q Fj.out Fk.out EK.out _ _ _ | with_reducible exact low_q Fi.out Fk.out EL.out _ _ _))
                  refine wpQuiet_nil ?_
                  intro _ hw'
                  obtain ⟨⟨dq, osq⟩, hw''⟩ := hw'
                  subst hw''
                  go_wp2_with fail
                  go_roundw
                  case rel => exact ⟨k + 1, by omega, by go_num, below_then Hb8.out (below_regrown _ dq osq) Hb8.out.size⟩
                  case measure => simp [intOf]; omega
                · have hjk' : lowT (nm (v j)) (nm (v k)) = false := by simpa using hjk
                  have EK := Lib.hid hjk'
                  clear hjk hjk'
                  go_wp2_with fail
                  refine wp_region_quiet_below (by assumption) (by kernel_rfl) ?_
                  repeat (go_big_quiet_step (with_reducible exact low_q Fj.out Fk.out EK.out _ _ _))
                  refine wpQuiet_nil ?_
                  intro _ hw'
                  obtain ⟨⟨dq, osq⟩, hw''⟩ := hw'
                  subst hw''
                  go_wp2_with fail
                  go_roundw
                  case rel => exact ⟨k + 1, by omega, by go_num, below_then Hb8.out (below_regrown _ dq osq) Hb8.out.size⟩
                  case measure => simp [intOf]; omega
              · have t1 : decide ((k : Int) < 5) = false := by simp; omega
                have Hb8 := Lib.hid hb
                clear hb
                go_wp2_with fail
                refine ⟨⟨j + 1, by omega, by go_num, Hb8.out⟩, ?_⟩
                simp [intOf]
                omega
          · case round =>
              obtain ⟨k, hk, rfl, hb⟩ := hrel
              by_cases hk5 : k < 5
              · have t1 : decide ((k : Int) < 5) = true := by simp; omega
                have p5 : (0 : Int) ≤ (k : Int) := by omega
                have p6 : (k : Int) < 5 := by omega
                have N8 := Lib.hid (V.out.bel hb)
                have Hb8 := Lib.hid hb
                clear hb
                obtain ⟨_, yi0, yi1, yi2⟩ := N8.out i hi5
                have gi0 := cell_regrown yi0
                have gi1 := cell_regrown yi1
                have gi2 := cell_regrown yi2
                obtain ⟨_, yj0, yj1, yj2⟩ := N8.out j hj5
                have gj0 := cell_regrown yj0
                have gj1 := cell_regrown yj1
                have gj2 := cell_regrown yj2
                obtain ⟨hfk, yk0, yk1, yk2⟩ := N8.out k hk5
                have gk0 := cell_regrown yk0
                have gk1 := cell_regrown yk1
                have gk2 := cell_regrown yk2
                have Fk := Lib.hid hfk
                clear hfk yi0 yi1 yi2 yj0 yj1 yj2 yk0 yk1 yk2
                go_wp2_with fail
                refine wp_region_quiet_below (by assumption) (by kernel_rfl) ?_
                repeat (go_big_quiet_step (fail))
                refine wpQuiet_nil ?_
                intro _ hw'
                obtain ⟨⟨dq, osq⟩, hw''⟩ := hw'
                subst hw''
                go_wp2_with fail
                go_roundw
                case rel => exact ⟨k + 1, by omega, by go_num, below_then Hb8.out (below_regrown _ dq osq) Hb8.out.size⟩
                case measure => simp [intOf]; omega
              · have t1 : decide ((k : Int) < 5) = false := by simp; omega
                have Hb8 := Lib.hid hb
                clear hb
                go_wp2_with fail
                refine ⟨⟨j + 1, by omega, by go_num, Hb8.out⟩, ?_⟩
                simp [intOf]
                omega
          · case round =>
              obtain ⟨k, hk, rfl, hb⟩ := hrel
              by_cases hk5 : k < 5
              · have t1 : decide ((k : Int) < 5) = true := by simp; omega
                have p5 : (0 : Int) ≤ (k : Int) := by omega
                have p6 : (k : Int) < 5 := by omega
                have N8 := Lib.hid (V.out.bel hb)
                have Hb8 := Lib.hid hb
                clear hb
                obtain ⟨_, yi0, yi1, yi2⟩ := N8.out i hi5
                have gi0 := cell_regrown yi0
                have gi1 := cell_regrown yi1
                have gi2 := cell_regrown yi2
                obtain ⟨_, yj0, yj1, yj2⟩ := N8.out j hj5
                have gj0 := cell_regrown yj0
                have gj1 := cell_regrown yj1
                have gj2 := cell_regrown yj2
                obtain ⟨hfk, yk0, yk1, yk2⟩ := N8.out k hk5
                have gk0 := cell_regrown yk0
                have gk1 := cell_regrown yk1
                have gk2 := cell_regrown yk2
                have Fk := Lib.hid hfk
                clear hfk yi0 yi1 yi2 yj0 yj1 yj2 yk0 yk1 yk2
                go_wp2_with fail
                refine wp_region_quiet_below (by assumption) (by kernel_rfl) ?_
                repeat (go_big_quiet_step (fail))
                refine wpQuiet_nil ?_
                intro _ hw'
                obtain ⟨⟨dq, osq⟩, hw''⟩ := hw'
                subst hw''
                go_wp2_with fail
                go_roundw
                case rel => exact ⟨k + 1, by omega, by go_num, below_then Hb8.out (below_regrown _ dq osq) Hb8.out.size⟩
                case measure => simp [intOf]; omega
              · have t1 : decide ((k : Int) < 5) = false := by simp; omega
                have Hb8 := Lib.hid hb
                clear hb
                go_wp2_with fail
                refine ⟨⟨j + 1, by omega, by go_num, Hb8.out⟩, ?_⟩
                simp [intOf]
                omega
        · have z1 : decide ((j : Int) < 5) = false := by simp; omega
          clear hb
          go_wp2_with fail
          refine ⟨⟨i + 1, by omega, by go_num, Hb2.out⟩, ?_⟩
          simp [intOf]
          omega
    · have x1 : decide ((i : Int) < 5) = false := by simp; omega
      clear hwo
      go_wp2_with fail
      go_ret
      exact ⟨rfl, B5.out.trans (Hb.out.mono B5.out.size)⟩
end Go.Proofs.Ytokiodjdonbipaa.termLower
