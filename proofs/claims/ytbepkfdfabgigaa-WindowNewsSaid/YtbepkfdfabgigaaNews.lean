/-
  The walk of the law WindowNews: window.New and the reference's New answer the same window or the same error, at any size.
  Conditions: none.
-/
import Derived.Test.YtbepkfdfabgigaaWinC
namespace Go.Proofs.Ytbepkfdfabgigaa.windowNews
open Go.RowKit
set_option linter.unusedVariables false
def us (t : Int) (k : Nat) : Int := if k = 0 then t else if k = 1 then 1 + t % 1024 else t % 3 + 1023
theorem us_bd (t : Int) (k : Nat) (h : -9223372036854775808 ≤ t ∧ t ≤ 9223372036854775807) : -9223372036854775808 ≤ us t k ∧ us t k ≤ 9223372036854775807 := by
  unfold us; split
  · omega
  · split <;> omega
theorem same_zero (S g n c g' c' : Nat) (w : World) (hn0 : 1 ≤ n) (hn1 : n ≤ 1000) (hr : Row w g n fun _ => .int .u64 (0 : Nat)) (hr' : Row w g' n fun _ => .int .u64 (0 : Nat)) :
    Calls Try.prog 17 #[.agg #[.int .i64 (S : Nat), .int .u64 0, .slice (some ⟨g, 0, none⟩) n c], .agg #[.int .i64 (S : Nat), .int .u64 0, .slice (some ⟨g', 0, none⟩) n c']] w fun e w' => e = .returned (.bool true) ∧ Below w.heap.size w w' :=
  same_any S 0 g n c g' c' (fun _ => 0) w hn0 hn1 hr hr'
theorem windowNews_walk (w : World) (a0 : Int) (h0 : -9223372036854775808 ≤ a0 ∧ a0 ≤ 9223372036854775807) :
    Calls Try.prog 4 #[.int .i64 a0] w fun e w' => e = .returned (.bool true) ∧ Below w.heap.size w w' := by
  have Hs := Lib.hid (mod_any a0 1024 w (by omega) (by omega) h0.1 h0.2)
  have Hk := Lib.hid (mod_any a0 3 w (by omega) (by omega) h0.1 h0.2)
  have Hu := Lib.hid (us_bd a0)
  have s0 : 0 ≤ a0 % 1024 := by omega
  have s1 : a0 % 1024 ≤ 1023 := by omega
  have k0 : 0 ≤ a0 % 3 := by omega
  have k1 : a0 % 3 ≤ 2 := by omega
  go_enter Try.func4, Try.ntmps4
  go_wp2_with fail
  refine (awake_any _).mono ?_
  rintro e w' ⟨rfl, rfl⟩
  go_wp2_with fail
  refine Hs.out.mono ?_
  rintro e w' ⟨rfl, rfl⟩
  go_wp2_with fail
  refine Hk.out.mono ?_
  rintro e w' ⟨rfl, rfl⟩
  go_wp2_with fail
  have hg : Below w.heap.size w (w.alloc (Obj.cells #[Value.int IntKind.i64 a0, Value.int IntKind.i64 (1 + a0 % 1024), Value.int IntKind.i64 (a0 % 3 + 1023)] 3)) := (Below.refl _ _).alloc (Nat.le_refl _) _
  have hb : Blk (w.alloc (Obj.cells #[Value.int IntKind.i64 a0, Value.int IntKind.i64 (1 + a0 % 1024), Value.int IntKind.i64 (a0 % 3 + 1023)] 3)) w.heap.size 3 #[Value.int IntKind.i64 a0, Value.int IntKind.i64 (1 + a0 % 1024), Value.int IntKind.i64 (a0 % 3 + 1023)] := heap_alloc_new w _
  have hr : Row (w.alloc (Obj.cells #[Value.int IntKind.i64 a0, Value.int IntKind.i64 (1 + a0 % 1024), Value.int IntKind.i64 (a0 % 3 + 1023)] 3)) w.heap.size 3 (fun k => .int .i64 (us a0 k)) := Row.of_blk hb (fun k hk => by
    rcases (by omega : k = 0 ∨ k = 1 ∨ k = 2) with rfl | rfl | rfl <;> rfl)
  generalize w.alloc (Obj.cells #[Value.int IntKind.i64 a0, Value.int IntKind.i64 (1 + a0 % 1024), Value.int IntKind.i64 (a0 % 3 + 1023)] 3) = W1 at *
  have HG := Lib.hid hg
  have HR := Lib.hid hr
  have hB : w.heap.size < W1.heap.size := hb.lt
  clear hg hr hb Hs Hk
  go_loopw [20] (fun i wr => ∃ n : Nat, n ≤ 3 ∧ i = .int .i64 n ∧ Below W1.heap.size W1 wr) (fun i _ => 3 - (intOf i).toNat)
  case atStart => exact ⟨0, by omega, rfl, Below.refl _ _⟩
  case round =>
    obtain ⟨n, hn, rfl, hbr⟩ := hrel
    have HBr := Lib.hid hbr
    have hrr := HR.out.below' hbr
    have hsz := hbr.size
    clear hbr
    by_cases hlt : n < 3
    · have hcell : wr.cell? ⟨w.heap.size, n, none⟩ = some (.int .i64 (us a0 n)) := hrr n hlt
      clear hrr
      obtain ⟨hu0, hu1⟩ := Hu.out n h0
      generalize us a0 n = u at hcell hu0 hu1
      by_cases hin : 1 ≤ u ∧ u ≤ 1024
      · obtain ⟨hi0, hi1⟩ := hin
        obtain ⟨S, rfl⟩ := Int.eq_ofNat_of_zero_le (by omega : 0 ≤ u)
        go_wp2_with fail
        refine (winnew_any S _ (by omega) (by omega)).mono ?_
        rintro e w1 ⟨g1, rfl, hg1, hr1, hb1⟩
        go_wp2_with fail
        refine (rwinnew_any S _ (by omega) (by omega)).mono ?_
        rintro e w2 ⟨g2, rfl, hg2, hr2, hb2⟩
        have hr12 := (hr1.alloc _).below' hb2
        have hw1 := hb1.size
        have hw2 := hb2.size
        simp only [World.size_alloc] at hw2
        have hw3 : w1.heap.size < w2.heap.size := by omega
        have HB2 : Hid (Below W1.heap.size W1 w2) := Lib.hid (((HBr.out.trans (hb1.mono hsz)).alloc (by omega) _).trans (hb2.mono (by simp; omega)))
        have Hr1 := Lib.hid hr12
        have Hr2 := Lib.hid hr2
        have hb21 : w2.cell? ⟨w1.heap.size, 0, none⟩ = some (.int .i64 (S : Nat)) := (hb2.cell (by simp)).trans (by go_simp)
        have hb22 : w2.cell? ⟨w1.heap.size, 1, none⟩ = some (.int .u64 0) := (hb2.cell (by simp)).trans (by go_simp)
        have hb23 : w2.cell? ⟨w1.heap.size, 2, none⟩ = some (.slice (some ⟨g1, 0, none⟩) ((S + 63) / 64) ((S + 63) / 64)) := (hb2.cell (by simp)).trans (by go_simp)
        clear hb1 hb2 hr1 hr2 hr12
        go_wp2_with fail
        refine (same_zero S g1 ((S + 63) / 64) ((S + 63) / 64) g2 ((S + 63) / 64) _ (by omega) (by omega) (Hr1.out.alloc _) (Hr2.out.alloc _)).mono ?_
        rintro e w3 ⟨rfl, hb3⟩
        have HB3 : Hid (Below W1.heap.size W1 w3) := Lib.hid ((HB2.out.alloc HB2.out.size _).trans (hb3.mono (by simp; omega)))
        clear hb3
        go_wp2_with fail
        go_roundw
        case rel => exact ⟨n + 1, by omega, by go_num, HB3.out⟩
        case measure => simp [intOf]; omega
      · have hout : u < 1 ∨ 1024 < u := by omega
        clear hin
        go_wp2_with fail
        refine (winnew_no u _ (by omega) (by omega) hout).mono ?_
        rintro e w1 ⟨rfl, hb1⟩
        go_wp2_with fail
        refine (rwinnew_no u _ (by omega) (by omega) hout).mono ?_
        rintro e w2 ⟨rfl, hb2⟩
        have hw1 := hb1.size
        have hw2 := hb2.size
        simp only [World.size_alloc] at hw2
        have hw3 : w1.heap.size < w2.heap.size := by omega
        have HB2 : Hid (Below W1.heap.size W1 w2) := Lib.hid (((HBr.out.trans (hb1.mono hsz)).alloc (by omega) _).trans (hb2.mono (by simp; omega)))
        have hb21 : w2.cell? ⟨w1.heap.size, 0, none⟩ = some (.int .i64 0) := (hb2.cell (by simp)).trans (by go_simp)
        have hb22 : w2.cell? ⟨w1.heap.size, 1, none⟩ = some (.int .u64 0) := (hb2.cell (by simp)).trans (by go_simp)
        have hb23 : w2.cell? ⟨w1.heap.size, 2, none⟩ = some (.slice none 0 0) := (hb2.cell (by simp)).trans (by go_simp)
        clear hb1 hb2
        go_wp2_with fail
        refine (same_nil 0 0 _).mono ?_
        rintro e w3 ⟨rfl, hb3⟩
        have HB3 : Hid (Below W1.heap.size W1 w3) := Lib.hid ((HB2.out.alloc HB2.out.size _).trans (hb3.mono (by simp; omega)))
        clear hb3
        go_wp2_with fail
        go_roundw
        case rel => exact ⟨n + 1, by omega, by go_num, HB3.out⟩
        case measure => simp [intOf]; omega
    · clear hrr
      have hend : Below w.heap.size w wr := HG.out.trans (HBr.out.mono (by omega))
      go_wp2_with fail
      go_ret
      exact ⟨rfl, hend⟩
end Go.Proofs.Ytbepkfdfabgigaa.windowNews
