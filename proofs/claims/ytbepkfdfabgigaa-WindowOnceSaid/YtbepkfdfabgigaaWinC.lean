/-
  The contracts of window.New and of the reference's New and Same.
  Conditions: a size from 1 to 1024 (or the error outside of it); windows whose words lie in blocks of their own.
-/
import Derived.Test.YtbepkfdfabgigaaWinB
namespace Go.Proofs.Ytbepkfdfabgigaa
open Go.RowKit
set_option linter.unusedVariables false
def NewW (w : World) (S : Nat) (e : Ending) (w' : World) : Prop :=
  ∃ g : Nat, e = .returned (.tuple #[.agg #[.int .i64 (S : Nat), .int .u64 (0 : Nat), .slice (some ⟨g, 0, none⟩) ((S + 63) / 64) ((S + 63) / 64)], .int .i64 0]) ∧ w.heap.size ≤ g ∧ Row w' g ((S + 63) / 64) (fun _ => .int .u64 (0 : Nat)) ∧ Below w.heap.size w w'
theorem winnew_any (S : Nat) (w : World) (h1 : 1 ≤ S) (h2 : S ≤ 1024) : Calls Try.prog 15 #[.int .i64 (S : Nat)] w (NewW w S) := by
  obtain ⟨n, hn⟩ : ∃ n : Nat, n = (S + 63) / 64 := ⟨_, rfl⟩
  have hn1 : n ≤ 1000 := by omega
  have q1 : decide ((S : Int) < 1) = false := by simp; omega
  have q2 : decide ((1024 : Int) < (S : Int)) = false := by simp; omega
  have q3 : ((S : Int) + 63) / 64 = (n : Nat) := by omega
  have hmk := fun W' => run_make_row' (P := Try.prog) 25 22 (.int .u64 0) 8 Try.underlying25 u64_info rfl .i64 .i64 n (by omega) (by omega) W'
  have Hn := Lib.hid hn
  clear hn
  go_enter Try.func15, Try.ntmps15
  go_wp2_with fail
  refine bodyPost_ret (v := .tuple #[.agg #[.int .i64 (S : Nat), .int .u64 (0 : Nat), .slice (some ⟨w.heap.size + 1, 0, none⟩) n n], .int .i64 0]) (by simp [results, Try.results15, go_sem]) rfl ?_
  refine ⟨w.heap.size + 1, by rw [Hn.out], by omega, ?_, ((Below.refl _ _).alloc (Nat.le_refl _) _).alloc (by simp) _⟩
  rw [← Hn.out]
  refine Row.of_blk (t := 22) (cs := madeCells #[Value.int IntKind.u64 0] n) ?_ (fun k hk => by simp [madeCells, hk, Nat.mod_one])
  have := heap_alloc_new (w.alloc (Obj.cells #[Value.int IntKind.i64 (S : Nat), Value.int IntKind.u64 0, Value.slice (some ⟨w.heap.size + 1, 0, none⟩) n n] 30)) (Obj.cells (madeCells #[Value.int IntKind.u64 0] n) 22)
  simpa [Blk] using this
theorem winnew_no (S : Int) (w : World) (h0 : -9223372036854775808 ≤ S) (h1 : S ≤ 9223372036854775807) (h : S < 1 ∨ 1024 < S) :
    Calls Try.prog 15 #[.int .i64 S] w fun e w' => e = .returned (.tuple #[.agg #[.int .i64 0, .int .u64 0, .slice none 0 0], .int .i64 5]) ∧ Below w.heap.size w w' := by
  rcases h with h | h
  · have q1 : decide (S < 1) = true := by simp; omega
    go_enter Try.func15, Try.ntmps15
    go_wp2_with fail
    exact bodyPost_ret (v := .tuple #[.agg #[.int .i64 0, .int .u64 0, .slice none 0 0], .int .i64 5]) (by simp [results, Try.results15, go_sem]) rfl ⟨rfl, (Below.refl _ _).alloc (Nat.le_refl _) _⟩
  · have q1 : decide (S < 1) = false := by simp; omega
    have q2 : decide (1024 < S) = true := by simp; omega
    go_enter Try.func15, Try.ntmps15
    go_wp2_with fail
    exact bodyPost_ret (v := .tuple #[.agg #[.int .i64 0, .int .u64 0, .slice none 0 0], .int .i64 5]) (by simp [results, Try.results15, go_sem]) rfl ⟨rfl, (Below.refl _ _).alloc (Nat.le_refl _) _⟩
theorem rwinnew_any (S : Nat) (w : World) (h1 : 1 ≤ S) (h2 : S ≤ 1024) : Calls Try.prog 16 #[.int .i64 (S : Nat)] w (NewW w S) := by
  obtain ⟨n, hn⟩ : ∃ n : Nat, n = (S + 63) / 64 := ⟨_, rfl⟩
  have hn1 : n ≤ 1000 := by omega
  have q1 : decide ((S : Int) < 1) = false := by simp; omega
  have q2 : decide ((1024 : Int) < (S : Int)) = false := by simp; omega
  have q3 : ((S : Int) + 63) / 64 = (n : Nat) := by omega
  have hmk := fun W' => run_make_row' (P := Try.prog) 25 22 (.int .u64 0) 8 Try.underlying25 u64_info rfl .i64 .i64 n (by omega) (by omega) W'
  have Hn := Lib.hid hn
  clear hn
  go_enter Try.func16, Try.ntmps16
  go_wp2_with fail
  refine bodyPost_ret (v := .tuple #[.agg #[.int .i64 (S : Nat), .int .u64 (0 : Nat), .slice (some ⟨w.heap.size + 1, 0, none⟩) n n], .int .i64 0]) (by simp [results, Try.results16, go_sem]) rfl ?_
  refine ⟨w.heap.size + 1, by rw [Hn.out], by omega, ?_, ((Below.refl _ _).alloc (Nat.le_refl _) _).alloc (by simp) _⟩
  rw [← Hn.out]
  refine Row.of_blk (t := 22) (cs := madeCells #[Value.int IntKind.u64 0] n) ?_ (fun k hk => by simp [madeCells, hk, Nat.mod_one])
  have := heap_alloc_new (w.alloc (Obj.cells #[Value.int IntKind.i64 (S : Nat), Value.int IntKind.u64 0, Value.slice (some ⟨w.heap.size + 1, 0, none⟩) n n] 30)) (Obj.cells (madeCells #[Value.int IntKind.u64 0] n) 22)
  simpa [Blk] using this
theorem rwinnew_no (S : Int) (w : World) (h0 : -9223372036854775808 ≤ S) (h1 : S ≤ 9223372036854775807) (h : S < 1 ∨ 1024 < S) :
    Calls Try.prog 16 #[.int .i64 S] w fun e w' => e = .returned (.tuple #[.agg #[.int .i64 0, .int .u64 0, .slice none 0 0], .int .i64 5]) ∧ Below w.heap.size w w' := by
  rcases h with h | h
  · have q1 : decide (S < 1) = true := by simp; omega
    go_enter Try.func16, Try.ntmps16
    go_wp2_with fail
    exact bodyPost_ret (v := .tuple #[.agg #[.int .i64 0, .int .u64 0, .slice none 0 0], .int .i64 5]) (by simp [results, Try.results16, go_sem]) rfl ⟨rfl, (Below.refl _ _).alloc (Nat.le_refl _) _⟩
  · have q1 : decide (S < 1) = false := by simp; omega
    have q2 : decide (1024 < S) = true := by simp; omega
    go_enter Try.func16, Try.ntmps16
    go_wp2_with fail
    exact bodyPost_ret (v := .tuple #[.agg #[.int .i64 0, .int .u64 0, .slice none 0 0], .int .i64 5]) (by simp [results, Try.results16, go_sem]) rfl ⟨rfl, (Below.refl _ _).alloc (Nat.le_refl _) _⟩
theorem same_nil (S T : Int) (w : World) :
    Calls Try.prog 17 #[.agg #[.int .i64 S, .int .u64 T, .slice none 0 0], .agg #[.int .i64 S, .int .u64 T, .slice none 0 0]] w fun e w' => e = .returned (.bool true) ∧ Below w.heap.size w w' := by
  go_enter Try.func17, Try.ntmps17
  go_wp2_with fail
  go_loopw [5] (fun i wr => i = .int .i64 0 ∧ wr = (w.alloc (Obj.cells #[Value.int IntKind.i64 S, Value.int IntKind.u64 T, Value.slice none 0 0] 30)).alloc (Obj.cells #[Value.int IntKind.i64 S, Value.int IntKind.u64 T, Value.slice none 0 0] 30)) (fun _ _ => 0)
  case atStart => exact ⟨rfl, rfl⟩
  case round =>
    obtain ⟨rfl, rfl⟩ := hrel
    go_wp2_with fail
    go_ret
    exact ⟨rfl, ((Below.refl _ _).alloc (Nat.le_refl _) _).alloc (by simp) _⟩
theorem same_any (S T g n c g' c' : Nat) (W : Nat → Nat) (w : World) (hn0 : 1 ≤ n) (hn1 : n ≤ 1000) (hr : Row w g n fun i => .int .u64 (W i : Nat)) (hr' : Row w g' n fun i => .int .u64 (W i : Nat)) :
    Calls Try.prog 17 #[.agg #[.int .i64 (S : Nat), .int .u64 (T : Nat), .slice (some ⟨g, 0, none⟩) n c], .agg #[.int .i64 (S : Nat), .int .u64 (T : Nat), .slice (some ⟨g', 0, none⟩) n c']] w fun e w' => e = .returned (.bool true) ∧ Below w.heap.size w w' := by
  have hg := hr.lt (by omega)
  have hg' := hr'.lt (by omega)
  have HR := Lib.hid hr
  have HR' := Lib.hid hr'
  clear hr hr'
  go_enter Try.func17, Try.ntmps17
  go_wp2_with fail
  have hb0 : Below w.heap.size w ((w.alloc (Obj.cells #[.int .i64 (S : Nat), .int .u64 (T : Nat), .slice (some ⟨g, 0, none⟩) n c] 30)).alloc (Obj.cells #[.int .i64 (S : Nat), .int .u64 (T : Nat), .slice (some ⟨g', 0, none⟩) n c'] 30)) := ((Below.refl _ _).alloc (Nat.le_refl _) _).alloc (by simp) _
  have hk0 : Blk ((w.alloc (Obj.cells #[.int .i64 (S : Nat), .int .u64 (T : Nat), .slice (some ⟨g, 0, none⟩) n c] 30)).alloc (Obj.cells #[.int .i64 (S : Nat), .int .u64 (T : Nat), .slice (some ⟨g', 0, none⟩) n c'] 30)) w.heap.size 30 #[.int .i64 (S : Nat), .int .u64 (T : Nat), .slice (some ⟨g, 0, none⟩) n c] := Blk.alloc (heap_alloc_new w _) _
  have hk1 : Blk ((w.alloc (Obj.cells #[.int .i64 (S : Nat), .int .u64 (T : Nat), .slice (some ⟨g, 0, none⟩) n c] 30)).alloc (Obj.cells #[.int .i64 (S : Nat), .int .u64 (T : Nat), .slice (some ⟨g', 0, none⟩) n c'] 30)) (w.heap.size + 1) 30 #[.int .i64 (S : Nat), .int .u64 (T : Nat), .slice (some ⟨g', 0, none⟩) n c'] := by
    have := heap_alloc_new (w.alloc (Obj.cells #[.int .i64 (S : Nat), .int .u64 (T : Nat), .slice (some ⟨g, 0, none⟩) n c] 30)) (Obj.cells #[.int .i64 (S : Nat), .int .u64 (T : Nat), .slice (some ⟨g', 0, none⟩) n c'] 30)
    simpa [Blk] using this
  have c2 : ∀ d, (((w.alloc (Obj.cells #[.int .i64 (S : Nat), .int .u64 (T : Nat), .slice (some ⟨g, 0, none⟩) n c] 30)).alloc (Obj.cells #[.int .i64 (S : Nat), .int .u64 (T : Nat), .slice (some ⟨g', 0, none⟩) n c'] 30)).drewN d).cell? ⟨w.heap.size, 2, none⟩ = some (.slice (some ⟨g, 0, none⟩) n c) := fun d => (hk0.drewN d).cell 2
  have c2' : ∀ d, (((w.alloc (Obj.cells #[.int .i64 (S : Nat), .int .u64 (T : Nat), .slice (some ⟨g, 0, none⟩) n c] 30)).alloc (Obj.cells #[.int .i64 (S : Nat), .int .u64 (T : Nat), .slice (some ⟨g', 0, none⟩) n c'] 30)).drewN d).cell? ⟨w.heap.size + 1, 2, none⟩ = some (.slice (some ⟨g', 0, none⟩) n c') := fun d => (hk1.drewN d).cell 2
  have hr := (HR.out.alloc (Obj.cells #[.int .i64 (S : Nat), .int .u64 (T : Nat), .slice (some ⟨g, 0, none⟩) n c] 30)).alloc (Obj.cells #[.int .i64 (S : Nat), .int .u64 (T : Nat), .slice (some ⟨g', 0, none⟩) n c'] 30)
  have hr' := (HR'.out.alloc (Obj.cells #[.int .i64 (S : Nat), .int .u64 (T : Nat), .slice (some ⟨g, 0, none⟩) n c] 30)).alloc (Obj.cells #[.int .i64 (S : Nat), .int .u64 (T : Nat), .slice (some ⟨g', 0, none⟩) n c'] 30)
  have H := Lib.hid (And.intro hb0 (And.intro c2 (And.intro c2' (And.intro hr hr'))))
  clear hb0 hk0 hk1 c2 c2' hr hr'
  generalize (w.alloc (Obj.cells #[.int .i64 (S : Nat), .int .u64 (T : Nat), .slice (some ⟨g, 0, none⟩) n c] 30)).alloc (Obj.cells #[.int .i64 (S : Nat), .int .u64 (T : Nat), .slice (some ⟨g', 0, none⟩) n c'] 30) = W1 at *
  go_loopw [5] (fun i wr => ∃ k : Nat, k ≤ n ∧ i = .int .i64 k ∧ ∃ d, wr = W1.drewN d) (fun i _ => n - (intOf i).toNat)
  case atStart => exact ⟨0, by omega, rfl, 0, rfl⟩
  case round =>
    obtain ⟨k, hk, rfl, d, hd⟩ := hrel
    obtain ⟨hb0, c2, c2', hr, hr'⟩ := H.out
    have x2 := c2 d
    have x2' := c2' d
    have hrk := fun hk : k < n => hr.drewN d k hk
    have hrk' := fun hk : k < n => hr'.drewN d k hk
    have hbd := below_drewN hb0 d
    rw [← hd] at x2 x2' hbd
    rw [← hd] at hrk hrk'
    have Hd := Lib.hid hd
    have Hb := Lib.hid hbd
    clear hb0 c2 c2' hr hr' hd hbd
    by_cases hlt : k < n
    · have y1 := hrk hlt
      have y2 := hrk' hlt
      have q1 : decide ((k : Int) < n) = true := by simp; omega
      clear hrk hrk'
      go_wp2_with fail
      go_quiet (fail)
      go_wp2_with fail
      go_roundw
      case rel => exact ⟨k + 1, by omega, by go_num, _, by rw [Hd.out, World.drewN_drewN]⟩
      case measure => simp [intOf]; omega
    · have q1 : decide ((k : Int) < n) = false := decide_eq_false (by omega)
      clear hrk hrk'
      go_wp2_with fail
      go_ret
      exact ⟨rfl, Hb.out⟩
end Go.Proofs.Ytbepkfdfabgigaa
