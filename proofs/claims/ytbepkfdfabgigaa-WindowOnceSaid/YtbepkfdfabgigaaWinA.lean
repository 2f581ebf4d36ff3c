/-
  The contracts of the functions of chapter 23 that only read a window: has, old, Check and Missed, and the reference's bit, Check and Missed.
  Conditions: a window of 1 to 1024 numbers whose words lie in a block of their own; numbers below 2^64.
-/
import Derived.Test.YtbepkfdfabgigaaBase
import Derived.Test.YtbepkfdfabgigaaCodes
import Derived.LoopTactic
namespace Go.Proofs.Ytbepkfdfabgigaa
open Go.RowKit
set_option linter.unusedVariables false
/-- Bit k of words. -/
def bitW (W : Nat → Nat) (k : Nat) : Bool := (W (k / 64)).testBit (k % 64)
theorem bit_u64 (x s : Nat) (hx : x < 18446744073709551616) : (bits BinOp.and IntKind.u64 ((x : Int) / 2 ^ s) 1 == 1) = x.testBit s := by
  have h2 : ((x : Int) / 2 ^ s) = ((x / 2 ^ s : Nat) : Int) := by push_cast; rfl
  have h3 : x / 2 ^ s < 18446744073709551616 := Nat.lt_of_le_of_lt (Nat.div_le_self _ _) hx
  have h4 : bits BinOp.and IntKind.u64 ((x / 2 ^ s : Nat) : Int) 1 = ((x / 2 ^ s &&& 1 : Nat) : Int) := u64_and_nat _ 1 h3 (by omega)
  rw [h2, h4, nat_mask1, Nat.testBit_eq_decide_div_mod_eq, Bool.eq_iff_iff]
  simp only [beq_iff_eq, decide_eq_true_eq]
  omega
/-- A window's value, its words in block g. -/
def winV (S T g n c : Nat) : Value := .agg #[.int .i64 (S : Nat), .int .u64 (T : Nat), .slice (some ⟨g, 0, none⟩) n c]
theorem has_any (S T g n c : Nat) (W : Nat → Nat) (k : Nat) (w : World) (hn : n ≤ 1000) (hk : k < 18446744073709551616) (hlt : k / 64 < n)
    (hr : Row w g n fun i => .int .u64 (W i : Nat)) (hW : ∀ i, W i < 18446744073709551616) :
    Calls Try.prog 32 #[.agg #[.int .i64 (S : Nat), .int .u64 (T : Nat), .slice (some ⟨g, 0, none⟩) n c], .int .u64 (k : Nat)] w fun e w' => e = .returned (.bool (bitW W k)) ∧ Below w.heap.size w w' := by
  have hc := hr (k / 64) hlt
  have hd : decide (((k / 64 : Nat) : Int) < n) = true := by simp; omega
  have hW' := hW (k / 64)
  have hg := hr.lt (by omega)
  clear hr hW
  go_enter Try.func32, Try.ntmps32
  go_wp2_with fail
  go_ret
  exact ⟨ret_bool (bit_u64 _ _ hW'), (Below.refl _ _).alloc (Nat.le_refl _) _⟩
theorem bit_any (S T g n c : Nat) (W : Nat → Nat) (k : Nat) (w : World) (hn : n ≤ 1000) (hk : k < 9223372036854775808) (hlt : k / 64 < n)
    (hr : Row w g n fun i => .int .u64 (W i : Nat)) (hW : ∀ i, W i < 18446744073709551616) :
    Calls Try.prog 28 #[.agg #[.int .i64 (S : Nat), .int .u64 (T : Nat), .slice (some ⟨g, 0, none⟩) n c], .int .i64 (k : Nat)] w fun e w' => e = .returned (.bool (bitW W k)) ∧ Below w.heap.size w w' := by
  have hc := hr (k / 64) hlt
  have hW' := hW (k / 64)
  have hg := hr.lt (by omega)
  clear hr hW
  go_enter Try.func28, Try.ntmps28
  go_wp2_with fail
  go_ret
  exact ⟨ret_bool (bit_u64 _ _ hW'), (Below.refl _ _).alloc (Nat.le_refl _) _⟩
theorem old_any (S T g n c : Nat) (m : Nat) (w : World) (hS : 1 ≤ S) (hS1 : S ≤ 1024) (hT : T < 18446744073709551616) (hm : m ≤ T) :
    Calls Try.prog 31 #[.agg #[.int .i64 (S : Nat), .int .u64 (T : Nat), .slice (some ⟨g, 0, none⟩) n c], .int .u64 (m : Nat)] w fun e w' => e = .returned (.bool (decide (S ≤ T - m))) ∧ Below w.heap.size w w' := by
  go_enter Try.func31, Try.ntmps31
  go_wp2_with fail
  go_ret
  exact ⟨ret_bool (by rw [Bool.eq_iff_iff]; simp only [decide_eq_true_eq]; omega), (Below.refl _ _).alloc (Nat.le_refl _) _⟩
/-- What Check answers. -/
def chk (S T : Nat) (B : Nat → Bool) (m : Nat) : Nat := if m = 0 then 22 else if T < m then 0 else if S ≤ T - m then 22 else if B (T - m) then 23 else 0
theorem check_any (S T g n c : Nat) (W : Nat → Nat) (m : Nat) (w : World) (hS : 1 ≤ S) (hS1 : S ≤ 1024) (hn : S ≤ 64 * n) (hn1 : n ≤ 1000) (hT : T < 18446744073709551616) (hm : m < 18446744073709551616)
    (hr : Row w g n fun i => .int .u64 (W i : Nat)) (hW : ∀ i, W i < 18446744073709551616) :
    Calls Try.prog 23 #[.agg #[.int .i64 (S : Nat), .int .u64 (T : Nat), .slice (some ⟨g, 0, none⟩) n c], .int .u64 (m : Nat)] w fun e w' => e = .returned (.int .i64 (chk S T (bitW W) m : Nat)) ∧ Below w.heap.size w w' := by
  have HR := Lib.hid hr
  have HW := Lib.hid hW
  have hg := hr.lt (by omega)
  clear hr hW
  by_cases h0 : m = 0
  · have hd : ((m : Int) == 0) = true := by simp [h0]
    have He : Hid (chk S T (bitW W) m = 22) := Lib.hid (by unfold chk; rw [if_pos h0])
    clear h0
    go_enter Try.func23, Try.ntmps23
    go_wp2_with fail
    go_ret
    exact ⟨ret_int (by rw [He.out]; rfl), (Below.refl _ _).alloc (Nat.le_refl _) _⟩
  have hd : ((m : Int) == 0) = false := by simp [h0]
  by_cases h1 : T < m
  · have He : Hid (chk S T (bitW W) m = 0) := Lib.hid (by unfold chk; rw [if_neg h0, if_pos h1])
    go_enter Try.func23, Try.ntmps23
    go_wp2_with fail
    go_ret
    exact ⟨ret_int (by rw [He.out]; rfl), (Below.refl _ _).alloc (Nat.le_refl _) _⟩
  by_cases h2 : S ≤ T - m
  · have He : Hid (chk S T (bitW W) m = 22) := Lib.hid (by unfold chk; rw [if_neg h0, if_neg h1, if_pos h2])
    have hq : decide (S ≤ T - m) = true := by simp [h2]
    go_enter Try.func23, Try.ntmps23
    go_wp2_with fail
    refine (old_any S T g n c m _ hS hS1 hT (by omega)).mono ?_
    rintro e w1 ⟨rfl, hb⟩
    rw [hq]
    go_wp2_with fail
    go_ret
    exact ⟨ret_int (by rw [He.out]; rfl), ((Below.refl _ _).alloc (Nat.le_refl _) _).trans (hb.mono (by simp))⟩
  have hq : decide (S ≤ T - m) = false := by simp; omega
  obtain ⟨d, hd'⟩ : ∃ d, d = T - m := ⟨_, rfl⟩
  have hdi : ((T : Int) - (m : Int)) = (d : Nat) := by omega
  have He : Hid (chk S T (bitW W) m = if bitW W d then 23 else 0) := Lib.hid (by unfold chk; rw [if_neg h0, if_neg h1, if_neg h2, hd'])
  have hds : d < S := by omega
  have Hd := Lib.hid hd'
  clear hd' h0
  have hm' : m ≤ T := by omega
  go_enter Try.func23, Try.ntmps23
  go_wp2_with fail
  refine (old_any S T g n c m _ hS hS1 hT (by omega)).mono ?_
  rintro e w1 ⟨rfl, hb⟩
  rw [hq]
  have hW1 : w.heap.size < w1.heap.size := by have := hb.size; simp at this; omega
  have hx0 : w1.cell? ⟨w.heap.size, 0, none⟩ = some (.int .i64 (S : Nat)) := (hb.cell (by simp)).trans (by go_simp)
  have hx1 : w1.cell? ⟨w.heap.size, 1, none⟩ = some (.int .u64 (T : Nat)) := (hb.cell (by simp)).trans (by go_simp)
  have hx2 : w1.cell? ⟨w.heap.size, 2, none⟩ = some (.slice (some ⟨g, 0, none⟩) n c) := (hb.cell (by simp)).trans (by go_simp)
  have hr1 : Row w1 g n fun i => .int .u64 (W i : Nat) := (HR.out.alloc _).below' hb
  have HR1 := Lib.hid hr1
  clear hr1 hd hq
  go_wp2_with fail
  refine (has_any S T g n c W d _ hn1 (by omega) (by omega) HR1.out HW.out).mono ?_
  rintro e w2 ⟨rfl, hb2⟩
  have hbb : Below w.heap.size w w2 := (((Below.refl _ _).alloc (Nat.le_refl _) _).trans (hb.mono (by simp))).trans (hb2.mono (by omega))
  by_cases hx : bitW W d = true
  · go_wp2_with fail
    go_ret
    exact ⟨ret_int (by rw [He.out, if_pos hx]; rfl), hbb⟩
  · have hx' : bitW W d = false := by simpa using hx
    clear hx
    go_wp2_with fail
    go_ret
    exact ⟨ret_int (by rw [He.out, hx']; rfl), hbb⟩
theorem rcheck_any (S T g n c : Nat) (W : Nat → Nat) (m : Nat) (w : World) (hS : 1 ≤ S) (hS1 : S ≤ 1024) (hn : S ≤ 64 * n) (hn1 : n ≤ 1000) (hT : T < 18446744073709551616) (hm : m < 18446744073709551616)
    (hr : Row w g n fun i => .int .u64 (W i : Nat)) (hW : ∀ i, W i < 18446744073709551616) :
    Calls Try.prog 24 #[.agg #[.int .i64 (S : Nat), .int .u64 (T : Nat), .slice (some ⟨g, 0, none⟩) n c], .int .u64 (m : Nat)] w fun e w' => e = .returned (.int .i64 (chk S T (bitW W) m : Nat)) ∧ Below w.heap.size w w' := by
  have HR := Lib.hid hr
  have HW := Lib.hid hW
  have hg := hr.lt (by omega)
  clear hr hW
  by_cases h0 : m = 0
  · have hd : ((m : Int) == 0) = true := by simp [h0]
    have He : Hid (chk S T (bitW W) m = 22) := Lib.hid (by unfold chk; rw [if_pos h0])
    clear h0
    go_enter Try.func24, Try.ntmps24
    go_wp2_with fail
    go_ret
    exact ⟨ret_int (by rw [He.out]; rfl), (Below.refl _ _).alloc (Nat.le_refl _) _⟩
  have hd : ((m : Int) == 0) = false := by simp [h0]
  by_cases h1 : T < m
  · have He : Hid (chk S T (bitW W) m = 0) := Lib.hid (by unfold chk; rw [if_neg h0, if_pos h1])
    have hq1 : decide ((m : Int) ≤ T) = false := by simp; omega
    go_enter Try.func24, Try.ntmps24
    go_wp2_with fail
    go_ret
    exact ⟨ret_int (by rw [He.out]; rfl), (Below.refl _ _).alloc (Nat.le_refl _) _⟩
  have hq1 : decide ((m : Int) ≤ T) = true := by simp; omega
  have hm' : m ≤ T := by omega
  by_cases h2 : S ≤ T - m
  · have He : Hid (chk S T (bitW W) m = 22) := Lib.hid (by unfold chk; rw [if_neg h0, if_neg h1, if_pos h2])
    have hq : decide ((S : Int) ≤ (T : Int) - m) = true := by simp; omega
    go_enter Try.func24, Try.ntmps24
    go_wp2_with fail
    go_ret
    exact ⟨ret_int (by rw [He.out]; rfl), (Below.refl _ _).alloc (Nat.le_refl _) _⟩
  have hq : decide ((S : Int) ≤ (T : Int) - m) = false := by simp; omega
  obtain ⟨d, hd'⟩ : ∃ d, d = T - m := ⟨_, rfl⟩
  have hdi : ((T : Int) - (m : Int)) = (d : Nat) := by omega
  have He : Hid (chk S T (bitW W) m = if bitW W d then 23 else 0) := Lib.hid (by unfold chk; rw [if_neg h0, if_neg h1, if_neg h2, hd'])
  have hds : d < S := by omega
  have hq : decide ((S : Int) ≤ (d : Nat)) = false := by simp; omega
  have Hd := Lib.hid hd'
  clear hd' h0
  go_enter Try.func24, Try.ntmps24
  go_wp2_with fail
  refine (bit_any S T g n c W d _ hn1 (by omega) (by omega) (HR.out.alloc _) HW.out).mono ?_
  rintro e w2 ⟨rfl, hb2⟩
  have hbb : Below w.heap.size w w2 := ((Below.refl _ _).alloc (Nat.le_refl _) _).trans (hb2.mono (by simp))
  by_cases hx : bitW W d = true
  · go_wp2_with fail
    go_ret
    exact ⟨ret_int (by rw [He.out, if_pos hx]; rfl), hbb⟩
  · have hx' : bitW W d = false := by simpa using hx
    clear hx
    go_wp2_with fail
    go_ret
    exact ⟨ret_int (by rw [He.out, hx']; rfl), hbb⟩
/-- How many of the first k bits are not set. -/
def cnt0 (B : Nat → Bool) : Nat → Nat
  | 0 => 0
  | k + 1 => cnt0 B k + if B k then 0 else 1
theorem cnt0_le (B : Nat → Bool) (k : Nat) : cnt0 B k ≤ k := by
  induction k with
  | zero => simp [cnt0]
  | succ k ih => simp only [cnt0]; split <;> omega
theorem missed_any (S T g n c : Nat) (W : Nat → Nat) (w : World) (hS : 1 ≤ S) (hS1 : S ≤ 1024) (hn : S ≤ 64 * n) (hn1 : n ≤ 1000) (hT : T < 18446744073709551616)
    (hr : Row w g n fun i => .int .u64 (W i : Nat)) (hW : ∀ i, W i < 18446744073709551616) :
    Calls Try.prog 25 #[.agg #[.int .i64 (S : Nat), .int .u64 (T : Nat), .slice (some ⟨g, 0, none⟩) n c]] w fun e w' => e = .returned (.int .i64 (cnt0 (bitW W) (min S T) : Nat)) ∧ Below w.heap.size w w' := by
  have hg := hr.lt (by omega)
  have hb0 : Below w.heap.size w (w.alloc (Obj.cells #[.int .i64 (S : Nat), .int .u64 (T : Nat), .slice (some ⟨g, 0, none⟩) n c] 30)) := (Below.refl _ _).alloc (Nat.le_refl _) _
  have hr0 := hr.alloc (Obj.cells #[.int .i64 (S : Nat), .int .u64 (T : Nat), .slice (some ⟨g, 0, none⟩) n c] 30)
  have hk : Blk (w.alloc (Obj.cells #[.int .i64 (S : Nat), .int .u64 (T : Nat), .slice (some ⟨g, 0, none⟩) n c] 30)) w.heap.size 30 #[.int .i64 (S : Nat), .int .u64 (T : Nat), .slice (some ⟨g, 0, none⟩) n c] := heap_alloc_new w _
  have HR := Lib.hid hr0
  have HB := Lib.hid hb0
  have HK := Lib.hid hk
  have HW := Lib.hid hW
  clear hr hW hb0 hr0 hk
  go_enter Try.func25, Try.ntmps25
  go_wp2_with fail
  generalize w.alloc (Obj.cells #[.int .i64 (S : Nat), .int .u64 (T : Nat), .slice (some ⟨g, 0, none⟩) n c] 30) = W1 at *
  go_loopw [3, 4] (fun q i wr => ∃ k : Nat, k ≤ S ∧ k ≤ T ∧ i = .int .u64 k ∧ q = .int .i64 (cnt0 (bitW W) k : Nat) ∧ Below W1.heap.size W1 wr) (fun _ i _ => S - (intOf i).toNat)
  case atStart => exact ⟨0, by omega, by omega, rfl, rfl, Below.refl _ _⟩
  case round =>
    obtain ⟨k, hk1, hk2, rfl, rfl, hbr⟩ := hrel
    have hkb := HK.out.below hbr HK.out.lt
    have c0 : wr.cell? ⟨w.heap.size, 0, none⟩ = some (.int .i64 (S : Nat)) := hkb.cell 0
    have c1 : wr.cell? ⟨w.heap.size, 1, none⟩ = some (.int .u64 (T : Nat)) := hkb.cell 1
    have c2 : wr.cell? ⟨w.heap.size, 2, none⟩ = some (.slice (some ⟨g, 0, none⟩) n c) := hkb.cell 2
    have HRr := Lib.hid (HR.out.below' hbr)
    have HBr := Lib.hid hbr
    have hcl := cnt0_le (bitW W) k
    clear hkb hbr
    by_cases hlt : k < S ∧ k < T
    · obtain ⟨hl1, hl2⟩ := hlt
      have q1 : decide ((k : Int) < S) = true := by simp; omega
      have q2 : decide ((k : Int) < T) = true := by simp; omega
      go_wp2_with fail
      refine (has_any S T g n c W k _ hn1 (by omega) (by omega) HRr.out HW.out).mono ?_
      rintro e w2 ⟨rfl, hb2⟩
      have HB2 := Lib.hid hb2
      clear hb2
      by_cases hx : bitW W k = true
      · have He : Hid (cnt0 (bitW W) (k + 1) = cnt0 (bitW W) k) := Lib.hid (by simp [cnt0, hx])
        rw [hx]
        clear hx
        go_wp2_with fail
        go_roundw
        case rel => exact ⟨k + 1, by omega, by omega, by go_num, by rw [He.out], HBr.out.trans (HB2.out.mono HBr.out.size)⟩
        case measure => simp [intOf]; omega
      · have hx' : bitW W k = false := by simpa using hx
        have He : Hid (cnt0 (bitW W) (k + 1) = cnt0 (bitW W) k + 1) := Lib.hid (by simp [cnt0, hx'])
        rw [hx']
        clear hx hx'
        go_wp2_with fail
        go_roundw
        case rel => exact ⟨k + 1, by omega, by omega, by go_num, by rw [He.out]; go_num, HBr.out.trans (HB2.out.mono HBr.out.size)⟩
        case measure => simp [intOf]; omega
    · have He : Hid (min S T = k) := Lib.hid (by omega)
      have hend : Below w.heap.size w wr := HB.out.trans (HBr.out.mono HB.out.size)
      by_cases h1 : k < S
      · have q1 : decide ((k : Int) < S) = true := by simp; omega
        have q2 : decide ((k : Int) < T) = false := by simp; omega
        go_wp2_with fail
        go_ret
        exact ⟨by rw [He.out]; rfl, hend⟩
      · have q1 : decide ((k : Int) < S) = false := by simp; omega
        go_wp2_with fail
        go_ret
        exact ⟨by rw [He.out]; rfl, hend⟩
theorem rmissed_any (S T g n c : Nat) (W : Nat → Nat) (w : World) (hS : 1 ≤ S) (hS1 : S ≤ 1024) (hn : S ≤ 64 * n) (hn1 : n ≤ 1000) (hT : T < 18446744073709551616)
    (hr : Row w g n fun i => .int .u64 (W i : Nat)) (hW : ∀ i, W i < 18446744073709551616) :
    Calls Try.prog 26 #[.agg #[.int .i64 (S : Nat), .int .u64 (T : Nat), .slice (some ⟨g, 0, none⟩) n c]] w fun e w' => e = .returned (.int .i64 (cnt0 (bitW W) (min S T) : Nat)) ∧ Below w.heap.size w w' := by
  have hg := hr.lt (by omega)
  have hb0 : Below w.heap.size w (w.alloc (Obj.cells #[.int .i64 (S : Nat), .int .u64 (T : Nat), .slice (some ⟨g, 0, none⟩) n c] 30)) := (Below.refl _ _).alloc (Nat.le_refl _) _
  have hr0 := hr.alloc (Obj.cells #[.int .i64 (S : Nat), .int .u64 (T : Nat), .slice (some ⟨g, 0, none⟩) n c] 30)
  have hk : Blk (w.alloc (Obj.cells #[.int .i64 (S : Nat), .int .u64 (T : Nat), .slice (some ⟨g, 0, none⟩) n c] 30)) w.heap.size 30 #[.int .i64 (S : Nat), .int .u64 (T : Nat), .slice (some ⟨g, 0, none⟩) n c] := heap_alloc_new w _
  have HR := Lib.hid hr0
  have HB := Lib.hid hb0
  have HK := Lib.hid hk
  have HW := Lib.hid hW
  clear hr hW hb0 hr0 hk
  go_enter Try.func26, Try.ntmps26
  go_wp2_with fail
  generalize w.alloc (Obj.cells #[.int .i64 (S : Nat), .int .u64 (T : Nat), .slice (some ⟨g, 0, none⟩) n c] 30) = W1 at *
  go_loopw [3, 4] (fun q i wr => ∃ k : Nat, k ≤ S ∧ k ≤ T ∧ i = .int .i64 k ∧ q = .int .i64 (cnt0 (bitW W) k : Nat) ∧ Below W1.heap.size W1 wr) (fun _ i _ => S - (intOf i).toNat)
  case atStart => exact ⟨0, by omega, by omega, rfl, rfl, Below.refl _ _⟩
  case round =>
    obtain ⟨k, hk1, hk2, rfl, rfl, hbr⟩ := hrel
    have hkb := HK.out.below hbr HK.out.lt
    have c0 : wr.cell? ⟨w.heap.size, 0, none⟩ = some (.int .i64 (S : Nat)) := hkb.cell 0
    have c1 : wr.cell? ⟨w.heap.size, 1, none⟩ = some (.int .u64 (T : Nat)) := hkb.cell 1
    have c2 : wr.cell? ⟨w.heap.size, 2, none⟩ = some (.slice (some ⟨g, 0, none⟩) n c) := hkb.cell 2
    have HRr := Lib.hid (HR.out.below' hbr)
    have HBr := Lib.hid hbr
    have hcl := cnt0_le (bitW W) k
    clear hkb hbr
    by_cases hlt : k < S ∧ k < T
    · obtain ⟨hl1, hl2⟩ := hlt
      have q1 : decide ((k : Int) < S) = true := by simp; omega
      have q2 : decide ((k : Int) < T) = true := by simp; omega
      go_wp2_with fail
      refine (bit_any S T g n c W k _ hn1 (by omega) (by omega) HRr.out HW.out).mono ?_
      rintro e w2 ⟨rfl, hb2⟩
      have HB2 := Lib.hid hb2
      clear hb2
      by_cases hx : bitW W k = true
      · have He : Hid (cnt0 (bitW W) (k + 1) = cnt0 (bitW W) k) := Lib.hid (by simp [cnt0, hx])
        rw [hx]
        clear hx
        go_wp2_with fail
        go_roundw
        case rel => exact ⟨k + 1, by omega, by omega, by go_num, by rw [He.out], HBr.out.trans (HB2.out.mono HBr.out.size)⟩
        case measure => simp [intOf]; omega
      · have hx' : bitW W k = false := by simpa using hx
        have He : Hid (cnt0 (bitW W) (k + 1) = cnt0 (bitW W) k + 1) := Lib.hid (by simp [cnt0, hx'])
        rw [hx']
        clear hx hx'
        go_wp2_with fail
        go_roundw
        case rel => exact ⟨k + 1, by omega, by omega, by go_num, by rw [He.out]; go_num, HBr.out.trans (HB2.out.mono HBr.out.size)⟩
        case measure => simp [intOf]; omega
    · have He : Hid (min S T = k) := Lib.hid (by omega)
      have hend : Below w.heap.size w wr := HB.out.trans (HBr.out.mono HB.out.size)
      by_cases h1 : k < S
      · have q1 : decide ((k : Int) < S) = true := by simp; omega
        have q2 : decide ((k : Int) < T) = false := by simp; omega
        go_wp2_with fail
        go_ret
        exact ⟨by rw [He.out]; rfl, hend⟩
      · have q1 : decide ((k : Int) < S) = false := by simp; omega
        go_wp2_with fail
        go_ret
        exact ⟨by rw [He.out]; rfl, hend⟩
end Go.Proofs.Ytbepkfdfabgigaa
