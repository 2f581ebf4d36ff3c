/-
  The walk of the law ChachaQuarters: the mixing of four words is the reference's, and can be undone.
  Conditions: none.
-/
import Derived.Test.YtoojiofgmamjeaaQuart
import Derived.BigQuiet
import Derived.Deep.QuietTactic
import Derived.RowKit3
namespace Go.Proofs.Ytoojiofgmamjeaa
open Go.RowKit
set_option linter.unusedVariables false
def oo (a b : BitVec 32) : BitVec 32 := a ||| b
def sl (a : BitVec 32) (k : Nat) : BitVec 32 := a <<< k
def sr (a : BitVec 32) (k : Nat) : BitVec 32 := a >>> k
theorem w_oo (a b : BitVec 32) : bits .or .u32 (a.toNat : Int) (b.toNat : Int) = ((oo a b).toNat : Int) := w_or a b
theorem unrot (y : BitVec 32) (k : Nat) (h0 : 1 ≤ k) (h1 : k ≤ 31) : oo (sr (rotl y k) k) (sl (rotl y k) (32 - k)) = y := by
  unfold oo sr sl rotl
  apply BitVec.eq_of_getLsbD_eq
  intro i hi
  simp only [BitVec.getLsbD_or, BitVec.getLsbD_ushiftRight, BitVec.getLsbD_shiftLeft]
  by_cases h : k + i < 32
  · have e1 : (decide (k + i < 32) : Bool) = true := decide_eq_true h
    have e2 : (decide (k + i < k) : Bool) = false := decide_eq_false (by omega)
    have e3 : k + i - k = i := by omega
    have e4 : (decide (i < 32 - k) : Bool) = true := decide_eq_true (by omega)
    have e5 : y.getLsbD (32 - k + (k + i)) = false := BitVec.getLsbD_of_ge _ _ (by omega)
    rw [e1, e2, e3, e4, e5]
    simp
  · have e1 : (decide (k + i < 32) : Bool) = false := decide_eq_false h
    have e4 : (decide (i < 32 - k) : Bool) = false := decide_eq_false (by omega)
    have e6 : (decide (i < 32) : Bool) = true := decide_eq_true hi
    have e5 : y.getLsbD (32 - k + (k + i)) = false := BitVec.getLsbD_of_ge _ _ (by omega)
    have e7 : (decide (i - (32 - k) < 32) : Bool) = true := decide_eq_true (by omega)
    have e8 : (decide (i - (32 - k) < k) : Bool) = true := decide_eq_true (by omega)
    have e9 : 32 - k + (i - (32 - k)) = i := by omega
    rw [e1, e4, e5, e6, e7, e8, e9]
    simp
theorem xo_xo (a b : BitVec 32) : xo (xo a b) b = a := by unfold xo; rw [BitVec.xor_assoc, BitVec.xor_self, BitVec.xor_zero]
theorem sb_ad (a b : BitVec 32) : sb (ad a b) b = a := by unfold sb ad; exact BitVec.add_sub_cancel a b
theorem turn_any (x : BitVec 32) (k : Int) (w : World) (h0 : 1 ≤ k) (h1 : k ≤ 31) :
    Calls Try.prog 8 #[.int .u32 (x.toNat : Nat), .int .u64 k] w fun e w' => e = .returned (.int .u32 ((rotl x k.toNat).toNat : Nat)) ∧ w = w' := by
  have hx := x.isLt
  obtain ⟨n, rfl⟩ := Int.eq_ofNat_of_zero_le (by omega : 0 ≤ k)
  go_enter Try.func8, Try.ntmps8
  go_wp2_with fail
  go_ret
  refine ⟨ret_int ?_, rfl⟩
  unfold rotl
  rw [Int.toNat_natCast, ← w_or, ← w_shl, ← w_shr]
theorem rquarter_any (a b c d : BitVec 32) (w : World) :
    Calls Try.prog 6 #[.int .u32 (a.toNat : Nat), .int .u32 (b.toNat : Nat), .int .u32 (c.toNat : Nat), .int .u32 (d.toNat : Nat)] w fun e w' =>
      e = .returned (.tuple #[.int .u32 ((qr a b c d).a.toNat : Nat), .int .u32 ((qr a b c d).b.toNat : Nat), .int .u32 ((qr a b c d).c.toNat : Nat), .int .u32 ((qr a b c d).d.toNat : Nat)]) ∧ w = w' := by
  generalize hQ : qr a b c d = Q
  have HQ := Lib.hid hQ
  clear hQ
  have h1 := w_ad
  have h2 := w_xo
  go_enter Try.func6, Try.ntmps6
  go_wp2_with fail
  refine (turn_any (xo d (ad a b)) 16 _ (by omega) (by omega)).mono ?_
  rintro e w' ⟨rfl, rfl⟩
  generalize hd1 : rotl (xo d (ad a b)) (Int.toNat 16) = d1
  have Hd1 := Lib.hid hd1
  clear hd1
  go_wp2_with fail
  refine (turn_any (xo b (ad c d1)) 12 _ (by omega) (by omega)).mono ?_
  rintro e w' ⟨rfl, rfl⟩
  generalize hb1 : rotl (xo b (ad c d1)) (Int.toNat 12) = b1
  have Hb1 := Lib.hid hb1
  clear hb1
  go_wp2_with fail
  refine (turn_any (xo d1 (ad (ad a b) b1)) 8 _ (by omega) (by omega)).mono ?_
  rintro e w' ⟨rfl, rfl⟩
  generalize hd2 : rotl (xo d1 (ad (ad a b) b1)) (Int.toNat 8) = d2
  have Hd2 := Lib.hid hd2
  clear hd2
  go_wp2_with fail
  refine (turn_any (xo b1 (ad (ad c d1) d2)) 7 _ (by omega) (by omega)).mono ?_
  rintro e w' ⟨rfl, rfl⟩
  generalize hb2 : rotl (xo b1 (ad (ad c d1) d2)) (Int.toNat 7) = b2
  have Hb2 := Lib.hid hb2
  clear hb2
  go_wp2_with fail
  refine bodyPost_ret (results_tmp4 rfl _ _ _) rfl ?_
  have hq := qr_of Hd1.out Hb1.out Hd2.out Hb2.out
  rw [HQ.out] at hq
  subst hq
  exact ⟨rfl, rfl⟩
theorem awake_any (w : World) : Calls Try.prog 4 #[] w fun e w' => e = .returned (.bool true) ∧ w = w' := by
  have h := quarter_any 0x11111111#32 0x01020304#32 0x9b8d6f43#32 0x01234567#32 w
  have e1 : ((0x11111111#32 : BitVec 32).toNat : Int) = 286331153 := by decide
  have e2 : ((0x01020304#32 : BitVec 32).toNat : Int) = 16909060 := by decide
  have e3 : ((0x9b8d6f43#32 : BitVec 32).toNat : Int) = 2609737539 := by decide
  have e4 : ((0x01234567#32 : BitVec 32).toNat : Int) = 19088743 := by decide
  have r1 : ((qr 0x11111111#32 0x01020304#32 0x9b8d6f43#32 0x01234567#32).a.toNat : Int) = 3928658676 := by decide +kernel
  have r2 : ((qr 0x11111111#32 0x01020304#32 0x9b8d6f43#32 0x01234567#32).b.toNat : Int) = 3407673550 := by decide +kernel
  have r3 : ((qr 0x11111111#32 0x01020304#32 0x9b8d6f43#32 0x01234567#32).c.toNat : Int) = 1166100270 := by decide +kernel
  have r4 : ((qr 0x11111111#32 0x01020304#32 0x9b8d6f43#32 0x01234567#32).d.toNat : Int) = 1484899515 := by decide +kernel
  rw [e1, e2, e3, e4, r1, r2, r3, r4] at h
  have H := Lib.hid h
  clear h e1 e2 e3 e4 r1 r2 r3 r4
  go_enter Try.func4, Try.ntmps4
  go_wp2_with fail
  refine H.out.mono ?_
  rintro e w' ⟨rfl, rfl⟩
  go_wp2_with fail
  go_ret
  exact ⟨rfl, rfl⟩
namespace chachaQuarters
theorem chachaQuarters_walk (w : World) (a0 : Int) (h0 : 0 ≤ a0 ∧ a0 ≤ 4294967295) (a1 : Int) (h1 : 0 ≤ a1 ∧ a1 ≤ 4294967295) (a2 : Int) (h2 : 0 ≤ a2 ∧ a2 ≤ 4294967295) (a3 : Int) (h3 : 0 ≤ a3 ∧ a3 ≤ 4294967295) :
    Calls Try.prog 3 #[.int .u32 a0, .int .u32 a1, .int .u32 a2, .int .u32 a3] w fun e w' => e = .returned (.bool true) ∧ Below w.heap.size w w' := by
  have bv : ∀ x : Int, 0 ≤ x ∧ x ≤ 4294967295 → ∃ b : BitVec 32, x = (b.toNat : Nat) := fun x hx => ⟨BitVec.ofNat 32 x.toNat, by rw [BitVec.toNat_ofNat]; omega⟩
  obtain ⟨a, rfl⟩ := bv a0 h0
  obtain ⟨b, rfl⟩ := bv a1 h1
  obtain ⟨c, rfl⟩ := bv a2 h2
  obtain ⟨d, rfl⟩ := bv a3 h3
  clear bv h0 h1 h2 h3
  have hq := quarter_any a b c d w
  have hq' := rquarter_any a b c d w
  obtain ⟨a1, ha1⟩ : ∃ a1, a1 = ad a b := ⟨_, rfl⟩
  obtain ⟨d1, hd1⟩ : ∃ d1, d1 = rotl (xo d a1) 16 := ⟨_, rfl⟩
  obtain ⟨c1, hc1⟩ : ∃ c1, c1 = ad c d1 := ⟨_, rfl⟩
  obtain ⟨b1, hb1⟩ : ∃ b1, b1 = rotl (xo b c1) 12 := ⟨_, rfl⟩
  obtain ⟨a2, ha2⟩ : ∃ a2, a2 = ad a1 b1 := ⟨_, rfl⟩
  obtain ⟨d2, hd2⟩ : ∃ d2, d2 = rotl (xo d1 a2) 8 := ⟨_, rfl⟩
  obtain ⟨c2, hc2⟩ : ∃ c2, c2 = ad c1 d2 := ⟨_, rfl⟩
  obtain ⟨b2, hb2⟩ : ∃ b2, b2 = rotl (xo b1 c2) 7 := ⟨_, rfl⟩
  have hQ : qr a b c d = ⟨a2, b2, c2, d2⟩ := by subst ha1 hd1 hc1 hb1 ha2 hd2 hc2 hb2; rfl
  rw [hQ] at hq hq'
  have Hq := Lib.hid hq
  have Hq' := Lib.hid hq'
  have r1 : xo (oo (sr b2 7) (sl b2 25)) c2 = b1 := by rw [hb2, unrot _ 7 (by omega) (by omega), xo_xo]
  have r2 : sb c2 d2 = c1 := by rw [hc2, sb_ad]
  have r3 : xo (oo (sr d2 8) (sl d2 24)) a2 = d1 := by rw [hd2, unrot _ 8 (by omega) (by omega), xo_xo]
  have r4 : sb a2 b1 = a1 := by rw [ha2, sb_ad]
  have r5 : xo (oo (sr b1 12) (sl b1 20)) c1 = b := by rw [hb1, unrot _ 12 (by omega) (by omega), xo_xo]
  have r6 : sb c1 d1 = c := by rw [hc1, sb_ad]
  have r7 : xo (oo (sr d1 16) (sl d1 16)) a1 = d := by rw [hd1, unrot _ 16 (by omega) (by omega), xo_xo]
  have r8 : sb a1 b = a := by rw [ha1, sb_ad]
  clear hq hq' ha1 hd1 hc1 hb1 ha2 hd2 hc2 hb2 hQ
  have s1 := w_sb
  have s2 := w_xo
  have s3 := w_oo
  have s4 : ∀ x : BitVec 32, (x.toNat : Int) / 128 = ((sr x 7).toNat : Int) := fun x => w_shr x 7
  have s5 : ∀ x : BitVec 32, (x.toNat : Int) * 33554432 % 4294967296 = ((sl x 25).toNat : Int) := fun x => w_shl x 25
  have s6 : ∀ x : BitVec 32, (x.toNat : Int) / 256 = ((sr x 8).toNat : Int) := fun x => w_shr x 8
  have s7 : ∀ x : BitVec 32, (x.toNat : Int) * 16777216 % 4294967296 = ((sl x 24).toNat : Int) := fun x => w_shl x 24
  have s8 : ∀ x : BitVec 32, (x.toNat : Int) / 4096 = ((sr x 12).toNat : Int) := fun x => w_shr x 12
  have s9 : ∀ x : BitVec 32, (x.toNat : Int) * 1048576 % 4294967296 = ((sl x 20).toNat : Int) := fun x => w_shl x 20
  have t1 : ∀ x : BitVec 32, (x.toNat : Int) / 65536 = ((sr x 16).toNat : Int) := fun x => w_shr x 16
  have t2 : ∀ x : BitVec 32, (x.toNat : Int) * 65536 % 4294967296 = ((sl x 16).toNat : Int) := fun x => w_shl x 16
  go_enter Try.func3, Try.ntmps3
  go_wp2_with fail
  refine (awake_any _).mono ?_
  rintro e w' ⟨rfl, rfl⟩
  go_wp2_with fail
  refine Hq.out.mono ?_
  rintro e w' ⟨rfl, rfl⟩
  go_wp2_with fail
  refine Hq'.out.mono ?_
  rintro e w' ⟨rfl, rfl⟩
  go_wp2_with fail
  go_ret
  exact ⟨rfl, Below.refl _ _⟩
end chachaQuarters
end Go.Proofs.Ytoojiofgmamjeaa
