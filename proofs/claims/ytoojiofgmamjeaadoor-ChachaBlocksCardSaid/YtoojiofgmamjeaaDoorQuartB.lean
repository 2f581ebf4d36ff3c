/-
  The contract of the reference's mixing, and of the sanity check.
  Conditions: none.
-/
import Derived.Test.YtoojiofgmamjeaaDoorQuart
import Derived.BigQuiet
import Derived.Deep.QuietTactic
import Derived.RowKit3
namespace Go.Proofs.YtoojiofgmamjeaaDoor
open Go.RowKit
set_option linter.unusedVariables false
def oo (a b : BitVec 32) : BitVec 32 := a ||| b
def sl (a : BitVec 32) (k : Nat) : BitVec 32 := a <<< k
def sr (a : BitVec 32) (k : Nat) : BitVec 32 := a >>> k
theorem w_oo (a b : BitVec 32) : bits .or .u32 (a.toNat : Int) (b.toNat : Int) = ((oo a b).toNat : Int) := w_or a b
theorem turn_any (x : BitVec 32) (k : Int) (w : World) (h0 : 1 ≤ k) (h1 : k ≤ 31) :
    Calls Tryd.prog 25 #[.int .u32 (x.toNat : Nat), .int .u64 k] w fun e w' => e = .returned (.int .u32 ((rotl x k.toNat).toNat : Nat)) ∧ w = w' := by
  have hx := x.isLt
  obtain ⟨n, rfl⟩ := Int.eq_ofNat_of_zero_le (by omega : 0 ≤ k)
  go_enter Tryd.func25, Tryd.ntmps25
  go_wp2_with fail
  go_ret
  refine ⟨ret_int ?_, rfl⟩
  unfold rotl
  rw [Int.toNat_natCast, ← w_or, ← w_shl, ← w_shr]
theorem rquarter_any (a b c d : BitVec 32) (w : World) :
    Calls Tryd.prog 23 #[.int .u32 (a.toNat : Nat), .int .u32 (b.toNat : Nat), .int .u32 (c.toNat : Nat), .int .u32 (d.toNat : Nat)] w fun e w' =>
      e = .returned (.tuple #[.int .u32 ((qr a b c d).a.toNat : Nat), .int .u32 ((qr a b c d).b.toNat : Nat), .int .u32 ((qr a b c d).c.toNat : Nat), .int .u32 ((qr a b c d).d.toNat : Nat)]) ∧ w = w' := by
  generalize hQ : qr a b c d = Q
  have HQ := Lib.hid hQ
  clear hQ
  have h1 := w_ad
  have h2 := w_xo
  go_enter Tryd.func23, Tryd.ntmps23
  go_wp2_with fail
  refine (turn_any (xo d (ad a b)) 16 _ (by omega) (by omega)).mono ?_
  rintro e w' ⟨rfl, rfl⟩
  generalize hd1 : rotl (xo d (ad a b)) (Int.toNat 16) = d1
  have Hd1 := Lib.hid hd1
  clear hd1
  go_wp2_with fail
  refine (turn_any (xo b (ad c d1)) 12 _ (by omega) (by omega)).mono ?_
  rintro e w' ⟨rfl, rfl⟩
  generalize hb1 : rotl (xo b (ad c d1)) (Int.toNat 12) = b1
  have Hb1 := Lib.hid hb1
  clear hb1
  go_wp2_with fail
  refine (turn_any (xo d1 (ad (ad a b) b1)) 8 _ (by omega) (by omega)).mono ?_
  rintro e w' ⟨rfl, rfl⟩
  generalize hd2 : rotl (xo d1 (ad (ad a b) b1)) (Int.toNat 8) = d2
  have Hd2 := Lib.hid hd2
  clear hd2
  go_wp2_with fail
  refine (turn_any (xo b1 (ad (ad c d1) d2)) 7 _ (by omega) (by omega)).mono ?_
  rintro e w' ⟨rfl, rfl⟩
  generalize hb2 : rotl (xo b1 (ad (ad c d1) d2)) (Int.toNat 7) = b2
  have Hb2 := Lib.hid hb2
  clear hb2
  go_wp2_with fail
  refine bodyPost_ret (results_tmp4 rfl _ _ _) rfl ?_
  have hq := qr_of Hd1.out Hb1.out Hd2.out Hb2.out
  rw [HQ.out] at hq
  subst hq
  exact ⟨rfl, rfl⟩
theorem awake_any (w : World) : Calls Tryd.prog 6 #[] w fun e w' => e = .returned (.bool true) ∧ w = w' := by
  have h := quarter_any 0x11111111#32 0x01020304#32 0x9b8d6f43#32 0x01234567#32 w
  have e1 : ((0x11111111#32 : BitVec 32).toNat : Int) = 286331153 := by decide
  have e2 : ((0x01020304#32 : BitVec 32).toNat : Int) = 16909060 := by decide
  have e3 : ((0x9b8d6f43#32 : BitVec 32).toNat : Int) = 2609737539 := by decide
  have e4 : ((0x01234567#32 : BitVec 32).toNat : Int) = 19088743 := by decide
  have r1 : ((qr 0x11111111#32 0x01020304#32 0x9b8d6f43#32 0x01234567#32).a.toNat : Int) = 3928658676 := by decide +kernel
  have r2 : ((qr 0x11111111#32 0x01020304#32 0x9b8d6f43#32 0x01234567#32).b.toNat : Int) = 3407673550 := by decide +kernel
  have r3 : ((qr 0x11111111#32 0x01020304#32 0x9b8d6f43#32 0x01234567#32).c.toNat : Int) = 1166100270 := by decide +kernel
  have r4 : ((qr 0x11111111#32 0x01020304#32 0x9b8d6f43#32 0x01234567#32).d.toNat : Int) = 1484899515 := by decide +kernel
  rw [e1, e2, e3, e4, r1, r2, r3, r4] at h
  have H := Lib.hid h
  clear h e1 e2 e3 e4 r1 r2 r3 r4
  go_enter Tryd.func6, Tryd.ntmps6
  go_wp2_with fail
  refine H.out.mono ?_
  rintro e w' ⟨rfl, rfl⟩
  go_wp2_with fail
  go_ret
  exact ⟨rfl, rfl⟩
end Go.Proofs.YtoojiofgmamjeaaDoor
