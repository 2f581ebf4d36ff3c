/-
  The walk of the law ChachaQuarters: the mixing of four words is the reference's, and can be undone.
  Conditions: none.
-/
import Derived.Test.YtoojiofgmamjeaaDoorProg
import Derived.WalkKit
import Derived.WalkLawsBesides
import Derived.WalkSpells
import Derived.Outline
import Derived.Lib.Hide
import Derived.Below
import Derived.Laws.BitsAllLaws
namespace Go.Proofs.YtoojiofgmamjeaaDoor
open Go.RowKit
set_option linter.unusedVariables false
theorem ret_int {k : IntKind} {a b : Int} (h : a = b) : Ending.returned (.int k a) = .returned (.int k b) := by rw [h]
theorem w_add (a b : BitVec 32) : ((a.toNat : Int) + (b.toNat : Int)) % 4294967296 = ((a + b).toNat : Int) := by
  rw [BitVec.toNat_add]; omega
theorem w_sub (a b : BitVec 32) : ((a.toNat : Int) - (b.toNat : Int)) % 4294967296 = ((a - b).toNat : Int) := by
  have h1 := a.isLt
  have h2 := b.isLt
  rw [BitVec.toNat_sub]; omega
theorem w_xor (a b : BitVec 32) : bits .xor .u32 (a.toNat : Int) (b.toNat : Int) = ((a ^^^ b).toNat : Int) := by
  rw [u32_xor_nat _ _ a.isLt b.isLt, BitVec.toNat_xor]
theorem w_or (a b : BitVec 32) : bits .or .u32 (a.toNat : Int) (b.toNat : Int) = ((a ||| b).toNat : Int) := by
  rw [u32_or_nat _ _ a.isLt b.isLt, BitVec.toNat_or]
theorem w_shl (a : BitVec 32) (k : Nat) : ((a.toNat : Int) * 2 ^ k) % 4294967296 = ((a <<< k).toNat : Int) := by
  rw [BitVec.toNat_shiftLeft, Nat.shiftLeft_eq, Int.natCast_emod, Int.natCast_mul, Int.natCast_pow]
  rfl
theorem w_shr (a : BitVec 32) (k : Nat) : ((a.toNat : Int) / 2 ^ k) = ((a >>> k).toNat : Int) := by
  rw [BitVec.toNat_ushiftRight, Nat.shiftRight_eq_div_pow, Int.natCast_ediv, Int.natCast_pow]
  rfl
/-- The sum, the sum of bits and the difference of words (under names that the walk does not open). -/
def ad (a b : BitVec 32) : BitVec 32 := a + b
def xo (a b : BitVec 32) : BitVec 32 := a ^^^ b
def sb (a b : BitVec 32) : BitVec 32 := a - b
theorem w_ad (a b : BitVec 32) : ((a.toNat : Int) + (b.toNat : Int)) % 4294967296 = ((ad a b).toNat : Int) := w_add a b
theorem w_sb (a b : BitVec 32) : ((a.toNat : Int) - (b.toNat : Int)) % 4294967296 = ((sb a b).toNat : Int) := w_sub a b
theorem w_xo (a b : BitVec 32) : bits .xor .u32 (a.toNat : Int) (b.toNat : Int) = ((xo a b).toNat : Int) := w_xor a b
/-- Rotated to the left. -/
def rotl (x : BitVec 32) (k : Nat) : BitVec 32 := x <<< k ||| x >>> (32 - k)
theorem rot_any (x : BitVec 32) (k : Int) (w : World) (h0 : 1 ≤ k) (h1 : k ≤ 31) :
    Calls Tryd.prog 20 #[.int .u32 (x.toNat : Nat), .int .i64 k] w fun e w' => e = .returned (.int .u32 ((rotl x k.toNat).toNat : Nat)) ∧ w = w' := by
  have hx := x.isLt
  obtain ⟨n, rfl⟩ := Int.eq_ofNat_of_zero_le (by omega : 0 ≤ k)
  have q1 : bits .and .u64 ((n : Nat) : Int) 31 = (n : Nat) := by
    have h := u64_and_nat n 31 (by omega) (by omega)
    have h2 : n &&& 31 = n := by rw [nat_mask5]; omega
    rw [h2] at h
    exact h
  go_enter Tryd.func20, Tryd.ntmps20
  go_wp2_with fail
  go_ret
  refine ⟨ret_int ?_, rfl⟩
  unfold rotl
  rw [Int.toNat_natCast, ← w_or, ← w_shl, ← w_shr]
/-- Four words mixed. -/
structure Q4 where
  a : BitVec 32
  b : BitVec 32
  c : BitVec 32
  d : BitVec 32
def qr (a b c d : BitVec 32) : Q4 :=
  let a1 := ad a b
  let d1 := rotl (xo d a1) 16
  let c1 := ad c d1
  let b1 := rotl (xo b c1) 12
  let a2 := ad a1 b1
  let d2 := rotl (xo d1 a2) 8
  let c2 := ad c1 d2
  let b2 := rotl (xo b1 c2) 7
  ⟨a2, b2, c2, d2⟩
theorem qr_of {a b c d d1 b1 d2 b2 : BitVec 32} (h1 : rotl (xo d (ad a b)) (Int.toNat 16) = d1) (h2 : rotl (xo b (ad c d1)) (Int.toNat 12) = b1) (h3 : rotl (xo d1 (ad (ad a b) b1)) (Int.toNat 8) = d2) (h4 : rotl (xo b1 (ad (ad c d1) d2)) (Int.toNat 7) = b2) :
    qr a b c d = ⟨ad (ad a b) b1, b2, ad (ad c d1) d2, d2⟩ := by
  subst h1; subst h2; subst h3; subst h4; rfl
theorem results_tmp4 {fn : Func} {t u v x : Tmp} (h : fn.results = #[.tmp t, .tmp u, .tmp v, .tmp x]) (tmps : Array Value) (P : Program) (w : World) :
    (results fn tmps).run P w = .ok (.tuple #[tmps.getD t undef, tmps.getD u undef, tmps.getD v undef, tmps.getD x undef]) w := by simp [results, h]
theorem quarter_any (a b c d : BitVec 32) (w : World) :
    Calls Tryd.prog 13 #[.int .u32 (a.toNat : Nat), .int .u32 (b.toNat : Nat), .int .u32 (c.toNat : Nat), .int .u32 (d.toNat : Nat)] w fun e w' =>
      e = .returned (.tuple #[.int .u32 ((qr a b c d).a.toNat : Nat), .int .u32 ((qr a b c d).b.toNat : Nat), .int .u32 ((qr a b c d).c.toNat : Nat), .int .u32 ((qr a b c d).d.toNat : Nat)]) ∧ w = w' := by
  generalize hQ : qr a b c d = Q
  have HQ := Lib.hid hQ
  clear hQ
  have h1 := w_ad
  have h2 := w_xo
  go_enter Tryd.func13, Tryd.ntmps13
  go_wp2_with fail
  refine (rot_any (xo d (ad a b)) 16 _ (by omega) (by omega)).mono ?_
  rintro e w' ⟨rfl, rfl⟩
  generalize hd1 : rotl (xo d (ad a b)) (Int.toNat 16) = d1
  have Hd1 := Lib.hid hd1
  clear hd1
  go_wp2_with fail
  refine (rot_any (xo b (ad c d1)) 12 _ (by omega) (by omega)).mono ?_
  rintro e w' ⟨rfl, rfl⟩
  generalize hb1 : rotl (xo b (ad c d1)) (Int.toNat 12) = b1
  have Hb1 := Lib.hid hb1
  clear hb1
  go_wp2_with fail
  refine (rot_any (xo d1 (ad (ad a b) b1)) 8 _ (by omega) (by omega)).mono ?_
  rintro e w' ⟨rfl, rfl⟩
  generalize hd2 : rotl (xo d1 (ad (ad a b) b1)) (Int.toNat 8) = d2
  have Hd2 := Lib.hid hd2
  clear hd2
  go_wp2_with fail
  refine (rot_any (xo b1 (ad (ad c d1) d2)) 7 _ (by omega) (by omega)).mono ?_
  rintro e w' ⟨rfl, rfl⟩
  generalize hb2 : rotl (xo b1 (ad (ad c d1) d2)) (Int.toNat 7) = b2
  have Hb2 := Lib.hid hb2
  clear hb2
  go_wp2_with fail
  refine bodyPost_ret (results_tmp4 rfl _ _ _) rfl ?_
  have hq := qr_of Hd1.out Hb1.out Hd2.out Hb2.out
  rw [HQ.out] at hq
  subst hq
  exact ⟨rfl, rfl⟩
end Go.Proofs.YtoojiofgmamjeaaDoor
