/-
  The contracts of Less, Equal, Lower, Name, Owner, and of the names that a law draws.
  Conditions: the terms lie in memory as a tree.
-/
import Derived.Test.YtddiclnkfhldlaaEqC
import Derived.Test.YtddiclnkfhldlaaCodes
import Derived.Laws.BitsAllLaws
import Derived.Laws.BitsLemmas
namespace Go.Proofs.Ytddiclnkfhldlaa
open Go.RowKit Go.Sort
set_option linter.unusedVariables false
theorem box1 {w w1 : World} {o1 : Obj} (h : Below (w.alloc o1).heap.size (w.alloc o1) w1) : Below w.heap.size w w1 :=
  ((Below.refl _ _).alloc (Nat.le_refl _) _).trans (h.mono (by simp))
theorem box2 {w w1 : World} {o1 o2 : Obj} (h : Below ((w.alloc o1).alloc o2).heap.size ((w.alloc o1).alloc o2) w1) : Below w.heap.size w w1 := box1 (box1 h)
theorem rless_any (t u : Tm) (w : World) (A B : Option Addr) (c d : Nat) (ht : Tr w t A c) (hu : Tr w u B d) :
    Calls Try.prog 84 #[.agg #[.int .i64 t.op, .int .i64 t.val, .slice A t.args.length c], .agg #[.int .i64 u.op, .int .i64 u.val, .slice B u.args.length d]] w fun e w' => e = .returned (.bool (lessT t u)) ∧ Below w.heap.size w w' := by
  go_enter Try.func84, Try.ntmps84
  go_wp2_with fail
  refine (rorder_any t u _ A B c d ((ht.alloc _).alloc _) ((hu.alloc _).alloc _)).mono ?_
  rintro e w1 ⟨rfl, hb⟩
  have hb0 : Below w.heap.size w w1 := box2 hb
  clear hb
  have r := cmpV_range t u
  go_wp2_with fail
  go_ret
  exact ⟨ret_bool (ord_less t u), hb0⟩
theorem equal_any (t u : Tm) (w : World) (A B : Option Addr) (c d : Nat) (ht : Tr w t A c) (hu : Tr w u B d) :
    Calls Try.prog 67 #[.agg #[.int .i64 t.op, .int .i64 t.val, .slice A t.args.length c], .agg #[.int .i64 u.op, .int .i64 u.val, .slice B u.args.length d]] w fun e w' => e = .returned (.bool (equT t u)) ∧ Below w.heap.size w w' := by
  go_enter Try.func67, Try.ntmps67
  go_wp2_with fail
  refine (compare_any t u _ A B c d ((ht.alloc _).alloc _) ((hu.alloc _).alloc _)).mono ?_
  rintro e w1 ⟨rfl, hb⟩
  have hb0 : Below w.heap.size w w1 := box2 hb
  clear hb
  have r := cmpV_range t u
  go_wp2_with fail
  go_ret
  exact ⟨ret_bool (cmpV_equ t u), hb0⟩
/-- What a product of 64 bits and the lowest 16 of them are. -/
theorem and16 (x : Int) : bits .and .i64 x 65535 = x % 65536 := by
  show IntKind.i64.wrap ((BitVec.ofInt 64 x &&& BitVec.ofInt 64 65535).toNat : Int) = _
  have h1 : (BitVec.ofInt 64 65535).toNat = 65535 := by decide
  have h2 : ((BitVec.ofInt 64 x).toNat : Int) = x % 18446744073709551616 := by
    rw [BitVec.toNat_ofInt]
    omega
  have h3 : ∀ n : Nat, n &&& 65535 = n % 65536 := fun n => Nat.and_two_pow_sub_one_eq_mod n 16
  rw [BitVec.toNat_and, h1, h3, IntKind.wrap_i64]
  omega
theorem rankT_range (t : Tm) : 0 ≤ rankT t ∧ rankT t < 65536 := by unfold rankT; omega
end Go.Proofs.Ytddiclnkfhldlaa
