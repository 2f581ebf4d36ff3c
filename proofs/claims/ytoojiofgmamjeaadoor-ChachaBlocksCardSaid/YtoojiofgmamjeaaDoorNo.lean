/-
  The contracts of Block and Xor, both sides, where a length is wrong, and of the reference's Xor where nothing is encrypted.
  Conditions: the lengths fit their capacities.
-/
import Derived.Test.YtoojiofgmamjeaaDoorXor
import Derived.Test.YtoojiofgmamjeaaDoorRBlk
namespace Go.Proofs.YtoojiofgmamjeaaDoor
open Go.RowKit
set_option linter.unusedVariables false
/-- A wrong length. -/
def NoPost (w : World) (e : Ending) (w' : World) : Prop := e = .returned (.tuple #[.slice none 0 0, .bool false]) ∧ Below w.heap.size w w'
section
variable (A A2 Ab : Option Addr) (n n2 cap cap2 nb capb : Nat) (c : BitVec 32) (w : World) (hc1 : n ≤ cap) (hc2 : n2 ≤ cap2) (hm1 : cap ≤ maxLen) (hm2 : cap2 ≤ maxLen) (hno : n ≠ 32 ∨ n2 ≠ 12)
include hc1 hc2 hm1 hm2 hno
theorem block_no : Calls Tryd.prog 8 #[.slice A n cap, .int .u32 (c.toNat : Nat), .slice A2 n2 cap2] w (NoPost w) := by
  have HS := Lib.hid (state_no A A2 n n2 cap cap2 c w hc1 hc2 hm1 hm2 hno)
  go_enter Tryd.func8, Tryd.ntmps8
  go_wp2_with fail
  refine HS.out.mono ?_
  rintro e w1 ⟨rfl, hb1⟩
  have HB1 := Lib.hid hb1
  clear hb1 HS
  go_wp2_with fail
  go_ret2
  exact ⟨rfl, HB1.out.alloc HB1.out.size _⟩
theorem xor_no : Calls Tryd.prog 10 #[.slice A n cap, .int .u32 (c.toNat : Nat), .slice A2 n2 cap2, .slice Ab nb capb] w (NoPost w) := by
  have HS := Lib.hid (state_no A A2 n n2 cap cap2 c w hc1 hc2 hm1 hm2 hno)
  go_enter Tryd.func10, Tryd.ntmps10
  go_wp2_with fail
  refine HS.out.mono ?_
  rintro e w1 ⟨rfl, hb1⟩
  have HB1 := Lib.hid hb1
  clear hb1 HS
  go_wp2_with fail
  go_ret2
  exact ⟨rfl, HB1.out.alloc HB1.out.size _⟩
omit hc2 hm1 hm2 in
theorem rblock_no : Calls Tryd.prog 9 #[.slice A n cap, .int .u32 (c.toNat : Nat), .slice A2 n2 cap2] w (NoPost w) := by
  by_cases h32 : n = 32
  · have h12 : n2 ≠ 12 := by omega
    subst h32
    have q1 : ((n2 : Int) == 12) = false := by simp; omega
    have q2 : ((n2 : Int) != 12) = true := by simp; omega
    clear hno h12
    go_enter Tryd.func9, Tryd.ntmps9
    go_wp2_with fail
    go_ret2
    exact ⟨rfl, Below.refl _ _⟩
  · have q1 : ((n : Int) == 32) = false := by simp; omega
    have q2 : ((n : Int) != 32) = true := by simp; omega
    clear hno h32
    go_enter Tryd.func9, Tryd.ntmps9
    go_wp2_with fail
    go_ret2
    exact ⟨rfl, Below.refl _ _⟩
omit hc2 hm1 hm2 in
theorem rxor_no : Calls Tryd.prog 11 #[.slice A n cap, .int .u32 (c.toNat : Nat), .slice A2 n2 cap2, .slice Ab nb capb] w (NoPost w) := by
  by_cases h32 : n = 32
  · have h12 : n2 ≠ 12 := by omega
    subst h32
    have q1 : ((n2 : Int) == 12) = false := by simp; omega
    have q2 : ((n2 : Int) != 12) = true := by simp; omega
    clear hno h12
    go_enter Tryd.func11, Tryd.ntmps11
    go_wp2_with fail
    go_ret2
    exact ⟨rfl, Below.refl _ _⟩
  · have q1 : ((n : Int) == 32) = false := by simp; omega
    have q2 : ((n : Int) != 32) = true := by simp; omega
    clear hno h32
    go_enter Tryd.func11, Tryd.ntmps11
    go_wp2_with fail
    go_ret2
    exact ⟨rfl, Below.refl _ _⟩
end
theorem rxor_zero (A A2 Ab : Option Addr) (cap cap2 capb : Nat) (c : BitVec 32) (b : Nat → BitVec 8) (w : World) (hb : capb ≤ maxLen) :
    Calls Tryd.prog 11 #[.slice A 32 cap, .int .u32 (c.toNat : Nat), .slice A2 12 cap2, .slice Ab 0 capb] w (XorPost w 0 b) := by
  obtain ⟨i0, hi0, hz0, hz1, hz2⟩ := info_parts codes_info
  have fin : ∀ (w' : World) (A : Option Addr) (c : Nat), c ≤ maxLen → Below w.heap.size w w' → XorPost w 0 b (.returned (.tuple #[.slice A 0 c, .bool true])) w' := fun w' A c hc h => ⟨A, c, rfl, Nat.zero_le _, hc, fun k hk => absurd hk (by omega), h⟩
  have FIN := Lib.hid fin
  clear fin
  rcases Ab with _ | ad
  · go_enter Tryd.func11, Tryd.ntmps11
    go_wp2_with (at_builtin; refine wpList_append_own_none _ rfl (.const (.slice none 0 0)) (.tmp 23) 22 rfl w.heap.size 5 i0 1 Tryd.underlying22 hi0 hz1 (.slice none 0 0) 0 [] rfl (World.ownsRow_nil _ _ _ _) _ rfl ?_)
    go_loopw [11] (fun i wr => i = .int .i64 0 ∧ wr = w) (fun _ _ => 0)
    case atStart => exact ⟨rfl, rfl⟩
    case round =>
      obtain ⟨rfl, rfl⟩ := hrel
      go_wp2_with fail
      go_ret2
      exact FIN.out _ _ _ (Nat.zero_le _) (Below.refl _ _)
  · have h63 : 0 + 0 ≤ maxLen := Nat.zero_le _
    have hbytes : (0 + 0) * 1 ≤ 140737488355328 := by omega
    go_enter Tryd.func11, Tryd.ntmps11
    go_wp2_with (at_builtin; refine wpList_append_own _ rfl (.const (.slice none 0 0)) (.tmp 23) 22 rfl w.heap.size 5 i0 (.int .u8 0) 1 1 Tryd.underlying22 hi0 hz0 hz1 hz2 rfl (by decide) (.slice none 0 0) 0 [] rfl (World.ownsRow_nil _ _ _ _) ad 0 capb [] rfl rfl (fun j u hj => by simp at hj) (fun u hu => by simp at hu) h63 hbytes (Nat.le_refl _) ?_; intro v1 w1 hown1 hg1 hnil; obtain rfl := hnil.2 ⟨rfl, rfl⟩)
    have hb1 : Below w.heap.size w w1 := (Below.refl _ _).grown hg1 (Nat.le_refl _) (by simp [Value.ownBlock])
    have HB1 := Lib.hid hb1
    clear hb1 hg1 hown1 hnil
    go_loopw [11] (fun i wr => i = .int .i64 0 ∧ wr = w1) (fun _ _ => 0)
    case atStart => exact ⟨rfl, rfl⟩
    case round =>
      obtain ⟨rfl, rfl⟩ := hrel
      go_wp2_with fail
      go_ret2
      exact FIN.out _ _ _ (Nat.zero_le _) HB1.out
end Go.Proofs.YtoojiofgmamjeaaDoor
