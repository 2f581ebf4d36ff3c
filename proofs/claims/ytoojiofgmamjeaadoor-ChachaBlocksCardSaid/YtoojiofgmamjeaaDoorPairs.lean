/-
  The walk of the law ChachaBlocks: both sides make the same block and encrypt alike, or refuse alike.
  Conditions: the table of the quarters lies as its initialiser lays it.
-/
import Derived.Test.YtoojiofgmamjeaaDoorMake
import Derived.Test.YtoojiofgmamjeaaDoorNo
import Derived.Test.YtoojiofgmamjeaaDoorRXor
namespace Go.Proofs.YtoojiofgmamjeaaDoor
open Go.RowKit
set_option linter.unusedVariables false
/-- A list of bytes as a slice: where it lies, how long it is, its capacity, its bytes. -/
structure Sl where
  A : Option Addr
  n : Nat
  c : Nat
  f : Nat → BitVec 8
def Sl.v (s : Sl) : Value := .slice s.A s.n s.c
def Sl.ok (s : Sl) (w : World) : Prop := s.n ≤ s.c ∧ s.c ≤ maxLen ∧ Byf w s.A s.n s.f
/-- What Block and Xor give: a list, or a refusal. -/
def RPost (w : World) (good : Bool) (n : Nat) (b : Nat → BitVec 8) (e : Ending) (w' : World) : Prop :=
  ∃ A m c, e = .returned (.tuple #[.slice A m c, .bool good]) ∧ m ≤ c ∧ c ≤ maxLen ∧ m = (if good then n else 0) ∧ Byf w' A m b ∧ Below w.heap.size w w'
theorem rpost_no {w : World} {n : Nat} {b : Nat → BitVec 8} {e : Ending} {w' : World} (h : NoPost w e w') : RPost w false n b e w' :=
  ⟨none, 0, 0, h.1, Nat.le_refl _, Nat.zero_le _, rfl, fun k hk => absurd hk (by omega), h.2⟩
theorem rpost_blk {w : World} {b : Nat → BitVec 8} {e : Ending} {w' : World} (h : BlkPost w b e w') : RPost w true 64 b e w' := by
  obtain ⟨A, c, he, _, h1, h2, h3, h4⟩ := h
  exact ⟨A, 64, c, he, h1, h2, rfl, h3, h4⟩
theorem rpost_xor {w : World} {n : Nat} {b : Nat → BitVec 8} {e : Ending} {w' : World} (h : XorPost w n b e w') : RPost w true n b e w' := by
  obtain ⟨A, c, he, h1, h2, h3, h4⟩ := h
  exact ⟨A, n, c, he, h1, h2, rfl, h3, h4⟩
/-- Both lengths are right. -/
def good (k n : Sl) : Bool := decide (k.n = 32 ∧ n.n = 12)
theorem good_yes {k n : Sl} {w : World} (hk : k.ok w) (hn : n.ok w) (h : good k n = true) : ∃ g o c g2 o2 c2, k = ⟨some ⟨g, o, none⟩, 32, c, k.f⟩ ∧ n = ⟨some ⟨g2, o2, none⟩, 12, c2, n.f⟩ ∧ 32 ≤ c ∧ c ≤ maxLen ∧ 12 ≤ c2 ∧ c2 ≤ maxLen ∧ Byf w (some ⟨g, o, none⟩) 32 k.f ∧ Byf w (some ⟨g2, o2, none⟩) 12 n.f := by
  obtain ⟨A, kn, kc, kf⟩ := k
  obtain ⟨A2, nn, nc, nf⟩ := n
  obtain ⟨h1, h2⟩ := of_decide_eq_true h
  simp only at h1 h2
  subst h1; subst h2
  obtain ⟨a1, a2, a3⟩ := hk
  obtain ⟨b1, b2, b3⟩ := hn
  simp only at a1 a2 a3 b1 b2 b3
  obtain ⟨g, o, rfl⟩ := a3.some (by omega)
  obtain ⟨g2, o2, rfl⟩ := b3.some (by omega)
  exact ⟨g, o, kc, g2, o2, nc, rfl, rfl, a1, a2, b1, b2, a3, b3⟩
theorem good_no {k n : Sl} (h : good k n = false) : k.n ≠ 32 ∨ n.n ≠ 12 := by
  have := of_decide_eq_false h
  omega
section
variable (k n : Sl) (c : BitVec 32) (w : World) (hk : k.ok w) (hn : n.ok w)
include hk hn
theorem gblock (ht : Tab w) : Calls Tryd.prog 8 #[k.v, .int .u32 (c.toNat : Nat), n.v] w (RPost w (good k n) 64 (bl (st0 k.f c n.f))) := by
  cases hg : good k n
  · exact (block_no k.A n.A k.n n.n k.c n.c c w hk.1 hn.1 hk.2.1 hn.2.1 (good_no hg)).mono fun _ _ h => rpost_no h
  · obtain ⟨g, o, c1, g2, o2, c2, e1, e2, h1, h2, h3, h4, h5, h6⟩ := good_yes hk hn hg
    rw [e1, e2]
    exact (block_any g o c1 g2 o2 c2 k.f n.f c w ht h5 h6 h1 h3 h2 h4).mono fun _ _ h => rpost_blk h
theorem grblock : Calls Tryd.prog 9 #[k.v, .int .u32 (c.toNat : Nat), n.v] w (RPost w (good k n) 64 (bl (st0 k.f c n.f))) := by
  cases hg : good k n
  · exact (rblock_no k.A n.A k.n n.n k.c n.c c w hk.1 (good_no hg)).mono fun _ _ h => rpost_no h
  · obtain ⟨g, o, c1, g2, o2, c2, e1, e2, h1, h2, h3, h4, h5, h6⟩ := good_yes hk hn hg
    rw [e1, e2]
    exact (rblock_any g o c1 g2 o2 c2 k.f n.f c w h5 h6 h1 h3 h2 h4).mono fun _ _ h => rpost_blk h
variable (b : Sl) (hb : b.ok w) (hbn : b.n ≤ 1000)
include hb hbn
theorem gxor (ht : Tab w) : Calls Tryd.prog 10 #[k.v, .int .u32 (c.toNat : Nat), n.v, b.v] w (RPost w (good k n) b.n (xorB b.f k.f n.f c)) := by
  cases hg : good k n
  · exact (xor_no k.A n.A b.A k.n n.n k.c n.c b.n b.c c w hk.1 hn.1 hk.2.1 hn.2.1 (good_no hg)).mono fun _ _ h => rpost_no h
  · obtain ⟨g, o, c1, g2, o2, c2, e1, e2, h1, h2, h3, h4, h5, h6⟩ := good_yes hk hn hg
    rw [e1, e2]
    exact (xor_any g o c1 g2 o2 c2 k.f n.f b.f c b.A b.n b.c w ht h5 h6 hb.2.2 h1 h3 h2 h4 hbn).mono fun _ _ h => rpost_xor h
theorem grxor : Calls Tryd.prog 11 #[k.v, .int .u32 (c.toNat : Nat), n.v, b.v] w (RPost w (good k n) b.n (xorB b.f k.f n.f c)) := by
  cases hg : good k n
  · exact (rxor_no k.A n.A b.A k.n n.n k.c n.c b.n b.c c w hk.1 (good_no hg)).mono fun _ _ h => rpost_no h
  · obtain ⟨g, o, c1, g2, o2, c2, e1, e2, h1, h2, h3, h4, h5, h6⟩ := good_yes hk hn hg
    rw [e1, e2]
    rcases Nat.eq_zero_or_pos b.n with h0 | h0
    · have := rxor_zero (some ⟨g, o, none⟩) (some ⟨g2, o2, none⟩) b.A c1 c2 b.c c (xorB b.f k.f n.f c) w hb.2.1
      have e3 : b.v = .slice b.A 0 b.c := by unfold Sl.v; rw [h0]
      rw [e3, h0]
      exact this.mono fun _ _ h => rpost_xor h
    · exact (rxor_any g o c1 g2 o2 c2 k.f n.f b.f c b.A b.n b.c w h5 h6 hb.2.2 h1 h3 h2 h4 hbn h0).mono fun _ _ h => rpost_xor h
end
theorem Sl.ok.bel {s : Sl} {w w' : World} (h : s.ok w) (hb : Below w.heap.size w w') : s.ok w' := ⟨h.1, h.2.1, h.2.2.bel hb⟩
end Go.Proofs.YtoojiofgmamjeaaDoor
