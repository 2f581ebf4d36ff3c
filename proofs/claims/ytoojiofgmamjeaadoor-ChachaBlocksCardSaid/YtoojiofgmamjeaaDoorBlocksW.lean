/-
  The walk of the law ChachaBlocks: both sides make the same block and encrypt alike, or refuse alike.
  Conditions: the table of the quarters lies as its initialiser lays it.
-/
import Derived.Test.YtoojiofgmamjeaaDoorBlocks
namespace Go.Proofs.YtoojiofgmamjeaaDoor.chachaBlocks
open Go.RowKit
set_option linter.unusedVariables false
theorem chachaBlocks_walk (w : World) (ht : Tab w) (A0 : Option Addr) (n0 cap0 : Nat) (h0 : Byts w A0 n0) (l0 : n0 ≤ cap0 ∧ cap0 ≤ maxLen) (A1 : Option Addr) (n1 cap1 : Nat) (h1 : Byts w A1 n1) (l1 : n1 ≤ cap1 ∧ cap1 ≤ maxLen) (a2 : Int) (h2 : 0 ≤ a2 ∧ a2 ≤ 4294967295)
    (A3 : Option Addr) (n3 cap3 : Nat) (h3 : Byts w A3 n3) (l3 : n3 ≤ cap3 ∧ cap3 ≤ maxLen) (A4 : Option Addr) (n4 cap4 : Nat) (h4 : Byts w A4 n4) (l4 : n4 ≤ cap4 ∧ cap4 ≤ maxLen) :
    Calls Tryd.prog 3 #[.slice A0 n0 cap0, .slice A1 n1 cap1, .int .u32 a2, .slice A3 n3 cap3, .slice A4 n4 cap4] w fun e w' => e = .returned (.bool true) ∧ Below w.heap.size w w' := by
  obtain ⟨c, rfl⟩ : ∃ c : BitVec 32, a2 = (c.toNat : Nat) := ⟨BitVec.ofNat 32 a2.toNat, by rw [BitVec.toNat_ofNat]; omega⟩
  obtain ⟨f0, hf0⟩ := byf_of h0
  obtain ⟨f1, hf1⟩ := byf_of h1
  obtain ⟨f3, hf3⟩ := byf_of h3
  rcases Nat.lt_or_ge 600 n3 with hl | hl
  · exact blocks_hi w ht A0 n0 cap0 f0 hf0 l0.1 l0.2 A1 n1 cap1 f1 hf1 l1.1 l1.2 c A3 n3 cap3 f3 hf3 l3.1 l3.2 A4 n4 cap4 h4 l4.1 l4.2 hl
  · exact blocks_lo w ht A0 n0 cap0 f0 hf0 l0.1 l0.2 A1 n1 cap1 f1 hf1 l1.1 l1.2 c A3 n3 cap3 f3 hf3 l3.1 l3.2 A4 n4 cap4 h4 l4.1 l4.2 hl
end Go.Proofs.YtoojiofgmamjeaaDoor.chachaBlocks
