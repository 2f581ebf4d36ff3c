/-
  The walk of the law ChachaTurns: encrypting twice is nothing, a beginning is encrypted as in the whole, and a later part with a later counter.
  Conditions: the table of the quarters lies as its initialiser lays it.
-/
import Derived.Test.YtoojiofgmamjeaaDoorTurns
namespace Go.Proofs.YtoojiofgmamjeaaDoor.chachaTurns
open Go.RowKit
set_option linter.unusedVariables false
theorem chachaTurns_walk (w : World) (ht : Tab w) (A0 : Option Addr) (n0 cap0 : Nat) (h0 : Byts w A0 n0) (l0 : n0 ≤ cap0 ∧ cap0 ≤ maxLen) (a1 : Int) (h1 : 0 ≤ a1 ∧ a1 ≤ 4294967295) (A2 : Option Addr) (len cap : Nat) (hb : Byts w A2 len) (l2 : len ≤ cap ∧ cap ≤ maxLen) (a3 : Int) (h3 : 0 ≤ a3 ∧ a3 ≤ 255) :
    Calls Tryd.prog 4 #[.slice A0 n0 cap0, .int .u32 a1, .slice A2 len cap, .int .u8 a3] w fun e w' => e = .returned (.bool true) ∧ Below w.heap.size w w' := by
  obtain ⟨c, rfl⟩ : ∃ c : BitVec 32, a1 = (c.toNat : Nat) := ⟨BitVec.ofNat 32 a1.toNat, by rw [BitVec.toNat_ofNat]; omega⟩
  obtain ⟨ct, rfl⟩ := Int.eq_ofNat_of_zero_le h3.1
  rcases Nat.lt_or_ge 400 len with hl | hl
  · exact turns_hi w ht A0 n0 cap0 h0 l0.1 l0.2 c A2 len cap hb l2.1 l2.2 ct (by omega) hl
  · exact turns_lo w ht A0 n0 cap0 h0 l0.1 l0.2 c A2 len cap hb l2.1 l2.2 ct (by omega) hl
end Go.Proofs.YtoojiofgmamjeaaDoor.chachaTurns
