/-
  The outcomes of Rules, and New on each of them.
  Conditions: none.
-/
import Derived.Test.YtddiclnkfhldlaaGwA
namespace Go.Proofs.Ytddiclnkfhldlaa
namespace Ab
open Go.RowKit
set_option linter.unusedVariables false
set_option maxRecDepth 100000
/-- Next, address and Box. -/
def extB (hl : Bool) (i0 i1 : Nat) : Nat → List AV → St → Option (AV × St) := orE (nextW hl i0 i1) (orE (cmE hl i0 i1 [mBox]) (mmE [mAddr]))
noncomputable def envB (hl : Bool) : Env := env noTab noCvt (onlyE envZ (extB hl 0 1))
def spR (id : Nat) : Option Nat := match id with | 2 => some 6 | _ => none
noncomputable def rulesOut (hl : Bool) : Option (List (AV × St)) := runM (envB hl) spR 1000 40 (argC [num]) (sC hl)
theorem rRules : (match rulesOut true with | some l => onC true ⟨(l.headD (.any, st0)).2.heap, 0, 0, (l.headD (.any, st0)).2.dirty⟩ && Nat.beq l.length 28 | none => false) = true := by kernel_rfl
end Ab
end Go.Proofs.Ytddiclnkfhldlaa
