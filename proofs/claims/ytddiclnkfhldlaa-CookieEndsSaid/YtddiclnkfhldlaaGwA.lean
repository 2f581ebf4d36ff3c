/-
  The contracts of address and Box, for any choices.
  Conditions: none.
-/
import Derived.Test.YtddiclnkfhldlaaCm
import Derived.Test.YtddiclnkfhldlaaChk
namespace Go.Proofs.Ytddiclnkfhldlaa
namespace Ab
open Go.RowKit
set_option linter.unusedVariables false
set_option maxRecDepth 100000
def noSp : Nat → Option Nat := fun _ => none
def num : AV := .one (.c (.num .i64))
def mAddr : MM := ⟨75, [num, num, .one (.c .bo)], .one (.agg [.num .i64, .num .u64, .num .u64]), noSp⟩
noncomputable def envZ : Env := env noTab noCvt noExt
theorem rAddr : mmOK envZ mAddr = true := by kernel_rfl
/-- Next and address. -/
def extA (hl : Bool) (i0 i1 : Nat) : Nat → List AV → St → Option (AV × St) := orE (nextW hl i0 i1) (mmE [mAddr])
noncomputable def envA (hl : Bool) : Env := env noTab noCvt (onlyE envZ (extA hl 0 1))
def mBox : CM := ⟨74, [num], .one (.agg boxN), noSp⟩
theorem rBoxT : cmOK true (envA true) mBox = true := by kernel_rfl
theorem rBoxF : cmOK false (envA false) mBox = true := by kernel_rfl
end Ab
end Go.Proofs.Ytddiclnkfhldlaa
