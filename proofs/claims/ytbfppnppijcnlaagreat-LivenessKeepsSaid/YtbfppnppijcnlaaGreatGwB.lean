/-
  The outcomes of Rules.
  Conditions: none.
-/
import Derived.Test.YtbfppnppijcnlaaGreatBoxC
import Derived.Test.YtbfppnppijcnlaaGreatFr
namespace Go.Proofs.YtbfppnppijcnlaaGreat
namespace Ab
open Go.RowKit
set_option linter.unusedVariables false
set_option maxRecDepth 100000
noncomputable def noSp : Nat → Option Nat := fun _ => none
/-- Next and Box. -/
noncomputable def extB (hl : Bool) (i0 i1 : Nat) : Nat → List AV → St → Option (AV × St) := orE (nextN hl i0 i1) (tagE hl i0 i1)
noncomputable def envB (hl : Bool) : Env := env noTab noCvt (onlyE envZ (extB hl 0 1))
noncomputable def spR (id : Nat) : Option Nat := match id with | 2 => some 6 | _ => none
noncomputable def litI (n : Int) : AV := .one (.c (.int .i64 n))
noncomputable def rulesOut (hl : Bool) (side : Int) : Option (List (AV × St)) := runM (envB hl) spR 1000 65 (argC [litI side]) (sC hl)
noncomputable def noIntH (H : List (Nat × Blk)) : Bool := H.all fun x => !(Nat.beq x.2.ty 3)
/-- What is asked of them. -/
noncomputable def rulesCk (hl : Bool) (side : Int) : Bool := match rulesOut hl side with | some l => Nat.ble l.length 28 && l.all (fun x => onC hl x.2 && (noIntH x.2.heap && (rfreeH 40 42 x.2.heap && rfreeV 40 42 x.1))) | none => false
theorem rRulesT0 : rulesCk true 0 = true := by kernel_rfl
theorem rRulesT1 : rulesCk true 1 = true := by kernel_rfl
theorem rRulesF0 : rulesCk false 0 = true := by kernel_rfl
theorem rRulesF1 : rulesCk false 1 = true := by kernel_rfl
theorem rules_ck (hl : Bool) {side : Int} (hs : side = 0 ∨ side = 1) : rulesCk hl side = true := by
  rcases hs with rfl | rfl <;> cases hl
  · exact rRulesF0
  · exact rRulesT0
  · exact rRulesF1
  · exact rRulesT1
end Ab
end Go.Proofs.YtbfppnppijcnlaaGreat
