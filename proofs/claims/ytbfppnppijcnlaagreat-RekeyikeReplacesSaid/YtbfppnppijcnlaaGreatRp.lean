/-
  The law RekeyikeReplaces up to its connection, and its end, class by class.
  Conditions: none.
-/
import Derived.Test.YtbfppnppijcnlaaGreatLw
namespace Go.Proofs.YtbfppnppijcnlaaGreat
namespace Ab
open Go.RowKit
set_option linter.unusedVariables false
set_option linter.unusedSimpArgs false
set_option maxRecDepth 100000
noncomputable def lwC : Code := Tryz.f5.body.getD .skip
theorem lwC_is : Tryz.f5.body = some lwC := by kernel_rfl
noncomputable def lwNew : Array Oper := opsOf ((lin lwC).drop 3)
noncomputable def lwOps : Array Oper := opsOf ((lin lwC).drop 4)
noncomputable def lwRest : List Code := (lin lwC).drop 5
theorem lw_lin : lin lwC = (lin lwC).take 3 ++ (.region 3 lwNew false :: ([] ++ (.region 4 lwOps false :: lwRest))) := by kernel_rfl
noncomputable def lwU : Sl := (lset (anyS Tryz.f5.ntmps ⟨Tryz.f5.ntmps, .leaf⟩) 2 (.one (.c (.bool false))))
noncomputable def lwM (hl : Bool) : Bool :=
  match codeAL E0n ((lin lwC).take 3) (pad Tryz.f5.ntmps [.one (.c (.sym 0))]) st0 with
  | some (t1, s1) => (match newR E0n 120 lwNew t1 s1 with
    | some t2 => lwStart hl s1.next (s1.next + 1) 23 lwOps lwU t2 (newS hl { s1 with heap := [] })
    | none => false)
  | none => false
theorem lwMT : lwM true = true := by kernel_rfl
theorem lwMF : lwM false = true := by kernel_rfl
noncomputable def lwOK (k : Nat) : Bool := endTrue (eMid noTab) Tryz.f5.results.toList (restA (eMid noTab) lwOps lwRest (lset lwU 23 (twV k)) (twS k))
end Ab
end Go.Proofs.YtbfppnppijcnlaaGreat
