/-
  The law RekeyikeMoves up to its connection, and its end, class by class.
  Conditions: none.
-/
import Derived.Test.YtbfppnppijcnlaaGreatLw
namespace Go.Proofs.YtbfppnppijcnlaaGreat
namespace Ab
open Go.RowKit
set_option linter.unusedVariables false
set_option linter.unusedSimpArgs false
set_option maxRecDepth 100000
noncomputable def lwC : Code := Tryz.f3.body.getD .skip
theorem lwC_is : Tryz.f3.body = some lwC := by kernel_rfl
noncomputable def lwNew : Array Oper := opsOf ((lin lwC).drop 3)
noncomputable def lwOps : Array Oper := opsOf ((lin lwC).drop 4)
noncomputable def lwRest : List Code := (lin lwC).drop 5
theorem lw_lin : lin lwC = (lin lwC).take 3 ++ (.region 3 lwNew false :: ([] ++ (.region 4 lwOps false :: lwRest))) := by kernel_rfl
noncomputable def lwUF : Sl := (lset (lset (anyS Tryz.f3.ntmps ⟨Tryz.f3.ntmps, .leaf⟩) 1 (.one (.c (.bool false)))) 4 (.one (.c (.bool false))))
noncomputable def lwMF (hl : Bool) : Bool :=
  match codeAL E0n ((lin lwC).take 3) (pad Tryz.f3.ntmps [.one (.c (.sym 0)), .one (.c (.bool false))]) st0 with
  | some (t1, s1) => (match newR E0n 120 lwNew t1 s1 with
    | some t2 => lwStart hl s1.next (s1.next + 1) 24 lwOps lwUF t2 (newS hl { s1 with heap := [] })
    | none => false)
  | none => false
theorem lwMFT : lwMF true = true := by kernel_rfl
theorem lwMFF : lwMF false = true := by kernel_rfl
noncomputable def lwOKF (k : Nat) : Bool := endTrue (eMid noTab) Tryz.f3.results.toList (restA (eMid noTab) lwOps lwRest (lset lwUF 24 (twV k)) (twS k))
noncomputable def lwUT : Sl := (lset (lset (anyS Tryz.f3.ntmps ⟨Tryz.f3.ntmps, .leaf⟩) 1 (.one (.c (.bool true)))) 4 (.one (.c (.bool false))))
noncomputable def lwMT (hl : Bool) : Bool :=
  match codeAL E0n ((lin lwC).take 3) (pad Tryz.f3.ntmps [.one (.c (.sym 0)), .one (.c (.bool true))]) st0 with
  | some (t1, s1) => (match newR E0n 120 lwNew t1 s1 with
    | some t2 => lwStart hl s1.next (s1.next + 1) 24 lwOps lwUT t2 (newS hl { s1 with heap := [] })
    | none => false)
  | none => false
theorem lwMTT : lwMT true = true := by kernel_rfl
theorem lwMTF : lwMT false = true := by kernel_rfl
noncomputable def lwOKT (k : Nat) : Bool := endTrue (eMid noTab) Tryz.f3.results.toList (restA (eMid noTab) lwOps lwRest (lset lwUT 24 (twV k)) (twS k))
end Ab
end Go.Proofs.YtbfppnppijcnlaaGreat
