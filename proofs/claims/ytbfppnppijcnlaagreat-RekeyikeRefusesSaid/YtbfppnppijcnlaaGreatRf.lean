/-
  The law RekeyikeRefuses up to its connection, and its end, class by class.
  Conditions: none.
-/
import Derived.Test.YtbfppnppijcnlaaGreatEm
namespace Go.Proofs.YtbfppnppijcnlaaGreat
namespace Ab
open Go.RowKit
set_option linter.unusedVariables false
set_option linter.unusedSimpArgs false
set_option maxRecDepth 100000
noncomputable def lwC : Code := Tryz.f4.body.getD .skip
theorem lwC_is : Tryz.f4.body = some lwC := by kernel_rfl
noncomputable def lwNew : Array Oper := opsOf ((lin lwC).drop 3)
noncomputable def lwOps : Array Oper := opsOf ((lin lwC).drop 4)
noncomputable def lwRest : List Code := (lin lwC).drop 5
theorem lw_lin : lin lwC = (lin lwC).take 3 ++ (.region 3 lwNew false :: ([] ++ (.region 4 lwOps false :: lwRest))) := by kernel_rfl
noncomputable def lwArgs : List AV := [.one (.c (.sym 0)), .one (.c (.sym 1)), .one (.c (.sym 2))]
noncomputable def lwU : Sl := lset (lset (lset (anyS Tryz.f4.ntmps ⟨Tryz.f4.ntmps, .leaf⟩) 1 (.one (.c (.sym 1)))) 2 (.one (.c (.sym 2)))) 6 (.one (.c (.bool false)))
noncomputable def lwM (hl : Bool) : Bool :=
  match codeAL E0n ((lin lwC).take 3) (pad Tryz.f4.ntmps lwArgs) st0 with
  | some (t1, s1) => (match newR E0n 120 lwNew t1 s1 with
    | some t2 => lwStart hl s1.next (s1.next + 1) 33 lwOps lwU t2 (newS hl { s1 with heap := [] })
    | none => false)
  | none => false
theorem lwMT : lwM true = true := by kernel_rfl
theorem lwMF : lwM false = true := by kernel_rfl
noncomputable def clR (c : Nat) : Nat := bif Nat.blt c 11 then 0 else c - 10
noncomputable def clP (c : Nat) : AC := bif Nat.blt c 11 then .int .i64 (Int.ofNat c) else .rng 11
noncomputable def tabRf (r : Nat) : BinOp → AC → AC → Option AC := fun op x y =>
  match op, x, y with
  | .rem, .sym i, .int .u8 n => bif Nat.beq i 2 && decide (n = 5) then some (.int .u8 (Int.ofNat r)) else none
  | _, _, _ => none
noncomputable def eRf (c : Nat) : Env := eMod (tabRf (clR c)) [(1, 11, clP c)]
noncomputable def lwOK (c k : Nat) : Bool := endTrue (eRf c) Tryz.f4.results.toList (restA (eRf c) lwOps lwRest (lset lwU 33 (twV k)) (twS k))
end Ab
end Go.Proofs.YtbfppnppijcnlaaGreat
