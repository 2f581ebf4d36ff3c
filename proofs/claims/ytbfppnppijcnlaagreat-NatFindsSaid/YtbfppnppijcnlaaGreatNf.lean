/-
  The law NatFinds up to where the gateways are drawn, and its end, class by class.
  Conditions: none.
-/
import Derived.Test.YtbfppnppijcnlaaGreatGwS
namespace Go.Proofs.YtbfppnppijcnlaaGreat
namespace Ab
open Go.RowKit
set_option linter.unusedVariables false
set_option linter.unusedSimpArgs false
set_option maxRecDepth 100000
noncomputable def isN5 (j : Nat) : Bool := Nat.beq j 5 || isNm j
noncomputable def farG (op : BinOp) (gt : Bool) : Option AC :=
  match op with
  | .eql => some (.bool false)
  | .neq => some (.bool true)
  | .lss => some (.bool !gt)
  | .leq => some (.bool !gt)
  | .gtr => some (.bool gt)
  | .geq => some (.bool gt)
  | _ => none
noncomputable def sameG (op : BinOp) : Option AC := match op with | .eql => some (.bool true) | .neq => some (.bool false) | _ => none
noncomputable def tabNf (z : Bool) : BinOp → AC → AC → Option AC := fun op x y =>
  match x, y with
  | .sym i, .int .i64 c =>
    bif Nat.beq i 3 then (match op with | .rem => bif decide (c = 3) then some (bif z then .int .i64 0 else .sym 4) else none | _ => none)
    else bif Nat.beq i 4 then (match op with | .mul => bif decide (c = 7) then some (.sym 5) else none | _ => none)
    else bif Nat.beq i 5 && (!z && decide (c < 7)) then farG op true else none
  | .int .i64 c, .sym i => bif Nat.beq i 5 && (!z && decide (c < 7)) then farG op false else none
  | .sym i, .sym j => bif Nat.beq i 5 && Nat.beq j 5 then sameG op else none
  | _, _ => none
noncomputable def cvtNf (k : IntKind) (x : AC) : Option AC := match k, x with | .i64, .sym 1 => some (.sym 3) | k, x => cvtN k x
noncomputable def tm5 (f : Nat) (args : List AV) (s : St) : Option (AV × St) :=
  match envZ.fn f with
  | none => none
  | some _ => tmE isN5 f args s
noncomputable def eNf (z : Bool) (n : Nat) : Env := env (tabNf z) cvtNf (orE tm5 (netE (tOf n) (nOf n)))
noncomputable def lwC : Code := Tryz.f7.body.getD .skip
theorem lwC_is : Tryz.f7.body = some lwC := by kernel_rfl
noncomputable def lwNew : Array Oper := opsOf ((lin lwC).drop 3)
noncomputable def lwOps : Array Oper := opsOf ((lin lwC).drop 4)
noncomputable def lwRest : List Code := (lin lwC).drop 5
noncomputable def lwL1 : List Code := lwRest.take 6
noncomputable def lwL2 : List Code := lwRest.drop 6
theorem lw_lin : lin lwC = (lin lwC).take 3 ++ (.region 3 lwNew false :: ([] ++ (.region 4 lwOps false :: lwRest))) := by kernel_rfl
noncomputable def lwArgs (w : Bool) : List AV := [.one (.c (.sym 0)), .one (.c (.sym 1)), .one (.c (.bool w))]
noncomputable def lwU (w : Bool) : Sl := lset (lset (lset (anyS Tryz.f7.ntmps ⟨Tryz.f7.ntmps, .leaf⟩) 1 (.one (.c (.sym 1)))) 2 (.one (.c (.bool w)))) 6 (.one (.c (.bool false)))
noncomputable def lwM (w hl : Bool) : Bool :=
  match codeAL E0n ((lin lwC).take 3) (pad Tryz.f7.ntmps (lwArgs w)) st0 with
  | some (t1, s1) => (match newR E0n 120 lwNew t1 s1 with
    | some t2 => gwStart hl s1.next (s1.next + 1) 22 lwOps tLaw (lwU w) ⟨[], 0, 0, []⟩ t2 (newS hl { s1 with heap := [] })
    | none => false)
  | none => false
theorem lwMFT : lwM false true = true := by kernel_rfl
theorem lwMFF : lwM false false = true := by kernel_rfl
theorem lwMTT : lwM true true = true := by kernel_rfl
theorem lwMTF : lwM true false = true := by kernel_rfl
noncomputable def r0 : St := ⟨[], 0, 0, []⟩
/-- No translator: from where the gateways are drawn to the end. -/
noncomputable def zOK (w : Bool) (n : Nat) : Bool := endTrue (eNf true n) Tryz.f7.results.toList (restA (eNf true n) lwOps lwRest (lset (lwU w) 22 (bif w then gwV2 (n / 4) r0 else gwV (n / 4) r0)) (gwSt (n / 4) r0))
/-- A translator: up to where it is set. -/
noncomputable def preA (w : Bool) (n : Nat) : Option (Sl × St) :=
  match opsA (eNf false n) (fnA (eNf false n) 30) lwOps (lwOps.toList.drop 2) (lset (lwU w) 22 (gwV (n / 4) r0)) (gwSt (n / 4) r0) with
  | some (t, s) => codeAL (eNf false n) lwL1 t s
  | none => none
noncomputable def midS (n : Nat) : St := match preA false n with | some (_, s) => s | none => r0
noncomputable def midU (n : Nat) : Sl := match preA false n with
  | some (t, _) => lset (lset (lset (lset (anyS Tryz.f7.ntmps ⟨Tryz.f7.ntmps, .leaf⟩) 6 (lget t 6)) 10 (lget t 10)) 11 (lget t 11)) 12 (lget t 12)
  | none => ⟨0, .leaf⟩
noncomputable def midT (n : Nat) : Tell := { f := (midS n).heap.map (fun x => (x.1, x.1)), fc := (List.range (midS n).ncap).map (fun i => (i, CS.old i)), src := id, p := fun _ => true, lit := fun _ => none }
noncomputable def pOK (w : Bool) (n : Nat) : Bool :=
  match preA w n with
  | some (t, s) => retOK (midT n) t s (midU n) (midS n)
  | none => false
noncomputable def bOK (n : Nat) : Bool := endTrue (eNf false n) Tryz.f7.results.toList (codeAE (eNf false n) lwL2 (midU n) (midS n))
end Ab
end Go.Proofs.YtbfppnppijcnlaaGreat
