/-
  The policies in their 28 forms: the first rule to protect, and what Narrow finds (runs).
  Conditions: none.
-/
import Derived.Test.YtbfppnppijcnlaaGreatGwN
import Derived.Test.YtbfppnppijcnlaaGreatMeetL
namespace Go.Proofs.YtbfppnppijcnlaaGreat
namespace Ab
open Go.RowKit
set_option linter.unusedVariables false
set_option linter.unusedSimpArgs false
set_option maxRecDepth 100000
/-- The first rule to protect. -/
noncomputable def fstP : List Nat → Nat
  | 0 :: r => fstP r + 1
  | _ => 0
noncomputable def gwAny (x : AC) : List AC := [.any, .any, .any, .any, x, .any, .any, .any, .any, .any, .any, .any, .any, .any, .any, .any, .any, .any, .any]
noncomputable def protR (l : List Nat) : Bool := match fnA E0n 60 147 [.one (.agg (gwAny (shV l)))] (shS l) with
  | some (.tup [.c (.int .i64 i), .agg m, .c (.bool true)], s) => decide (i = ((fstP l : Nat) : Int)) && (eqCL m (boxC (200 + 40 * fstP l)) && s.dirty.isEmpty)
  | _ => false
theorem protR_all : all28.all protR = true := by kernel_rfl
/-- The boxes that Narrow looks at. -/
noncomputable def candOf (t : Nat) : Nat → List Nat → List (Nat × Nat)
  | _, [] => []
  | i, k :: r => (bif Nat.beq k 0 then [] else bif Nat.beq (bif Nat.beq k 1 then 1 else 2) t then (List.range (nbK k)).map (fun n => (i, n)) else []) ++ candOf t (i + 1) r
noncomputable def swapL (n : Nat) : List AC := (List.range 18).map fun i => .sym (n + sw i)
/-- Meet; the boxes ahead of place j have nothing in common, that one has. -/
noncomputable def extN (c : List (Nat × Nat)) (j : Nat) (f : Nat) (args : List AV) (s : St) : Option (AV × St) :=
  match args with
  | [.one (.agg x), .one (.agg y)] => bif Nat.beq f 240 && eqCL x (swapL 400) then
      (match (List.range c.length).find? (fun p => match c[p]? with | some (i, n) => eqCL y (boxC (200 + 40 * i + 20 * n)) | none => false) with
      | some p => (match c[p]? with
        | some (i, n) => bif Nat.ble p j then (bif Nat.beq p j then some (.tup [.agg (boxC (600 + 40 * i + 20 * n)), .c (.bool true)], s) else some (.tup [.agg zL, .c (.bool false)], s)) else none
        | none => none)
      | none => none) else none
  | _ => none
noncomputable def envNar (c : List (Nat × Nat)) (j : Nat) : Env := env noTab noCvt (onlyE (env noTab noCvt noExt) (extN c j))
noncomputable def narR (l : List Nat) (t j : Nat) : Bool := match fnA (envNar (candOf t 0 l) j) 60 218 [.one (.c (shV l)), .one (.agg (boxC 400)), .one (.c (.str (strK t)))] (shS l) with
  | some (.tup [.c (.int .i64 i), .agg m, .c (.bool b)], s) => s.dirty.isEmpty && (match (candOf t 0 l)[j]? with
    | some (i', n) => b && (decide (i = (i' : Int)) && eqCL m (boxC (600 + 40 * i' + 20 * n)))
    | none => !b && (decide (i = 0) && eqCL m zL))
  | _ => false
theorem narR_1 : (all28.all fun l => (List.range ((candOf 1 0 l).length + 1)).all fun j => narR l 1 j) = true := by kernel_rfl
theorem narR_2 : (all28.all fun l => (List.range ((candOf 2 0 l).length + 1)).all fun j => narR l 2 j) = true := by kernel_rfl
end Ab
end Go.Proofs.YtbfppnppijcnlaaGreat
