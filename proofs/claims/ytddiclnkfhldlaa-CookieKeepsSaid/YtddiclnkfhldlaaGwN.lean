/-
  New on each outcome of Rules.
  Conditions: none.
-/
import Derived.Test.YtddiclnkfhldlaaGwB
namespace Go.Proofs.Ytddiclnkfhldlaa
namespace Ab
open Go.RowKit
set_option linter.unusedVariables false
set_option maxRecDepth 100000
def sGold : ByteArray := ⟨#[103, 111, 108, 100]⟩
def sSilver : ByteArray := ⟨#[115, 105, 108, 118, 101, 114]⟩
def mName (s : ByteArray) : MM := ⟨91, [.one (.c (.str s))], .one (.c (.bool true)), noSp⟩
theorem rNameG : mmOK envZ (mName sGold) = true := by kernel_rfl
theorem rNameS : mmOK envZ (mName sSilver) = true := by kernel_rfl
def extNw : Nat → List AV → St → Option (AV × St) := orE checkE (mmE [mName sGold, mName sSilver])
noncomputable def envNw : Env := env noTab noCvt (onlyE envZ extNw)
/-- The cells of a gateway that is new. -/
def gwI (id : Int) : List AC := [.int .i64 id, .int .i64 (1 - id), .int .i64 (1 + id), .int .i64 (2 - id), .any, .any, .int .i64 0, .int .i64 2, .int .i64 2, .int .i64 (id * 1048576 + 1), .slice none 0 (.lit 0), .int .i64 2, .int .i64 (id * 1048576 + 2), .slice none 0 (.lit 0), .int .i64 0, .slice none 0 (.lit 0), .slice none 0 (.lit 0), .slice none 0 (.lit 0), .slice none 0 (.lit 0)]
def gwR (id : Int) : AV := .tup [.agg (gwI id), .c (.int .i64 0)]
def nums : Nat → List AC
  | 0 => []
  | 1 => [.sym 40]
  | _ + 2 => [.sym 40, .sym 41]
def stN (n : Nat) (s : St) : St := { heap := (s.next, ⟨3, nums n, none⟩) :: s.heap, next := s.next + 1, ncap := s.ncap, dirty := [] }
def argN (id l r : Int) (n : Nat) (x : AV × St) : List AV := [litI id, litI l, litI r, x.1, .one (.c (.slice (some (x.2.next, 0)) n (.lit n)))]
/-- A number behind a symbol against itself. -/
def tabS (op : BinOp) (a b : AC) : Option AC :=
  match a, b with
  | .sym i, .sym j => bif Nat.beq i j && (Nat.beq i 40 || Nat.beq i 41) then (match op with | .neq => some (.bool false) | .eql => some (.bool true) | _ => none) else none
  | _, _ => none
noncomputable def envS : Env := env tabS noCvt noExt
def isT : Option (AV × St) → Bool
  | some (.one (.c (.bool true)), s) => s.dirty.isEmpty
  | _ => false
/-- What can be reached from a row. -/
def restr (l : List AC) (s : St) : St := { s with heap := keepH (reach 0 s.heap 100000 (idsOf 0 l []) []) s.heap, dirty := [] }
where
  keepH (seen : List Nat) : List (Nat × Blk) → List (Nat × Blk)
    | [] => []
    | x :: r => bif hasN seen x.1 then x :: keepH seen r else keepH seen r
/-- Only memory of these kinds. -/
def onlyTy (l : List Nat) (H : List (Nat × Blk)) : Bool := H.all fun x => hasN l x.2.ty
/-- What is asked of the rules and groups that a gateway keeps. -/
def isSl : AC → Bool
  | .slice (some (_, 0)) _ _ => true
  | _ => false
noncomputable def deepCk (n0 : Nat) (y : AV × St) : Bool :=
  match y.1 with
  | .tup [.agg l, _] => (match l[4]?, l[5]? with
    | some x4, some x5 => isT (fnA envS 60 62 [.one (.c x4), .one (.c x4)] (restr [x4, x5] y.2)) && (isT (fnA envS 60 63 [.one (.c x5), .one (.c x5)] (restr [x4, x5] y.2)) && (isSl x4 && (isSl x5 && (restr [x4, x5] y.2).heap.all (fun z => Nat.ble 2 z.1 && !(Nat.beq z.1 (n0 - 1))))))
    | _, _ => false)
  | _ => false
noncomputable def newOK (id : Int) (n : Nat) (x : AV × St) : Bool :=
  match runM envNw noSp 1000 39 (argN id (1 + id) (2 - id) n x) (stN n x.2) with
  | some out => out.all (fun y => subX [] [] y.1 (gwR id) && (y.2.dirty.isEmpty && deepCk (stN n x.2).next y))
  | none => false
noncomputable def newsOK (hl : Bool) (side : Int) (a : Nat) : Bool :=
  match rulesOut hl side with
  | some l => ((l.drop a).take 2).all (fun x => newOK side 1 x && newOK side 2 x)
  | none => false
end Ab
end Go.Proofs.Ytddiclnkfhldlaa
