/-
  New on each outcome of Rules.
  Conditions: none.
-/
import Derived.Test.YtddiclnkfhldlaaGwB
namespace Go.Proofs.Ytddiclnkfhldlaa
namespace Ab
open Go.RowKit
set_option linter.unusedVariables false
set_option maxRecDepth 100000
def sGold : ByteArray := ⟨#[103, 111, 108, 100]⟩
def sSilver : ByteArray := ⟨#[115, 105, 108, 118, 101, 114]⟩
def mName (s : ByteArray) : MM := ⟨91, [.one (.c (.str s))], .one (.c (.bool true)), noSp⟩
theorem rNameG : mmOK envZ (mName sGold) = true := by kernel_rfl
theorem rNameS : mmOK envZ (mName sSilver) = true := by kernel_rfl
def extNw : Nat → List AV → St → Option (AV × St) := orE checkE (mmE [mName sGold, mName sSilver])
noncomputable def envNw : Env := env noTab noCvt (onlyE envZ extNw)
/-- The cells of a gateway that is new. -/
def gwI (id : Int) : List AC := [.int .i64 id, .int .i64 (1 - id), .int .i64 (1 + id), .int .i64 (2 - id), .any, .any, .int .i64 0, .int .i64 2, .int .i64 2, .int .i64 (id * 1048576 + 1), .slice none 0 (.lit 0), .int .i64 2, .int .i64 (id * 1048576 + 2), .slice none 0 (.lit 0), .int .i64 0, .slice none 0 (.lit 0), .slice none 0 (.lit 0), .slice none 0 (.lit 0), .slice none 0 (.lit 0)]
def gwR (id : Int) : AV := .tup [.agg (gwI id), .c (.int .i64 0)]
def nums : Nat → List AC
  | 0 => []
  | n + 1 => .num .i64 :: nums n
def stN (n : Nat) (s : St) : St := { heap := (s.next, ⟨3, nums n, none⟩) :: s.heap, next := s.next + 1, ncap := s.ncap, dirty := [] }
def argN (id l r : Int) (n : Nat) (x : AV × St) : List AV := [litI id, litI l, litI r, x.1, .one (.c (.slice (some (x.2.next, 0)) n (.lit n)))]
noncomputable def newOK (id : Int) (n : Nat) (x : AV × St) : Bool :=
  match runM envNw noSp 1000 39 (argN id (1 + id) (2 - id) n x) (stN n x.2) with
  | some out => out.all (fun y => subX [] [] y.1 (gwR id) && y.2.dirty.isEmpty)
  | none => false
noncomputable def newsOK (hl : Bool) (side : Int) (a : Nat) : Bool :=
  match rulesOut hl side with
  | some l => ((l.drop a).take 2).all (fun x => newOK side 1 x && newOK side 2 x)
  | none => false
end Ab
end Go.Proofs.Ytddiclnkfhldlaa
