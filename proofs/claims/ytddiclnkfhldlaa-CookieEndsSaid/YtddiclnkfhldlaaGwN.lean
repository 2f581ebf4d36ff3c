/-
  New on each outcome of Rules.
  Conditions: none.
-/
import Derived.Test.YtddiclnkfhldlaaGwB
namespace Go.Proofs.Ytddiclnkfhldlaa
namespace Ab
open Go.RowKit
set_option linter.unusedVariables false
set_option maxRecDepth 100000
def sGold : ByteArray := ⟨#[103, 111, 108, 100]⟩
def sSilver : ByteArray := ⟨#[115, 105, 108, 118, 101, 114]⟩
def mName (s : ByteArray) : MM := ⟨91, [.one (.c (.str s))], .one (.c (.bool true)), noSp⟩
theorem rNameG : mmOK envZ (mName sGold) = true := by kernel_rfl
theorem rNameS : mmOK envZ (mName sSilver) = true := by kernel_rfl
def extK : Nat → List AV → St → Option (AV × St) := orE boxE (mmE [mName sGold, mName sSilver])
noncomputable def envK : Env := env noTab noCvt (onlyE envZ extK)
def tbK (f : Nat) : Option ((Nat → Option Nat) × AV) := bif Nat.beq f 72 then some (noSp, num) else none
noncomputable def extNw : Nat → List AV → St → Option (AV × St) := orE (roM tbK envK) extK
noncomputable def envNw : Env := env noTab noCvt (onlyE envZ extNw)
/-- The cells of a gateway without half-open associations, at the time 0. -/
def gwC : List AC := [.any, .any, .any, .any, .any, .any, .int .i64 0, .any, .any, .any, .any, .any, .any, .any, .any, .slice none 0 (.lit 0), .any, .any, .any]
def gwR : AV := .tup [.agg gwC, .c (.num .i64)]
def nums : Nat → List AC
  | 0 => []
  | n + 1 => .num .i64 :: nums n
def stN (n : Nat) (s : St) : St := { heap := (s.next, ⟨3, nums n, none⟩) :: s.heap, next := s.next + 1, ncap := s.ncap, dirty := [] }
def argN (id l r : Int) (n : Nat) (x : AV × St) : List AV := [.one (.c (.int .i64 id)), .one (.c (.int .i64 l)), .one (.c (.int .i64 r)), x.1, .one (.c (.slice (some (x.2.next, 0)) n (.lit n)))]
noncomputable def newOK (id l r : Int) (n : Nat) (x : AV × St) : Bool :=
  match runM envNw noSp 1000 39 (argN id l r n x) (stN n x.2) with
  | some out => out.all (fun y => subX [] [] y.1 gwR && y.2.dirty.isEmpty)
  | none => false
noncomputable def newsOK (hl : Bool) (a b : Nat) : Bool :=
  match rulesOut hl with
  | some l => ((l.drop a).take b).all (fun x => newOK 0 1 2 1 x && newOK 0 1 2 2 x && newOK 1 2 1 1 x && newOK 1 2 1 2 x)
  | none => false
end Ab
end Go.Proofs.Ytddiclnkfhldlaa
