/-
  New on each outcome of Rules.
  Conditions: none.
-/
import Derived.Test.YtbfppnppijcnlaaGreatGwB
import Derived.Test.YtbfppnppijcnlaaGreatTmS
namespace Go.Proofs.YtbfppnppijcnlaaGreat
namespace Ab
open Go.RowKit
set_option linter.unusedVariables false
set_option maxRecDepth 100000
noncomputable def sGold : ByteArray := ⟨#[103, 111, 108, 100]⟩
noncomputable def sSilver : ByteArray := ⟨#[115, 105, 108, 118, 101, 114]⟩
noncomputable def mName (s : ByteArray) : MM := ⟨120, [.one (.c (.str s))], .one (.c (.bool true)), noSp⟩
theorem rNameG : mmOK envZ (mName sGold) = true := by kernel_rfl
theorem rNameS : mmOK envZ (mName sSilver) = true := by kernel_rfl
noncomputable def extNw : Nat → List AV → St → Option (AV × St) := orE checkE (mmE [mName sGold, mName sSilver])
noncomputable def envNw : Env := env noTab noCvt (onlyE envZ extNw)
/-- The cells of a gateway that is new. -/
noncomputable def gwI (id : Int) : List AC := [.int .i64 id, .int .i64 (1 - id), .int .i64 (1 + id), .int .i64 (2 - id), .any, .any, .int .i64 0, .int .i64 2, .int .i64 2, .int .i64 (id * 1048576 + 1), .slice none 0 (.lit 0), .int .i64 2, .int .i64 (id * 1048576 + 2), .slice none 0 (.lit 0), .int .i64 0, .slice none 0 (.lit 0), .slice none 0 (.lit 0), .slice none 0 (.lit 0), .slice none 0 (.lit 0)]
noncomputable def gwR (id : Int) : AV := .tup [.agg (gwI id), .c (.int .i64 0)]
noncomputable def nums : Nat → List AC
  | 0 => []
  | 1 => [.sym 40]
  | _ + 2 => [.sym 40, .sym 41]
noncomputable def stN (n : Nat) (s : St) : St := { heap := (s.next, ⟨3, nums n, none⟩) :: s.heap, next := s.next + 1, ncap := s.ncap, dirty := [] }
noncomputable def argN (id l r : Int) (n : Nat) (x : AV × St) : List AV := [litI id, litI l, litI r, x.1, .one (.c (.slice (some (x.2.next, 0)) n (.lit n)))]
/-- A number behind a symbol against itself. -/
noncomputable def tabS (op : BinOp) (a b : AC) : Option AC :=
  match a, b with
  | .sym i, .sym j => bif Nat.beq i j && (Nat.beq i 40 || Nat.beq i 41) then (match op with | .neq => some (.bool false) | .eql => some (.bool true) | _ => none) else none
  | _, _ => none
noncomputable def envS : Env := env tabS noCvt noExt
noncomputable def isT : Option (AV × St) → Bool
  | some (.one (.c (.bool true)), s) => s.dirty.isEmpty
  | _ => false
/-- What can be reached from a row. -/
noncomputable def restr (l : List AC) (s : St) : St := { s with heap := keepH (reach 0 s.heap 100000 (idsOf 0 l []) 0) s.heap, dirty := [] }
where
  keepH (seen : Nat) : List (Nat × Blk) → List (Nat × Blk)
    | [] => []
    | x :: r => bif tb seen x.1 then x :: keepH seen r else keepH seen r
/-- Only memory of these kinds. -/
noncomputable def onlyTy (l : List Nat) (H : List (Nat × Blk)) : Bool := H.all fun x => hasN l x.2.ty
/-- What is asked of the rules and groups that a gateway keeps. -/
noncomputable def isSl : AC → Bool
  | .slice (some (_, 0)) _ _ => true
  | _ => false
/-! The policies, as they are told: 0 a rule that is none to protect, 1 one for silver, 2 one for gold with one box, 3 one for gold with two. -/
noncomputable def boxC (n : Nat) : List AC := [.sym n, .sym (n + 1), .sym (n + 2), .sym (n + 3), .sym (n + 4), .sym (n + 5), .sym (n + 6), .sym (n + 7), .sym (n + 8), .sym (n + 9), .sym (n + 10), .sym (n + 11), .sym (n + 12), .sym (n + 13), .sym (n + 14), .sym (n + 15), .sym (n + 16), .sym (n + 17)]
noncomputable def nbK (k : Nat) : Nat := match k with | 0 => 0 | 3 => 2 | _ => 1
noncomputable def strK (k : Nat) : ByteArray := match k with | 0 => ⟨#[]⟩ | 1 => sSilver | _ => sGold
noncomputable def ruleC (i k : Nat) : List AC := match k with
  | 0 => [.rng 2, .str (strK 0), .any]
  | k => [.int .i64 2, .str (strK k), .slice (some (2 + i, 0)) (nbK k) (.sym (2 + 2 * i))]
noncomputable def rowRu : Nat → List Nat → List AC
  | _, [] => []
  | i, k :: r => ruleC i k ++ rowRu (i + 1) r
noncomputable def boxesC (i : Nat) : Nat → List AC
  | 0 => []
  | n + 1 => boxesC i n ++ boxC (200 + 40 * i + 20 * n)
noncomputable def boxBlks : Nat → List Nat → List (Nat × Blk)
  | _, [] => []
  | i, 0 :: r => boxBlks (i + 1) r
  | i, k :: r => (2 + i, ⟨65, boxesC i (nbK k), some (3 + 2 * i, 18)⟩) :: boxBlks (i + 1) r
noncomputable def shS (l : List Nat) : St := ⟨(1, ⟨170, rowRu 0 l, some (1, 3)⟩) :: boxBlks 0 l, 10, 12, []⟩
noncomputable def shV (l : List Nat) : AC := .slice (some (1, 0)) l.length (.sym 0)
noncomputable def shT (l : List Nat) : Sl := pad 1 [.one (.c (shV l))]
noncomputable def kindOf (a t b : AC) : Nat := match a with
  | .int .i64 2 => (match t with | .str s => bif Nat.beq s.size 6 then 1 else (match b with | .slice _ 2 _ => 3 | _ => 2) | _ => 0)
  | _ => 0
noncomputable def kindsOf : List AC → List Nat
  | a :: t :: b :: r => kindOf a t b :: kindsOf r
  | _ => []
noncomputable def csOf' : Cap → CS
  | .lit a => .lit a
  | .sym i => .old i
noncomputable def moreOf (s : St) (i z : Nat) : CS := match look s.heap i with
  | some B => (match B.more with | some (c, _) => .old c | none => .lit (B.cells.length / z))
  | none => .lit 0
noncomputable def slId : AC → Nat
  | .slice (some (i, _)) _ _ => i
  | _ => 1000000
noncomputable def slCap : AC → CS
  | .slice _ _ c => csOf' c
  | _ => .lit 0
noncomputable def ruF : Nat → List AC → List (Nat × Nat)
  | i, a :: t :: b :: r => bif Nat.beq (kindOf a t b) 0 then ruF (i + 1) r else (2 + i, slId b) :: ruF (i + 1) r
  | _, _ => []
noncomputable def ruFc (s : St) : Nat → List AC → List (Nat × CS)
  | i, a :: t :: b :: r => bif Nat.beq (kindOf a t b) 0 then ruFc s (i + 1) r else (2 + 2 * i, slCap b) :: (3 + 2 * i, moreOf s (slId b) 18) :: ruFc s (i + 1) r
  | _, _ => []
noncomputable def numb (j : Nat) : Nat → List AC → List (Nat × AC)
  | _, [] => []
  | n, x :: r => (bif Nat.blt n 18 then j + n else j + 2 + n, x) :: numb j (n + 1) r
noncomputable def ruSy (s : St) : Nat → List AC → List (Nat × AC)
  | i, a :: t :: b :: r => bif Nat.beq (kindOf a t b) 0 then ruSy s (i + 1) r else numb (200 + 40 * i) 0 (match look s.heap (slId b) with | some B => B.cells | none => []) ++ ruSy s (i + 1) r
  | _, _ => []
noncomputable def rowOf (x : AC) (s : St) : List AC := match look s.heap (slId x) with | some B => B.cells | none => []
/-- The policy, told anew. -/
noncomputable def mkRu (x : AC) (s : St) : Tell :=
  { f := (1, slId x) :: ruF 0 (rowOf x s), fc := (0, slCap x) :: (1, moreOf s (slId x) 3) :: ruFc s 0 (rowOf x s), src := id, p := fun _ => false, lit := fun _ => none, sy := ruSy s 0 (rowOf x s) }
noncomputable def heads : List (List Nat) := [[], [0], [1], [0, 0], [0, 1], [1, 0], [1, 1]]
noncomputable def all28 : List (List Nat) := heads.flatMap fun h => [h ++ [2], h ++ [3], h ++ [2, 0], h ++ [3, 0]]
noncomputable def eqNs : List Nat → List Nat → Bool
  | [], [] => true
  | x :: r, y :: s => Nat.beq x y && eqNs r s
  | _, _ => false
/-- Boxes are right: tags of one box, or numbers that are. -/
noncomputable def okCells (l : List AC) : Bool := match l with
  | .tag c 0 :: _ => (List.range 18).all fun k => (match l[k]? with | some (.tag d i) => Nat.beq d c && Nat.beq i k | _ => false)
  | _ => Nat.beq l.length 18 && okBox l
noncomputable def okBoxes (s : St) : List AC → Bool
  | a :: t :: b :: r => (bif Nat.beq (kindOf a t b) 0 then true else (match look s.heap (slId b) with
    | some B => (match ltake B.cells 18 with | some l => okCells l | none => false) && (bif Nat.beq (nbK (kindOf a t b)) 2 then okCells (ldrop B.cells 18) else true)
    | none => false)) && okBoxes s r
  | _ => true
noncomputable def isNums (n : Nat) (l : List AC) : Bool := match n, l with
  | 1, [.sym 40] => true
  | 2, [.sym 40, .sym 41] => true
  | _, _ => false
/-- The groups. -/
noncomputable def grpCk (n n0 : Nat) (x : AC) (s : St) : Bool := match x with
  | .slice (some (g, 0)) m (.sym c) => Nat.beq n m && (Nat.ble n0 g && (match look s.heap g with
    | some B => Nat.beq B.ty 3 && (isNums n B.cells && (match B.more with | some (d, 1) => Nat.beq c d | _ => false))
    | none => false))
  | _ => false
/-- What is asked of the policy and the groups that a gateway keeps. -/
noncomputable def deepCk (n n0 : Nat) (y : AV × St) : Bool :=
  match y.1 with
  | .tup [.agg l, _] => (match l[4]?, l[5]? with
    | some x4, some x5 =>
      (all28.any (eqNs (kindsOf (rowOf x4 y.2)))) && (retOK (mkRu x4 y.2) (pad 1 [.one (.c x4)]) y.2 (shT (kindsOf (rowOf x4 y.2))) (shS (kindsOf (rowOf x4 y.2))) &&
      (okBoxes y.2 (rowOf x4 y.2) && (((mkRu x4 y.2).f.all (fun z => (look y.2.heap z.2).isSome && (Nat.ble 2 z.2 && !(Nat.beq z.2 (n0 - 1))))) && (isSl x4 && grpCk n n0 x5 y.2))))
    | _, _ => false)
  | _ => false
noncomputable def newOK (id : Int) (n : Nat) (x : AV × St) : Bool :=
  match runM envNw noSp 1000 64 (argN id (1 + id) (2 - id) n x) (stN n x.2) with
  | some out => out.all (fun y => subX [] [] y.1 (gwR id) && (y.2.dirty.isEmpty && deepCk n (stN n x.2).next y))
  | none => false
noncomputable def newsOK (hl : Bool) (side : Int) (a : Nat) : Bool :=
  match rulesOut hl side with
  | some l => ((l.drop a).take 2).all (fun x => newOK side 1 x && newOK side 2 x)
  | none => false
end Ab
end Go.Proofs.YtbfppnppijcnlaaGreat
