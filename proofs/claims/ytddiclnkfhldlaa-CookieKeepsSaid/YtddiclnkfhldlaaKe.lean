/-
  The law CookieKeeps: its states, its tables, its pieces.
  Conditions: none (definitions).
-/
import Derived.Test.YtddiclnkfhldlaaRet
namespace Go.Proofs.Ytddiclnkfhldlaa
namespace Ab
open Go.RowKit
set_option linter.unusedVariables false
set_option linter.unusedSimpArgs false
--DEFS
/-- The place among the symbols of entry e. -/
def inE (n i : Nat) : Bool := Nat.ble 100 i && (Nat.blt i 300 && (Nat.blt ((i - 100) / 20) n || Nat.beq ((i - 100) / 20) 9))
/-- The symbols that are numbers. -/
def isI (n i : Nat) : Bool := Nat.beq i 1 || (Nat.beq i 2 || (Nat.beq i 20 || (Nat.beq i 21 || (Nat.beq i 60 || (inE n i && (Nat.blt ((i - 100) % 20) 3 || Nat.beq ((i - 100) % 20) 9))))))
/-- The symbols where terms begin. -/
def isTm (n i : Nat) : Bool := inE n i && (Nat.beq ((i - 100) % 20) 3 || Nat.beq ((i - 100) % 20) 6)
/-- How the numbers lie to one another. -/
structure Cl where
  n : Nat
  pq : List (Nat × Nat × Bool)
  lt : List (Nat × Int × Bool)
  tq : List (Nat × Nat × Bool)
def findP : List (Nat × Nat × Bool) → Nat → Nat → Option Bool
  | [], _, _ => none
  | x :: r, i, j => bif Nat.beq x.1 i && Nat.beq x.2.1 j then some x.2.2 else findP r i j
def findL : List (Nat × Int × Bool) → Nat → Int → Option Bool
  | [], _, _ => none
  | x :: r, i, j => bif Nat.beq x.1 i && decide (x.2.1 = j) then some x.2.2 else findL r i j
def eqK (op : BinOp) (e : Bool) : Option AC := match op with | .eql => some (.bool e) | .neq => some (.bool !e) | _ => none
def tabK (c : Cl) (op : BinOp) (a b : AC) : Option AC :=
  match a, b with
  | .sym i, .sym j => bif Nat.beq i j then (bif isI c.n i then eqK op true else none) else
    (match op with
    | .sub => bif Nat.beq i 21 && (isI c.n j && Nat.beq ((j - 100) % 20) 9) then some (.sym (j + 1)) else none
    | .eql => (match findP c.pq i j with | some e => some (.bool e) | none => none)
    | .neq => (match findP c.pq i j with | some e => some (.bool !e) | none => none)
    | _ => none)
  | .sym i, .int .i64 n => (match op with
    | .add => bif Nat.beq i 20 && decide (n = 3) then some (.sym 21) else bif Nat.beq i 60 && decide (n = 1) then some (.sym 61) else none
    | .lss => (match findL c.lt i n with | some e => some (.bool e) | none => none)
    | .geq => (match findL c.lt i n with | some e => some (.bool !e) | none => none)
    | _ => none)
  | _, _ => none
def zK : List AC := [.int .i64 0, .int .i64 0, .slice none 0 (.lit 0)]
def isZ : List AC → Bool
  | [.int .i64 0, .int .i64 0, .slice none 0 (.lit 0)] => true
  | _ => false
def bothTm (c : Cl) : List AC → List AC → Option Bool
  | [.sym i, .sym i1, .sym i2], [.sym j, .sym j1, .sym j2] =>
    bif Nat.beq i1 (i + 1) && (Nat.beq i2 (i + 2) && (Nat.beq j1 (j + 1) && (Nat.beq j2 (j + 2) && (isTm c.n i && isTm c.n j)))) then (bif Nat.beq i j then some true else findP c.tq i j) else none
  | x, y => bif isZ x && isZ y then some true else none
def kE (c : Cl) (f : Nat) (args : List AV) (s : St) : Option (AV × St) :=
  match args with
  | [.one (.c (.sym i)), .one (.c (.sym j))] => bif (Nat.beq f 62 && (Nat.beq i 30 && Nat.beq j 30)) || (Nat.beq f 63 && (Nat.beq i 31 && Nat.beq j 31)) then some (.one (.c (.bool true)), s) else none
  | [.one (.agg x), .one (.agg y)] => bif Nat.beq f 14 || Nat.beq f 67 then (match bothTm c x y with | some e => some (.one (.c (.bool e)), s) | none => none) else none
  | _ => none
/-! States -/
structure Hd where
  n : Nat
  vg : Bool
  vh : Bool
def anyK : Nat → Sl → Sl
  | 0, t => t
  | d + 1, t => anyK d (lset t d .any)
def ptK (i : Nat) : AV := .one (.c (.ptr (some (i, 0))))
def syK (i : Nat) : AV := .one (.c (.sym i))
def entK (e : Nat) : List AC :=
  [.sym (100 + 20 * e), .sym (101 + 20 * e), .sym (102 + 20 * e), .sym (103 + 20 * e), .sym (104 + 20 * e), .sym (105 + 20 * e), .sym (106 + 20 * e), .sym (107 + 20 * e), .sym (108 + 20 * e)] ++ (zK ++ (zK ++ (zK ++ (zK ++ (zK ++ [.sym (109 + 20 * e), .bool false])))))
def rowK : Nat → Nat → List AC
  | _, 0 => []
  | e, n + 1 => entK e ++ rowK (e + 1) n
def halfK (v : Bool) (n id c : Nat) : AC := bif v then .slice (some (id, 0)) n (.sym c) else .slice none 0 (.lit 0)
def gwK (h : AC) : List AC := [.int .i64 0, .int .i64 1, .int .i64 1, .int .i64 2, .sym 30, .sym 31, .sym 20, .int .i64 2, .int .i64 2, .int .i64 1, .slice none 0 (.lit 0), .int .i64 2, .int .i64 2, .slice none 0 (.lit 0), .int .i64 0, h, .slice none 0 (.lit 0), .slice none 0 (.lit 0), .slice none 0 (.lit 0)]
def iC : Nat := 0
def iR : Nat := 1
def heapK (hl : Bool) (h : Hd) (more : List (Nat × Blk)) : List (Nat × Blk) :=
  (2, ⟨36, gwK (halfK h.vg h.n 4 0), none⟩) :: (3, ⟨36, gwK (halfK h.vh h.n 5 2), none⟩) ::
  ((bif h.vg then [(4, ⟨46, rowK 0 h.n, some (1, 26)⟩)] else []) ++ ((bif h.vh then [(5, ⟨46, rowK 0 h.n, some (3, 26)⟩)] else []) ++
  (more ++ ((0, ⟨84, [], some (900, 0)⟩) :: (bif hl then [(1, ⟨5, [], some (901, 0)⟩)] else [])))))
def tK0 : Sl := lset (lset (lset (lset (lset (lset (anyK 159 ⟨159, .leaf⟩) 1 (syK 1)) 2 (syK 2)) 7 (ptK 0)) 8 (ptK 2)) 10 (ptK 3)) 11 (syK 60)
def sK0 (hl : Bool) (h : Hd) : St := ⟨heapK hl h [], 10, 4, []⟩
def tK1 : Sl := lset tK0 12 (ptK 6)
def xBlk : Nat × Blk := (6, ⟨46, entK 9, none⟩)
def sK1 (hl : Bool) (h : Hd) : St := ⟨heapK hl h [xBlk], 10, 4, []⟩
def tK4 (i : Nat) : Sl := lset (lset (lset tK1 127 (.one (.c (.slice (some (7, 0)) 2 (.lit 2))))) 128 (.one (.c (.int .i64 2)))) 129 (.one (.c (.int .i64 i)))
def sK4 (hl : Bool) (h : Hd) : St := ⟨heapK hl h [xBlk, (7, ⟨3, [.sym 2, .sym 282], none⟩)], 10, 4, []⟩
/-! Telling anew -/
def pK (j : Nat) : Bool := !(Nat.beq j 21) && (!(Nat.beq j 61) && !(Nat.ble 100 j && (Nat.blt j 300 && Nat.beq ((j - 100) % 20) 10)))
/-- Where the symbols come from: the entries kept, Now, the counter. -/
def srcK (kept : List Nat) (nw k : Nat) (j : Nat) : Nat :=
  bif Nat.beq j 20 then nw else bif Nat.beq j 60 then k else
  bif Nat.ble 100 j && Nat.blt j 260 then 100 + 20 * (kept.getD ((j - 100) / 20) ((j - 100) / 20)) + (j - 100) % 20 else j
def idAt (t : Sl) (d : Nat) : Nat := match lget t d with | .one (.c (.ptr (some (i, _)))) => i | .one (.c (.slice (some (i, _)) _ _)) => i | _ => 1000000
def halfAt (s : St) (i : Nat) : Option (Nat × Cap) := match look s.heap i with
  | some B => (match (B.cells[15]? : Option AC) with | some (.slice (some (j, _)) _ c) => some (j, c) | _ => none)
  | none => none
def csOf : Cap → CS
  | .lit a => .lit a
  | .sym i => .old i
def moreAt (s : St) (i : Nat) : CS := match look s.heap i with
  | some B => (match B.more with | some (c, _) => .old c | none => .lit (B.cells.length / 26))
  | none => .lit 0
def mkTell (t : Sl) (s : St) (x : Bool) (more : List (Nat × Nat)) (src : Nat → Nat) : Tell :=
  let g := halfAt s (idAt t 8)
  let h := halfAt s (idAt t 10)
  { f := (0, idAt t 7) :: (1, 1) :: (2, idAt t 8) :: (3, idAt t 10) :: ((match g with | some y => [(4, y.1)] | none => []) ++ ((match h with | some y => [(5, y.1)] | none => []) ++ ((bif x then [(6, idAt t 12)] else []) ++ more)))
    fc := (match g with | some y => [(0, csOf y.2), (1, moreAt s y.1)] | none => []) ++ (match h with | some y => [(2, csOf y.2), (3, moreAt s y.1)] | none => [])
    src := src
    p := pK
    lit := fun _ => none }
/-! Classes -/
def cutB : List Bool → List Bool
  | [] => []
  | true :: _ => [true]
  | false :: r => false :: cutB r
def allCut : Nat → List (List Bool)
  | 0 => [[]]
  | n + 1 => [true] :: (allCut n).map (false :: ·)
def allB : Nat → List (List Bool)
  | 0 => [[]]
  | n + 1 => (allB n).map (true :: ·) ++ (allB n).map (false :: ·)
def cutP : List (Bool × Bool) → List (Bool × Bool)
  | [] => []
  | (true, true) :: _ => [(true, true)]
  | (true, false) :: r => (true, false) :: cutP r
  | (false, _) :: r => (false, false) :: cutP r
def allP : Nat → List (List (Bool × Bool))
  | 0 => [[]]
  | n + 1 => [(true, true)] :: ((allP n).map ((true, false) :: ·) ++ (allP n).map ((false, false) :: ·))
/-- Symbol off of entry e on, against symbol z. -/
def zipP (off z : Nat) : Nat → List Bool → List (Nat × Nat × Bool)
  | _, [] => []
  | e, b :: r => (off + 20 * e, z, b) :: zipP off z (e + 1) r
def zipL (off : Nat) (z : Int) : Nat → List Bool → List (Nat × Int × Bool)
  | _, [] => []
  | e, b :: r => (off + 20 * e, z, b) :: zipL off z (e + 1) r
def clRm (n : Nat) (l : List Bool) : Cl := ⟨n, zipP 100 280 0 l, [], []⟩
def clOld (n : Nat) (l : List Bool) : Cl := ⟨n, [], zipL 110 10 0 l, []⟩
def clNo (n : Nat) : Cl := ⟨n, [], [], []⟩
def clK (n : Nat) (b : Bool) : Cl := ⟨n, [], [(60, 12, b)], []⟩
def clAt (n : Nat) (l m : List Bool) : Cl := ⟨n, zipP 100 1 0 l ++ zipP 100 280 0 m, [], []⟩
/-- The terms of those entries that come from there. -/
def zipT : Nat → List (Bool × Bool) → List (Nat × Nat × Bool)
  | _, [] => []
  | e, (true, b) :: r => (103 + 20 * e, 283, b) :: zipT (e + 1) r
  | e, (false, _) :: r => zipT (e + 1) r
def clKn (n z : Nat) (l : List (Bool × Bool)) : Cl := ⟨n, zipP 102 z 0 (l.map (·.1)), [], zipT 0 l⟩
/-- The entries that stay. -/
def keptRm : Nat → Nat → List Bool → List Nat
  | e, n, [] => []
  | e, n, true :: _ => (List.range n).drop (e + 1)
  | e, n, false :: r => e :: keptRm (e + 1) n r
def keptOld : Nat → List Bool → List Nat
  | _, [] => []
  | e, true :: r => e :: keptOld (e + 1) r
  | e, false :: r => keptOld (e + 1) r
def hdRm (h : Hd) (l : List Bool) : Hd := ⟨(keptRm 0 h.n l).length, h.vg, h.vh⟩
def hdOld (h : Hd) (l : List Bool) : Hd := ⟨(keptOld 0 l).length, h.vg, Nat.blt 0 (keptOld 0 l).length⟩
def hdAdd (h : Hd) : Hd := bif Nat.blt h.n 4 then ⟨h.n + 1, true, true⟩ else h
def keptAdd (n : Nat) : List Nat := bif Nat.blt n 4 then List.range n ++ [9] else List.range n
def allHd : List Hd := [⟨0, false, false⟩, ⟨0, true, false⟩, ⟨0, true, true⟩, ⟨1, true, true⟩, ⟨2, true, true⟩, ⟨3, true, true⟩, ⟨4, true, true⟩]
/-! Pieces of the code -/
def loopOf : Code → Code
  | .block _ (.loop b) => b
  | _ => .skip
def blockOf : Code → Code
  | .block _ b => b
  | _ => .skip
def nthC (l : List Code) (i : Nat) : Code := l.getD i .skip
structure Parts where
  head : List Code
  r9 : Code
  a : List Code
  b : List Code
  at_ : List Code
  r30 : List Code
  turn : List Code
  tst : List Code
  inc : List Code
  fin : List Code
def partsOf (c : Code) : Parts :=
  let L := lin c
  let B := lin (loopOf (nthC L 7))
  let BB := lin (blockOf (nthC B 2))
  let T := lin (loopOf (nthC BB 11))
  ⟨B.take 2, nthC BB 0, (BB.drop 1).take 3, (BB.drop 4).take 4, (BB.drop 8).take 2, (BB.drop 10).take 1, T, T.take 2, B.drop 3, L.drop 8⟩
/-! Runs -/
def okNorm (T : Sl → St → Tell) (u : Sl) (r : St) : Option (Sl × St) → Bool
  | some (t, s) => retOK (T t s) t s u r
  | none => false
def runHd (E : Cl → Env) (P : Parts) (hl : Bool) (h : Hd) : Bool := okNorm (fun t s => mkTell t s false [] (srcK [] 20 60)) tK0 (sK0 hl h) (codeAL (E (clK h.n true)) P.head tK0 (sK0 hl h))
def runFin (E : Cl → Env) (P : Parts) (rs : List ResultVar) (hl : Bool) (h : Hd) : Bool :=
  match P.head with
  | [x, y] => (match codeAL (E (clK h.n false)) [x] tK0 (sK0 hl h) with
    | some (t, s) => (match codeA (E (clK h.n false)) (fnA (E (clK h.n false)) 30) (drawA (E (clK h.n false)) (fnA (E (clK h.n false)) 30)) 1000 y t s with
      | some (.exit i, t, s) => Nat.beq i 0 && (match P.fin with
        | [f, .ret] => (match codeAL (E (clK h.n false)) [f] t s with
          | some (t, s) => (match resultsA (E (clK h.n false)) t s rs with | some [.c (.bool true)] => true | _ => false)
          | none => false)
        | _ => false)
      | _ => false)
    | none => false)
  | _ => false
def tKa : Sl := lset (lset (lset (lset (lset tK1 13 (.one (.c (.int .i64 0)))) 14 (.one (.c (.int .i64 0)))) 15 (ptK 8)) 16 (ptK 9)) 46 (.one (.c (.rng 6)))
def sKa (hl : Bool) (h : Hd) : St := ⟨heapK hl h [xBlk, (8, ⟨36, gwK (halfK h.vg h.n 4 0), none⟩), (9, ⟨36, gwK (halfK h.vh h.n 5 2), none⟩)], 10, 4, []⟩
def runA (EN : Bool → Env) (P : Parts) (hl : Bool) (h : Hd) : Bool :=
  okNorm (fun t s => mkTell t s true [(8, idAt t 15), (9, idAt t 16)] (srcK [] 20 60)) tKa (sKa hl h) (codeAL (EN hl) P.a tK1 (sK1 hl h))
def runB (E : Cl → Env) (P : Parts) (hl : Bool) (h h' : Hd) (r : Nat) (c : Cl) (kept : List Nat) (nw : Nat) : Bool :=
  okNorm (fun t s => mkTell t s true [] (srcK kept nw 60)) tK1 (sK1 hl h') (codeAL (E c) P.b (lset tKa 46 (.one (.c (.int .i64 r)))) (sKa hl h))
def runRm (E : Cl → Env) (P : Parts) (hl : Bool) (h : Hd) : Bool := (allCut h.n).all fun l => runB E P hl h (hdRm h l) 0 (clRm h.n l) (keptRm 0 h.n l) 20
def runOld (E : Cl → Env) (P : Parts) (hl : Bool) (h : Hd) : Bool := (allB h.n).all fun l => runB E P hl h (hdOld h l) 1 (clOld h.n l) (keptOld 0 l) 21
def runAdd (E : Cl → Env) (P : Parts) (hl : Bool) (h : Hd) (r : Nat) : Bool := runB E P hl h (hdAdd h) r (clNo h.n) (keptAdd h.n) 20
def runAt (E : Cl → Env) (P : Parts) (hl : Bool) (h : Hd) : Bool := (allCut h.n).all fun l => (allCut h.n).all fun m =>
  okNorm (fun t s => mkTell t s true [] (srcK [] 20 60)) tK1 (sK1 hl h) (codeAL (E (clAt h.n l m)) P.at_ tK1 (sK1 hl h))
def tell4 (t : Sl) (s : St) : Tell := mkTell t s true [(7, idAt t 127)] (srcK [] 20 60)
def runR30 (E : Cl → Env) (P : Parts) (hl : Bool) (h : Hd) : Bool := okNorm tell4 (tK4 0) (sK4 hl h) (codeAL (E (clNo h.n)) P.r30 tK1 (sK1 hl h))
def runTurn (E : Cl → Env) (P : Parts) (hl : Bool) (h : Hd) (i : Nat) : Bool := (allP h.n).all fun l =>
  okNorm tell4 (tK4 (i + 1)) (sK4 hl h) (codeAL (E (clKn h.n (bif Nat.beq i 0 then 2 else 282) l)) P.turn (tK4 i) (sK4 hl h))
def runEnd (E : Cl → Env) (P : Parts) (hl : Bool) (h : Hd) : Bool :=
  match P.tst with
  | [x, y] => (match codeAL (E (clNo h.n)) [x] (tK4 2) (sK4 hl h) with
    | some (t, s) => (match codeA (E (clNo h.n)) (fnA (E (clNo h.n)) 30) (drawA (E (clNo h.n)) (fnA (E (clNo h.n)) 30)) 1000 y t s with
      | some (.exit i, t, s) => Nat.beq i 5 && retOK (mkTell t s false [] (srcK [] 20 60)) t s tK0 (sK0 hl h)
      | _ => false)
    | none => false)
  | _ => false
def runInc (E : Cl → Env) (P : Parts) (hl : Bool) (h : Hd) : Bool := okNorm (fun t s => mkTell t s false [] (srcK [] 20 61)) tK0 (sK0 hl h) (codeAL (E (clNo h.n)) P.inc tK0 (sK0 hl h))
--END
end Ab
end Go.Proofs.Ytddiclnkfhldlaa
namespace Go.Proofs.Ytddiclnkfhldlaa
namespace Ab
open Go.RowKit
set_option linter.unusedVariables false
set_option maxRecDepth 100000
noncomputable def ckC : Code := Try.f6.body.getD .skip
theorem ckC_is : Try.f6.body = some ckC := by kernel_rfl
noncomputable def eK (c : Cl) : Env := env (tabK c) noCvt (onlyE envZ (kE c))
noncomputable def eN (hl : Bool) : Env := env noTab noCvt (onlyE envZ (nextW hl 0 1))
noncomputable def ckP : Parts := partsOf ckC
noncomputable def ckRs : List ResultVar := Try.f6.results.toList
end Ab
end Go.Proofs.Ytddiclnkfhldlaa
