/-
  An interpreter that runs the program's code on known data, blocks of memory named by numbers of its own.
  Conditions: none (definitions).
-/
import Derived.Orders
import Derived.Laws.AppendOwn
import Derived.Laws.MakeOwn
import Derived.Deep.AppendSrc
import Derived.Laws.IdiomCopy
namespace Go.Proofs.YtbfppnppijcnlaaGreat
namespace Ab
set_option linter.unusedVariables false
/-- A capacity: known, or one that the run of a call chose. -/
inductive Cap | lit (n : Nat) | sym (i : Nat)
/-- A cell. -/
inductive AC
  | int (k : IntKind) (n : Int)
  | bool (b : Bool)
  | sym (i : Nat)
  | ptr (p : Option (Nat × Nat))
  | slice (p : Option (Nat × Nat)) (len : Nat) (cap : Cap)
  | void
  | nilFunc
  | nilIface
  | fn (f : Nat)
  | any
  | num (k : IntKind)
  | bo
  | str (s : ByteArray)
  | rng (m : Nat)
  | ivl (k : IntKind) (lo hi : Int)
  | tag (c i : Nat)
  | nat (c m : Nat)
  | cv (c : Nat)
/-- A value of one variable. -/
inductive A1 | c (x : AC) | agg (l : List AC)
/-- What a slot holds. -/
inductive AV
  | any
  | undef
  | one (x : A1)
  | tup (l : List A1)
  | fn (f : Nat) (cap : List AC)
structure Blk where
  ty : Nat
  cells : List AC
  more : Option (Nat × Nat)
structure St where
  heap : List (Nat × Blk)
  next : Nat
  ncap : Nat
  dirty : List Nat
structure TI where
  size : Nat
  bytes : Nat
  zero : List AC
  desc : TypeDesc
  eqok : Bool
/-- A search tree. -/
inductive Bst (α : Type) | leaf | node (k : Nat) (v : α) (l r : Bst α)
--FAST
noncomputable def bget {α : Type} (b : Bst α) (i : Nat) : Option α :=
  Bst.rec (motive := fun _ => Option α) none (fun k v _ _ l r => Bool.rec (motive := fun _ => Option α) (Bool.rec (motive := fun _ => Option α) r l (Nat.ble (Nat.succ i) k)) (some v) (Nat.beq i k)) b
theorem bget_l {α : Type} (i : Nat) : bget (.leaf : Bst α) i = none := rfl
theorem bget_n {α : Type} (k : Nat) (v : α) (l r : Bst α) (i : Nat) : bget (.node k v l r) i = bif Nat.beq i k then some v else bif Nat.blt i k then bget l i else bget r i := by
  show Bool.rec (motive := fun _ => Option α) (Bool.rec (motive := fun _ => Option α) (bget r i) (bget l i) (Nat.ble (Nat.succ i) k)) (some v) (Nat.beq i k) = _
  unfold Nat.blt
  cases Nat.beq i k
  · cases Nat.ble (Nat.succ i) k <;> rfl
  · rfl
--SLOW
/-
def bget {α : Type} : Bst α → Nat → Option α
  | .leaf, _ => none
  | .node k v l r, i => bif Nat.beq i k then some v else bif Nat.blt i k then bget l i else bget r i
-/
--END
structure Env where
  fn : Nat → Option Func
  ty : Nat → Option TI
  tab : BinOp → AC → AC → Option AC
  cvt : IntKind → AC → Option AC
  ext : Nat → List AV → St → Option (AV × St)
--FAST
noncomputable def look (H : List (Nat × Blk)) (i : Nat) : Option Blk :=
  List.rec (motive := fun _ => Option Blk) none (fun x _ ih => Bool.rec (motive := fun _ => Option Blk) ih (some x.2) (Nat.beq x.1 i)) H
theorem look_n (i : Nat) : look [] i = none := rfl
theorem look_c (x : Nat × Blk) (r : List (Nat × Blk)) (i : Nat) : look (x :: r) i = bif Nat.beq x.1 i then some x.2 else look r i := by
  show Bool.rec (motive := fun _ => Option Blk) (look r i) (some x.2) (Nat.beq x.1 i) = _
  cases Nat.beq x.1 i <;> rfl
--SLOW
/-
def look : List (Nat × Blk) → Nat → Option Blk
  | [], _ => none
  | x :: r, i => bif Nat.beq x.1 i then some x.2 else look r i
-/
--END
--FAST
noncomputable def upd (H : List (Nat × Blk)) (i : Nat) (B : Blk) : List (Nat × Blk) :=
  List.rec (motive := fun _ => List (Nat × Blk)) [] (fun x r ih => Bool.rec (motive := fun _ => List (Nat × Blk)) (x :: ih) ((i, B) :: r) (Nat.beq x.1 i)) H
theorem upd_n (i : Nat) (B : Blk) : upd [] i B = [] := rfl
theorem upd_c (x : Nat × Blk) (r : List (Nat × Blk)) (i : Nat) (B : Blk) : upd (x :: r) i B = bif Nat.beq x.1 i then (i, B) :: r else x :: upd r i B := by
  show Bool.rec (motive := fun _ => List (Nat × Blk)) (x :: upd r i B) ((i, B) :: r) (Nat.beq x.1 i) = _
  cases Nat.beq x.1 i <;> rfl
--SLOW
/-
def upd : List (Nat × Blk) → Nat → Blk → List (Nat × Blk)
  | [], _, _ => []
  | x :: r, i, B => bif Nat.beq x.1 i then (i, B) :: r else x :: upd r i B
-/
--END
--FAST
noncomputable def del (H : List (Nat × Blk)) (i : Nat) : List (Nat × Blk) :=
  List.rec (motive := fun _ => List (Nat × Blk)) [] (fun x _ ih => Bool.rec (motive := fun _ => List (Nat × Blk)) (x :: ih) ih (Nat.beq x.1 i)) H
theorem del_n (i : Nat) : del [] i = [] := rfl
theorem del_c (x : Nat × Blk) (r : List (Nat × Blk)) (i : Nat) : del (x :: r) i = bif Nat.beq x.1 i then del r i else x :: del r i := by
  show Bool.rec (motive := fun _ => List (Nat × Blk)) (x :: del r i) (del r i) (Nat.beq x.1 i) = _
  cases Nat.beq x.1 i <;> rfl
--SLOW
/-
def del : List (Nat × Blk) → Nat → List (Nat × Blk)
  | [], _ => []
  | x :: r, i => bif Nat.beq x.1 i then del r i else x :: del r i
-/
--END
/-- The slots of a call: a tree, a slot's number read bit by bit. -/
inductive Sq | leaf | node (v : AV) (l r : Sq)
structure Sl where
  length : Nat
  t : Sq
--FAST
noncomputable def tget (t : Sq) : Nat → AV :=
  Sq.rec (motive := fun _ => Nat → AV) (fun _ => .undef) (fun v _ _ gl gr n => Bool.rec (motive := fun _ => AV) (Bool.rec (motive := fun _ => AV) (gr (Nat.sub (Nat.div n (nat_lit 2)) (nat_lit 1))) (gl (Nat.div n (nat_lit 2))) (Nat.beq (Nat.mod n (nat_lit 2)) (nat_lit 1))) v (Nat.beq n (nat_lit 0))) t
noncomputable def tset (k : Nat) : Sq → Nat → AV → Sq :=
  Nat.rec (motive := fun _ => Sq → Nat → AV → Sq) (fun t _ _ => t) (fun _ ih t n v => Sq.rec (motive := fun _ => Sq)
    (Bool.rec (motive := fun _ => Sq) (Bool.rec (motive := fun _ => Sq) (.node .undef .leaf (ih .leaf (Nat.sub (Nat.div n (nat_lit 2)) (nat_lit 1)) v)) (.node .undef (ih .leaf (Nat.div n (nat_lit 2)) v) .leaf) (Nat.beq (Nat.mod n (nat_lit 2)) (nat_lit 1))) (.node v .leaf .leaf) (Nat.beq n (nat_lit 0)))
    (fun u l r _ _ => Bool.rec (motive := fun _ => Sq) (Bool.rec (motive := fun _ => Sq) (.node u l (ih r (Nat.sub (Nat.div n (nat_lit 2)) (nat_lit 1)) v)) (.node u (ih l (Nat.div n (nat_lit 2)) v) r) (Nat.beq (Nat.mod n (nat_lit 2)) (nat_lit 1))) (.node v l r) (Nat.beq n (nat_lit 0))) t) k
theorem tget_n (v : AV) (l r : Sq) (n : Nat) : tget (.node v l r) n = bif Nat.beq n 0 then v else bif Nat.beq (n % 2) 1 then tget l (n / 2) else tget r (n / 2 - 1) := by
  show Bool.rec (motive := fun _ => AV) (Bool.rec (motive := fun _ => AV) (tget r (n / 2 - 1)) (tget l (n / 2)) (Nat.beq (n % 2) 1)) v (Nat.beq n 0) = _
  cases Nat.beq n 0
  · cases Nat.beq (n % 2) 1 <;> rfl
  · rfl
theorem tset_l (k : Nat) (n : Nat) (v : AV) : tset (k + 1) .leaf n v = bif Nat.beq n 0 then .node v .leaf .leaf else bif Nat.beq (n % 2) 1 then .node .undef (tset k .leaf (n / 2) v) .leaf else .node .undef .leaf (tset k .leaf (n / 2 - 1) v) := by
  show Bool.rec (motive := fun _ => Sq) (Bool.rec (motive := fun _ => Sq) (.node .undef .leaf (tset k .leaf (n / 2 - 1) v)) (.node .undef (tset k .leaf (n / 2) v) .leaf) (Nat.beq (n % 2) 1)) (.node v .leaf .leaf) (Nat.beq n 0) = _
  cases Nat.beq n 0
  · cases Nat.beq (n % 2) 1 <;> rfl
  · rfl
theorem tset_n (k : Nat) (u : AV) (l r : Sq) (n : Nat) (v : AV) : tset (k + 1) (.node u l r) n v = bif Nat.beq n 0 then .node v l r else bif Nat.beq (n % 2) 1 then .node u (tset k l (n / 2) v) r else .node u l (tset k r (n / 2 - 1) v) := by
  show Bool.rec (motive := fun _ => Sq) (Bool.rec (motive := fun _ => Sq) (.node u l (tset k r (n / 2 - 1) v)) (.node u (tset k l (n / 2) v) r) (Nat.beq (n % 2) 1)) (.node v l r) (Nat.beq n 0) = _
  cases Nat.beq n 0
  · cases Nat.beq (n % 2) 1 <;> rfl
  · rfl
noncomputable def lget (s : Sl) (i : Nat) : AV := Sl.rec (motive := fun _ => AV) (fun n t => Bool.rec (motive := fun _ => AV) .undef (tget t i) (Nat.ble (Nat.succ i) n)) s
noncomputable def lset (s : Sl) (d : Nat) (v : AV) : Sl := Sl.rec (motive := fun _ => Sl) (fun n t => Bool.rec (motive := fun _ => Sl) ⟨n, t⟩ ⟨n, tset (Nat.succ d) t d v⟩ (Nat.ble (Nat.succ d) n)) s
theorem lget_eq (s : Sl) (i : Nat) : lget s i = bif Nat.blt i s.length then tget s.t i else .undef := by
  show Bool.rec (motive := fun _ => AV) .undef (tget s.t i) (Nat.blt i s.length) = _
  cases Nat.blt i s.length <;> rfl
theorem lset_eq (s : Sl) (d : Nat) (v : AV) : lset s d v = bif Nat.blt d s.length then ⟨s.length, tset (d + 1) s.t d v⟩ else s := by
  show Bool.rec (motive := fun _ => Sl) ⟨s.length, s.t⟩ ⟨s.length, tset (d + 1) s.t d v⟩ (Nat.blt d s.length) = _
  cases Nat.blt d s.length <;> rfl
--SLOW
/-
def tget : Sq → Nat → AV
  | .leaf, _ => .undef
  | .node v l r, n => bif Nat.beq n 0 then v else bif Nat.beq (n % 2) 1 then tget l (n / 2) else tget r (n / 2 - 1)
def tset : Nat → Sq → Nat → AV → Sq
  | 0, t, _, _ => t
  | k + 1, .leaf, n, v => bif Nat.beq n 0 then .node v .leaf .leaf else bif Nat.beq (n % 2) 1 then .node .undef (tset k .leaf (n / 2) v) .leaf else .node .undef .leaf (tset k .leaf (n / 2 - 1) v)
  | k + 1, .node u l r, n, v => bif Nat.beq n 0 then .node v l r else bif Nat.beq (n % 2) 1 then .node u (tset k l (n / 2) v) r else .node u l (tset k r (n / 2 - 1) v)
def lget (s : Sl) (i : Nat) : AV := bif Nat.blt i s.length then tget s.t i else .undef
def lset (s : Sl) (d : Nat) (v : AV) : Sl := bif Nat.blt d s.length then ⟨s.length, tset (d + 1) s.t d v⟩ else s
-/
--END
--FAST
noncomputable def ldrop {α : Type} (l : List α) : Nat → List α :=
  List.rec (motive := fun _ => Nat → List α) (fun _ => []) (fun x r ih n => Nat.rec (motive := fun _ => List α) (x :: r) (fun m _ => ih m) n) l
theorem ldrop_z {α : Type} (l : List α) : ldrop l 0 = l := by cases l <;> rfl
theorem ldrop_n {α : Type} (n : Nat) : ldrop ([] : List α) n = [] := rfl
theorem ldrop_c {α : Type} (x : α) (r : List α) (n : Nat) : ldrop (x :: r) (n + 1) = ldrop r n := rfl
--SLOW
/-
def ldrop {α : Type} : List α → Nat → List α
  | l, 0 => l
  | [], _ + 1 => []
  | _ :: r, n + 1 => ldrop r n
-/
--END
--FAST
noncomputable def ltake {α : Type} (l : List α) : Nat → Option (List α) :=
  List.rec (motive := fun _ => Nat → Option (List α)) (fun n => Nat.rec (motive := fun _ => Option (List α)) (some []) (fun _ _ => none) n) (fun x _ ih n => Nat.rec (motive := fun _ => Option (List α)) (some []) (fun m _ => Option.rec (motive := fun _ => Option (List α)) none (fun k => some (x :: k)) (ih m)) n) l
theorem ltake_z {α : Type} (l : List α) : ltake l 0 = some [] := by cases l <;> rfl
theorem ltake_n {α : Type} (n : Nat) : ltake ([] : List α) (n + 1) = none := rfl
theorem ltake_c {α : Type} (x : α) (r : List α) (n : Nat) : ltake (x :: r) (n + 1) = match ltake r n with | some l => some (x :: l) | none => none := by
  show Option.rec (motive := fun _ => Option (List α)) none (fun k => some (x :: k)) (ltake r n) = _
  cases ltake r n <;> rfl
--SLOW
/-
def ltake {α : Type} : List α → Nat → Option (List α)
  | _, 0 => some []
  | [], _ + 1 => none
  | x :: r, n + 1 => match ltake r n with | some l => some (x :: l) | none => none
-/
--END
noncomputable def sub {α : Type} (l : List α) (off n : Nat) : Option (List α) := ltake (ldrop l off) n
--FAST
noncomputable def over {α : Type} (l : List α) : Nat → List α → Option (List α) :=
  List.rec (motive := fun _ => Nat → List α → Option (List α))
    (fun n xs => Nat.rec (motive := fun _ => Option (List α)) (List.rec (motive := fun _ => Option (List α)) (some []) (fun _ _ _ => none) xs) (fun _ _ => none) n)
    (fun y r ih n xs => Nat.rec (motive := fun _ => Option (List α)) (List.rec (motive := fun _ => Option (List α)) (some (y :: r)) (fun x zs _ => Option.rec (motive := fun _ => Option (List α)) none (fun m => some (x :: m)) (ih (nat_lit 0) zs)) xs) (fun m _ => Option.rec (motive := fun _ => Option (List α)) none (fun k => some (y :: k)) (ih m xs)) n) l
theorem over_z {α : Type} (l : List α) : over l 0 [] = some l := by cases l <;> rfl
theorem over_c {α : Type} (y : α) (r : List α) (x : α) (xs : List α) : over (y :: r) 0 (x :: xs) = match over r 0 xs with | some m => some (x :: m) | none => none := by
  show Option.rec (motive := fun _ => Option (List α)) none (fun m => some (x :: m)) (over r 0 xs) = _
  cases over r 0 xs <;> rfl
theorem over_n {α : Type} (x : α) (xs : List α) : over ([] : List α) 0 (x :: xs) = none := rfl
theorem over_s {α : Type} (y : α) (r : List α) (n : Nat) (xs : List α) : over (y :: r) (n + 1) xs = match over r n xs with | some m => some (y :: m) | none => none := by
  show Option.rec (motive := fun _ => Option (List α)) none (fun k => some (y :: k)) (over r n xs) = _
  cases over r n xs <;> rfl
theorem over_e {α : Type} (n : Nat) (xs : List α) : over ([] : List α) (n + 1) xs = none := rfl
--SLOW
/-
def over {α : Type} : List α → Nat → List α → Option (List α)
  | l, 0, [] => some l
  | _ :: r, 0, x :: xs => match over r 0 xs with | some m => some (x :: m) | none => none
  | [], 0, _ :: _ => none
  | y :: r, n + 1, xs => match over r n xs with | some m => some (y :: m) | none => none
  | [], _ + 1, _ => none
-/
--END
noncomputable def cellOf : Value → AC
  | .int k n => .int k n
  | .bool b => .bool b
  | .pointer none => .ptr none
  | .slice none n c => if n ≤ c then .slice none n (.lit c) else .any
  | .nilFunc => .nilFunc
  | .nilIface => .nilIface
  | .string s => .str s
  | _ => .any
noncomputable def isOne : Value → Bool
  | .agg _ => false
  | .tuple _ => false
  | _ => true
noncomputable def absV : Value → AV
  | .agg cs => bif cs.toList.all isOne then .one (.agg (cs.toList.map cellOf)) else .any
  | .tuple _ => .any
  | v => .one (.c (cellOf v))
--FAST
noncomputable def eval0 (t : Sl) : Operand → AV
  | .tmp i => lget t i
  | .const v => absV v
  | .func f => .one (.c (.fn f))
  | .global _ => .any
noncomputable def eval (t : Sl) (x : Operand) : AV := (Operand.rec (motive := fun _ => Sl → AV) (fun i t => lget t i) (fun v _ => absV v) (fun _ _ => .any) (fun f _ => .one (.c (.fn f))) x : Sl → AV) t
theorem eval_eq (t : Sl) (x : Operand) : eval t x = eval0 t x := by cases x <;> rfl
theorem eval_tmp (t : Sl) (i : Nat) : eval t (.tmp i) = lget t i := rfl
theorem eval_const (t : Sl) (v : Value) : eval t (.const v) = absV v := rfl
theorem eval_func (t : Sl) (f : Nat) : eval t (.func f) = .one (.c (.fn f)) := rfl
theorem eval_global (t : Sl) (i : Nat) : eval t (.global i) = .any := rfl
--SLOW
/-
def eval (t : Sl) : Operand → AV
  | .tmp i => lget t i
  | .const v => absV v
  | .func f => .one (.c (.fn f))
  | .global _ => .any
-/
--END
noncomputable def put (t : Sl) (d : Option Nat) (v : AV) : Sl := match d with | some d => lset t d v | none => t
noncomputable def cellsOf : AV → Option (List AC)
  | .one (.c x) => some [x]
  | .one (.agg l) => some l
  | _ => none
noncomputable def a1Of : AV → Option A1
  | .one x => some x
  | _ => none
noncomputable def isAggD : TypeDesc → Bool
  | .struct _ => true
  | .array _ _ => true
  | _ => false
noncomputable def litInt : AV → Option Int
  | .one (.c (.int _ n)) => some n
  | _ => none
/-- What an operation that asks nothing of memory or program yields. -/
noncomputable def pureV : Sem Value → Option AV
  | .pure (.int k n) => some (.one (.c (.int k n)))
  | .pure (.bool b) => some (.one (.c (.bool b)))
  | _ => none
noncomputable def notB : BinOp → AV → Option AV
  | .eql, v => some v
  | .neq, .one (.c (.bool b)) => some (.one (.c (.bool !b)))
  | _, _ => none
noncomputable def isEq : BinOp → Bool
  | .eql => true
  | .neq => true
  | _ => false
/-- One cell of l. -/
noncomputable def cellAt (l : List AC) (off : Nat) : Option AC := match sub l off 1 with | some [x] => some x | _ => none
/-- Are two numbers alike? -/
noncomputable def eqI (xs ys : List AC) : Option Bool :=
  match xs, ys with
  | [.int k a], [.int k' b] => if k = k' then some (a == b) else none
  | [.tag c i], [.tag c' i'] => if c = c' ∧ i = i' then some true else none
  | [.nat c _], [.nat c' _] => if c = c' then some true else none
  | _, _ => none
mutual
/-- Are two structs (arrays) alike? -/
noncomputable def eqT (E : Env) : Nat → Nat → List AC → List AC → Option Bool
  | 0, _, _, _ => none
  | d + 1, ty, xs, ys => match E.ty ty with
    | none => none
    | some ti => bif ti.eqok then (match ti.desc with
      | .int _ => eqI xs ys
      | .bool => (match xs, ys with | [.bool a], [.bool b] => some (a == b) | _, _ => none)
      | .struct fs => eqF E d fs.toList xs ys
      | .array n e => (match E.ty e with | some te => eqN E d e te.size n 0 xs ys | none => none)
      | _ => none) else none
noncomputable def eqF (E : Env) : Nat → List Field → List AC → List AC → Option Bool
  | 0, _, _, _ => none
  | _ + 1, [], _, _ => some true
  | d + 1, f :: r, xs, ys =>
    if f.name = "_" then none else
    match E.ty f.type with
    | none => none
    | some tf => match sub xs f.offset tf.size, sub ys f.offset tf.size with
      | some a, some b => match eqT E d f.type a b with
        | some true => eqF E d r xs ys
        | some false => some false
        | none => none
      | _, _ => none
noncomputable def eqN (E : Env) : Nat → Nat → Nat → Nat → Nat → List AC → List AC → Option Bool
  | 0, _, _, _, _, _, _ => none
  | _ + 1, _, _, 0, _, _, _ => some true
  | d + 1, e, sz, n + 1, i, xs, ys => match sub xs (i * sz) sz, sub ys (i * sz) sz with
    | some a, some b => match eqT E d e a b with
      | some true => eqN E d e sz n (i + 1) xs ys
      | some false => some false
      | none => none
    | _, _ => none
end
/-- The kinds of the numbers of a box. -/
noncomputable def tagK (i : Nat) : IntKind := match i with | 1 => .u64 | 2 => .u64 | 4 => .u64 | 5 => .u64 | 7 => .u64 | 8 => .u64 | 10 => .u64 | 11 => .u64 | _ => .i64
noncomputable def numK : AC → Option IntKind
  | .int k _ => some k
  | .num k => some k
  | .rng _ => some .i64
  | .ivl k _ _ => some k
  | .tag _ i => some (tagK i)
  | .nat _ _ => some .i64
  | _ => none
noncomputable def isShift : BinOp → Bool
  | .shl => true
  | .shr => true
  | _ => false
noncomputable def weakO (op : BinOp) (k : IntKind) : Option AC :=
  match op with
  | .add => some (.num k) | .sub => some (.num k) | .mul => some (.num k)
  | .and => some (.num k) | .or => some (.num k) | .xor => some (.num k) | .andNot => some (.num k)
  | .eql => some .bo | .neq => some .bo | .lss => some .bo | .leq => some .bo | .gtr => some .bo | .geq => some .bo
  | _ => none
/-- A number from 0 to m - 1 against c. -/
noncomputable def cmpR (op : BinOp) (m : Nat) (c : Int) : Option AC :=
  match op with
  | .eql => if c < 0 ∨ (m : Int) ≤ c then some (.bool false) else none
  | .neq => if c < 0 ∨ (m : Int) ≤ c then some (.bool true) else none
  | .lss => if (m : Int) ≤ c then some (.bool true) else if c ≤ 0 then some (.bool false) else none
  | .geq => if (m : Int) ≤ c then some (.bool false) else if c ≤ 0 then some (.bool true) else none
  | .gtr => if (m : Int) ≤ c + 1 then some (.bool false) else if c < 0 then some (.bool true) else none
  | .leq => if (m : Int) ≤ c + 1 then some (.bool true) else if c < 0 then some (.bool false) else none
  | _ => none
/-- A number against itself. -/
noncomputable def eqR (op : BinOp) : Option AC :=
  match op with
  | .eql => some (.bool true) | .neq => some (.bool false) | .lss => some (.bool false) | .gtr => some (.bool false) | .leq => some (.bool true) | .geq => some (.bool true)
  | _ => none
noncomputable def weakR (op : BinOp) (x y : AC) : Option AC :=
  match x, y with
  | .rng m, .int .i64 c => cmpR op m c
  | .nat _ m, .int .i64 c => cmpR op m c
  | .nat a _, .nat b _ => bif Nat.beq a b then eqR op else none
  | _, _ => none
/-- A number within bounds. -/
noncomputable def toIvl : AC → Option (Int × Int)
  | .int .i64 n => some (n, n)
  | .rng m => some (0, (m : Int) - 1)
  | .nat _ m => some (0, (m : Int) - 1)
  | .ivl .i64 lo hi => some (lo, hi)
  | _ => none
noncomputable def ivlB (op : BinOp) (x y : AC) : Option AC :=
  match toIvl x, toIvl y with
  | some (a, b), some (c, d) => (match op with
    | .add => if -9223372036854775808 ≤ a + c ∧ b + d ≤ 9223372036854775807 then some (.ivl .i64 (a + c) (b + d)) else none
    | .sub => if -9223372036854775808 ≤ a - d ∧ b - c ≤ 9223372036854775807 then some (.ivl .i64 (a - d) (b - c)) else none
    | .mul => if 0 ≤ a ∧ 0 ≤ c ∧ b * d ≤ 9223372036854775807 then some (.ivl .i64 (a * c) (b * d)) else none
    | _ => none)
  | _, _ => none
noncomputable def weakRI (op : BinOp) (x y : AC) : Option AC :=
  match weakR op x y with
  | some z => some z
  | none => ivlB op x y
/-- What an operation yields on numbers of which only the kind is known. -/
noncomputable def weakB (op : BinOp) (x y : AC) : Option AC :=
  match weakRI op x y with
  | some z => some z
  | none =>
  bif isShift op then (match numK x, y with | some k, .int _ n => if 0 ≤ n then some (.num k) else none | _, _ => none)
  else match numK x, numK y with
    | some k, some k' => if k = k' then weakO op k else none
    | _, _ => none
noncomputable def binA (E : Env) (op : BinOp) (xt : Nat) (x y : AV) : Option AV :=
  match x, y with
  | .one (.c (.int k a)), .one (.c (.int k' b)) => pureV (binOp op xt (.int k a) (.int k' b))
  | .one (.c (.bool a)), .one (.c (.bool b)) =>
    match E.ty xt with
    | some ti => match ti.desc with | .bool => notB op (.one (.c (.bool (a == b)))) | _ => none
    | none => none
  | .one (.c (.slice p _ _)), .one (.c (.slice none _ _)) =>
    match E.ty xt with
    | some ti => match ti.desc with | .slice _ => notB op (.one (.c (.bool p.isNone))) | _ => none
    | none => none
  | .one (.c .void), .one (.c (.slice none _ _)) =>
    match E.ty xt with
    | some ti => match ti.desc with | .slice _ => notB op (.one (.c (.bool false))) | _ => none
    | none => none
  | .one (.agg a), .one (.agg b) =>
    match E.ty xt with
    | some ti => bif isAggD ti.desc then (match eqT E 40 xt a b with | some z => notB op (.one (.c (.bool z))) | none => none) else none
    | none => none
  | .one (.c (.str a)), .one (.c (.str b)) => pureV (binOp op xt (.string a) (.string b))
  | .one (.c a), .one (.c b) => match E.tab op a b with | some z => some (.one (.c z)) | none => (match weakB op a b with | some z => some (.one (.c z)) | none => none)
  | _, _ => none
noncomputable def unA (op : UnOp) (x : AV) : Option AV :=
  match x with
  | .one (.c (.int k a)) => pureV (Op.unary op (.int k a))
  | .one (.c (.bool a)) => pureV (Op.unary op (.bool a))
  | .one (.c .bo) => match op with | .not => some (.one (.c .bo)) | _ => none
  | _ => none
noncomputable def isMulti : TypeDesc → Bool
  | .int _ => false
  | _ => true
noncomputable def cvA (E : Env) (src dst : Nat) (x : AV) : Option AV :=
  match E.ty src, E.ty dst, x with
  | some _, some tj, .one (.c (.int k n)) => match tj.desc with | .int k' => pureV (Conv.intToInt k' n) | _ => none
  | some _, some tj, .one (.c (.sym i)) => match tj.desc with | .int k' => (match E.cvt k' (.sym i) with | some z => some (.one (.c z)) | none => none) | _ => none
  | some _, some tj, .one (.c (.num _)) => match tj.desc with | .int k' => some (.one (.c (.num k'))) | _ => none
  | some _, some tj, .one (.c (.ivl _ lo hi)) => match tj.desc with | .int .u64 => if 0 ≤ lo ∧ hi ≤ 18446744073709551615 then some (.one (.c (.ivl .u64 lo hi))) else none | _ => none
  | _, _, _ => none
/-- Parts laid over the cells of a zero value. -/
noncomputable def fillA (cells : List AC) : List (Nat × Nat × List AC) → Option (List AC)
  | [] => some cells
  | (off, size, l) :: rest =>
    bif Nat.beq l.length size then match over cells off l with | some m => fillA m rest | none => none else none
noncomputable def partsS (E : Env) (t : Sl) (fs : Array Field) : List (Nat × Operand) → Option (List (Nat × Nat × List AC))
  | [] => some []
  | (i, x) :: rest =>
    match fs[i]? with
    | none => none
    | some f => match E.ty f.type, cellsOf (eval t x), partsS E t fs rest with
      | some ti, some l, some r => some ((f.offset, ti.size, l) :: r)
      | _, _, _ => none
noncomputable def partsE (size : Nat) (t : Sl) : List (Nat × Operand) → Option (List (Nat × Nat × List AC))
  | [] => some []
  | (i, x) :: rest =>
    match cellsOf (eval t x), partsE size t rest with
    | some l, some r => some ((i * size, size, l) :: r)
    | _, _ => none
noncomputable def haveAll (E : Env) : List Field → Bool
  | [] => true
  | f :: r => (E.ty f.type).isSome && haveAll E r
noncomputable def rep (z : List AC) : Nat → List AC
  | 0 => []
  | n + 1 => z ++ rep z n
noncomputable def St.new (s : St) (ty : Nat) (cells : List AC) (more : Option (Nat × Nat)) : St :=
  { s with heap := (s.next, ⟨ty, cells, more⟩) :: s.heap, next := s.next + 1 }
--FAST
noncomputable def St.newF (s : St) (ty : Nat) (cells : List AC) (more : Option (Nat × Nat)) : St :=
  St.rec (motive := fun _ => St) (fun h n c d => ⟨(n, ⟨ty, cells, more⟩) :: h, Nat.succ n, c, d⟩) s
theorem St.newF_eq (s : St) (ty : Nat) (cells : List AC) (more : Option (Nat × Nat)) : s.newF ty cells more = s.new ty cells more := rfl
noncomputable def St.updF (s : St) (i : Nat) (B : Blk) (m : List AC) : St :=
  St.rec (motive := fun _ => St) (fun h n c d => ⟨upd h i (Blk.rec (motive := fun _ => Blk) (fun ty _ mo => ⟨ty, m, mo⟩) B), n, c, i :: d⟩) s
theorem St.updF_eq (s : St) (i : Nat) (B : Blk) (m : List AC) : s.updF i B m = { s with heap := upd s.heap i { B with cells := m }, dirty := i :: s.dirty } := rfl
noncomputable def St.capF (s : St) : St := St.rec (motive := fun _ => St) (fun h n c d => ⟨h, n, Nat.succ c, d⟩) s
theorem St.capF_eq (s : St) : s.capF = { s with ncap := s.ncap + 1 } := rfl
noncomputable def St.clr (s : St) : St := St.rec (motive := fun _ => St) (fun h n c _ => ⟨h, n, c, []⟩) s
theorem St.clr_eq (s : St) : s.clr = { s with dirty := [] } := rfl
/-- A value, seen to its kind. -/
noncomputable def seen1 (x : A1) : A1 := A1.rec (motive := fun _ => A1) (fun c => .c c) (fun l => .agg l) x
noncomputable def seenV (v : AV) : AV := AV.rec (motive := fun _ => AV) .any .undef (fun x => .one (seen1 x)) (fun l => .tup l) (fun f c => .fn f c) v
theorem seenV_eq (v : AV) : seenV v = v := by
  cases v with
  | one x => cases x <;> rfl
  | _ => rfl
--SLOW
/-
def St.newF (s : St) (ty : Nat) (cells : List AC) (more : Option (Nat × Nat)) : St := s.new ty cells more
def St.updF (s : St) (i : Nat) (B : Blk) (m : List AC) : St := { s with heap := upd s.heap i { B with cells := m }, dirty := i :: s.dirty }
def St.capF (s : St) : St := { s with ncap := s.ncap + 1 }
def St.clr (s : St) : St := { s with dirty := [] }
def seenV (v : AV) : AV := v
-/
--END
noncomputable def loadA (E : Env) (s : St) (ty : Nat) (a : AV) : Option AV :=
  match E.ty ty, a with
  | some ti, .one (.c (.ptr (some (i, off)))) =>
    match look s.heap i with
    | none => none
    | some B =>
      bif isAggD ti.desc then (match sub B.cells off ti.size with | some l => some (.one (.agg l)) | none => none)
      else (match sub B.cells off 1 with | some [x] => some (.one (.c x)) | _ => none)
  | _, _ => none
noncomputable def storeA (E : Env) (s : St) (ty : Nat) (a v : AV) : Option St :=
  match E.ty ty, a, cellsOf v with
  | some ti, .one (.c (.ptr (some (i, off)))), some l =>
    match look s.heap i with
    | none => none
    | some B =>
      bif Nat.beq l.length ti.size then
        (match over B.cells off l with
        | some m => some { s with heap := upd s.heap i { B with cells := m }, dirty := i :: s.dirty }
        | none => none)
      else none
  | _, _, _ => none
noncomputable def part1 (ti : TI) (l : List AC) (off : Nat) : Option AV :=
  bif isAggD ti.desc then (match sub l off ti.size with | some m => some (.one (.agg m)) | none => none)
  else (match sub l off 1 with | some [x] => some (.one (.c x)) | _ => none)
noncomputable def fieldAddrA (E : Env) (st : Nat) (x : AV) (f : Nat) : Option AV :=
  match E.ty st, x with
  | some ti, .one (.c (.ptr (some (i, off)))) =>
    match ti.desc with
    | .struct fs => match fs[f]? with
      | some fd => match E.ty fd.type with
        | some tf => bif Nat.beq tf.size 0 then none else some (.one (.c (.ptr (some (i, off + fd.offset)))))
        | none => none
      | none => none
    | _ => none
  | _, _ => none
noncomputable def fieldA (E : Env) (st : Nat) (x : AV) (f : Nat) : Option AV :=
  match E.ty st, x with
  | some ti, .one (.agg l) =>
    match ti.desc with
    | .struct fs => match fs[f]? with
      | some fd => match E.ty fd.type with | some tf => part1 tf l fd.offset | none => none
      | none => none
    | _ => none
  | _, _ => none
noncomputable def indexAddrA (E : Env) (ty : Nat) (x ix : AV) : Option AV :=
  match E.ty ty, litInt ix with
  | some ti, some n =>
    match ti.desc, x with
    | .slice e, .one (.c (.slice (some (i, off)) len _)) =>
      match E.ty e with
      | some te => if 0 ≤ n ∧ n < len then some (.one (.c (.ptr (some (i, off + n.toNat * te.size))))) else none
      | none => none
    | .array len e, .one (.c (.ptr (some (i, off)))) =>
      match E.ty e with
      | some te => if 0 ≤ n ∧ n < len then some (.one (.c (.ptr (some (i, off + n.toNat * te.size))))) else none
      | none => none
    | _, _ => none
  | _, _ => none
noncomputable def indexA (E : Env) (ty : Nat) (x ix : AV) : Option AV :=
  match E.ty ty, litInt ix with
  | some ti, some n =>
    match ti.desc, x with
    | .array len e, .one (.agg l) =>
      match E.ty e with
      | some te => if 0 ≤ n ∧ n < len then part1 te l (n.toNat * te.size) else none
      | none => none
    | .string, .one (.c (.str x)) => match (if 0 ≤ n then x[n.toNat]? else none) with
      | some b => some (.one (.c (.int .u8 b.toNat)))
      | none => none
    | _, _ => none
  | _, _ => none
noncomputable def lenA (E : Env) (tys : Array Nat) (x : AV) : Option AV :=
  match tys[0]? with
  | some t => match E.ty t, x with
    | some ti, .one (.c (.slice _ n _)) => match ti.desc with | .slice _ => some (.one (.c (.int .i64 n))) | _ => none
    | some ti, .one (.c .void) => match ti.desc with | .slice _ => some (.one (.c (.int .i64 0))) | _ => none
    | some ti, .one (.c (.str x)) => match ti.desc with | .string => some (.one (.c (.int .i64 x.size))) | _ => none
    | _, _ => none
  | none => none
/-- What a slice's capacity is at least. -/
noncomputable def capMin (s : St) (size : Nat) (p : Option (Nat × Nat)) (len : Nat) (cap : Cap) : Nat :=
  match cap with
  | .lit c => c
  | .sym j => match p with
    | some (i, 0) => match look s.heap i with
      | some B => match B.more with
        | some (j', sz) => bif Nat.beq j' j && Nat.beq sz size && !(Nat.beq size 0) then Nat.max len (B.cells.length / size) else len
        | none => len
      | none => len
    | _ => len
/-- A slice of a slice. -/
noncomputable def sliceA (E : Env) (s : St) (ty : Nat) (x : AV) (lo hi mx : Option AV) : Option (AV × St) :=
  match mx with
  | some m =>
    (match E.ty ty, x, litInt m, (match lo with | none => some 0 | some v => litInt v), (match hi with | none => none | some v => litInt v) with
    | some ti, .one (.c (.slice p len cap)), some m, some l, some h =>
      (match ti.desc with
      | .slice e => match E.ty e with
        | none => none
        | some te =>
          if 0 ≤ l ∧ l ≤ h ∧ h ≤ m ∧ m ≤ (capMin s te.size p len cap : Nat) then
            some (.one (.c (.slice (if l = m then p else match p with | some (i, off) => some (i, off + l.toNat * te.size) | none => none) (h.toNat - l.toNat) (.lit (m.toNat - l.toNat)))), s)
          else none
      | _ => none)
    | _, _, _, _, _ => none)
  | none =>
  match E.ty ty, x with
  | some ti, .one (.c (.slice p len cap)) =>
    match ti.desc with
    | .slice e => match E.ty e with
      | none => none
      | some te =>
        match (match lo with | none => some 0 | some v => litInt v), (match hi with | none => some (len : Int) | some v => litInt v) with
        | some l, some h =>
          if 0 ≤ l ∧ l ≤ h then
            match cap with
            | .lit c => if h ≤ c then
                some (.one (.c (.slice (if l = c then p else match p with | some (i, off) => some (i, off + l.toNat * te.size) | none => none) (h.toNat - l.toNat) (.lit (c - l.toNat)))), s)
              else none
            | .sym j => if h ≤ (capMin s te.size p len cap : Nat) then
                (if l = 0 then some (.one (.c (.slice p h.toNat (.sym j))), s)
                 else if l < (capMin s te.size p len cap : Nat) then
                  (match p with
                  | some (i, off) => some (.one (.c (.slice (some (i, off + l.toNat * te.size)) (h.toNat - l.toNat) (.sym s.ncap))), { s with ncap := s.ncap + 1 })
                  | none => none)
                 else (match p with | some _ => some (.one (.c .void), s) | none => none))
              else none
          else none
        | _, _ => none
    | _ => none
  | _, _ => none
/-- The cells of a slice. -/
noncomputable def srcA (s : St) (size : Nat) : AV → Option (Nat × List AC)
  | .one (.c (.slice none 0 _)) => some (0, [])
  | .one (.c .void) => some (0, [])
  | .one (.c (.slice (some (i, off)) n _)) =>
    match look s.heap i with
    | some B => match sub B.cells off (n * size) with | some l => some (n, l) | none => none
    | none => none
  | _ => none
noncomputable def anyCells : List AC → Bool
  | [] => true
  | _ :: r => anyCells r
noncomputable def appendA (E : Env) (s : St) (tys : Array Nat) (x y : AV) : Option (AV × St) :=
  match tys[0]?, tys[1]? with
  | some t0, some t1 =>
    match E.ty t0, E.ty t1, x with
    | some ti, some tj, .one (.c (.slice p len cap)) =>
      match ti.desc, tj.desc with
      | .slice e, .slice _ =>
        match E.ty e with
        | none => none
        | some te =>
          match srcA s te.size y with
          | none => none
          | some (n, news) =>
            bif Nat.beq te.size 0 then none else
            match cap with
            | .lit c =>
              if len + n ≤ c then
                (match p with
                | none => (bif Nat.beq n 0 then some (.one (.c (.slice none (len + n) (.lit c))), s) else none)
                | some (i, off) =>
                  match look s.heap i with
                  | none => none
                  | some B => match over B.cells (off + len * te.size) news with
                    | some m => some (.one (.c (.slice (some (i, off)) (len + n) (.lit c))), { s with heap := upd s.heap i { B with cells := m }, dirty := i :: s.dirty })
                    | none => none)
              else
                (if len + n ≤ 1000 ∧ te.bytes ≤ 1000000 then
                  match srcA s te.size (.one (.c (.slice p len (.lit c)))) with
                  | some (_, olds) => some (.one (.c (.slice (some (s.next, 0)) (len + n) (.sym s.ncap))), { (s.new e (olds ++ news) (some (s.ncap, te.size))) with ncap := s.ncap + 1 })
                  | none => none
                 else none)
            | .sym j =>
              match p with
              | some (i, 0) =>
                match look s.heap i with
                | none => none
                | some B =>
                  if len + n ≤ capMin s te.size p len cap then
                    (match over B.cells (len * te.size) news with
                    | some m => some (.one (.c (.slice p (len + n) cap)), { s with heap := upd s.heap i { B with cells := m }, dirty := i :: s.dirty })
                    | none => none)
                  else
                  match B.more, sub B.cells 0 (len * te.size) with
                  | some (j', sz), some olds =>
                    if j' = j ∧ sz = te.size ∧ B.ty = e ∧ len + n ≤ 1000 ∧ te.bytes ≤ 1000000 then
                      some (.one (.c (.slice (some (s.next, 0)) (len + n) (.sym s.ncap))),
                        { heap := (s.next, ⟨e, olds ++ news, some (s.ncap, te.size)⟩) :: del s.heap i, next := s.next + 1, ncap := s.ncap + 1, dirty := i :: s.dirty })
                    else none
                  | _, _ => none
              | _ => none
      | _, _ => none
    | _, _, _ => none
  | _, _ => none
noncomputable def clearA (E : Env) (s : St) (tys : Array Nat) (x : AV) : Option St :=
  match tys[0]? with
  | none => none
  | some t => match E.ty t, x with
    | some ti, .one (.c .void) => match ti.desc with | .slice _ => some s | _ => none
    | some ti, .one (.c (.slice p n _)) =>
      match ti.desc with
      | .slice e => match E.ty e with
        | none => none
        | some te =>
          bif Nat.beq n 0 then some s else
          match p with
          | none => some s
          | some (i, off) => match look s.heap i with
            | none => none
            | some B => match over B.cells off (rep te.zero n) with
              | some m => some { s with heap := upd s.heap i { B with cells := m }, dirty := i :: s.dirty }
              | none => none
      | _ => none
    | _, _ => none
noncomputable def makeSliceA (E : Env) (s : St) (ty : Nat) (l c : AV) : Option (AV × St) :=
  match E.ty ty, litInt l, litInt c with
  | some ti, some l, some c =>
    match ti.desc with
    | .slice e => match E.ty e with
      | some te => if 0 ≤ l ∧ l ≤ c ∧ c ≤ 100000 ∧ te.bytes ≤ 100000 ∧ Nat.beq te.size 0 = false then
          some (.one (.c (.slice (some (s.next, 0)) l.toNat (.lit c.toNat))), s.new e (rep te.zero c.toNat) none) else none
      | none => none
    | _ => none
  | _, _, _ => none
noncomputable def pureArgs (t : Sl) : List Operand → Option (List Value)
  | [] => some []
  | x :: r => match eval t x, pureArgs t r with
    | .one (.c (.int k n)), some l => some (.int k n :: l)
    | _, _ => none
noncomputable def evals (t : Sl) : List Operand → List AV
  | [] => []
  | x :: r => eval t x :: evals t r
noncomputable def acs : List AV → Option (List AC)
  | [] => some []
  | .one (.c x) :: r => match acs r with | some l => some (x :: l) | none => none
  | _ :: _ => none
/-- What the calls are that the interpreter makes. -/
abbrev Call1 := Nat → List AV → St → Option (AV × St)
/-- What is found by way of an address in memory that is told of nowhere: asked under numbers that no function has. -/
noncomputable def deepL (call : Call1) (k : Nat) (args : List AV) : Option AV :=
  match args with
  | .one (.c (.sym _)) :: _ => (match call (1000000 + k) args ⟨[], 0, 0, []⟩ with | some (v, _) => some v | none => none)
  | _ => none
noncomputable def bytesA : List AC → Option (List Int)
  | [] => some []
  | .int .u8 n :: r => (match bytesA r with | some l => some (n :: l) | none => none)
  | _ :: _ => none
noncomputable def byteStr (l : List Int) : ByteArray := l.foldl (fun r n => r.push (UInt8.ofNat n.toNat)) ByteArray.empty
/-- A row of bytes, as a string. -/
noncomputable def strA (E : Env) (s : St) (a b : Nat) (x : AV) : Option AV :=
  match E.ty a, E.ty b, x with
  | some ti, some tj, .one (.c (.slice (some (i, off)) n c)) =>
    (match ti.desc, tj.desc with
    | .slice e, .string => (match E.ty e with
      | some te => (match te.desc with
        | .int .u8 => (match srcA s 1 x with
          | some (_, l) => (match bytesA l with | some bs => some (.one (.c (.str (byteStr bs)))) | none => none)
          | none => none)
        | _ => none)
      | none => none)
    | _, _ => none)
  | _, _, _ => none
noncomputable def opA0 (E : Env) (call : Call1) (t : Sl) (s : St) (o : Oper) : Option (AV × St) :=
  match o.op with
  | .move x => some (eval t x, s)
  | .assign x => some (eval t x, s)
  | .pick c a b => match eval t c with
    | .one (.c (.bool k)) => some (bif k then eval t a else eval t b, s)
    | _ => none
  | .alloc ty => match E.ty ty with
    | some ti => some (.one (.c (.ptr (some (s.next, 0)))), s.new ty ti.zero none)
    | none => none
  | .box ty x => match cellsOf (eval t x) with
    | some l => some (.one (.c (.ptr (some (s.next, 0)))), s.new ty l none)
    | none => none
  | .build ty parts => match E.ty ty with
    | some ti => match ti.desc with
      | .struct fs => bif haveAll E fs.toList then
          (match partsS E t fs parts.toList with
          | some ps => match fillA ti.zero ps with | some l => some (.one (.agg l), s) | none => none
          | none => none)
          else none
      | .array _ e => match E.ty e with
        | some te => match partsE te.size t parts.toList with
          | some ps => match fillA ti.zero ps with | some l => some (.one (.agg l), s) | none => none
          | none => none
        | none => none
      | _ => none
    | none => none
  | .buildSlice ty len parts => match E.ty ty with
    | some ti => match ti.desc with
      | .slice e => match E.ty e with
        | some te => bif Nat.ble (len * te.size) 16777216 && !(Nat.beq te.size 0) then
            (match partsE te.size t parts.toList with
            | some ps => match fillA (rep te.zero len) ps with
              | some l => some (.one (.c (.slice (some (s.next, 0)) len (.lit len))), s.new e l none)
              | none => none
            | none => none)
            else none
        | none => none
      | _ => none
    | none => none
  | .load ty a => match loadA E s ty (eval t a) with | some v => some (v, s) | none => (match deepL call (3 * ty) [eval t a] with | some v => some (v, s) | none => none)
  | .store ty a x => match storeA E s ty (eval t a) (eval t x) with | some s' => some (.undef, s') | none => none
  | .nilCheck x => match eval t x with
    | .one (.c (.ptr (some p))) => some (.one (.c (.ptr (some p))), s)
    | _ => none
  | .binOp op xt x y _ => match binA E op xt (eval t x) (eval t y) with | some v => some (v, s) | none => none
  | .unOp op _ x => match unA op (eval t x) with | some v => some (v, s) | none => none
  | .convert a b x => match cvA E a b (eval t x) with | some v => some (v, s) | none => (match strA E s a b (eval t x) with | some v => some (v, s) | none => none)
  | .makeFunc (.func f) first captured => match first.toList, acs (evals t captured.toList) with
    | [], some l => some (.fn f l, s)
    | _, _ => none
  | .makeSlice ty l c => makeSliceA E s ty (eval t l) (eval t c)
  | .slice ty x lo hi mx => sliceA E s ty (eval t x) (lo.map (eval t)) (hi.map (eval t)) (mx.map (eval t))
  | .fieldAddr st x f => match fieldAddrA E st (eval t x) f with | some v => some (v, s) | none => (match deepL call (3 * st + 2) [eval t x, .one (.c (.int .i64 (f : Int)))] with | some v => some (v, s) | none => none)
  | .field st x f => match fieldA E st (eval t x) f with | some v => some (v, s) | none => none
  | .indexAddr ty x ix => match indexAddrA E ty (eval t x) (eval t ix) with | some v => some (v, s) | none => (match deepL call (3 * ty + 1) [eval t x, eval t ix] with | some v => some (v, s) | none => none)
  | .index ty x ix => match indexA E ty (eval t x) (eval t ix) with | some v => some (v, s) | none => none
  | .extract x i => match eval t x with
    | .tup l => match l[i]? with | some v => some (.one v, s) | none => none
    | _ => none
  | .call c =>
    match c.callee with
    | .value f => match eval t f with
      | .fn g cap => bif Nat.ble 1000000 g then none else call g (evals t c.args.toList ++ cap.map (fun x => .one (.c x))) s
      | .one (.c (.fn g)) => bif Nat.ble 1000000 g then none else call g (evals t c.args.toList) s
      | _ => none
    | .builtin .len => match evals t c.args.toList with
      | [x] => match lenA E c.argTypes x with | some v => some (v, s) | none => none
      | _ => none
    | .builtin .append => match evals t c.args.toList with
      | [x, y] => bif Nat.beq c.argTypes.size 2 then appendA E s c.argTypes x y else none
      | _ => none
    | .builtin .clear => match evals t c.args.toList with
      | [x] => match clearA E s c.argTypes x with | some s' => some (.any, s') | none => none
      | _ => none
    | .builtin .max => match pureArgs t c.args.toList with
      | some l => match pureV (Builtin.max_ c.argTypes 0 l.toArray) with | some v => some (v, s) | none => none
      | none => none
    | .builtin .min => match pureArgs t c.args.toList with
      | some l => match pureV (Builtin.min_ c.argTypes 0 l.toArray) with | some v => some (v, s) | none => none
      | none => none
    | _ => none
  | _ => none
/-! The same, each operation by a definition of its own. -/
noncomputable def storeF (E : Env) (s : St) (ty : Nat) (a v : AV) : Option St :=
  match E.ty ty, a, cellsOf v with
  | some ti, .one (.c (.ptr (some (i, off)))), some l =>
    match look s.heap i with
    | none => none
    | some B =>
      bif Nat.beq l.length ti.size then
        (match over B.cells off l with
        | some m => some (s.updF i B m)
        | none => none)
      else none
  | _, _, _ => none
noncomputable def sliceF (E : Env) (s : St) (ty : Nat) (x : AV) (lo hi mx : Option AV) : Option (AV × St) :=
  match mx with
  | some m =>
    (match E.ty ty, x, litInt m, (match lo with | none => some 0 | some v => litInt v), (match hi with | none => none | some v => litInt v) with
    | some ti, .one (.c (.slice p len cap)), some m, some l, some h =>
      (match ti.desc with
      | .slice e => match E.ty e with
        | none => none
        | some te =>
          if 0 ≤ l ∧ l ≤ h ∧ h ≤ m ∧ m ≤ (capMin s te.size p len cap : Nat) then
            some (.one (.c (.slice (if l = m then p else match p with | some (i, off) => some (i, off + l.toNat * te.size) | none => none) (h.toNat - l.toNat) (.lit (m.toNat - l.toNat)))), s)
          else none
      | _ => none)
    | _, _, _, _, _ => none)
  | none =>
  match E.ty ty, x with
  | some ti, .one (.c (.slice p len cap)) =>
    match ti.desc with
    | .slice e => match E.ty e with
      | none => none
      | some te =>
        match (match lo with | none => some 0 | some v => litInt v), (match hi with | none => some (len : Int) | some v => litInt v) with
        | some l, some h =>
          if 0 ≤ l ∧ l ≤ h then
            match cap with
            | .lit c => if h ≤ c then
                some (.one (.c (.slice (if l = c then p else match p with | some (i, off) => some (i, off + l.toNat * te.size) | none => none) (h.toNat - l.toNat) (.lit (c - l.toNat)))), s)
              else none
            | .sym j => if h ≤ (capMin s te.size p len cap : Nat) then
                (if l = 0 then some (.one (.c (.slice p h.toNat (.sym j))), s)
                 else if l < (capMin s te.size p len cap : Nat) then
                  (match p with
                  | some (i, off) => some (.one (.c (.slice (some (i, off + l.toNat * te.size)) (h.toNat - l.toNat) (.sym s.ncap))), s.capF)
                  | none => none)
                 else (match p with | some _ => some (.one (.c .void), s) | none => none))
              else none
          else none
        | _, _ => none
    | _ => none
  | _, _ => none
noncomputable def appendF (E : Env) (s : St) (tys : Array Nat) (x y : AV) : Option (AV × St) :=
  match tys[0]?, tys[1]? with
  | some t0, some t1 =>
    match E.ty t0, E.ty t1, x with
    | some ti, some tj, .one (.c (.slice p len cap)) =>
      match ti.desc, tj.desc with
      | .slice e, .slice _ =>
        match E.ty e with
        | none => none
        | some te =>
          match srcA s te.size y with
          | none => none
          | some (n, news) =>
            bif Nat.beq te.size 0 then none else
            match cap with
            | .lit c =>
              if len + n ≤ c then
                (match p with
                | none => (bif Nat.beq n 0 then some (.one (.c (.slice none (len + n) (.lit c))), s) else none)
                | some (i, off) =>
                  match look s.heap i with
                  | none => none
                  | some B => match over B.cells (off + len * te.size) news with
                    | some m => some (.one (.c (.slice (some (i, off)) (len + n) (.lit c))), s.updF i B m)
                    | none => none)
              else
                (if len + n ≤ 1000 ∧ te.bytes ≤ 1000000 then
                  match srcA s te.size (.one (.c (.slice p len (.lit c)))) with
                  | some (_, olds) => some (.one (.c (.slice (some (s.next, 0)) (len + n) (.sym s.ncap))), (s.newF e (olds ++ news) (some (s.ncap, te.size))).capF)
                  | none => none
                 else none)
            | .sym j =>
              match p with
              | some (i, 0) =>
                match look s.heap i with
                | none => none
                | some B =>
                  if len + n ≤ capMin s te.size p len cap then
                    (match over B.cells (len * te.size) news with
                    | some m => some (.one (.c (.slice p (len + n) cap)), s.updF i B m)
                    | none => none)
                  else
                  match B.more, sub B.cells 0 (len * te.size) with
                  | some (j', sz), some olds =>
                    if j' = j ∧ sz = te.size ∧ B.ty = e ∧ len + n ≤ 1000 ∧ te.bytes ≤ 1000000 then
                      some (.one (.c (.slice (some (s.next, 0)) (len + n) (.sym s.ncap))),
                        { heap := (s.next, ⟨e, olds ++ news, some (s.ncap, te.size)⟩) :: del s.heap i, next := s.next + 1, ncap := s.ncap + 1, dirty := i :: s.dirty })
                    else none
                  | _, _ => none
              | _ => none
      | _, _ => none
    | _, _, _ => none
  | _, _ => none
noncomputable def clearF (E : Env) (s : St) (tys : Array Nat) (x : AV) : Option St :=
  match tys[0]? with
  | none => none
  | some t => match E.ty t, x with
    | some ti, .one (.c .void) => match ti.desc with | .slice _ => some s | _ => none
    | some ti, .one (.c (.slice p n _)) =>
      match ti.desc with
      | .slice e => match E.ty e with
        | none => none
        | some te =>
          bif Nat.beq n 0 then some s else
          match p with
          | none => some s
          | some (i, off) => match look s.heap i with
            | none => none
            | some B => match over B.cells off (rep te.zero n) with
              | some m => some (s.updF i B m)
              | none => none
      | _ => none
    | _, _ => none
noncomputable def makeSliceF (E : Env) (s : St) (ty : Nat) (l c : AV) : Option (AV × St) :=
  match E.ty ty, litInt l, litInt c with
  | some ti, some l, some c =>
    match ti.desc with
    | .slice e => match E.ty e with
      | some te => if 0 ≤ l ∧ l ≤ c ∧ c ≤ 100000 ∧ te.bytes ≤ 100000 ∧ Nat.beq te.size 0 = false then
          some (.one (.c (.slice (some (s.next, 0)) l.toNat (.lit c.toNat))), s.newF e (rep te.zero c.toNat) none) else none
      | none => none
    | _ => none
  | _, _, _ => none
theorem storeF_eq (E : Env) (s : St) (ty : Nat) (a v : AV) : storeF E s ty a v = storeA E s ty a v := rfl
theorem sliceF_eq (E : Env) (s : St) (ty : Nat) (x : AV) (lo hi mx : Option AV) : sliceF E s ty x lo hi mx = sliceA E s ty x lo hi mx := rfl
theorem appendF_eq (E : Env) (s : St) (tys : Array Nat) (x y : AV) : appendF E s tys x y = appendA E s tys x y := rfl
theorem clearF_eq (E : Env) (s : St) (tys : Array Nat) (x : AV) : clearF E s tys x = clearA E s tys x := rfl
theorem makeSliceF_eq (E : Env) (s : St) (ty : Nat) (l c : AV) : makeSliceF E s ty l c = makeSliceA E s ty l c := rfl
noncomputable def opPick (t : Sl) (s : St) (c a b : Operand) : Option (AV × St) :=
  match eval t c with
    | .one (.c (.bool k)) => some (seenV (bif k then eval t a else eval t b), s)
    | _ => none
noncomputable def opAlloc (E : Env) (s : St) (ty : Nat) : Option (AV × St) :=
  match E.ty ty with
    | some ti => some (.one (.c (.ptr (some (s.next, 0)))), s.newF ty ti.zero none)
    | none => none
noncomputable def opBox (t : Sl) (s : St) (ty : Nat) (x : Operand) : Option (AV × St) :=
  match cellsOf (eval t x) with
    | some l => some (.one (.c (.ptr (some (s.next, 0)))), s.newF ty l none)
    | none => none
noncomputable def opBuild (E : Env) (t : Sl) (s : St) (ty : Nat) (parts : Array (Nat × Operand)) : Option (AV × St) :=
  match E.ty ty with
    | some ti => match ti.desc with
      | .struct fs => bif haveAll E fs.toList then
          (match partsS E t fs parts.toList with
          | some ps => match fillA ti.zero ps with | some l => some (.one (.agg l), s) | none => none
          | none => none)
          else none
      | .array _ e => match E.ty e with
        | some te => match partsE te.size t parts.toList with
          | some ps => match fillA ti.zero ps with | some l => some (.one (.agg l), s) | none => none
          | none => none
        | none => none
      | _ => none
    | none => none
noncomputable def opBuildSlice (E : Env) (t : Sl) (s : St) (ty len : Nat) (parts : Array (Nat × Operand)) : Option (AV × St) :=
  match E.ty ty with
    | some ti => match ti.desc with
      | .slice e => match E.ty e with
        | some te => bif Nat.ble (len * te.size) 16777216 && !(Nat.beq te.size 0) then
            (match partsE te.size t parts.toList with
            | some ps => match fillA (rep te.zero len) ps with
              | some l => some (.one (.c (.slice (some (s.next, 0)) len (.lit len))), s.newF e l none)
              | none => none
            | none => none)
            else none
        | none => none
      | _ => none
    | none => none
noncomputable def opLoad (E : Env) (call : Call1) (t : Sl) (s : St) (ty : Nat) (a : Operand) : Option (AV × St) :=
  match loadA E s ty (eval t a) with | some v => some (v, s) | none => (match deepL call (3 * ty) [eval t a] with | some v => some (v, s) | none => none)
noncomputable def opStore (E : Env) (t : Sl) (s : St) (ty : Nat) (a x : Operand) : Option (AV × St) :=
  match storeF E s ty (eval t a) (eval t x) with | some s' => some (.undef, s') | none => none
noncomputable def opNil (t : Sl) (s : St) (x : Operand) : Option (AV × St) :=
  match eval t x with
    | .one (.c (.ptr (some p))) => some (.one (.c (.ptr (some p))), s)
    | _ => none
noncomputable def opBin (E : Env) (t : Sl) (s : St) (op : BinOp) (xt : Nat) (x y : Operand) : Option (AV × St) :=
  match binA E op xt (eval t x) (eval t y) with | some v => some (v, s) | none => none
noncomputable def opUn (t : Sl) (s : St) (op : UnOp) (x : Operand) : Option (AV × St) :=
  match unA op (eval t x) with | some v => some (v, s) | none => none
noncomputable def opConv (E : Env) (t : Sl) (s : St) (a b : Nat) (x : Operand) : Option (AV × St) :=
  match cvA E a b (eval t x) with | some v => some (v, s) | none => (match strA E s a b (eval t x) with | some v => some (v, s) | none => none)
noncomputable def opMakeF (t : Sl) (s : St) (f : Nat) (first captured : Array Operand) : Option (AV × St) :=
  match first.toList, acs (evals t captured.toList) with
    | [], some l => some (.fn f l, s)
    | _, _ => none
noncomputable def opFieldAddr (call : Call1) (E : Env) (t : Sl) (s : St) (st : Nat) (x : Operand) (f : Nat) : Option (AV × St) :=
  match fieldAddrA E st (eval t x) f with | some v => some (v, s) | none => (match deepL call (3 * st + 2) [eval t x, .one (.c (.int .i64 (f : Int)))] with | some v => some (v, s) | none => none)
noncomputable def opField (E : Env) (t : Sl) (s : St) (st : Nat) (x : Operand) (f : Nat) : Option (AV × St) :=
  match fieldA E st (eval t x) f with | some v => some (v, s) | none => none
noncomputable def opIndexAddr (call : Call1) (E : Env) (t : Sl) (s : St) (ty : Nat) (x ix : Operand) : Option (AV × St) :=
  match indexAddrA E ty (eval t x) (eval t ix) with | some v => some (v, s) | none => (match deepL call (3 * ty + 1) [eval t x, eval t ix] with | some v => some (v, s) | none => none)
noncomputable def opIndex (E : Env) (t : Sl) (s : St) (ty : Nat) (x ix : Operand) : Option (AV × St) :=
  match indexA E ty (eval t x) (eval t ix) with | some v => some (v, s) | none => none
noncomputable def opExtract (t : Sl) (s : St) (x : Operand) (i : Nat) : Option (AV × St) :=
  match eval t x with
    | .tup l => match l[i]? with | some v => some (.one v, s) | none => none
    | _ => none
noncomputable def opCallV (call : Call1) (t : Sl) (s : St) (f : Operand) (args : List Operand) : Option (AV × St) :=
  match eval t f with
      | .fn g cap => bif Nat.ble 1000000 g then none else call g (evals t args ++ cap.map (fun x => .one (.c x))) s
      | .one (.c (.fn g)) => bif Nat.ble 1000000 g then none else call g (evals t args) s
      | _ => none
noncomputable def opLen (E : Env) (t : Sl) (s : St) (tys : Array Nat) (args : List Operand) : Option (AV × St) :=
  match evals t args with
      | [x] => match lenA E tys x with | some v => some (v, s) | none => none
      | _ => none
noncomputable def opAppend (E : Env) (t : Sl) (s : St) (tys : Array Nat) (args : List Operand) : Option (AV × St) :=
  match evals t args with
      | [x, y] => bif Nat.beq tys.size 2 then appendF E s tys x y else none
      | _ => none
noncomputable def opClear (E : Env) (t : Sl) (s : St) (tys : Array Nat) (args : List Operand) : Option (AV × St) :=
  match evals t args with
      | [x] => match clearF E s tys x with | some s' => some (.any, s') | none => none
      | _ => none
noncomputable def opMax (t : Sl) (s : St) (tys : Array Nat) (args : List Operand) : Option (AV × St) :=
  match pureArgs t args with
      | some l => match pureV (Builtin.max_ tys 0 l.toArray) with | some v => some (v, s) | none => none
      | none => none
noncomputable def opMin (t : Sl) (s : St) (tys : Array Nat) (args : List Operand) : Option (AV × St) :=
  match pureArgs t args with
      | some l => match pureV (Builtin.min_ tys 0 l.toArray) with | some v => some (v, s) | none => none
      | none => none
noncomputable def opBuiltin (E : Env) (t : Sl) (s : St) (c : Call) (b : Builtin) : Option (AV × St) :=
  match b with
    | .len => opLen E t s c.argTypes c.args.toList
    | .append => opAppend E t s c.argTypes c.args.toList
    | .clear => opClear E t s c.argTypes c.args.toList
    | .max => opMax t s c.argTypes c.args.toList
    | .min => opMin t s c.argTypes c.args.toList
    | _ => none
noncomputable def opCall (E : Env) (call : Call1) (t : Sl) (s : St) (c : Call) : Option (AV × St) :=
  match c.callee with
    | .value f => opCallV call t s f c.args.toList
    | .builtin b => opBuiltin E t s c b
    | _ => none
--FAST
noncomputable def opMakeFn (t : Sl) (s : St) (f : Fn) (first captured : Array Operand) : Option (AV × St) :=
  match f with
  | .func f => opMakeF t s f first captured
  | _ => none
noncomputable def opA (E : Env) (call : Call1) (t : Sl) (s : St) (o : Oper) : Option (AV × St) :=
  (Op.rec (motive := fun _ => Env → Call1 → Sl → St → Option (AV × St))
    (fun x _ _ t s => some (seenV (eval t x), s))
    (fun x _ _ t s => some (seenV (eval t x), s))
    (fun c a b _ _ t s => opPick t s c a b)
    (fun ty E _ _ s => opAlloc E s ty)
    (fun ty x _ _ t s => opBox t s ty x)
    (fun ty ps E _ t s => opBuild E t s ty ps)
    (fun ty n ps E _ t s => opBuildSlice E t s ty n ps)
    (fun _ _ _ _ _ _ _ _ => none)
    (fun ty a E call t s => opLoad E call t s ty a)
    (fun ty a x E _ t s => opStore E t s ty a x)
    (fun _ _ _ _ _ => none)
    (fun _ _ _ _ _ => none)
    (fun x _ _ t s => opNil t s x)
    (fun op xt x y _ E _ t s => opBin E t s op xt x y)
    (fun op _ x _ _ t s => opUn t s op x)
    (fun a b x E _ t s => opConv E t s a b x)
    (fun _ _ _ _ _ _ => none)
    (fun _ _ _ _ _ _ => none)
    (fun f a b _ _ t s => opMakeFn t s f a b)
    (fun _ _ _ _ _ _ => none)
    (fun _ _ _ _ _ _ => none)
    (fun ty l c E _ t s => makeSliceF E s ty (eval t l) (eval t c))
    (fun ty x lo hi mx E _ t s => sliceF E s ty (eval t x) (lo.map (eval t)) (hi.map (eval t)) (mx.map (eval t)))
    (fun st x f E call t s => opFieldAddr call E t s st x f)
    (fun st x f E _ t s => opField E t s st x f)
    (fun ty x ix E call t s => opIndexAddr call E t s ty x ix)
    (fun ty x ix E _ t s => opIndex E t s ty x ix)
    (fun _ _ _ _ _ _ _ _ => none)
    (fun _ _ _ _ _ _ _ _ => none)
    (fun _ _ _ _ _ _ _ => none)
    (fun _ _ _ _ _ _ _ _ => none)
    (fun _ _ _ _ _ _ => none)
    (fun _ _ _ _ _ _ => none)
    (fun _ _ _ _ _ => none)
    (fun _ _ _ _ _ _ _ _ => none)
    (fun x i _ _ t s => opExtract t s x i)
    (fun c E call t s => opCall E call t s c)
    (fun _ _ _ _ _ => none)
    (fun _ _ _ _ _ => none)
    (fun _ _ _ _ _ => none)
    (fun _ _ _ _ _ _ => none)
    (fun _ _ _ _ _ _ _ => none)
    (fun _ _ _ _ _ _ => none) o.op : Env → Call1 → Sl → St → Option (AV × St)) E call t s
--SLOW
/-
def opA (E : Env) (call : Call1) (t : Sl) (s : St) (o : Oper) : Option (AV × St) :=
  match o.op with
  | .move x => some (seenV (eval t x), s)
  | .assign x => some (seenV (eval t x), s)
  | .pick c a b => opPick t s c a b
  | .alloc ty => opAlloc E s ty
  | .box ty x => opBox t s ty x
  | .build ty parts => opBuild E t s ty parts
  | .buildSlice ty len parts => opBuildSlice E t s ty len parts
  | .load ty a => opLoad E call t s ty a
  | .store ty a x => opStore E t s ty a x
  | .nilCheck x => opNil t s x
  | .binOp op xt x y _ => opBin E t s op xt x y
  | .unOp op _ x => opUn t s op x
  | .convert a b x => opConv E t s a b x
  | .makeFunc (.func f) first captured => opMakeF t s f first captured
  | .makeSlice ty l c => makeSliceF E s ty (eval t l) (eval t c)
  | .slice ty x lo hi mx => sliceF E s ty (eval t x) (lo.map (eval t)) (hi.map (eval t)) (mx.map (eval t))
  | .fieldAddr st x f => opFieldAddr call E t s st x f
  | .field st x f => opField E t s st x f
  | .indexAddr ty x ix => opIndexAddr call E t s ty x ix
  | .index ty x ix => opIndex E t s ty x ix
  | .extract x i => opExtract t s x i
  | .call c => opCall E call t s c
  | _ => none
-/
--END
--FAST
theorem opA_eq (E : Env) (call : Call1) (t : Sl) (s : St) (o : Oper) : opA E call t s o = opA0 E call t s o := by
  obtain ⟨d, op, ty, ps, af, gd⟩ := o
  cases op with
  | call c =>
    show opCall E call t s c = _
    unfold opA0
    simp only [opCall]
    cases c.callee with
    | builtin b => cases b <;> rfl
    | _ => rfl
  | makeFunc f a b => cases f <;> rfl
  | move x => show some (seenV (eval t x), s) = some (eval t x, s); rw [seenV_eq]
  | assign x => show some (seenV (eval t x), s) = some (eval t x, s); rw [seenV_eq]
  | pick c a b => show opPick t s c a b = _; unfold opA0; simp only [opPick, seenV_eq]
  | _ => rfl
--SLOW
/-
-/
--END
/-- Is the operation wanted? -/
--FAST
noncomputable def wantA0 (ops : Array Oper) (t : Sl) (o : Oper) : Option Bool :=
  match o.guard with
  | none => some true
  | some (j, b) => match (ops[j]?).bind (·.dst) with
    | none => some false
    | some d => match lget t d with
      | .one (.c (.bool b')) => some (b' == b)
      | .undef => some false
      | _ => none
noncomputable def wantA (ops : Array Oper) (t : Sl) (o : Oper) : Option Bool :=
  Option.rec (motive := fun _ => Array Oper → Sl → Oper → Option Bool) (fun _ _ _ => some true) (fun _ ops t o => wantA0 ops t o) o.guard ops t o
theorem wantA_eq (ops : Array Oper) (t : Sl) (o : Oper) : wantA ops t o = wantA0 ops t o := by
  obtain ⟨d, op, ty, ps, af, gd⟩ := o
  cases gd <;> rfl
--SLOW
/-
def wantA (ops : Array Oper) (t : Sl) (o : Oper) : Option Bool :=
  match o.guard with
  | none => some true
  | some (j, b) => match (ops[j]?).bind (·.dst) with
    | none => some false
    | some d => match lget t d with
      | .one (.c (.bool b')) => some (b' == b)
      | .undef => some false
      | _ => none
-/
--END
--FAST
noncomputable def stepA0 (E : Env) (call : Call1) (ops : Array Oper) (t : Sl) (s : St) (o : Oper) : Option (AV × St) :=
  match wantA ops t o with
  | some true => opA E call t s o
  | some false => some (.undef, s)
  | none => none
noncomputable def stepA (E : Env) (call : Call1) (ops : Array Oper) (t : Sl) (s : St) (o : Oper) : Option (AV × St) :=
  Option.rec (motive := fun _ => Env → Call1 → Sl → St → Oper → Option (AV × St)) (fun _ _ _ _ _ => none) (fun b => Bool.rec (motive := fun _ => Env → Call1 → Sl → St → Oper → Option (AV × St)) (fun _ _ _ s _ => some (.undef, s)) opA b) (wantA ops t o) E call t s o
theorem stepA_eq (E : Env) (call : Call1) (ops : Array Oper) (t : Sl) (s : St) (o : Oper) : stepA E call ops t s o = stepA0 E call ops t s o := by
  unfold stepA stepA0
  cases wantA ops t o with
  | none => rfl
  | some b => cases b <;> rfl
--SLOW
/-
def stepA (E : Env) (call : Call1) (ops : Array Oper) (t : Sl) (s : St) (o : Oper) : Option (AV × St) :=
  match wantA ops t o with
  | some true => opA E call t s o
  | some false => some (.undef, s)
  | none => none
-/
--END
noncomputable def opsA (E : Env) (call : Call1) (ops : Array Oper) : List Oper → Sl → St → Option (Sl × St)
  | [], t, s => some (t, s)
  | o :: r, t, s => match stepA E call ops t s o with
    | some (v, s') => opsA E call ops r (put t o.dst v) s'
    | none => none
inductive AE | normal | ret | exit (id : Nat)
/-- Code, regions that draw their order handed to d. -/
noncomputable def codeA (E : Env) (call : Call1) (dr : Array Oper → Sl → St → Option (Sl × St)) : Nat → Code → Sl → St → Option (AE × Sl × St)
  | 0, _, _, _ => none
  | n + 1, c, t, s => match c with
    | .skip => some (.normal, t, s)
    | .region _ ops draw => match (bif draw then dr ops t s else opsA E call ops ops.toList t s) with
      | some (t', s') => some (.normal, t', s')
      | none => none
    | .seq a b => match codeA E call dr n a t s with
      | some (.normal, t', s') => codeA E call dr n b t' s'
      | r => r
    | .cond c a b => match eval t c with
      | .one (.c (.bool k)) => codeA E call dr n (bif k then a else b) t s
      | _ => none
    | .block id b => match codeA E call dr n b t s with
      | some (.exit j, t', s') => if j = id then some (.normal, t', s') else some (.exit j, t', s')
      | r => r
    | .loop b => match codeA E call dr n b t s with
      | some (.normal, t', s') => codeA E call dr n (.loop b) t' s'
      | r => r
    | .exit id => some (.exit id, t, s)
    | .ret => some (.ret, t, s)
    | _ => none
noncomputable def resultA (E : Env) (t : Sl) (s : St) : ResultVar → Option A1
  | .tmp u => a1Of (lget t u)
  | .cell a ty => match loadA E s ty (lget t a) with | some (.one x) => some x | _ => none
noncomputable def resultsA (E : Env) (t : Sl) (s : St) : List ResultVar → Option (List A1)
  | [] => some []
  | r :: rs => match resultA E t s r, resultsA E t s rs with
    | some x, some l => some (x :: l)
    | _, _ => none
noncomputable def wrapA : List A1 → AV
  | [x] => .one x
  | l => .tup l
noncomputable def padT : List AV → Nat → Sq → Sq
  | [], _, t => t
  | x :: r, k, t => padT r (k + 1) (tset (k + 1) t k x)
noncomputable def pad (n : Nat) (l : List AV) : Sl := ⟨n, padT l 0 .leaf⟩
/-- The blocks that a row of cells names, from n on. -/
noncomputable def idsOf (n : Nat) : List AC → List Nat → List Nat
  | [], acc => acc
  | .ptr (some (i, _)) :: r, acc => idsOf n r (bif Nat.ble n i then i :: acc else acc)
  | .slice (some (i, _)) _ _ :: r, acc => idsOf n r (bif Nat.ble n i then i :: acc else acc)
  | _ :: r, acc => idsOf n r acc
--FAST
/-- A bit of a number, by what the kernel computes itself. -/
noncomputable def tb (b i : Nat) : Bool := Nat.beq (Nat.land (nat_lit 1) (Nat.shiftRight b i)) (nat_lit 1)
theorem tb_eq (b i : Nat) : tb b i = b.testBit i := by
  have h : 1 &&& (b >>> i) = 0 ∨ 1 &&& (b >>> i) = 1 := by
    rw [Nat.one_and_eq_mod_two]
    omega
  show Nat.beq (1 &&& (b >>> i)) 1 = (1 &&& (b >>> i) != 0)
  rcases h with h | h <;> rw [h] <;> rfl
--SLOW
/-
def tb (b i : Nat) : Bool := b.testBit i
-/
--END
--FAST
noncomputable def hasN (l : List Nat) (i : Nat) : Bool :=
  List.rec (motive := fun _ => Bool) false (fun x _ ih => Bool.rec (motive := fun _ => Bool) ih true (Nat.beq x i)) l
theorem hasN_n (i : Nat) : hasN [] i = false := rfl
theorem hasN_c (x : Nat) (r : List Nat) (i : Nat) : hasN (x :: r) i = bif Nat.beq x i then true else hasN r i := by
  show Bool.rec (motive := fun _ => Bool) (hasN r i) true (Nat.beq x i) = _
  cases Nat.beq x i <;> rfl
--SLOW
/-
def hasN : List Nat → Nat → Bool
  | [], _ => false
  | x :: r, i => bif Nat.beq x i then true else hasN r i
-/
--END
--FAST
noncomputable def reach (n : Nat) (H : List (Nat × Blk)) (k : Nat) : List Nat → Nat → Nat :=
  Nat.rec (motive := fun _ => List Nat → Nat → Nat) (fun _ seen => seen) (fun _ ih todo seen => List.rec (motive := fun _ => Nat) seen (fun i rest _ => Bool.rec (motive := fun _ => Nat) (Option.rec (motive := fun _ => Nat) (ih rest seen) (fun B => ih (idsOf n B.cells rest) (Nat.lor seen (Nat.pow (nat_lit 2) i))) (look H i)) (ih rest seen) (tb seen i)) todo) k
--SLOW
/-
def reach (n : Nat) (H : List (Nat × Blk)) : Nat → List Nat → Nat → Nat
  | 0, _, seen => seen
  | _ + 1, [], seen => seen
  | k + 1, i :: todo, seen =>
    bif seen.testBit i then reach n H k todo seen else
    match look H i with
    | some B => reach n H k (idsOf n B.cells todo) (seen ||| 2 ^ i)
    | none => reach n H k todo seen
-/
--END
--FAST
noncomputable def keep (n : Nat) (seen : Nat) (H : List (Nat × Blk)) : List (Nat × Blk) :=
  List.rec (motive := fun _ => List (Nat × Blk)) [] (fun x _ ih => Bool.rec (motive := fun _ => List (Nat × Blk)) (x :: ih) (Bool.rec (motive := fun _ => List (Nat × Blk)) ih (x :: ih) (tb seen x.1)) (Nat.ble n x.1)) H
theorem keep_n (n : Nat) (seen : Nat) : keep n seen [] = [] := rfl
theorem keep_c (n : Nat) (seen : Nat) (x : Nat × Blk) (r : List (Nat × Blk)) : keep n seen (x :: r) = bif Nat.ble n x.1 then (bif tb seen x.1 then x :: keep n seen r else keep n seen r) else x :: keep n seen r := by
  show Bool.rec (motive := fun _ => List (Nat × Blk)) (x :: keep n seen r) (Bool.rec (motive := fun _ => List (Nat × Blk)) (keep n seen r) (x :: keep n seen r) (tb seen x.1)) (Nat.ble n x.1) = _
  cases Nat.ble n x.1
  · rfl
  · cases tb seen x.1 <;> rfl
--SLOW
/-
def keep (n : Nat) (seen : Nat) : List (Nat × Blk) → List (Nat × Blk)
  | [] => []
  | x :: r => bif Nat.ble n x.1 then (bif seen.testBit x.1 then x :: keep n seen r else keep n seen r) else x :: keep n seen r
-/
--END
noncomputable def ids1 (n : Nat) : A1 → List Nat → List Nat
  | .c x, acc => idsOf n [x] acc
  | .agg l, acc => idsOf n l acc
noncomputable def idsL (n : Nat) : List A1 → List Nat → List Nat
  | [], acc => acc
  | x :: r, acc => idsL n r (ids1 n x acc)
noncomputable def idsW (n : Nat) (H : List (Nat × Blk)) : List Nat → List Nat → List Nat
  | [], acc => acc
  | i :: r, acc => bif Nat.ble n i then idsW n H r acc else match look H i with
    | some B => idsW n H r (idsOf n B.cells acc)
    | none => idsW n H r acc
/-- What is kept behind a call that began at number n. -/
noncomputable def tidy (n : Nat) (rs : List A1) (s : St) : St :=
  { s with heap := keep n (reach n s.heap 100000 (idsW n s.heap s.dirty (idsL n rs [])) 0) s.heap, dirty := s.dirty.filter (fun i => Nat.blt i n) }
--FAST
noncomputable def tidyF (n : Nat) (rs : List A1) (s : St) (d0 : List Nat) : St :=
  St.rec (motive := fun _ => St) (fun h nx c d => ⟨keep n (reach n h 100000 (idsW n h d (idsL n rs [])) (nat_lit 0)) h, nx, c, d.filter (fun i => Nat.blt i n) ++ d0⟩) s
theorem tidyF_eq (n : Nat) (rs : List A1) (s : St) (d0 : List Nat) : tidyF n rs s d0 = { (tidy n rs s) with dirty := (tidy n rs s).dirty ++ d0 } := rfl
--SLOW
/-
def tidyF (n : Nat) (rs : List A1) (s : St) (d0 : List Nat) : St := { (tidy n rs s) with dirty := (tidy n rs s).dirty ++ d0 }
-/
--END
/-- A record of an operation that has run in a region that draws. -/
structure Rec where
  i : Nat
  ids : List Nat
noncomputable def closeA : List Edge → List Nat → Nat → Option Nat
  | [], _, _ => some 0
  | e :: r, acc, k => match closeA r acc k with
    | none => none
    | some x => bif Region.binds .any e then
        (bif Nat.blt e.on k then (match acc[e.on]? with | some b => some (b ||| 2 ^ e.on ||| x) | none => none) else none)
        else some x
noncomputable def beforeA : List Oper → List Nat → Nat → Option (List Nat)
  | [], acc, _ => some acc
  | o :: r, acc, k => match closeA o.after.toList acc k with
    | some b => beforeA r (acc ++ [b]) (k + 1)
    | none => none
--FAST
noncomputable def bindsF (e : Edge) : Bool := match e.ground with | .textOnly _ => false | .gcOnly _ => false | _ => true
theorem bindsF_eq (e : Edge) : bindsF e = Region.binds .any e := by
  unfold bindsF Region.binds
  cases e.ground <;> rfl
noncomputable def nthL {α : Type} (l : List α) : Nat → Option α :=
  List.rec (motive := fun _ => Nat → Option α) (fun _ => none) (fun x _ ih n => Nat.rec (motive := fun _ => Option α) (some x) (fun m _ => ih m) n) l
theorem nthL_eq {α : Type} : ∀ (l : List α) (n : Nat), nthL l n = l[n]?
  | [], n => by simp [nthL]
  | x :: r, 0 => rfl
  | x :: r, n + 1 => by
    show nthL r n = _
    rw [nthL_eq r n]
    rfl
noncomputable def closeF (k : Nat) (acc : List Nat) (l : List Edge) : Option Nat :=
  List.rec (motive := fun _ => Option Nat) (some (nat_lit 0)) (fun e _ ih => Option.rec (motive := fun _ => Option Nat) none (fun x => Bool.rec (motive := fun _ => Option Nat) (some x) (Bool.rec (motive := fun _ => Option Nat) none (Option.rec (motive := fun _ => Option Nat) none (fun b => some (Nat.lor (Nat.lor b (Nat.pow (nat_lit 2) e.on)) x)) (nthL acc (Nat.sub (Nat.sub k (nat_lit 1)) e.on))) (Nat.ble (Nat.succ e.on) k)) (bindsF e)) ih) l
theorem closeF_eq (k : Nat) (acc : List Nat) (hk : acc.length = k) : ∀ l : List Edge, closeF k acc l = closeA l acc.reverse k
  | [] => rfl
  | e :: l => by
    show Option.rec (motive := fun _ => Option Nat) none (fun x => Bool.rec (motive := fun _ => Option Nat) (some x) (Bool.rec (motive := fun _ => Option Nat) none (Option.rec (motive := fun _ => Option Nat) none (fun b => some (Nat.lor (Nat.lor b (Nat.pow (nat_lit 2) e.on)) x)) (nthL acc (Nat.sub (Nat.sub k (nat_lit 1)) e.on))) (Nat.ble (Nat.succ e.on) k)) (bindsF e)) (closeF k acc l) = _
    rw [closeF_eq k acc hk l, bindsF_eq]
    simp only [closeA]
    cases closeA l acc.reverse k with
    | none => rfl
    | some x =>
      simp only
      cases Region.binds .any e
      · rfl
      · simp only [cond_true]
        unfold Nat.blt
        cases hb : Nat.ble (Nat.succ e.on) k
        · rfl
        · simp only [cond_true]
          have hlt : e.on < acc.length := by rw [hk]; exact Nat.le_of_ble_eq_true hb
          have h1 : nthL acc (Nat.sub (Nat.sub k (nat_lit 1)) e.on) = acc.reverse[e.on]? := by
            rw [nthL_eq, List.getElem?_reverse hlt]
            show acc[k - 1 - e.on]? = acc[acc.length - 1 - e.on]?
            rw [hk]
          rw [h1]
          cases acc.reverse[e.on]? <;> rfl
noncomputable def revF (l : List Nat) : List Nat → List Nat := List.rec (motive := fun _ => List Nat → List Nat) (fun a => a) (fun x _ ih a => ih (x :: a)) l
theorem revF_eq : ∀ (l a : List Nat), revF l a = l.reverse ++ a
  | [], a => rfl
  | x :: r, a => by
    show revF r (x :: a) = _
    rw [revF_eq r (x :: a)]
    simp
noncomputable def beforeG (l : List Oper) : List Nat → Nat → Option (List Nat) :=
  List.rec (motive := fun _ => List Nat → Nat → Option (List Nat)) (fun acc _ => some (revF acc [])) (fun o _ ih acc k => Option.rec (motive := fun _ => Option (List Nat)) none (fun b => ih (b :: acc) (Nat.succ k)) (closeF k acc o.after.toList)) l
theorem beforeG_eq : ∀ (l : List Oper) (acc : List Nat) (k : Nat), acc.length = k → beforeG l acc k = beforeA l acc.reverse k
  | [], acc, k, hk => by
    show some (revF acc []) = some acc.reverse
    rw [revF_eq, List.append_nil]
  | o :: l, acc, k, hk => by
    show Option.rec (motive := fun _ => Option (List Nat)) none (fun b => beforeG l (b :: acc) (k + 1)) (closeF k acc o.after.toList) = _
    rw [closeF_eq k acc hk]
    simp only [beforeA]
    cases closeA o.after.toList acc.reverse k with
    | none => rfl
    | some b =>
      show beforeG l (b :: acc) (k + 1) = _
      rw [beforeG_eq l (b :: acc) (k + 1) (by simp [hk]), List.reverse_cons]
noncomputable def beforeF (l : List Oper) : Option (List Nat) := beforeG l [] (nat_lit 0)
theorem beforeF_eq (l : List Oper) : beforeF l = beforeA l [] 0 := beforeG_eq l [] 0 rfl
--SLOW
/-
def beforeF (l : List Oper) : Option (List Nat) := beforeA l [] 0
-/
--END
noncomputable def isPure : Op → Bool
  | .move _ => true
  | .assign _ => true
  | .pick .. => true
  | .binOp .. => true
  | .unOp .. => true
  | .fieldAddr .. => true
  | .field .. => true
  | .indexAddr .. => true
  | .index .. => true
  | .extract .. => true
  | .nilCheck .. => true
  | .build .. => true
  | .makeFunc .. => true
  | .call c => match c.callee with | .builtin .len => true | .builtin .max => true | .builtin .min => true | _ => false
  | _ => false
noncomputable def isStore : Op → Bool
  | .store .. => true
  | .call c => match c.callee with | .builtin .append => true | .value _ => true | _ => false
  | _ => false
--FAST
noncomputable def mk3 (bj bk k j : Nat) : Bool :=
  Bool.rec (motive := fun _ => Bool) (Bool.rec (motive := fun _ => Bool) (tb bj k) true (tb bk j)) true (Nat.beq j k)
theorem mk3_eq (bj bk k j : Nat) : mk3 bj bk k j = (Nat.beq j k || bk.testBit j || bj.testBit k) := by
  unfold mk3
  rw [tb_eq, tb_eq]
  cases Nat.beq j k
  · cases bk.testBit j <;> rfl
  · rfl
noncomputable def hd0 (B : List Nat) : Nat := List.rec (motive := fun _ => Nat) (nat_lit 0) (fun x _ _ => x) B
noncomputable def tl0 (B : List Nat) : List Nat := List.rec (motive := fun _ => List Nat) [] (fun _ r _ => r) B
theorem hd_tl : ∀ (B : List Nat) (j : Nat), hd0 (ldrop B j) = B.getD j 0 ∧ tl0 (ldrop B j) = ldrop B (j + 1)
  | [], 0 => ⟨rfl, rfl⟩
  | [], j + 1 => ⟨rfl, rfl⟩
  | x :: r, 0 => ⟨rfl, (ldrop_z r).symm⟩
  | x :: r, j + 1 => by
    obtain ⟨h1, h2⟩ := hd_tl r j
    exact ⟨by rw [ldrop_c, h1]; rfl, by rw [ldrop_c, h2, ldrop_c]⟩
noncomputable def maskF (bk k : Nat) (l : List Oper) : List Nat → Nat → Sl → Sl :=
  List.rec (motive := fun _ => List Nat → Nat → Sl → Sl) (fun _ _ t => t) (fun o _ ih B j t => ih (tl0 B) (Nat.succ j) (Bool.rec (motive := fun _ => Sl) (put t o.dst .any) t (mk3 (hd0 B) bk k j))) l
/-- The slots that operations write which may come before or behind: nothing is known of them. -/
noncomputable def maskA (B : List Nat) (bk k : Nat) (l : List Oper) (j : Nat) (t : Sl) : Sl := maskF bk k l (ldrop B j) j t
theorem maskA_cons (B : List Nat) (bk k : Nat) (o : Oper) (r : List Oper) (j : Nat) (t : Sl) : maskA B bk k (o :: r) j t = maskA B bk k r (j + 1) (bif Nat.beq j k || bk.testBit j || (B.getD j 0).testBit k then t else put t o.dst .any) := by
  show maskF bk k r (tl0 (ldrop B j)) (j + 1) (Bool.rec (motive := fun _ => Sl) (put t o.dst .any) t (mk3 (hd0 (ldrop B j)) bk k j)) = maskF bk k r (ldrop B (j + 1)) (j + 1) _
  rw [(hd_tl B j).1, (hd_tl B j).2, mk3_eq]
  cases (Nat.beq j k || bk.testBit j || (B.getD j 0).testBit k) <;> rfl
--SLOW
/-
def maskL (B : List Nat) (bk k : Nat) : List Oper → Nat → List (Option Nat)
  | [], _ => []
  | o :: r, j => bif Nat.beq j k || bk.testBit j || (B.getD j 0).testBit k then maskL B bk k r (j + 1) else o.dst :: maskL B bk k r (j + 1)
def putAny : List (Option Nat) → Sl → Sl
  | [], t => t
  | d :: r, t => putAny r (put t d .any)
def maskA (B : List Nat) (bk k : Nat) (l : List Oper) (j : Nat) (t : Sl) : Sl := putAny (maskL B bk k l j) t
theorem maskA_cons (B : List Nat) (bk k : Nat) (o : Oper) (r : List Oper) (j : Nat) (t : Sl) : maskA B bk k (o :: r) j t = maskA B bk k r (j + 1) (bif Nat.beq j k || bk.testBit j || (B.getD j 0).testBit k then t else put t o.dst .any) := by
  unfold maskA
  simp only [maskL]
  cases (Nat.beq j k || bk.testBit j || (B.getD j 0).testBit k) <;> rfl
-/
--END
noncomputable def sameDst : Option Nat → Option Nat → Bool
  | some a, some b => Nat.beq a b
  | _, _ => false
--FAST
noncomputable def dstF (bk k : Nat) (d : Option Nat) (l : List Oper) : List Nat → Nat → Bool :=
  List.rec (motive := fun _ => List Nat → Nat → Bool) (fun _ _ => true) (fun o _ ih B j => Bool.rec (motive := fun _ => Bool) (Bool.rec (motive := fun _ => Bool) (ih (tl0 B) (Nat.succ j)) false (sameDst o.dst d)) (ih (tl0 B) (Nat.succ j)) (mk3 (hd0 B) bk k j)) l
noncomputable def dstOk (B : List Nat) (bk k : Nat) (d : Option Nat) (l : List Oper) (j : Nat) : Bool := dstF bk k d l (ldrop B j) j
theorem dstOk_c (B : List Nat) (bk k : Nat) (d : Option Nat) (o : Oper) (r : List Oper) (j : Nat) : dstOk B bk k d (o :: r) j = ((Nat.beq j k || bk.testBit j || (B.getD j 0).testBit k || !(sameDst o.dst d)) && dstOk B bk k d r (j + 1)) := by
  show Bool.rec (motive := fun _ => Bool) (Bool.rec (motive := fun _ => Bool) (dstF bk k d r (tl0 (ldrop B j)) (j + 1)) false (sameDst o.dst d)) (dstF bk k d r (tl0 (ldrop B j)) (j + 1)) (mk3 (hd0 (ldrop B j)) bk k j) = (_ && dstF bk k d r (ldrop B (j + 1)) (j + 1))
  rw [(hd_tl B j).1, (hd_tl B j).2, mk3_eq]
  cases (Nat.beq j k || bk.testBit j || (B.getD j 0).testBit k)
  · cases sameDst o.dst d <;> rfl
  · rfl
--SLOW
/-
def dstOk (B : List Nat) (bk k : Nat) (d : Option Nat) : List Oper → Nat → Bool
  | [], _ => true
  | o :: r, j => (Nat.beq j k || bk.testBit j || (B.getD j 0).testBit k || !(sameDst o.dst d)) && dstOk B bk k d r (j + 1)
-/
--END
noncomputable def hiddenOf (bk : Nat) : List Rec → List Nat
  | [] => []
  | x :: r => bif bk.testBit x.i then hiddenOf bk r else x.ids ++ hiddenOf bk r
noncomputable def hideA (l : List Nat) : List (Nat × Blk) → List (Nat × Blk)
  | [] => []
  | x :: r => bif hasN l x.1 then hideA l r else x :: hideA l r
noncomputable def purePast (ops : Array Oper) (bk : Nat) : List Rec → Bool
  | [] => true
  | x :: r => (bk.testBit x.i || (match ops[x.i]? with | some o => isPure o.op | none => false)) && purePast ops bk r
/-- The blocks of H' (what has been written or made) laid into H. -/
noncomputable def layNew (n : Nat) : List (Nat × Blk) → List (Nat × Blk) → List (Nat × Blk)
  | [], H => H
  | x :: r, H => bif Nat.ble n x.1 then x :: layNew n r H else H
noncomputable def layW (H' : List (Nat × Blk)) : List Nat → List (Nat × Blk) → List (Nat × Blk)
  | [], H => H
  | i :: r, H => match look H' i with
    | some B => layW H' r (upd H i B)
    | none => layW H' r (del H i)
noncomputable def newIds (n : Nat) : List (Nat × Blk) → List Nat → List Nat
  | [], acc => acc
  | x :: r, acc => bif Nat.ble n x.1 then newIds n r (x.1 :: acc) else acc
structure DS where
  t : Sl
  s : St
  recs : List Rec
  bits : Nat
--FAST
noncomputable def drawStep0 (E : Env) (call : Call1) (ops : Array Oper) (B : List Nat) (k : Nat) (D : DS) : Option DS :=
  match ops[k]?, B[k]? with
  | some o, some bk =>
    bif D.bits.testBit k then some D else
    bif !(Nat.beq (bk &&& D.bits) bk) then none else
    bif !(dstOk B bk k o.dst ops.toList 0) then none else
    match stepA E call ops (maskA B bk k ops.toList 0 D.t) { D.s with heap := hideA (hiddenOf bk D.recs) D.s.heap, dirty := [] } o with
    | none => none
    | some (v, s') =>
      let W := s'.dirty.filter (fun i => Nat.blt i D.s.next)
      bif W.isEmpty || purePast ops bk D.recs then
        some { t := put D.t o.dst v,
               s := { heap := layNew D.s.next s'.heap (layW s'.heap W D.s.heap), next := s'.next, ncap := s'.ncap, dirty := W ++ D.s.dirty },
               recs := ⟨k, W ++ newIds D.s.next s'.heap []⟩ :: D.recs, bits := D.bits ||| 2 ^ k }
      else none
  | _, _ => none
noncomputable def appL {α : Type} (l m : List α) : List α := List.rec (motive := fun _ => List α) m (fun x _ ih => x :: ih) l
theorem appL_eq {α : Type} (l m : List α) : appL l m = l ++ m := by
  induction l with
  | nil => rfl
  | cons x r ih =>
    show x :: appL r m = _
    rw [ih]
    rfl
noncomputable def hidF (bk : Nat) (l : List Rec) : List Nat := List.rec (motive := fun _ => List Nat) [] (fun x _ ih => Bool.rec (motive := fun _ => List Nat) (appL x.ids ih) ih (tb bk x.i)) l
theorem hidF_eq (bk : Nat) (l : List Rec) : hidF bk l = hiddenOf bk l := by
  induction l with
  | nil => rfl
  | cons x r ih =>
    show Bool.rec (motive := fun _ => List Nat) (appL x.ids (hidF bk r)) (hidF bk r) (tb bk x.i) = _
    rw [ih, tb_eq, appL_eq]
    simp only [hiddenOf]
    cases bk.testBit x.i <;> rfl
noncomputable def hideF (l : List Nat) (H : List (Nat × Blk)) : List (Nat × Blk) :=
  List.rec (motive := fun _ => List (Nat × Blk)) H (fun _ _ _ => List.rec (motive := fun _ => List (Nat × Blk)) [] (fun x _ ih => Bool.rec (motive := fun _ => List (Nat × Blk)) (x :: ih) ih (hasN l x.1)) H) l
theorem hideA_nil (H : List (Nat × Blk)) : hideA [] H = H := by
  induction H with
  | nil => rfl
  | cons x r ih => simp [hideA, hasN_n, ih]
theorem hideF_eq (l : List Nat) (H : List (Nat × Blk)) : hideF l H = hideA l H := by
  cases l with
  | nil => exact (hideA_nil H).symm
  | cons i l =>
    show List.rec (motive := fun _ => List (Nat × Blk)) [] (fun x _ ih => Bool.rec (motive := fun _ => List (Nat × Blk)) (x :: ih) ih (hasN (i :: l) x.1)) H = _
    induction H with
    | nil => rfl
    | cons x r ih =>
      show Bool.rec (motive := fun _ => List (Nat × Blk)) (x :: List.rec (motive := fun _ => List (Nat × Blk)) [] (fun x _ ih => Bool.rec (motive := fun _ => List (Nat × Blk)) (x :: ih) ih (hasN (i :: l) x.1)) r) (List.rec (motive := fun _ => List (Nat × Blk)) [] (fun x _ ih => Bool.rec (motive := fun _ => List (Nat × Blk)) (x :: ih) ih (hasN (i :: l) x.1)) r) (hasN (i :: l) x.1) = _
      rw [ih]
      simp only [hideA]
      cases hasN (i :: l) x.1 <;> rfl
noncomputable def layF (n : Nat) (H' H : List (Nat × Blk)) : List (Nat × Blk) :=
  List.rec (motive := fun _ => List (Nat × Blk)) H (fun x _ ih => Bool.rec (motive := fun _ => List (Nat × Blk)) H (x :: ih) (Nat.ble n x.1)) H'
theorem layF_eq (n : Nat) (H' H : List (Nat × Blk)) : layF n H' H = layNew n H' H := by
  induction H' with
  | nil => rfl
  | cons x r ih =>
    show Bool.rec (motive := fun _ => List (Nat × Blk)) H (x :: layF n r H) (Nat.ble n x.1) = _
    rw [ih]
    simp only [layNew]
    cases Nat.ble n x.1 <;> rfl
noncomputable def layWF (H' : List (Nat × Blk)) (W : List Nat) (H : List (Nat × Blk)) : List (Nat × Blk) := List.rec (motive := fun _ => List (Nat × Blk)) H (fun i r _ => layW H' (i :: r) H) W
theorem layWF_eq (H' : List (Nat × Blk)) (W : List Nat) (H : List (Nat × Blk)) : layWF H' W H = layW H' W H := by cases W <;> rfl
/-- A list, seen to its first one. -/
noncomputable def seenL {α : Type} (l : List α) : List α := List.rec (motive := fun _ => List α) [] (fun x r _ => x :: r) l
theorem seenL_eq {α : Type} (l : List α) : seenL l = l := by cases l <;> rfl
noncomputable def drawG (E : Env) (call : Call1) (ops : Array Oper) (B : List Nat) (bk k : Nat) (o : Oper) (t : Sl) (s : St) (recs : List Rec) (bits : Nat) : Option DS :=
  bif Nat.beq (Nat.land bk bits) bk && dstOk B bk k o.dst ops.toList 0 then
    St.rec (motive := fun _ => Option DS) (fun h n c d =>
      match stepA E call ops (maskA B bk k ops.toList 0 t) ⟨hideF (hidF bk recs) h, n, c, []⟩ o with
      | none => none
      | some (v, s') => St.rec (motive := fun _ => Option DS) (fun h' n' c' d' =>
        bif (d'.filter (fun i => Nat.blt i n)).isEmpty || purePast ops bk recs then
          some ⟨put t o.dst v, ⟨seenL (layF n h' (layWF h' (seenL (d'.filter (fun i => Nat.blt i n))) h)), n', c', appL (seenL (d'.filter (fun i => Nat.blt i n))) d⟩, ⟨k, appL (seenL (d'.filter (fun i => Nat.blt i n))) (newIds n h' [])⟩ :: recs, Nat.lor bits (Nat.pow (nat_lit 2) k)⟩
        else none) s') s
  else none
noncomputable def drawStep (E : Env) (call : Call1) (ops : Array Oper) (B : List Nat) (k : Nat) (D : DS) : Option DS :=
  DS.rec (motive := fun _ => Option DS) (fun t s recs bits => Bool.rec (motive := fun _ => Option DS)
    (Option.rec (motive := fun _ => Option DS) none (fun o => Option.rec (motive := fun _ => Option DS) none (fun bk => drawG E call ops B bk k o t s recs bits) (nthL B k)) (nthL ops.toList k))
    (some ⟨t, s, recs, bits⟩) (tb bits k)) D
theorem drawStep_of {E : Env} {call : Call1} {ops : Array Oper} {B : List Nat} {k : Nat} {D D' : DS} (h : drawStep E call ops B k D = some D') : (D' = D ∧ D.bits.testBit k = true) ∨ drawStep0 E call ops B k D = some D' := by
  obtain ⟨t, s, recs, bits⟩ := D
  have h : Bool.rec (motive := fun _ => Option DS)
    (Option.rec (motive := fun _ => Option DS) none (fun o => Option.rec (motive := fun _ => Option DS) none (fun bk => drawG E call ops B bk k o t s recs bits) (nthL B k)) (nthL ops.toList k))
    (some ⟨t, s, recs, bits⟩) (tb bits k) = some D' := h
  rw [tb_eq] at h
  cases hb : bits.testBit k
  · right
    simp only [hb] at h
    rw [nthL_eq, nthL_eq, show ops.toList[k]? = ops[k]? from Array.getElem?_toList] at h
    unfold drawStep0
    cases ho : ops[k]? with
    | none => rw [ho] at h; cases h
    | some o =>
      cases hB : B[k]? with
      | none => rw [ho, hB] at h; cases h
      | some bk =>
        rw [ho, hB] at h
        simp only [hb, cond_false]
        obtain ⟨hh, n, c, d⟩ := s
        unfold drawG at h
        simp only [hidF_eq, hideF_eq, layF_eq, layWF_eq, seenL_eq, appL_eq] at h
        rw [show Nat.land bk bits = (bk &&& bits) from rfl] at h
        cases h1 : Nat.beq (bk &&& bits) bk
        · simp [h1] at h
        · cases h2 : dstOk B bk k o.dst ops.toList 0
          · simp [h2] at h
          · simp only [h1, h2, Bool.and_self, cond_true] at h
            exact h
  · left
    simp only [hb, Option.some.injEq] at h
    exact ⟨h.symm, rfl⟩
--SLOW
/-
def drawStep (E : Env) (call : Call1) (ops : Array Oper) (B : List Nat) (k : Nat) (D : DS) : Option DS :=
  match ops[k]?, B[k]? with
  | some o, some bk =>
    bif D.bits.testBit k then some D else
    bif !(Nat.beq (bk &&& D.bits) bk) then none else
    bif !(dstOk B bk k o.dst ops.toList 0) then none else
    match stepA E call ops (maskA B bk k ops.toList 0 D.t) { D.s with heap := hideA (hiddenOf bk D.recs) D.s.heap, dirty := [] } o with
    | none => none
    | some (v, s') =>
      let W := s'.dirty.filter (fun i => Nat.blt i D.s.next)
      bif W.isEmpty || purePast ops bk D.recs then
        some { t := put D.t o.dst v,
               s := { heap := layNew D.s.next s'.heap (layW s'.heap W D.s.heap), next := s'.next, ncap := s'.ncap, dirty := W ++ D.s.dirty },
               recs := ⟨k, W ++ newIds D.s.next s'.heap []⟩ :: D.recs, bits := D.bits ||| 2 ^ k }
      else none
  | _, _ => none
-/
--END
noncomputable def drawList (E : Env) (call : Call1) (ops : Array Oper) (B : List Nat) : List Nat → DS → Option DS
  | [], D => some D
  | k :: r, D => match drawStep E call ops B k D with | some D' => drawList E call ops B r D' | none => none
noncomputable def bitsUp (b : Nat) : Nat → Nat → List Nat
  | 0, _ => []
  | n + 1, j => bif b.testBit j then j :: bitsUp b n (j + 1) else bitsUp b n (j + 1)
noncomputable def sched (B : List Nat) (n : Nat) : List Oper → Nat → List Nat
  | [], _ => []
  | o :: r, j => bif isStore o.op then bitsUp (B.getD j 0) n 0 ++ (j :: sched B n r (j + 1)) else sched B n r (j + 1)
noncomputable def drawA (E : Env) (call : Call1) (ops : Array Oper) (t : Sl) (s : St) : Option (Sl × St) :=
  match beforeF ops.toList with
  | none => none
  | some B =>
    match drawList E call ops B (sched B ops.size ops.toList 0 ++ List.range ops.size) ⟨t, s, [], 0⟩ with
    | some D => some (D.t, D.s)
    | none => none
/-- A call. -/
noncomputable def fnA (E : Env) : Nat → Call1
  | 0 => fun _ _ _ => none
  | n + 1 => fun f args s =>
    match E.ext f args s with
    | some r => some r
    | none =>
    match E.fn f with
    | none => none
    | some fn => match fn.body with
      | none => none
      | some c =>
        bif !(Nat.ble args.length fn.ntmps) then none else
        match codeA E (fnA E n) (drawA E (fnA E n)) 100000 c (pad fn.ntmps args) s.clr with
        | some (.normal, t', s') => match resultsA E t' s' fn.results.toList with
          | some rs => some (wrapA rs, tidyF s.next rs s' s.dirty)
          | none => none
        | some (.ret, t', s') => match resultsA E t' s' fn.results.toList with
          | some rs => some (wrapA rs, tidyF s.next rs s' s.dirty)
          | none => none
        | _ => none
theorem fnA_z (E : Env) : fnA E 0 = fun _ _ _ => none := rfl
theorem fnA_s (E : Env) (n : Nat) (f : Nat) (args : List AV) (s : St) : fnA E (n + 1) f args s = (
    match E.ext f args s with
    | some r => some r
    | none =>
    match E.fn f with
    | none => none
    | some fn => match fn.body with
      | none => none
      | some c =>
        bif !(Nat.ble args.length fn.ntmps) then none else
        match codeA E (fnA E n) (drawA E (fnA E n)) 100000 c (pad fn.ntmps args) { s with dirty := [] } with
        | some (.normal, t', s') => match resultsA E t' s' fn.results.toList with
          | some rs => some (wrapA rs, { (tidy s.next rs s') with dirty := (tidy s.next rs s').dirty ++ s.dirty })
          | none => none
        | some (.ret, t', s') => match resultsA E t' s' fn.results.toList with
          | some rs => some (wrapA rs, { (tidy s.next rs s') with dirty := (tidy s.next rs s').dirty ++ s.dirty })
          | none => none
        | _ => none) := rfl
end Ab
end Go.Proofs.YtbfppnppijcnlaaGreat
