/-
  The table of the quarters, the rounds of a block as plain data, and words for whole arrays in memory.
  Conditions: none.
-/
import Derived.Test.YtoojiofgmamjeaaDoorState
import Derived.Deep.RegionHeld3
import Derived.Deep.DrawnRows
import Derived.Deep.DeepCutAuto
import Derived.Deep.Cut
import Derived.Deep.CutBlock
import Derived.Deep.WholeRow
namespace Go.Proofs.YtoojiofgmamjeaaDoor
open Go.RowKit
set_option linter.unusedVariables false
/-- The words of the eight quarters. -/
def qj (k : Nat) (c : Nat) : Nat := if k < 4 then k + 4 * c else 4 * c + (k - 4 + c) % 4
def i64v (n : Nat) : Value := .int .i64 (n : Nat)
def tab : Array Value := #[.int .i64 0, .int .i64 4, .int .i64 8, .int .i64 12, .int .i64 1, .int .i64 5, .int .i64 9, .int .i64 13, .int .i64 2, .int .i64 6, .int .i64 10, .int .i64 14, .int .i64 3, .int .i64 7, .int .i64 11, .int .i64 15, .int .i64 0, .int .i64 5, .int .i64 10, .int .i64 15, .int .i64 1, .int .i64 6, .int .i64 11, .int .i64 12, .int .i64 2, .int .i64 7, .int .i64 8, .int .i64 13, .int .i64 3, .int .i64 4, .int .i64 9, .int .i64 14]
def Tab (w : World) : Prop := ∃ t fr, w.heap[0]? = some (.cells tab t fr)
theorem Tab.bel {w w' : World} (h : Tab w) (hb : Below w.heap.size w w') : Tab w' := by
  obtain ⟨t, fr, h⟩ := h
  exact ⟨t, fr, (hb.block 0 (Array.getElem?_eq_some_iff.1 h).1).trans h⟩
theorem tab_at (k : Nat) (hk : k < 8) : ∀ w : World, (Instr.index 45 (.agg tab) (.int .i64 (k : Nat))).run Tryd.prog w = .ok (.agg #[.int .i64 (qj k 0 : Nat), .int .i64 (qj k 1 : Nat), .int .i64 (qj k 2 : Nat), .int .i64 (qj k 3 : Nat)]) w :=
  match k, hk with
  | 0, _ => fun _ => by kernel_rfl
  | 1, _ => fun _ => by kernel_rfl
  | 2, _ => fun _ => by kernel_rfl
  | 3, _ => fun _ => by kernel_rfl
  | 4, _ => fun _ => by kernel_rfl
  | 5, _ => fun _ => by kernel_rfl
  | 6, _ => fun _ => by kernel_rfl
  | 7, _ => fun _ => by kernel_rfl
  | k + 8, h => absurd h (by omega)
theorem qj_lt (k c : Nat) (hk : k < 8) (hc : c < 4) : 4 * c ≤ qj k c ∧ qj k c < 4 * c + 4 := by
  unfold qj
  split <;> omega
/-- A quarter. -/
def mix4 (s : St) (i j k l : Nat) : St :=
  upd (upd (upd (upd s i (qr (s i) (s j) (s k) (s l)).a) j (qr (s i) (s j) (s k) (s l)).b) k (qr (s i) (s j) (s k) (s l)).c) l (qr (s i) (s j) (s k) (s l)).d
/-- The first k quarters of a double round. -/
def dbl (s : St) : Nat → St
  | 0 => s
  | k + 1 => mix4 (dbl s k) (qj k 0) (qj k 1) (qj k 2) (qj k 3)
/-- n double rounds. -/
def rnd (s : St) : Nat → St
  | 0 => s
  | n + 1 => dbl (rnd s n) 8
/-- A block of the state, word by word. -/
def fin (s : St) : St := fun i => ad (rnd s 10 i) (s i)
/-- What the head of a round finds. -/
structure BIn (w1 wr : World) (cs : Array Value) (st : St) : Prop where
  f : Blk wr w1.heap.size 41 cs
  s : Blk wr (w1.heap.size + 1) 41 (stA st)
  b : Below w1.heap.size w1 wr
theorem BIn.below' {w1 wr : World} {cs : Array Value} {st : St} (h : BIn w1 wr cs st) : Below w1.heap.size w1 wr := h.b
theorem setRow_alloc_at (w : World) (n : Nat) (c c' : Array Value) (t : TypeId) (h : w.heap.size = n) : (w.alloc (.cells c t)).setRow n c' = w.alloc (.cells c' t) := by
  subst h; exact World.setRow_alloc_new w c c' t
theorem heap_alloc_next (w : World) (o o' : Obj) : ((w.alloc o).alloc o').heap[w.heap.size + 1]? = some o' := by
  have := heap_alloc_new (w.alloc o) o'
  simpa using this
theorem idx_at (s : St) (i : Nat) (hi : i < 16) : ∀ w : World, (Instr.index 41 (.agg (stA s)) (.int .i64 (i : Nat))).run Tryd.prog w = .ok (.int .u32 ((s i).toNat : Nat)) w :=
  match i, hi with
  | 0, _ => fun _ => by kernel_rfl
  | 1, _ => fun _ => by kernel_rfl
  | 2, _ => fun _ => by kernel_rfl
  | 3, _ => fun _ => by kernel_rfl
  | 4, _ => fun _ => by kernel_rfl
  | 5, _ => fun _ => by kernel_rfl
  | 6, _ => fun _ => by kernel_rfl
  | 7, _ => fun _ => by kernel_rfl
  | 8, _ => fun _ => by kernel_rfl
  | 9, _ => fun _ => by kernel_rfl
  | 10, _ => fun _ => by kernel_rfl
  | 11, _ => fun _ => by kernel_rfl
  | 12, _ => fun _ => by kernel_rfl
  | 13, _ => fun _ => by kernel_rfl
  | 14, _ => fun _ => by kernel_rfl
  | 15, _ => fun _ => by kernel_rfl
  | i + 16, h => absurd h (by omega)
/-- Byte j of a word. -/
def byt (x : BitVec 32) (j : Nat) : BitVec 8 := (sr x (8 * j)).setWidth 8
theorem byt_at (x : BitVec 32) (j : Nat) : (x.toNat : Int) / 2 ^ (8 * j) % 256 = ((byt x j).toNat : Int) := by
  rw [w_shr]
  unfold byt sr
  rw [BitVec.toNat_setWidth]
  omega
theorem byt0 (x : BitVec 32) : (x.toNat : Int) % 256 = ((byt x 0).toNat : Int) := by
  have := byt_at x 0
  simpa using this
theorem byt1 (x : BitVec 32) : (x.toNat : Int) / 256 % 256 = ((byt x 1).toNat : Int) := byt_at x 1
theorem byt2 (x : BitVec 32) : (x.toNat : Int) / 65536 % 256 = ((byt x 2).toNat : Int) := byt_at x 2
theorem byt3 (x : BitVec 32) : (x.toNat : Int) / 16777216 % 256 = ((byt x 3).toNat : Int) := byt_at x 3
/-- Byte k of a block. -/
def bl (s : St) (k : Nat) : BitVec 8 := byt (fin s (k / 4)) (k % 4)
def outL (s : St) (n : Nat) : List Value := (List.range n).map fun k => .int .u8 ((bl s k).toNat : Nat)
theorem outL_len (s : St) (n : Nat) : (outL s n).length = n := by unfold outL; simp
theorem outL_four (s : St) (i : Nat) : outL s (4 * (i + 1)) = outL s (4 * i) ++ [.int .u8 ((byt (fin s i) 0).toNat : Nat), .int .u8 ((byt (fin s i) 1).toNat : Nat), .int .u8 ((byt (fin s i) 2).toNat : Nat), .int .u8 ((byt (fin s i) 3).toNat : Nat)] := by
  have h : ∀ j, j < 4 → bl s (4 * i + j) = byt (fin s i) j := by
    intro j hj
    unfold bl
    rw [show (4 * i + j) / 4 = i by omega, show (4 * i + j) % 4 = j by omega]
  unfold outL
  rw [show 4 * (i + 1) = 4 * i + 4 by omega, List.range_add]
  simp only [List.map_append, List.map_map]
  congr 1
  show [_, _, _, _] = _
  simp only [Function.comp, h 0 (by omega), h 1 (by omega), h 2 (by omega), h 3 (by omega)]
end Go.Proofs.YtoojiofgmamjeaaDoor
