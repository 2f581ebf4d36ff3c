/-
  Words for memory, without a program: a block that is known whole, and which blocks a call leaves as they were.
  Conditions: none.
-/
import Derived.Below
import Derived.Laws.OwnMore
import Derived.Laws.Rows
import Derived.Deep.Draws
import Derived.Lib.Hide
namespace Go.Proofs.Ytddiclnkfhldlaa
open Go.RowKit
set_option linter.unusedVariables false

theorem ret_int {k : IntKind} {a b : Int} (h : a = b) : Ending.returned (.int k a) = .returned (.int k b) := by rw [h]
theorem ret_bool {a b : Bool} (h : a = b) : Ending.returned (.bool a) = .returned (.bool b) := by rw [h]
/-- Block g holds just the cells cs of element type t; it may be written. -/
def Blk (w : World) (g : Nat) (t : TypeId) (cs : Array Value) : Prop := w.heap[g]? = some (.cells cs t (0, 0))
section
variable {w w' : World} {g : Nat} {t : TypeId} {cs : Array Value}
theorem Blk.lt (h : Blk w g t cs) : g < w.heap.size := by
  unfold Blk at h
  exact (Array.getElem?_eq_some_iff.1 h).1
theorem Blk.cell (h : Blk w g t cs) (i : Nat) : w.cell? ⟨g, i, none⟩ = cs[i]? := cell_of_row w g i cs t (0, 0) h
theorem Blk.free (h : Blk w g t cs) (i : Nat) : w.frozen? ⟨g, i, none⟩ = false := by
  unfold Blk at h
  simp [World.frozen?, h]
theorem Blk.same (h : Blk w g t cs) (hb : w'.heap[g]? = w.heap[g]?) : Blk w' g t cs := hb.trans h
theorem Blk.alloc (h : Blk w g t cs) (o : Obj) : Blk (w.alloc o) g t cs := h.same (Below.heap_alloc w o g h.lt)
theorem Blk.drewN (h : Blk w g t cs) (n : Nat) : Blk (w.drewN n) g t cs := h
theorem Blk.put (h : Blk w g t cs) (i : Nat) (u : Value) : Blk (w.setCell ⟨g, i, none⟩ u) g t (cs.setIfInBounds i u) := by
  unfold Blk at h ⊢
  simp [World.setCell, Array.getElem?_modify, h]
theorem Blk.far (h : Blk w g t cs) {p : Addr} (hp : g ≠ p.block) (u : Value) : Blk (w.setCell p u) g t cs := h.same (Below.heap_setCell w p u g hp)
theorem Blk.below {B : Nat} (h : Blk w g t cs) (hb : Below B w w') (hg : g < B) : Blk w' g t cs := h.same (hb.block g hg)
theorem Blk.grown {row : Option Nat} (h : Blk w g t cs) (hb : w.grownBy w' row) (hg : some g ≠ row) : Blk w' g t cs := h.same (hb.block g h.lt hg)
theorem Blk.of_own {base n cap : Nat} {xs : List Value} (h : w.ownsRow base t 1 (.slice (some ⟨g, 0, none⟩) n cap) n xs) : ∃ cs : Array Value, Blk w g t cs ∧ base ≤ g ∧ n ≤ cap ∧ cap ≤ maxLen ∧ cs.size = cap ∧ ∀ i, i < n → cs[i]? = xs[i]? := by
  rcases h.2 with ⟨h0, _⟩ | ⟨g', cap', cur, hv, hb, hg, hn, hm, hs, ht⟩
  · cases h0
  · injection hv with h1 h2 h3
    injection h1 with h1
    injection h1 with h1
    subst h1; subst h3
    refine ⟨cur, hg, hb, hn, hm, by omega, fun i hi => ?_⟩
    rw [← ht, List.getElem?_take, if_pos (by omega)]
    simp
end

theorem own_form {w : World} {base e size n : Nat} {v : Value} {xs : List Value} (h : w.ownsRow base e size v n xs) : ∃ A c, v = .slice A n c := by
  rcases h.2 with ⟨rfl, rfl⟩ | ⟨g, cap, cur, rfl, _⟩
  · exact ⟨_, _, rfl⟩
  · exact ⟨_, _, rfl⟩
/-- What a call may have changed: the block row alone; and it may have made blocks. -/
theorem only_refl (w : World) (row : Option Nat) : w.grownBy w row := ⟨rfl, rfl, rfl, Nat.le_refl _, fun _ _ _ => rfl⟩
theorem only_trans {a b c : World} {row : Option Nat} (h : a.grownBy b row) (k : b.grownBy c row) : a.grownBy c row :=
  ⟨k.os.trans h.os, k.tape.trans h.tape, k.output.trans h.output, Nat.le_trans h.size k.size, fun i hi hn => (k.block i (Nat.lt_of_lt_of_le hi h.size) hn).trans (h.block i hi hn)⟩
theorem only_drewN {a w : World} {row : Option Nat} (h : a.grownBy w row) (n : Nat) : a.grownBy (w.drewN n) row := ⟨h.os, h.tape, h.output, h.size, h.block⟩
theorem only_alloc {a w : World} {row : Option Nat} (h : a.grownBy w row) (o : Obj) : a.grownBy (w.alloc o) row :=
  only_trans h ⟨rfl, rfl, rfl, by simp, fun k hk _ => Below.heap_alloc w o k hk⟩
theorem only_put {a w : World} {g : Nat} (h : a.grownBy w (some g)) (i : Nat) (u : Value) : a.grownBy (w.setCell ⟨g, i, none⟩ u) (some g) :=
  only_trans h ⟨rfl, rfl, rfl, by simp [World.setCell], fun k _ hn => Below.heap_setCell w ⟨g, i, none⟩ u k (fun e => hn (by rw [e]))⟩
theorem only_of_below {a w : World} (h : Below a.heap.size a w) (row : Option Nat) : a.grownBy w row := ⟨h.os, h.tape, h.output, h.size, fun i hi _ => h.block i hi⟩
theorem below_drewN {B : Nat} {a w : World} (h : Below B a w) (n : Nat) : Below B a (w.drewN n) := ⟨h.os, h.tape, h.output, h.size, h.block⟩
theorem below_only {B g : Nat} {a b c : World} (h : Below B a b) (k : b.grownBy c (some g)) (hs : B ≤ b.heap.size) (hg : B ≤ g) : Below B a c :=
  h.grown k hs (fun x hx => by injection hx with hx; omega)
theorem below_then {B : Nat} {a b c : World} (h : Below B a b) (k : Below b.heap.size b c) (hs : B ≤ b.heap.size) : Below B a c := h.trans (k.mono hs)

/-- Cells that are known, one by one, from place 0 on. -/
def Row (w : World) (g n : Nat) (f : Nat → Value) : Prop := ∀ k, k < n → w.cell? ⟨g, k, none⟩ = some (f k)
section
variable {w w' : World} {g n : Nat} {f : Nat → Value}
theorem Row.lt (h : Row w g n f) (hn : 0 < n) : g < w.heap.size := World.block_lt_of_cell? w ⟨g, 0, none⟩ (h 0 hn)
theorem Row.same (h : Row w g n f) (hb : w'.heap[g]? = w.heap[g]?) : Row w' g n f := fun k hk => (World.cell?_of_block (a := ⟨g, k, none⟩) hb).trans (h k hk)
theorem Row.below {B : Nat} (h : Row w g n f) (hb : Below B w w') (hg : g < B) : Row w' g n f := h.same (hb.block g hg)
theorem Row.below' (h : Row w g n f) (hb : Below w.heap.size w w') : Row w' g n f := fun k hk => (h.below hb (h.lt (by omega))) k hk
theorem Row.grown {row : Option Nat} (h : Row w g n f) (hb : w.grownBy w' row) (hg : some g ≠ row) : Row w' g n f := fun k hk => (h.same (hb.block g (h.lt (by omega)) hg)) k hk
theorem Row.drewN (h : Row w g n f) (d : Nat) : Row (w.drewN d) g n f := h
theorem Row.alloc (h : Row w g n f) (o : Obj) : Row (w.alloc o) g n f := fun k hk => (h.same (Below.heap_alloc w o g (h.lt (by omega)))) k hk
theorem Row.of_blk {t : TypeId} {cs : Array Value} (h : Blk w g t cs) (hc : ∀ k, k < n → cs[k]? = some (f k)) : Row w g n f := fun k hk => (h.cell k).trans (hc k hk)
end
/-- What came in as a list of bytes: nil, or cells at an address. -/
def Byts (w : World) (A : Option Addr) (n : Nat) : Prop := ∀ k, k < n → ∃ ad, ∃ x : Nat, A = some ad ∧ x < 256 ∧ w.cell? (ad.add k) = some (.int .u8 x)
end Go.Proofs.Ytddiclnkfhldlaa
