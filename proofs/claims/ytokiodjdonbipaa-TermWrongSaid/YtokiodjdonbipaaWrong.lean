/-
  The walk of the law TermWrong: terms with another number of arguments, a value where none belongs, or shared exponents in the wrong order are not valid.
  Conditions: none.
-/
import Derived.Test.YtokiodjdonbipaaTerm
import Derived.Test.YtokiodjdonbipaaWrongP
import Derived.Deep.RegionHeld3
import Derived.Deep.DrawnRows
import Derived.Deep.DeepCutAuto
import Derived.Deep.Cut
import Derived.Deep.CutBlock
import Derived.LoopTactic
namespace Go.Proofs.Ytokiodjdonbipaa.termWrong
open Go.RowKit Go.Sort
set_option linter.unusedVariables false
attribute [local go_sem ↓] Go.wp_at_zero Go.wp_at_succ
theorem bcell {W w1 : World} (hb : Below W.heap.size W w1) : (∀ b o, b < W.heap.size → w1.cell? ⟨b, o, none⟩ = W.cell? ⟨b, o, none⟩) ∧ (∀ b o, b < W.heap.size → w1.frozen? ⟨b, o, none⟩ = W.frozen? ⟨b, o, none⟩) :=
  ⟨fun b o h => hb.cell (p := ⟨b, o, none⟩) h, fun b o h => hb.frozen (p := ⟨b, o, none⟩) h⟩
/-- A box that holds a term. -/
def Bx (w : World) (g : Nat) (t : Tm) (A : Option Addr) (c : Nat) : Prop := Blk w g 24 #[.int .i64 t.op, .int .i64 t.val, .slice A t.args.length c] ∧ Tr w t A c
theorem Bx.bel {w w' : World} {g : Nat} {t : Tm} {A : Option Addr} {c : Nat} (h : Bx w g t A c) (hb : Below w.heap.size w w') : Bx w' g t A c := ⟨h.1.below hb h.1.lt, h.2.bel hb⟩
theorem Bx.c0 {w : World} {g : Nat} {t : Tm} {A : Option Addr} {c : Nat} (h : Bx w g t A c) : w.cell? ⟨g, 0, none⟩ = some (.int .i64 t.op) := h.1.cell 0
theorem Bx.c1 {w : World} {g : Nat} {t : Tm} {A : Option Addr} {c : Nat} (h : Bx w g t A c) : w.cell? ⟨g, 1, none⟩ = some (.int .i64 t.val) := h.1.cell 1
theorem Bx.c2 {w : World} {g : Nat} {t : Tm} {A : Option Addr} {c : Nat} (h : Bx w g t A c) : w.cell? ⟨g, 2, none⟩ = some (.slice A t.args.length c) := h.1.cell 2
/-- The two boxes hold two terms, the second not below the first. -/
def Two (W : World) (s : Nat) (wx : World) : Prop := ∃ x y A B c d, Bx wx s x A c ∧ Bx wx (s + 1) y B d ∧ Fine 2 x ∧ Fine 2 y ∧ lessT y x = false ∧ Below W.heap.size W wx
theorem set6_block {W : World} {s g : Nat} {a b c d e f : Value} (hg : g ≠ s) (hg1 : g ≠ s + 1) : ((((((W.setCell ⟨s, 0, none⟩ a).setCell ⟨s, 1, none⟩ b).setCell ⟨s, 2, none⟩ c).setCell ⟨s + 1, 0, none⟩ d).setCell ⟨s + 1, 1, none⟩ e).setCell ⟨s + 1, 2, none⟩ f).heap[g]? = W.heap[g]? := by
  rw [Below.heap_setCell _ _ _ _ (by simpa using hg1), Below.heap_setCell _ _ _ _ (by simpa using hg1), Below.heap_setCell _ _ _ _ (by simpa using hg1), Below.heap_setCell _ _ _ _ (by simpa using hg), Below.heap_setCell _ _ _ _ (by simpa using hg), Below.heap_setCell _ _ _ _ (by simpa using hg)]
theorem swap_two {w W : World} {s : Nat} {x y : Tm} {A B : Option Addr} {c d : Nat} (hx : Bx W s x A c) (hy : Bx W (s + 1) y B d) (tx : TrS (fun g => g < s) W x A c) (ty : TrS (fun g => g < s) W y B d) (fx : Fine 2 x) (fy : Fine 2 y) (hl : lessT y x = true) (hb : Below w.heap.size w W) (hs : w.heap.size ≤ s) :
    Two w s ((((((W.setCell ⟨s, 0, none⟩ (.int .i64 y.op)).setCell ⟨s, 1, none⟩ (.int .i64 y.val)).setCell ⟨s, 2, none⟩ (.slice B y.args.length d)).setCell ⟨s + 1, 0, none⟩ (.int .i64 x.op)).setCell ⟨s + 1, 1, none⟩ (.int .i64 x.val)).setCell ⟨s + 1, 2, none⟩ (.slice A x.args.length c)) := by
  have h1 := (((((hx.1.put 0 (.int .i64 y.op)).put 1 (.int .i64 y.val)).put 2 (.slice B y.args.length d)).far (p := ⟨s + 1, 0, none⟩) (by simp) (.int .i64 x.op)).far (p := ⟨s + 1, 1, none⟩) (by simp) (.int .i64 x.val)).far (p := ⟨s + 1, 2, none⟩) (by simp) (.slice A x.args.length c)
  have h2 := (((((hy.1.far (p := ⟨s, 0, none⟩) (by simp) (.int .i64 y.op)).far (p := ⟨s, 1, none⟩) (by simp) (.int .i64 y.val)).far (p := ⟨s, 2, none⟩) (by simp) (.slice B y.args.length d)).put 0 (.int .i64 x.op)).put 1 (.int .i64 x.val)).put 2 (.slice A x.args.length c)
  simp only [List.setIfInBounds_toArray, List.set_cons_zero, List.set_cons_succ] at h1 h2
  refine ⟨y, x, B, A, d, c, ⟨h1, (ty.keep fun g hg _ => set6_block (by omega) (by omega)).tr⟩, ⟨h2, (tx.keep fun g hg _ => set6_block (by omega) (by omega)).tr⟩, fy, fx, lessT_asymm hl, ?_⟩
  exact (((((hb.setCell (p := ⟨s, 0, none⟩) hs _).setCell (p := ⟨s, 1, none⟩) hs _).setCell (p := ⟨s, 2, none⟩) hs _).setCell (p := ⟨s + 1, 0, none⟩) (by simp; omega) _).setCell (p := ⟨s + 1, 1, none⟩) (by simp; omega) _).setCell (p := ⟨s + 1, 2, none⟩) (by simp; omega) _
/-- The memory behind the eleven literals. -/
theorem bad_world {w wc : World} {s : Nat} {x y : Tm} {AX AY : Option Addr} {cx cy : Nat} {v : Int} (hx : Bx wc s x AX cx) (hy : Bx wc (s + 1) y AY cy) (hv : 1 ≤ v ∧ v ≤ 1000) (hb : Below w.heap.size w wc) :
    Tr ((((((wc.alloc (Obj.cells #[.int .i64 x.op, .int .i64 x.val, .slice AX x.args.length cx] 24)).alloc (Obj.cells #[.int .i64 x.op, .int .i64 x.val, .slice AX x.args.length cx] 24)).alloc (Obj.cells #[.int .i64 x.op, .int .i64 x.val, .slice AX x.args.length cx] 24)).alloc (Obj.cells #[.int .i64 x.op, .int .i64 x.val, .slice AX x.args.length cx, .int .i64 y.op, .int .i64 y.val, .slice AY y.args.length cy] 24)).alloc (Obj.cells #[.int .i64 x.op, .int .i64 x.val, .slice AX x.args.length cx] 24)).alloc (Obj.cells #[.int .i64 0, .int .i64 0, .slice none 0 0, .int .i64 11, .int .i64 0, .slice none 0 0, .int .i64 1, .int .i64 0, .slice (some ⟨wc.heap.size, 0, none⟩) 1 1, .int .i64 2, .int .i64 (-v), .slice none 0 0, .int .i64 3, .int .i64 v, .slice none 0 0, .int .i64 4, .int .i64 0, .slice none 0 0, .int .i64 4, .int .i64 v, .slice (some ⟨wc.heap.size + 1, 0, none⟩) 1 1, .int .i64 7, .int .i64 0, .slice (some ⟨wc.heap.size + 1 + 1, 0, none⟩) 1 1, .int .i64 7, .int .i64 v, .slice (some ⟨wc.heap.size + 1 + 1 + 1, 0, none⟩) 2 2, .int .i64 8, .int .i64 (-v), .slice (some ⟨wc.heap.size + 1 + 1 + 1 + 1, 0, none⟩) 1 1, .int .i64 6, .int .i64 (-v), .slice none 0 0] 24)) (.mk 0 0 (badL x y v)) (some ⟨wc.heap.size + 1 + 1 + 1 + 1 + 1, 0, none⟩) 11 ∧ Bx ((((((wc.alloc (Obj.cells #[.int .i64 x.op, .int .i64 x.val, .slice AX x.args.length cx] 24)).alloc (Obj.cells #[.int .i64 x.op, .int .i64 x.val, .slice AX x.args.length cx] 24)).alloc (Obj.cells #[.int .i64 x.op, .int .i64 x.val, .slice AX x.args.length cx] 24)).alloc (Obj.cells #[.int .i64 x.op, .int .i64 x.val, .slice AX x.args.length cx, .int .i64 y.op, .int .i64 y.val, .slice AY y.args.length cy] 24)).alloc (Obj.cells #[.int .i64 x.op, .int .i64 x.val, .slice AX x.args.length cx] 24)).alloc (Obj.cells #[.int .i64 0, .int .i64 0, .slice none 0 0, .int .i64 11, .int .i64 0, .slice none 0 0, .int .i64 1, .int .i64 0, .slice (some ⟨wc.heap.size, 0, none⟩) 1 1, .int .i64 2, .int .i64 (-v), .slice none 0 0, .int .i64 3, .int .i64 v, .slice none 0 0, .int .i64 4, .int .i64 0, .slice none 0 0, .int .i64 4, .int .i64 v, .slice (some ⟨wc.heap.size + 1, 0, none⟩) 1 1, .int .i64 7, .int .i64 0, .slice (some ⟨wc.heap.size + 1 + 1, 0, none⟩) 1 1, .int .i64 7, .int .i64 v, .slice (some ⟨wc.heap.size + 1 + 1 + 1, 0, none⟩) 2 2, .int .i64 8, .int .i64 (-v), .slice (some ⟨wc.heap.size + 1 + 1 + 1 + 1, 0, none⟩) 1 1, .int .i64 6, .int .i64 (-v), .slice none 0 0] 24)) s x AX cx ∧ Bx ((((((wc.alloc (Obj.cells #[.int .i64 x.op, .int .i64 x.val, .slice AX x.args.length cx] 24)).alloc (Obj.cells #[.int .i64 x.op, .int .i64 x.val, .slice AX x.args.length cx] 24)).alloc (Obj.cells #[.int .i64 x.op, .int .i64 x.val, .slice AX x.args.length cx] 24)).alloc (Obj.cells #[.int .i64 x.op, .int .i64 x.val, .slice AX x.args.length cx, .int .i64 y.op, .int .i64 y.val, .slice AY y.args.length cy] 24)).alloc (Obj.cells #[.int .i64 x.op, .int .i64 x.val, .slice AX x.args.length cx] 24)).alloc (Obj.cells #[.int .i64 0, .int .i64 0, .slice none 0 0, .int .i64 11, .int .i64 0, .slice none 0 0, .int .i64 1, .int .i64 0, .slice (some ⟨wc.heap.size, 0, none⟩) 1 1, .int .i64 2, .int .i64 (-v), .slice none 0 0, .int .i64 3, .int .i64 v, .slice none 0 0, .int .i64 4, .int .i64 0, .slice none 0 0, .int .i64 4, .int .i64 v, .slice (some ⟨wc.heap.size + 1, 0, none⟩) 1 1, .int .i64 7, .int .i64 0, .slice (some ⟨wc.heap.size + 1 + 1, 0, none⟩) 1 1, .int .i64 7, .int .i64 v, .slice (some ⟨wc.heap.size + 1 + 1 + 1, 0, none⟩) 2 2, .int .i64 8, .int .i64 (-v), .slice (some ⟨wc.heap.size + 1 + 1 + 1 + 1, 0, none⟩) 1 1, .int .i64 6, .int .i64 (-v), .slice none 0 0] 24)) (s + 1) y AY cy ∧ Below w.heap.size w ((((((wc.alloc (Obj.cells #[.int .i64 x.op, .int .i64 x.val, .slice AX x.args.length cx] 24)).alloc (Obj.cells #[.int .i64 x.op, .int .i64 x.val, .slice AX x.args.length cx] 24)).alloc (Obj.cells #[.int .i64 x.op, .int .i64 x.val, .slice AX x.args.length cx] 24)).alloc (Obj.cells #[.int .i64 x.op, .int .i64 x.val, .slice AX x.args.length cx, .int .i64 y.op, .int .i64 y.val, .slice AY y.args.length cy] 24)).alloc (Obj.cells #[.int .i64 x.op, .int .i64 x.val, .slice AX x.args.length cx] 24)).alloc (Obj.cells #[.int .i64 0, .int .i64 0, .slice none 0 0, .int .i64 11, .int .i64 0, .slice none 0 0, .int .i64 1, .int .i64 0, .slice (some ⟨wc.heap.size, 0, none⟩) 1 1, .int .i64 2, .int .i64 (-v), .slice none 0 0, .int .i64 3, .int .i64 v, .slice none 0 0, .int .i64 4, .int .i64 0, .slice none 0 0, .int .i64 4, .int .i64 v, .slice (some ⟨wc.heap.size + 1, 0, none⟩) 1 1, .int .i64 7, .int .i64 0, .slice (some ⟨wc.heap.size + 1 + 1, 0, none⟩) 1 1, .int .i64 7, .int .i64 v, .slice (some ⟨wc.heap.size + 1 + 1 + 1, 0, none⟩) 2 2, .int .i64 8, .int .i64 (-v), .slice (some ⟨wc.heap.size + 1 + 1 + 1 + 1, 0, none⟩) 1 1, .int .i64 6, .int .i64 (-v), .slice none 0 0] 24)) := by
  have e1 : (wc.alloc (Obj.cells #[.int .i64 x.op, .int .i64 x.val, .slice AX x.args.length cx] 24)).heap.size = wc.heap.size + 1 := World.size_alloc _ _
  have g0 := hb.size
  have f : ∀ n : Int, -1000 ≤ n → n ≤ 1000 → fits n := fun n h0 h1 => by unfold fits; omega
  have b1 : Blk (wc.alloc (Obj.cells #[.int .i64 x.op, .int .i64 x.val, .slice AX x.args.length cx] 24)) (wc.heap.size) 24 #[.int .i64 x.op, .int .i64 x.val, .slice AX x.args.length cx] := heap_alloc_new _ _
  have b2 : Blk ((wc.alloc (Obj.cells #[.int .i64 x.op, .int .i64 x.val, .slice AX x.args.length cx] 24)).alloc (Obj.cells #[.int .i64 x.op, .int .i64 x.val, .slice AX x.args.length cx] 24)) (wc.heap.size + 1) 24 #[.int .i64 x.op, .int .i64 x.val, .slice AX x.args.length cx] := by
    have := heap_alloc_new (wc.alloc (Obj.cells #[.int .i64 x.op, .int .i64 x.val, .slice AX x.args.length cx] 24)) (Obj.cells #[.int .i64 x.op, .int .i64 x.val, .slice AX x.args.length cx] 24)
    simp only [World.size_alloc] at this
    exact this
  have b3 : Blk (((wc.alloc (Obj.cells #[.int .i64 x.op, .int .i64 x.val, .slice AX x.args.length cx] 24)).alloc (Obj.cells #[.int .i64 x.op, .int .i64 x.val, .slice AX x.args.length cx] 24)).alloc (Obj.cells #[.int .i64 x.op, .int .i64 x.val, .slice AX x.args.length cx] 24)) (wc.heap.size + 1 + 1) 24 #[.int .i64 x.op, .int .i64 x.val, .slice AX x.args.length cx] := by
    have := heap_alloc_new ((wc.alloc (Obj.cells #[.int .i64 x.op, .int .i64 x.val, .slice AX x.args.length cx] 24)).alloc (Obj.cells #[.int .i64 x.op, .int .i64 x.val, .slice AX x.args.length cx] 24)) (Obj.cells #[.int .i64 x.op, .int .i64 x.val, .slice AX x.args.length cx] 24)
    simp only [World.size_alloc] at this
    exact this
  have b4 : Blk ((((wc.alloc (Obj.cells #[.int .i64 x.op, .int .i64 x.val, .slice AX x.args.length cx] 24)).alloc (Obj.cells #[.int .i64 x.op, .int .i64 x.val, .slice AX x.args.length cx] 24)).alloc (Obj.cells #[.int .i64 x.op, .int .i64 x.val, .slice AX x.args.length cx] 24)).alloc (Obj.cells #[.int .i64 x.op, .int .i64 x.val, .slice AX x.args.length cx, .int .i64 y.op, .int .i64 y.val, .slice AY y.args.length cy] 24)) (wc.heap.size + 1 + 1 + 1) 24 #[.int .i64 x.op, .int .i64 x.val, .slice AX x.args.length cx, .int .i64 y.op, .int .i64 y.val, .slice AY y.args.length cy] := by
    have := heap_alloc_new (((wc.alloc (Obj.cells #[.int .i64 x.op, .int .i64 x.val, .slice AX x.args.length cx] 24)).alloc (Obj.cells #[.int .i64 x.op, .int .i64 x.val, .slice AX x.args.length cx] 24)).alloc (Obj.cells #[.int .i64 x.op, .int .i64 x.val, .slice AX x.args.length cx] 24)) (Obj.cells #[.int .i64 x.op, .int .i64 x.val, .slice AX x.args.length cx, .int .i64 y.op, .int .i64 y.val, .slice AY y.args.length cy] 24)
    simp only [World.size_alloc] at this
    exact this
  have b5 : Blk (((((wc.alloc (Obj.cells #[.int .i64 x.op, .int .i64 x.val, .slice AX x.args.length cx] 24)).alloc (Obj.cells #[.int .i64 x.op, .int .i64 x.val, .slice AX x.args.length cx] 24)).alloc (Obj.cells #[.int .i64 x.op, .int .i64 x.val, .slice AX x.args.length cx] 24)).alloc (Obj.cells #[.int .i64 x.op, .int .i64 x.val, .slice AX x.args.length cx, .int .i64 y.op, .int .i64 y.val, .slice AY y.args.length cy] 24)).alloc (Obj.cells #[.int .i64 x.op, .int .i64 x.val, .slice AX x.args.length cx] 24)) (wc.heap.size + 1 + 1 + 1 + 1) 24 #[.int .i64 x.op, .int .i64 x.val, .slice AX x.args.length cx] := by
    have := heap_alloc_new ((((wc.alloc (Obj.cells #[.int .i64 x.op, .int .i64 x.val, .slice AX x.args.length cx] 24)).alloc (Obj.cells #[.int .i64 x.op, .int .i64 x.val, .slice AX x.args.length cx] 24)).alloc (Obj.cells #[.int .i64 x.op, .int .i64 x.val, .slice AX x.args.length cx] 24)).alloc (Obj.cells #[.int .i64 x.op, .int .i64 x.val, .slice AX x.args.length cx, .int .i64 y.op, .int .i64 y.val, .slice AY y.args.length cy] 24)) (Obj.cells #[.int .i64 x.op, .int .i64 x.val, .slice AX x.args.length cx] 24)
    simp only [World.size_alloc] at this
    exact this
  have b6 : Blk ((((((wc.alloc (Obj.cells #[.int .i64 x.op, .int .i64 x.val, .slice AX x.args.length cx] 24)).alloc (Obj.cells #[.int .i64 x.op, .int .i64 x.val, .slice AX x.args.length cx] 24)).alloc (Obj.cells #[.int .i64 x.op, .int .i64 x.val, .slice AX x.args.length cx] 24)).alloc (Obj.cells #[.int .i64 x.op, .int .i64 x.val, .slice AX x.args.length cx, .int .i64 y.op, .int .i64 y.val, .slice AY y.args.length cy] 24)).alloc (Obj.cells #[.int .i64 x.op, .int .i64 x.val, .slice AX x.args.length cx] 24)).alloc (Obj.cells #[.int .i64 0, .int .i64 0, .slice none 0 0, .int .i64 11, .int .i64 0, .slice none 0 0, .int .i64 1, .int .i64 0, .slice (some ⟨wc.heap.size, 0, none⟩) 1 1, .int .i64 2, .int .i64 (-v), .slice none 0 0, .int .i64 3, .int .i64 v, .slice none 0 0, .int .i64 4, .int .i64 0, .slice none 0 0, .int .i64 4, .int .i64 v, .slice (some ⟨wc.heap.size + 1, 0, none⟩) 1 1, .int .i64 7, .int .i64 0, .slice (some ⟨wc.heap.size + 1 + 1, 0, none⟩) 1 1, .int .i64 7, .int .i64 v, .slice (some ⟨wc.heap.size + 1 + 1 + 1, 0, none⟩) 2 2, .int .i64 8, .int .i64 (-v), .slice (some ⟨wc.heap.size + 1 + 1 + 1 + 1, 0, none⟩) 1 1, .int .i64 6, .int .i64 (-v), .slice none 0 0] 24)) (wc.heap.size + 1 + 1 + 1 + 1 + 1) 24 #[.int .i64 0, .int .i64 0, .slice none 0 0, .int .i64 11, .int .i64 0, .slice none 0 0, .int .i64 1, .int .i64 0, .slice (some ⟨wc.heap.size, 0, none⟩) 1 1, .int .i64 2, .int .i64 (-v), .slice none 0 0, .int .i64 3, .int .i64 v, .slice none 0 0, .int .i64 4, .int .i64 0, .slice none 0 0, .int .i64 4, .int .i64 v, .slice (some ⟨wc.heap.size + 1, 0, none⟩) 1 1, .int .i64 7, .int .i64 0, .slice (some ⟨wc.heap.size + 1 + 1, 0, none⟩) 1 1, .int .i64 7, .int .i64 v, .slice (some ⟨wc.heap.size + 1 + 1 + 1, 0, none⟩) 2 2, .int .i64 8, .int .i64 (-v), .slice (some ⟨wc.heap.size + 1 + 1 + 1 + 1, 0, none⟩) 1 1, .int .i64 6, .int .i64 (-v), .slice none 0 0] := by
    have := heap_alloc_new (((((wc.alloc (Obj.cells #[.int .i64 x.op, .int .i64 x.val, .slice AX x.args.length cx] 24)).alloc (Obj.cells #[.int .i64 x.op, .int .i64 x.val, .slice AX x.args.length cx] 24)).alloc (Obj.cells #[.int .i64 x.op, .int .i64 x.val, .slice AX x.args.length cx] 24)).alloc (Obj.cells #[.int .i64 x.op, .int .i64 x.val, .slice AX x.args.length cx, .int .i64 y.op, .int .i64 y.val, .slice AY y.args.length cy] 24)).alloc (Obj.cells #[.int .i64 x.op, .int .i64 x.val, .slice AX x.args.length cx] 24)) (Obj.cells #[.int .i64 0, .int .i64 0, .slice none 0 0, .int .i64 11, .int .i64 0, .slice none 0 0, .int .i64 1, .int .i64 0, .slice (some ⟨wc.heap.size, 0, none⟩) 1 1, .int .i64 2, .int .i64 (-v), .slice none 0 0, .int .i64 3, .int .i64 v, .slice none 0 0, .int .i64 4, .int .i64 0, .slice none 0 0, .int .i64 4, .int .i64 v, .slice (some ⟨wc.heap.size + 1, 0, none⟩) 1 1, .int .i64 7, .int .i64 0, .slice (some ⟨wc.heap.size + 1 + 1, 0, none⟩) 1 1, .int .i64 7, .int .i64 v, .slice (some ⟨wc.heap.size + 1 + 1 + 1, 0, none⟩) 2 2, .int .i64 8, .int .i64 (-v), .slice (some ⟨wc.heap.size + 1 + 1 + 1 + 1, 0, none⟩) 1 1, .int .i64 6, .int .i64 (-v), .slice none 0 0] 24)
    simp only [World.size_alloc] at this
    exact this
  have tx : TrS (fun _ => True) wc x AX cx := hx.2.sup.mono fun _ _ => trivial
  have ty : TrS (fun _ => True) wc y AY cy := hy.2.sup.mono fun _ _ => trivial
  have al : ∀ {z : World} {t : Tm} {A : Option Addr} {c : Nat} (o : Obj), TrS (fun _ => True) z t A c → TrS (fun _ => True) (z.alloc o) t A c := fun o h => h.alloc o
  have r1 := TrS.one (o := 1) (v := 0) b1 trivial (al _ tx) (f _ (by omega) (by omega)) (f _ (by omega) (by omega))
  have r2 := TrS.one (o := 4) (v := v) b2 trivial (al _ (al _ tx)) (f _ (by omega) (by omega)) (f _ (by omega) (by omega))
  have r3 := TrS.one (o := 7) (v := 0) b3 trivial (al _ (al _ (al _ tx))) (f _ (by omega) (by omega)) (f _ (by omega) (by omega))
  have r4 := TrS.two (o := 7) (v := v) b4 trivial (al _ (al _ (al _ (al _ tx)))) (al _ (al _ (al _ (al _ ty)))) (f _ (by omega) (by omega)) (f _ (by omega) (by omega))
  have r5 := TrS.one (o := 8) (v := -v) b5 trivial (al _ (al _ (al _ (al _ (al _ tx))))) (f _ (by omega) (by omega)) (f _ (by omega) (by omega))
  have hf := bad_flat hv (al (Obj.cells #[.int .i64 0, .int .i64 0, .slice none 0 0, .int .i64 11, .int .i64 0, .slice none 0 0, .int .i64 1, .int .i64 0, .slice (some ⟨wc.heap.size, 0, none⟩) 1 1, .int .i64 2, .int .i64 (-v), .slice none 0 0, .int .i64 3, .int .i64 v, .slice none 0 0, .int .i64 4, .int .i64 0, .slice none 0 0, .int .i64 4, .int .i64 v, .slice (some ⟨wc.heap.size + 1, 0, none⟩) 1 1, .int .i64 7, .int .i64 0, .slice (some ⟨wc.heap.size + 1 + 1, 0, none⟩) 1 1, .int .i64 7, .int .i64 v, .slice (some ⟨wc.heap.size + 1 + 1 + 1, 0, none⟩) 2 2, .int .i64 8, .int .i64 (-v), .slice (some ⟨wc.heap.size + 1 + 1 + 1 + 1, 0, none⟩) 1 1, .int .i64 6, .int .i64 (-v), .slice none 0 0] 24) (al (Obj.cells #[.int .i64 x.op, .int .i64 x.val, .slice AX x.args.length cx] 24) (al (Obj.cells #[.int .i64 x.op, .int .i64 x.val, .slice AX x.args.length cx, .int .i64 y.op, .int .i64 y.val, .slice AY y.args.length cy] 24) (al (Obj.cells #[.int .i64 x.op, .int .i64 x.val, .slice AX x.args.length cx] 24) (al (Obj.cells #[.int .i64 x.op, .int .i64 x.val, .slice AX x.args.length cx] 24) r1))))) (al (Obj.cells #[.int .i64 0, .int .i64 0, .slice none 0 0, .int .i64 11, .int .i64 0, .slice none 0 0, .int .i64 1, .int .i64 0, .slice (some ⟨wc.heap.size, 0, none⟩) 1 1, .int .i64 2, .int .i64 (-v), .slice none 0 0, .int .i64 3, .int .i64 v, .slice none 0 0, .int .i64 4, .int .i64 0, .slice none 0 0, .int .i64 4, .int .i64 v, .slice (some ⟨wc.heap.size + 1, 0, none⟩) 1 1, .int .i64 7, .int .i64 0, .slice (some ⟨wc.heap.size + 1 + 1, 0, none⟩) 1 1, .int .i64 7, .int .i64 v, .slice (some ⟨wc.heap.size + 1 + 1 + 1, 0, none⟩) 2 2, .int .i64 8, .int .i64 (-v), .slice (some ⟨wc.heap.size + 1 + 1 + 1 + 1, 0, none⟩) 1 1, .int .i64 6, .int .i64 (-v), .slice none 0 0] 24) (al (Obj.cells #[.int .i64 x.op, .int .i64 x.val, .slice AX x.args.length cx] 24) (al (Obj.cells #[.int .i64 x.op, .int .i64 x.val, .slice AX x.args.length cx, .int .i64 y.op, .int .i64 y.val, .slice AY y.args.length cy] 24) (al (Obj.cells #[.int .i64 x.op, .int .i64 x.val, .slice AX x.args.length cx] 24) r2)))) (al (Obj.cells #[.int .i64 0, .int .i64 0, .slice none 0 0, .int .i64 11, .int .i64 0, .slice none 0 0, .int .i64 1, .int .i64 0, .slice (some ⟨wc.heap.size, 0, none⟩) 1 1, .int .i64 2, .int .i64 (-v), .slice none 0 0, .int .i64 3, .int .i64 v, .slice none 0 0, .int .i64 4, .int .i64 0, .slice none 0 0, .int .i64 4, .int .i64 v, .slice (some ⟨wc.heap.size + 1, 0, none⟩) 1 1, .int .i64 7, .int .i64 0, .slice (some ⟨wc.heap.size + 1 + 1, 0, none⟩) 1 1, .int .i64 7, .int .i64 v, .slice (some ⟨wc.heap.size + 1 + 1 + 1, 0, none⟩) 2 2, .int .i64 8, .int .i64 (-v), .slice (some ⟨wc.heap.size + 1 + 1 + 1 + 1, 0, none⟩) 1 1, .int .i64 6, .int .i64 (-v), .slice none 0 0] 24) (al (Obj.cells #[.int .i64 x.op, .int .i64 x.val, .slice AX x.args.length cx] 24) (al (Obj.cells #[.int .i64 x.op, .int .i64 x.val, .slice AX x.args.length cx, .int .i64 y.op, .int .i64 y.val, .slice AY y.args.length cy] 24) r3))) (al (Obj.cells #[.int .i64 0, .int .i64 0, .slice none 0 0, .int .i64 11, .int .i64 0, .slice none 0 0, .int .i64 1, .int .i64 0, .slice (some ⟨wc.heap.size, 0, none⟩) 1 1, .int .i64 2, .int .i64 (-v), .slice none 0 0, .int .i64 3, .int .i64 v, .slice none 0 0, .int .i64 4, .int .i64 0, .slice none 0 0, .int .i64 4, .int .i64 v, .slice (some ⟨wc.heap.size + 1, 0, none⟩) 1 1, .int .i64 7, .int .i64 0, .slice (some ⟨wc.heap.size + 1 + 1, 0, none⟩) 1 1, .int .i64 7, .int .i64 v, .slice (some ⟨wc.heap.size + 1 + 1 + 1, 0, none⟩) 2 2, .int .i64 8, .int .i64 (-v), .slice (some ⟨wc.heap.size + 1 + 1 + 1 + 1, 0, none⟩) 1 1, .int .i64 6, .int .i64 (-v), .slice none 0 0] 24) (al (Obj.cells #[.int .i64 x.op, .int .i64 x.val, .slice AX x.args.length cx] 24) r4)) (al (Obj.cells #[.int .i64 0, .int .i64 0, .slice none 0 0, .int .i64 11, .int .i64 0, .slice none 0 0, .int .i64 1, .int .i64 0, .slice (some ⟨wc.heap.size, 0, none⟩) 1 1, .int .i64 2, .int .i64 (-v), .slice none 0 0, .int .i64 3, .int .i64 v, .slice none 0 0, .int .i64 4, .int .i64 0, .slice none 0 0, .int .i64 4, .int .i64 v, .slice (some ⟨wc.heap.size + 1, 0, none⟩) 1 1, .int .i64 7, .int .i64 0, .slice (some ⟨wc.heap.size + 1 + 1, 0, none⟩) 1 1, .int .i64 7, .int .i64 v, .slice (some ⟨wc.heap.size + 1 + 1 + 1, 0, none⟩) 2 2, .int .i64 8, .int .i64 (-v), .slice (some ⟨wc.heap.size + 1 + 1 + 1 + 1, 0, none⟩) 1 1, .int .i64 6, .int .i64 (-v), .slice none 0 0] 24) r5)
  have ho : World.ownsRow ((((((wc.alloc (Obj.cells #[.int .i64 x.op, .int .i64 x.val, .slice AX x.args.length cx] 24)).alloc (Obj.cells #[.int .i64 x.op, .int .i64 x.val, .slice AX x.args.length cx] 24)).alloc (Obj.cells #[.int .i64 x.op, .int .i64 x.val, .slice AX x.args.length cx] 24)).alloc (Obj.cells #[.int .i64 x.op, .int .i64 x.val, .slice AX x.args.length cx, .int .i64 y.op, .int .i64 y.val, .slice AY y.args.length cy] 24)).alloc (Obj.cells #[.int .i64 x.op, .int .i64 x.val, .slice AX x.args.length cx] 24)).alloc (Obj.cells #[.int .i64 0, .int .i64 0, .slice none 0 0, .int .i64 11, .int .i64 0, .slice none 0 0, .int .i64 1, .int .i64 0, .slice (some ⟨wc.heap.size, 0, none⟩) 1 1, .int .i64 2, .int .i64 (-v), .slice none 0 0, .int .i64 3, .int .i64 v, .slice none 0 0, .int .i64 4, .int .i64 0, .slice none 0 0, .int .i64 4, .int .i64 v, .slice (some ⟨wc.heap.size + 1, 0, none⟩) 1 1, .int .i64 7, .int .i64 0, .slice (some ⟨wc.heap.size + 1 + 1, 0, none⟩) 1 1, .int .i64 7, .int .i64 v, .slice (some ⟨wc.heap.size + 1 + 1 + 1, 0, none⟩) 2 2, .int .i64 8, .int .i64 (-v), .slice (some ⟨wc.heap.size + 1 + 1 + 1 + 1, 0, none⟩) 1 1, .int .i64 6, .int .i64 (-v), .slice none 0 0] 24)) 0 24 3 (.slice (some ⟨wc.heap.size + 1 + 1 + 1 + 1 + 1, 0, none⟩) (badL x y v).length 11) (badL x y v).length [.int .i64 0, .int .i64 0, .slice none 0 0, .int .i64 11, .int .i64 0, .slice none 0 0, .int .i64 1, .int .i64 0, .slice (some ⟨wc.heap.size, 0, none⟩) 1 1, .int .i64 2, .int .i64 (-v), .slice none 0 0, .int .i64 3, .int .i64 v, .slice none 0 0, .int .i64 4, .int .i64 0, .slice none 0 0, .int .i64 4, .int .i64 v, .slice (some ⟨wc.heap.size + 1, 0, none⟩) 1 1, .int .i64 7, .int .i64 0, .slice (some ⟨wc.heap.size + 1 + 1, 0, none⟩) 1 1, .int .i64 7, .int .i64 v, .slice (some ⟨wc.heap.size + 1 + 1 + 1, 0, none⟩) 2 2, .int .i64 8, .int .i64 (-v), .slice (some ⟨wc.heap.size + 1 + 1 + 1 + 1, 0, none⟩) 1 1, .int .i64 6, .int .i64 (-v), .slice none 0 0] := ⟨rfl, .inr ⟨_, 11, _, rfl, Nat.zero_le _, b6, Nat.le_refl _, by unfold maxLen; omega, rfl, rfl⟩⟩
  refine ⟨(TrS.of_own ho hf f0 f0).tr, ⟨Blk.alloc (Blk.alloc (Blk.alloc (Blk.alloc (Blk.alloc (Blk.alloc hx.1 _) _) _) _) _) _, (((((hx.2.alloc _).alloc _).alloc _).alloc _).alloc _).alloc _⟩, ⟨Blk.alloc (Blk.alloc (Blk.alloc (Blk.alloc (Blk.alloc (Blk.alloc hy.1 _) _) _) _) _) _, (((((hy.2.alloc _).alloc _).alloc _).alloc _).alloc _).alloc _⟩, ?_⟩
  exact (((((hb.alloc g0 _).alloc (by simp; omega) _).alloc (by simp; omega) _).alloc (by simp; omega) _).alloc (by simp; omega) _).alloc (by simp; omega) _
def BadRow (w : World) (s : Nat) (x y : Tm) (AX AY : Option Addr) (cx cy : Nat) (v : Int) (v9 : Value) (Z : World) : Prop := ∃ G, v9 = .slice (some ⟨G, 0, none⟩) 11 11 ∧ Tr Z (.mk 0 0 (badL x y v)) (some ⟨G, 0, none⟩) 11 ∧ Bx Z s x AX cx ∧ Bx Z (s + 1) y AY cy ∧ Below w.heap.size w Z
/-- The cells of two terms. -/
def Six (w : World) (s : Nat) (x : Tm) (AX : Option Addr) (cx G j0 j1 j2 : Nat) (t : Tm) (A : Option Addr) (c : Nat) : Prop := w.cell? ⟨s, 0, none⟩ = some (.int .i64 x.op) ∧ w.cell? ⟨s, 1, none⟩ = some (.int .i64 x.val) ∧ w.cell? ⟨s, 2, none⟩ = some (.slice AX x.args.length cx) ∧ w.cell? ⟨G, j0, none⟩ = some (.int .i64 t.op) ∧ w.cell? ⟨G, j1, none⟩ = some (.int .i64 t.val) ∧ w.cell? ⟨G, j2, none⟩ = some (.slice A t.args.length c)
section
variable {W wx v1 : World} {s : Nat} {x : Tm} {AX : Option Addr} {cx G j0 j1 j2 : Nat} {t : Tm} {A A1 : Option Addr} {c c1 : Nat}
theorem six_of (h : Six W s x AX cx G j0 j1 j2 t A c) (hb : Below W.heap.size W wx) : Six wx s x AX cx G j0 j1 j2 t A c := by
  obtain ⟨h0, h1, h2, h3, h4, h5⟩ := h
  have k : ∀ (a : Addr) (v : Value), W.cell? a = some v → wx.cell? a = some v := fun a v h => (hb.cell (World.block_lt_of_cell? W a h)).trans h
  exact ⟨k _ _ h0, k _ _ h1, k _ _ h2, k _ _ h3, k _ _ h4, k _ _ h5⟩
theorem bv6 (hb : Below W.heap.size W wx) (hS : Six W s x AX cx G j0 j1 j2 t A c) (ht : Tr W t A c) (hf : formsT t = false) :
    Calls Try.prog 27 #[.agg #[.int .i64 t.op, .int .i64 t.val, .slice A t.args.length c]] wx fun e w' => e = .returned (.bool false) ∧ Below W.heap.size W w' ∧ Below wx.heap.size wx w' ∧ Six w' s x AX cx G j0 j1 j2 t A c := by
  refine (pvalid_any t wx A c (ht.bel hb)).mono ?_
  rintro e w' ⟨rfl, hbx⟩
  have hb2 := below_then hb hbx hb.size
  exact ⟨by rw [valid_no hf], hb2, hbx, six_of hS hb2⟩
theorem row6 (hb : Below W.heap.size W v1) (hx : Tr W x AX cx) (ht : Tr W t A c) (e : wx.heap = (v1.alloc (Obj.cells #[.int .i64 x.op, .int .i64 x.val, .slice AX x.args.length cx, .int .i64 t.op, .int .i64 t.val, .slice A t.args.length c] 24)).heap) (o v : Int) (ho : fits o) (hv : fits v) : TrS (fun _ => True) wx (.mk o v [x, t]) (some ⟨v1.heap.size, 0, none⟩) 2 := by
  have h := heap_alloc_new v1 (Obj.cells #[.int .i64 x.op, .int .i64 x.val, .slice AX x.args.length cx, .int .i64 t.op, .int .i64 t.val, .slice A t.args.length c] 24)
  rw [← e] at h
  have k : ∀ {u : Tm} {B : Option Addr} {d : Nat}, Tr W u B d → TrS (fun _ => True) wx u B d := fun hu => ((hu.bel hb).sup.keep fun g hg _ => by rw [e]; exact Below.heap_alloc v1 _ g hg).mono fun _ _ => trivial
  exact TrS.two h trivial (k hx) (k ht) ho hv
theorem bel6 (hb : Below W.heap.size W v1) (z : Obj) (n : Nat) : Below W.heap.size W ((v1.alloc z).drewN n) := below_drewN (hb.alloc hb.size z) n
theorem li6 (hb : Below W.heap.size W v1) (hbx : Below W.heap.size W wx) (hS : Six W s x AX cx G j0 j1 j2 t A c) (hx : Tr W x AX cx) (ht : Tr W t A c) (e : wx.heap = (v1.alloc (Obj.cells #[.int .i64 x.op, .int .i64 x.val, .slice AX x.args.length cx, .int .i64 t.op, .int .i64 t.val, .slice A t.args.length c] 24)).heap) :
    Calls Try.prog 34 #[.slice (some ⟨v1.heap.size, 0, none⟩) 2 2] wx fun e w' => ∃ A1 c1, e = .returned (.agg #[.int .i64 3, .int .i64 0, .slice A1 2 c1]) ∧ Tr w' (.mk 3 0 [x, t]) A1 c1 ∧ Below W.heap.size W w' ∧ Below wx.heap.size wx w' ∧ Six w' s x AX cx G j0 j1 j2 t A c := by
  refine (plist_any _ [x, t] wx (some ⟨v1.heap.size, 0, none⟩) 2 (row6 hb hx ht e 0 0 f0 f0) (by simp)).mono ?_
  rintro e w' ⟨A1, c1, rfl, hl, hbw⟩
  have hb2 := below_then hbx hbw hbx.size
  exact ⟨A1, c1, rfl, hl.tr, hb2, hbw, six_of hS hb2⟩
theorem bl6 (hb : Below W.heap.size W wx) (hS : Six W s x AX cx G j0 j1 j2 t A c) (h : Tr wx (.mk 3 0 [x, t]) A1 c1) (hf : formsT t = false) :
    Calls Try.prog 27 #[.agg #[.int .i64 3, .int .i64 0, .slice A1 2 c1]] wx fun e w' => e = .returned (.bool false) ∧ Below W.heap.size W w' ∧ Below wx.heap.size wx w' ∧ Six w' s x AX cx G j0 j1 j2 t A c := by
  refine (pvalid_any (.mk 3 0 [x, t]) wx A1 c1 h).mono ?_
  rintro e w' ⟨rfl, hbx⟩
  have hb2 := below_then hb hbx hb.size
  exact ⟨by rw [list_no hf], hb2, hbx, six_of hS hb2⟩
theorem sh6 {r : Bool} (hb : Below W.heap.size W wx) (hS : Six W s x AX cx G j0 j1 j2 t A c) {a b : Tm} (h : Tr wx (.mk 5 0 [a, b]) A1 c1) (hf : validT (.mk 5 0 [a, b]) = r) :
    Calls Try.prog 27 #[.agg #[.int .i64 5, .int .i64 0, .slice A1 2 c1]] wx fun e w' => e = .returned (.bool r) ∧ Below W.heap.size W w' ∧ Below wx.heap.size wx w' ∧ Six w' s x AX cx G j0 j1 j2 t A c := by
  refine (pvalid_any (.mk 5 0 [a, b]) wx A1 c1 h).mono ?_
  rintro e w' ⟨rfl, hbx⟩
  have hb2 := below_then hb hbx hb.size
  exact ⟨by rw [hf], hb2, hbx, six_of hS hb2⟩
theorem eq6 {r : Bool} (hb : Below W.heap.size W wx) (hS : Six W s x AX cx G j0 j1 j2 t A c) (hx : Tr W x AX cx) (ht : Tr W t A c) (hr : equT x t = r) :
    Calls Try.prog 14 #[.agg #[.int .i64 x.op, .int .i64 x.val, .slice AX x.args.length cx], .agg #[.int .i64 t.op, .int .i64 t.val, .slice A t.args.length c]] wx fun e w' => e = .returned (.bool r) ∧ Below W.heap.size W w' ∧ Below wx.heap.size wx w' ∧ Six w' s x AX cx G j0 j1 j2 t A c := by
  refine (equal_any x t wx AX A cx c (hx.bel hb) (ht.bel hb)).mono ?_
  rintro e w' ⟨rfl, hbx⟩
  have hb2 := below_then hb hbx hb.size
  exact ⟨by rw [hr], hb2, hbx, six_of hS hb2⟩
end
set_option maxRecDepth 100000 in
set_option maxHeartbeats 4000000 in
theorem termWrong_walk (w : World) (A2 : Option Addr) (len cap : Nat) (h : Byts w A2 len) (hl : len ≤ cap ∧ cap ≤ maxLen) (a1 : Int) (h1 : -9223372036854775808 ≤ a1 ∧ a1 ≤ 9223372036854775807) :
    Calls Try.prog 6 #[.slice A2 len cap, .int .i64 a1] w fun e w' => e = .returned (.bool true) ∧ Below w.heap.size w w' := by
  go_enter Try.func6, Try.ntmps6
  go_wp2_with fail
  refine (awake_any _).mono ?_
  rintro e w1 ⟨rfl, hb1⟩
  have hby : Byts w1 A2 len := by
    intro k hk
    obtain ⟨ad, x, e, hx, hc⟩ := h k hk
    exact ⟨ad, x, e, hx, (hb1.cell (World.block_lt_of_cell? w _ hc)).trans hc⟩
  have B1 := Lib.hid hb1
  have HB := Lib.hid hby
  clear hb1 h hby
  go_wp2_with fail
  refine (new_any A2 len cap 80 _ HB.out hl.1 hl.2 (by omega) (by omega)).mono ?_
  rintro e w2 ⟨gc, q, rfl, hgc, hcod, hq, hb2⟩
  have hgcw : w.heap.size ≤ gc := Nat.le_trans B1.out.size hgc
  have B2 := Lib.hid (below_then B1.out hb2 B1.out.size)
  have C2 := Lib.hid hcod
  have hgl := hcod.lt
  clear hcod hq hb2 hgc
  go_wp2_with fail
  refine (cterm_any 1 gc q 0 w2 2 rfl (by omega) C2.out).mono ?_
  rintro e w5 ⟨x, AX, cx, p5, rfl, hx, hfx, _, hc5, hg5⟩
  have G5 := Lib.hid hg5
  have C5 := Lib.hid hc5
  have HX := Lib.hid hx
  have FX := Lib.hid hfx
  clear hc5 hg5 hx hfx
  go_wp2_with fail
  refine (cterm_any 1 gc q p5 w5 2 rfl (by omega) C5.out).mono ?_
  rintro e w6 ⟨y, AY, cy, p6, rfl, hy, hfy, _, hc6, hg6⟩
  have HX6 := Lib.hid (HX.out.only hg6 (by omega)).tr
  have HY6 := Lib.hid hy.tr
  have FY := Lib.hid hfy
  have B6 := Lib.hid (below_only B2.out (only_trans G5.out hg6) B2.out.size hgcw)
  clear hc6 hg6 hy HX C5 C2 G5 B1 B2 HB hfy
  go_wp2_with fail
  have k1 : Bx ((w6.alloc (Obj.cells #[.int .i64 x.op, .int .i64 x.val, .slice AX x.args.length cx] 24)).alloc (Obj.cells #[.int .i64 y.op, .int .i64 y.val, .slice AY y.args.length cy] 24)) w6.heap.size x AX cx := ⟨Blk.alloc (heap_alloc_new w6 _) _, (HX6.out.alloc _).alloc _⟩
  have k2 : Bx ((w6.alloc (Obj.cells #[.int .i64 x.op, .int .i64 x.val, .slice AX x.args.length cx] 24)).alloc (Obj.cells #[.int .i64 y.op, .int .i64 y.val, .slice AY y.args.length cy] 24)) (w6.heap.size + 1) y AY cy := ⟨by
    have := heap_alloc_new (w6.alloc (Obj.cells #[.int .i64 x.op, .int .i64 x.val, .slice AX x.args.length cx] 24)) (Obj.cells #[.int .i64 y.op, .int .i64 y.val, .slice AY y.args.length cy] 24)
    simp only [World.size_alloc] at this
    exact this, (HY6.out.alloc _).alloc _⟩
  have k3 : TrS (fun g => g < w6.heap.size) ((w6.alloc (Obj.cells #[.int .i64 x.op, .int .i64 x.val, .slice AX x.args.length cx] 24)).alloc (Obj.cells #[.int .i64 y.op, .int .i64 y.val, .slice AY y.args.length cy] 24)) x AX cx := (HX6.out.sup.alloc _).alloc _
  have k4 : TrS (fun g => g < w6.heap.size) ((w6.alloc (Obj.cells #[.int .i64 x.op, .int .i64 x.val, .slice AX x.args.length cx] 24)).alloc (Obj.cells #[.int .i64 y.op, .int .i64 y.val, .slice AY y.args.length cy] 24)) y AY cy := (HY6.out.sup.alloc _).alloc _
  have k5 : Below w.heap.size w ((w6.alloc (Obj.cells #[.int .i64 x.op, .int .i64 x.val, .slice AX x.args.length cx] 24)).alloc (Obj.cells #[.int .i64 y.op, .int .i64 y.val, .slice AY y.args.length cy] 24)) := (B6.out.alloc B6.out.size _).alloc (by have := B6.out.size; simp; omega) _
  have hsw : w.heap.size ≤ w6.heap.size := B6.out.size
  have K := Lib.hid (And.intro k1 (And.intro k2 (And.intro k3 (And.intro k4 k5))))
  clear k1 k2 k3 k4 k5 HX6 HY6 B6
  generalize ((w6.alloc (Obj.cells #[.int .i64 x.op, .int .i64 x.val, .slice AX x.args.length cx] 24)).alloc (Obj.cells #[.int .i64 y.op, .int .i64 y.val, .slice AY y.args.length cy] 24)) = W at *
  generalize w6.heap.size = s at *
  have HA := Lib.hid h1
  clear h1
  refine (mod_any a1 1000 W HA.out (by omega) (by omega)).mono ?_
  rintro e w7 ⟨r, rfl, hr0, hr1, rfl⟩
  have p0 := K.out.1.c0
  have p1 := K.out.1.c1
  have p2 := K.out.1.c2
  have p3 := K.out.2.1.c0
  have p4 := K.out.2.1.c1
  have p5 := K.out.2.1.c2
  go_wp2_with fail
  refine (less_any y x w7 AY AX cy cx K.out.2.1.2 K.out.1.2).mono ?_
  rintro e w8 ⟨rfl, hb8⟩
  replace K := Lib.hid (And.intro (K.out.1.bel hb8) (And.intro (K.out.2.1.bel hb8) (And.intro (K.out.2.2.1.bel hb8) (And.intro (K.out.2.2.2.1.bel hb8) (below_then K.out.2.2.2.2 hb8 K.out.2.2.2.2.size)))))
  clear hb8 p0 p1 p2 p3 p4 p5
  have p0 := K.out.1.c0
  have p1 := K.out.1.c1
  have p2 := K.out.1.c2
  have p3 := K.out.2.1.c0
  have p4 := K.out.2.1.c1
  have p5 := K.out.2.1.c2
  have f0' := K.out.1.1.free 0
  have f1' := K.out.1.1.free 1
  have f2' := K.out.1.1.free 2
  have f3' := K.out.2.1.1.free 0
  have f4' := K.out.2.1.1.free 1
  have f5' := K.out.2.1.1.free 2
  generalize hle : lessT y x = lr
  have HL := Lib.hid hle
  clear hle
  go_upto_if 24 with (fail)
  go_cut [] (fun wx => Two w s wx)
  case first =>
    cases lr
    · go_wp2_with fail
      go_meet
      exact ⟨x, y, AX, AY, cx, cy, K.out.1, K.out.2.1, FX.out, FY.out, HL.out, K.out.2.2.2.2⟩
    · go_wp2_with fail
      go_meet
      exact swap_two K.out.1 K.out.2.1 K.out.2.2.1 K.out.2.2.2.1 FX.out FY.out HL.out K.out.2.2.2.2 hsw
  case rest =>
    clear HL FX FY K p0 p1 p2 p3 p4 p5 f0' f1' f2' f3' f4' f5'
    clear x y
    obtain ⟨x, y, AX, AY, cx, cy, hx, hy, fx, fy, hle, hbw⟩ := hcut
    obtain ⟨v, hv, hv1⟩ : ∃ v : Int, v = 1 + r ∧ 1 ≤ v ∧ v ≤ 1000 := ⟨_, rfl, by omega⟩
    rw [← hv]
    clear hv
    have KX := Lib.hid hx
    have KY := Lib.hid hy
    have KB := Lib.hid hbw
    have FX := Lib.hid fx
    have FY := Lib.hid fy
    have HL := Lib.hid hle
    clear hx hy fx fy hle hbw
    have p0 := KX.out.c0
    have p1 := KX.out.c1
    have p2 := KX.out.c2
    have p3 := KY.out.c0
    have p4 := KY.out.c1
    have p5 := KY.out.c2
    have hsx := KX.out.1.lt
    have hsy := KY.out.1.lt
    have q30 := fun z1 z2 z3 => cell_alloc (o := z3) (cell_alloc (o := z2) (cell_alloc (o := z1) p0))
    have q31 := fun z1 z2 z3 => cell_alloc (o := z3) (cell_alloc (o := z2) (cell_alloc (o := z1) p1))
    have q32 := fun z1 z2 z3 => cell_alloc (o := z3) (cell_alloc (o := z2) (cell_alloc (o := z1) p2))
    have q33 := fun z1 z2 z3 => cell_alloc (o := z3) (cell_alloc (o := z2) (cell_alloc (o := z1) p3))
    have q34 := fun z1 z2 z3 => cell_alloc (o := z3) (cell_alloc (o := z2) (cell_alloc (o := z1) p4))
    have q35 := fun z1 z2 z3 => cell_alloc (o := z3) (cell_alloc (o := z2) (cell_alloc (o := z1) p5))
    have q40 := fun z1 z2 z3 z4 => cell_alloc (o := z4) (q30 z1 z2 z3)
    have q41 := fun z1 z2 z3 z4 => cell_alloc (o := z4) (q31 z1 z2 z3)
    have q42 := fun z1 z2 z3 z4 => cell_alloc (o := z4) (q32 z1 z2 z3)
    go_upto_region 8 with (fail)
    go_cut [9] (BadRow w s x y AX AY cx cy v)
    case first =>
      go_wp2_with fail
      go_meet
      have hbad := bad_world KX.out KY.out hv1 KB.out
      exact ⟨_, rfl, hbad⟩
    case rest =>
    obtain ⟨G, rfl, hbad⟩ := hcut
    have HBAD := Lib.hid hbad
    clear hbad q30 q31 q32 q33 q34 q35 q40 q41 q42 p0 p1 p2 p3 p4 p5 KX KY KB hsx hsy
    generalize wc = Z at *
    go_wp2_with fail
    go_loopw [10] (fun i wr => ∃ k : Nat, k ≤ 11 ∧ i = .int .i64 k ∧ Below Z.heap.size Z wr) (fun i _ => 11 - (intOf i).toNat)
    case atStart => exact ⟨0, by omega, rfl, Below.refl _ _⟩
    case round =>
      obtain ⟨i, hi, rfl, hb⟩ := hrel
      have hx := HBAD.out.2.1.bel hb
      by_cases hi11 : i < 11
      · have t1 : decide ((i : Int) < 11) = true := by simp; omega
        have p5 : (0 : Int) ≤ (i : Int) := by omega
        have p6 : (i : Int) < 11 := by omega
        obtain ⟨g, k, AA, CC, hA, c0, c1, c2, htr⟩ := (HBAD.out.1.bel hb).at i hi11
        injection hA with hA
        injection hA with e1 e2 _
        subst e1; subst e2
        have hno := bad_no (x := x) (y := y) hv1.1 _ (List.getElem_mem (l := badL x y v) hi11)
        simp only [Tm.args_mk] at c0 c1 c2 htr
        generalize (badL x y v)[i] = t at *
        rw [Nat.zero_add] at c0 c1 c2
        have S6 := Lib.hid (show Six wr s x AX cx G (i * 3) (i * 3 + 1) (i * 3 + 2) t AA CC from ⟨hx.c0, hx.c1, hx.c2, c0, c1, c2⟩)
        have HT := Lib.hid htr
        have HX := Lib.hid hx
        have HN := Lib.hid hno
        have Hb := Lib.hid hb
        clear htr hx hno hb
        have p0 := HX.out.c0
        have p1 := HX.out.c1
        have p2 := HX.out.c2
        have n0 := World.new_ne wr _ p0
        have n1 := World.new_ne wr _ c0
        have m1 := Lib.hid (fun d => below_drewN (Below.refl wr.heap.size wr) d)
        have tok1 : 1 = 1 := rfl
        go_upto_region 12 with (fail)
        go_region_held3 (fun w' => w'.cell? ⟨s, 0, none⟩ = some (.int .i64 x.op) ∧ w'.cell? ⟨s, 1, none⟩ = some (.int .i64 x.val) ∧ w'.cell? ⟨s, 2, none⟩ = some (.slice AX x.args.length cx) ∧ w'.cell? ⟨G, i * 3, none⟩ = some (.int .i64 t.op) ∧ w'.cell? ⟨G, i * 3 + 1, none⟩ = some (.int .i64 t.val) ∧ w'.cell? ⟨G, i * 3 + 2, none⟩ = some (.slice AA t.args.length CC)) (go_keep)
          (first
            | (go_at_call 27; have _t := tok1; refine (bv6 (W := wr) ?_ S6.out HT.out HN.out).mono ?_; (exact m1.out 1); rintro e v1 ⟨rfl, hB1, hx1, z0, z1, z2, z3, z4, z5⟩; obtain ⟨hc1, hf1⟩ := bcell hx1; have n2 := World.new_ne v1 _ z0; have n3 := World.new_ne v1 _ z3; have HB1 := Lib.hid hB1; have HX1 := Lib.hid hx1; clear hB1 hx1 tok1 _t)
            | (go_at_call 34; refine (li6 (W := wr) (v1 := v1) HB1.out ?_ S6.out HX.out.2 HT.out rfl).mono ?_; (first | exact HB1.out.alloc HB1.out.size _ | exact bel6 HB1.out _ 1); rintro e v2 ⟨A1, c1, rfl, hl2, hB2, hx2, z0, z1, z2, z3, z4, z5⟩; obtain ⟨hc2, hf2⟩ := bcell hx2; have n4 := World.new_ne v2 _ z0; have n5 := World.new_ne v2 _ z3; have HL2 := Lib.hid hl2; have HB2 := Lib.hid hB2; have HX2 := Lib.hid hx2; clear hl2 hB2 hx2)
            | (go_at_call 27; refine (bl6 (W := wr) HB2.out S6.out HL2.out HN.out).mono ?_; rintro e v3 ⟨rfl, hB3, hx3, z0, z1, z2, z3, z4, z5⟩; have HB3 := Lib.hid hB3; clear hB3 hx3))
        go_wp2_with fail
        go_roundw
        case rel => exact ⟨i + 1, by omega, by go_num, below_then Hb.out HB3.out Hb.out.size⟩
        case measure => simp [intOf]; omega
      · have t1 : decide ((i : Int) < 11) = false := by simp; omega
        have hy := HBAD.out.2.2.1.bel hb
        have hw := below_then HBAD.out.2.2.2 hb HBAD.out.2.2.2.size
        have w1 := shared_yes FX.out FY.out (by omega) HL.out
        have w2 := shared_turned FX.out FY.out (by omega) HL.out
        obtain ⟨r2, hr2⟩ : ∃ r2, equT x y = r2 := ⟨_, rfl⟩
        rw [hr2] at w2
        have W1 := Lib.hid w1
        have W2 := Lib.hid w2
        have R2 := Lib.hid hr2
        have HX := Lib.hid hx
        have HY := Lib.hid hy
        have HW := Lib.hid hw
        have S6 := Lib.hid (show Six wr s x AX cx (s + 1) 0 1 2 y AY cy from ⟨hx.c0, hx.c1, hx.c2, hy.c0, hy.c1, hy.c2⟩)
        clear w1 w2 hr2 hx hy hw hb FX FY HL HBAD
        have p0 := HX.out.c0
        have p1 := HX.out.c1
        have p2 := HX.out.c2
        have p3 := HY.out.c0
        have p4 := HY.out.c1
        have p5 := HY.out.c2
        have n0 := World.new_ne wr _ p0
        have n1 := World.new_ne wr _ p3
        have m1 := Lib.hid (fun d o => below_drewN ((Below.refl wr.heap.size wr).alloc (Nat.le_refl _) o) d)
        have F5 := Lib.hid (show fits 5 from fn (by omega) (by omega))
        have tok1 : 1 = 1 := rfl
        go_upto_region 14 with (fail)
        go_region_held3 (fun w' => w'.cell? ⟨s, 0, none⟩ = some (.int .i64 x.op) ∧ w'.cell? ⟨s, 1, none⟩ = some (.int .i64 x.val) ∧ w'.cell? ⟨s, 2, none⟩ = some (.slice AX x.args.length cx) ∧ w'.cell? ⟨s + 1, 0, none⟩ = some (.int .i64 y.op) ∧ w'.cell? ⟨s + 1, 1, none⟩ = some (.int .i64 y.val) ∧ w'.cell? ⟨s + 1, 2, none⟩ = some (.slice AY y.args.length cy)) (go_keep)
          (first
            | (go_at_call 27; have _t := tok1; refine (sh6 (W := wr) ?_ S6.out ?_ W1.out).mono ?_; (exact m1.out 1 _); (refine TrS.tr (row6 (v1 := wr) (Below.refl _ _) HX.out.2 HY.out.2 ?_ 5 0 F5.out f0)); rfl; rintro e v1 ⟨rfl, hB1, hx1, z0, z1, z2, z3, z4, z5⟩; obtain ⟨hc1, hf1⟩ := bcell hx1; have n2 := World.new_ne v1 _ z0; have n3 := World.new_ne v1 _ z3; have HB1 := Lib.hid hB1; have HX1 := Lib.hid hx1; clear hB1 hx1 tok1 _t)
            | (go_at_call 27; refine (sh6 (W := wr) ?_ S6.out ?_ W2.out).mono ?_; (first | exact HB1.out.alloc HB1.out.size _ | exact bel6 HB1.out _ 1); (refine TrS.tr (row6 (v1 := v1) HB1.out HY.out.2 HX.out.2 ?_ 5 0 F5.out f0)); rfl; rintro e v2 ⟨rfl, hB2, hx2, z0, z1, z2, z3, z4, z5⟩; obtain ⟨hc2, hf2⟩ := bcell hx2; have n4 := World.new_ne v2 _ z0; have n5 := World.new_ne v2 _ z3; have HB2 := Lib.hid hB2; have HX2 := Lib.hid hx2; clear hB2 hx2)
            | (go_at_call 14; refine (eq6 (W := wr) HB2.out S6.out HX.out.2 HY.out.2 R2.out).mono ?_; rintro e v3 ⟨rfl, hB3, hx3, z0, z1, z2, z3, z4, z5⟩; have HB3 := Lib.hid hB3; clear hB3 hx3))
        cases r2 <;>
        (go_wp2_with fail
         exact bodyPost_ret (v := .bool true) (by simp [results, Try.results6, go_sem]) rfl ⟨rfl, below_then HW.out HB3.out HW.out.size⟩)
end Go.Proofs.Ytokiodjdonbipaa.termWrong
