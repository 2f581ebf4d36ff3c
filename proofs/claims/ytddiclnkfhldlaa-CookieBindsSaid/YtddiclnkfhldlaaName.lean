/-
  The contracts of the names that a law draws, and of the chapter's sanity check.
  Conditions: the choices lie as New lays them.
-/
import Derived.Test.YtddiclnkfhldlaaEqD
namespace Go.Proofs.Ytddiclnkfhldlaa
open Go.RowKit Go.Sort
set_option linter.unusedVariables false
theorem only_far {a w : World} {g : Nat} (h : a.grownBy w (some g)) {p : Addr} (hp : p.block = g ∨ a.heap.size ≤ p.block) (u : Value) : a.grownBy (w.setCell p u) (some g) :=
  ⟨h.os, h.tape, h.output, by simpa [World.setCell] using h.size, fun i hi hne => (Below.heap_setCell w p u i (by
    rintro rfl
    rcases hp with hp | hp
    · exact hne (by rw [hp])
    · omega)).trans (h.block i hi hne)⟩
/-- No cell of a block is a byte. -/
def NoByte (cs : Array Value) : Prop := ∀ (k : Nat) (x : Int), cs[k]? ≠ some (.int .u8 x)
theorem NoByte.put {cs : Array Value} (h : NoByte cs) (i : Nat) {u : Value} (hu : ∀ x, u ≠ .int .u8 x) : NoByte (cs.setIfInBounds i u) := by
  intro k x hk
  rw [Array.getElem?_setIfInBounds] at hk
  split at hk
  · split at hk
    · injection hk with hk; exact hu x hk
    · cases hk
  · exact h k x hk
theorem NoByte.three {a b c : Value} (ha : ∀ x, a ≠ .int .u8 x) (hb : ∀ x, b ≠ .int .u8 x) (hc : ∀ x, c ≠ .int .u8 x) : NoByte #[a, b, c] := by
  intro k x hk
  match k with
  | 0 => simp at hk; exact ha x hk
  | 1 => simp at hk; exact hb x hk
  | 2 => simp at hk; exact hc x hk
  | k + 3 => simp at hk
/-- The choices stay behind a store into a block without bytes. -/
theorem Cod.put {w : World} {gc : Nat} {n : Ls} {p g : Nat} {t : TypeId} {cs : Array Value} (h : Cod w gc n p) (hb : Blk w g t cs) (hne : g ≠ gc) (hcs : NoByte cs) (i : Nat) (u : Value) : Cod (w.setCell ⟨g, i, none⟩ u) gc n p := by
  obtain ⟨h1, h2, h3, hcap, h4⟩ := h
  refine ⟨h1, h2, h3.far (fun e => hne e.symm) u, hcap, fun k hk => ?_⟩
  obtain ⟨ga, x, e, hne', hx, hT, hc⟩ := h4 k hk
  have hg : ga ≠ g := by
    rintro rfl
    have := (hb.cell k).symm.trans hc
    exact hcs k _ this
  refine ⟨ga, x, e, hne', hx, hT.same (Below.heap_setCell w ⟨g, i, none⟩ _ ga (by simpa using hg)), ?_⟩
  rw [World.cell?_setCell_other w ⟨g, i, none⟩ ⟨ga, k, none⟩ u (by intro e; injection e with e; exact hg e.symm)]
  exact hc
theorem rname_any (o k : Nat) (w : World) (ho : o ≤ 1000) (hk : k ≤ 1000000) :
    Calls Try.prog 11 #[.int .i64 (o : Nat), .int .i64 (k : Nat)] w fun e w' => e = .returned (.agg #[.int .i64 2, .int .i64 ((o * 1048576 + k : Nat) : Int), .slice none 0 0]) ∧ Below w.heap.size w w' := by
  go_enter Try.func11, Try.ntmps11
  go_wp2_with fail
  have e1 : (o : Int) * 1048576 + (k : Int) = ((o * 1048576 + k : Nat) : Int) := by omega
  rw [e1]
  exact bodyPost_ret (v := .agg #[.int .i64 2, .int .i64 ((o * 1048576 + k : Nat) : Int), .slice none 0 0]) (by simp [results, Try.results11, go_sem]) rfl ⟨rfl, (Below.refl _ _).alloc (Nat.le_refl _) _⟩
def NamePost (w : World) (gc : Nat) (n : Ls) (p : Nat) (e : Ending) (w' : World) : Prop :=
  ∃ o k p' : Nat, e = .returned (.agg #[.int .i64 2, .int .i64 ((o * 1048576 + k : Nat) : Int), .slice none 0 0]) ∧ o < 3 ∧ 1 ≤ k ∧ k ≤ 5 ∧ Cod w' gc n p' ∧ p ≤ p' ∧ w.grownBy w' (some gc)
theorem cname_any (gc : Nat) (n : Ls) (p : Nat) (w : World) (h : Cod w gc n p) :
    Calls Try.prog 52 #[.pointer (some ⟨gc, 0, none⟩)] w (NamePost w gc n p) := by
  have hz : Blk (w.alloc (Obj.cells #[.int .i64 0, .int .i64 0, .slice none 0 0] 30)) w.heap.size 30 #[.int .i64 0, .int .i64 0, .slice none 0 0] := heap_alloc_new w _
  have hlt := h.lt
  have H := Lib.hid h
  have HZ := Lib.hid hz
  clear h hz
  go_enter Try.func52, Try.ntmps52
  go_wp2_with fail
  refine (next_any gc n p 3 _ (H.out.alloc _) (by omega) (by omega)).mono ?_
  rintro e w1 ⟨o, p1, rfl, ho, hc1, hp1, _, hg1⟩
  have HC1 := Lib.hid hc1
  have HG1 := Lib.hid hg1
  have HZ1 := Lib.hid (HZ.out.grown hg1 (by simp; omega))
  clear hc1 hg1
  go_wp2_with fail
  refine (next_any gc n p1 5 _ HC1.out (by omega) (by omega)).mono ?_
  rintro e w2 ⟨k, p2, rfl, hk, hc2, hp2, _, hg2⟩
  have HC2 := Lib.hid hc2
  have HG2 := Lib.hid (only_trans HG1.out hg2)
  have HZ2 := Lib.hid (HZ1.out.grown hg2 (by simp; omega))
  clear hc2 hg2
  have e1 : ((k + 1 : Nat) : Int) = 1 + (k : Int) := by omega
  have hn := fun W => rname_any o (k + 1) W (by omega) (by omega)
  rw [e1] at hn
  have HN := Lib.hid hn
  clear hn e1
  go_wp2_with fail
  refine (HN.out _).mono ?_
  rintro e w3 ⟨rfl, hb3⟩
  have hz3 := HZ2.out.below hb3 (HZ2.out.lt)
  have c0 : w3.cell? ⟨w.heap.size, 0, none⟩ = some (.int .i64 0) := hz3.cell 0
  have c1 : w3.cell? ⟨w.heap.size, 1, none⟩ = some (.int .i64 0) := hz3.cell 1
  have c2 : w3.cell? ⟨w.heap.size, 2, none⟩ = some (.slice none 0 0) := hz3.cell 2
  have f0 := hz3.free 0
  have f1 := hz3.free 1
  have f2 := hz3.free 2
  have HB3 := Lib.hid hb3
  have HZ3 := Lib.hid hz3
  clear hb3 hz3
  go_wp2_with fail
  have hz4 := ((HZ3.out.put 0 (.int .i64 2)).put 1 (.int .i64 ((o : Int) * 1048576 + ((k : Int) + 1)))).put 2 (.slice none 0 0)
  simp only [List.setIfInBounds_toArray, List.set_cons_zero, List.set_cons_succ] at hz4
  have hg4 : w.grownBy (((w3.setCell ⟨w.heap.size, 0, none⟩ (.int .i64 2)).setCell ⟨w.heap.size, 1, none⟩ (.int .i64 ((o : Int) * 1048576 + ((k : Int) + 1)))).setCell ⟨w.heap.size, 2, none⟩ (.slice none 0 0)) (some gc) := only_far (only_far (only_far (only_trans (only_trans (only_alloc (only_refl w _) _) HG2.out) (only_of_below HB3.out _)) (.inr (by simp)) _) (.inr (by simp)) _) (.inr (by simp)) _
  have hc4 : Cod (((w3.setCell ⟨w.heap.size, 0, none⟩ (.int .i64 2)).setCell ⟨w.heap.size, 1, none⟩ (.int .i64 ((o : Int) * 1048576 + ((k : Int) + 1)))).setCell ⟨w.heap.size, 2, none⟩ (.slice none 0 0)) gc n p2 := by
    have z1 := HZ3.out.put 0 (.int .i64 2)
    have z2 := z1.put 1 (.int .i64 ((o : Int) * 1048576 + ((k : Int) + 1)))
    have n0 : NoByte #[Value.int .i64 0, .int .i64 0, .slice none 0 0] := NoByte.three (fun x h => by cases h) (fun x h => by cases h) (fun x h => by cases h)
    have n1 := n0.put 0 (u := .int .i64 2) (fun x h => by cases h)
    have n2 := n1.put 1 (u := .int .i64 ((o : Int) * 1048576 + ((k : Int) + 1))) (fun x h => by cases h)
    have hne : w.heap.size ≠ gc := by omega
    exact (((HC2.out.below HB3.out).put HZ3.out hne n0 0 _).put z1 hne n1 1 _).put z2 hne n2 2 _
  generalize ((w3.setCell ⟨w.heap.size, 0, none⟩ (.int .i64 2)).setCell ⟨w.heap.size, 1, none⟩ (.int .i64 ((o : Int) * 1048576 + ((k : Int) + 1)))).setCell ⟨w.heap.size, 2, none⟩ (.slice none 0 0) = w4 at *
  have d0 : w4.cell? ⟨w.heap.size, 0, none⟩ = some (.int .i64 2) := hz4.cell 0
  have d1 : w4.cell? ⟨w.heap.size, 1, none⟩ = some (.int .i64 ((o : Int) * 1048576 + ((k : Int) + 1))) := hz4.cell 1
  have d2 : w4.cell? ⟨w.heap.size, 2, none⟩ = some (.slice none 0 0) := hz4.cell 2
  refine bodyPost_ret (v := .agg #[.int .i64 2, .int .i64 ((o * 1048576 + (k + 1) : Nat) : Int), .slice none 0 0]) (by simp [results, Try.results52, go_sem, d0, d1, d2]) rfl ?_
  exact ⟨o, k + 1, p2, rfl, by omega, by omega, by omega, hc4, by omega, hg4⟩
end Go.Proofs.Ytddiclnkfhldlaa
