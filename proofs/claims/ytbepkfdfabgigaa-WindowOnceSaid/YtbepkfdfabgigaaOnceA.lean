/-
  What the law WindowOnce keeps: the window, the choices and the list of the numbers that were accepted; and the plain law that a number is accepted exactly if it is not known.
-/
import Derived.Test.YtbepkfdfabgigaaWinF
import Derived.Deep.AppendLies
namespace Go.Proofs.Ytbepkfdfabgigaa
open Go.RowKit
set_option linter.unusedVariables false
/-- The accepted numbers and the window's bits. -/
def Seen (S T : Nat) (B : Nat → Bool) (xs : List Nat) : Prop := (∀ m, m ∈ xs → m ≤ T) ∧ ∀ m, 0 < m → m ≤ T → T - m < S → (B (T - m) = true ↔ m ∈ xs)
theorem seen_chk {S T N : Nat} {B : Nat → Bool} {xs : List Nat} (h : Seen S T B xs) : chk S T B N = 0 ↔ ¬ (N = 0 ∨ N + S ≤ T ∨ N ∈ xs) := by
  constructor
  · intro hc
    rcases chk_zero hc with ⟨h0, h1 | ⟨h1, h2, h3⟩⟩
    · rintro (h4 | h4 | h4)
      · omega
      · omega
      · have := h.1 N h4; omega
    · rintro (h4 | h4 | h4)
      · omega
      · omega
      · rw [(h.2 N h0 h1 h2).2 h4] at h3; cases h3
  · intro hn
    have h0 : ¬ N = 0 := fun e => hn (.inl e)
    have h1 : ¬ N + S ≤ T := fun e => hn (.inr (.inl e))
    have h2 : ¬ N ∈ xs := fun e => hn (.inr (.inr e))
    unfold chk
    rw [if_neg h0]
    by_cases hT : T < N
    · rw [if_pos hT]
    · rw [if_neg hT, if_neg (by omega), if_neg (fun hb => h2 ((h.2 N (by omega) (by omega) (by omega)).1 hb))]
theorem seen_acc {S T N : Nat} {B : Nat → Bool} {xs : List Nat} (h : Seen S T B xs) (hc : chk S T B N = 0) : Seen S (accT S T B N) (accB S T B N) (xs ++ [N]) := by
  have hT : accT S T B N = max T N := by unfold accT; rw [if_pos hc]
  rw [hT]
  refine ⟨fun m hm => ?_, fun m h0 h1 h2 => ?_⟩
  · rcases List.mem_append.1 hm with hm | hm
    · have := h.1 m hm; omega
    · have : m = N := by simpa using hm
      omega
  · unfold accB
    rw [if_pos hc, decide_eq_true h2, Bool.true_and, Bool.or_eq_true, Bool.and_eq_true, decide_eq_true_iff, decide_eq_true_iff, List.mem_append, List.mem_singleton]
    by_cases hm : m ≤ T
    · have e : max T N - m - (max T N - T) = T - m := by omega
      rw [e, h.2 m h0 hm (by omega)]
      constructor
      · rintro (⟨_, hx⟩ | hx)
        · exact .inl hx
        · exact .inr (by omega)
      · rintro (hx | hx)
        · exact .inl ⟨by omega, hx⟩
        · exact .inr (by omega)
    · constructor
      · rintro (⟨hx, _⟩ | hx)
        · omega
        · exact .inr (by omega)
      · rintro (hx | hx)
        · have := h.1 m hx; omega
        · exact .inr (by omega)
theorem seen_nil (S : Nat) : Seen S 0 (fun _ => false) [] := ⟨fun m hm => (by cases hm), fun m h0 h1 => (by omega)⟩
theorem Cod.kept {w w' : World} {gc n p : Nat} {row : Option Nat} (h : Cod w gc n p) (hg : w.grownBy w' row) (hne : some gc ≠ row) (hx : ∀ b, row = some b → ∃ x, w.cell? ⟨b, 0, none⟩ = some (.int .u64 x)) : Cod w' gc n p := by
  obtain ⟨h1, h2, A, cap, h3, hcap, h4⟩ := h
  refine ⟨h1, h2, A, cap, h3.grown hg hne, hcap, fun k hk => ?_⟩
  obtain ⟨ga, x, e, hn, hxx, hc⟩ := h4 k hk
  obtain ⟨ga', x', e', _, _, hc'⟩ := h4 0 (by omega)
  rw [e] at e'
  injection e' with e'
  injection e' with e'
  subst e'
  refine ⟨ga, x, e, hn, hxx, (World.cell?_of_block (a := ⟨ga, k, none⟩) (hg.block ga (World.block_lt_of_cell? w ⟨ga, k, none⟩ hc) ?_)).trans hc⟩
  intro hr
  obtain ⟨y, hy⟩ := hx ga hr.symm
  rw [hc'] at hy
  cases hy
theorem WRow.kept {w w' : World} {g n S : Nat} {B : Nat → Bool} {row : Option Nat} (h : WRow w g n S B) (hg : w.grownBy w' row) (hne : some g ≠ row) : WRow w' g n S B := by
  obtain ⟨W, hn, hr, h⟩ := h
  exact ⟨W, hn, hr.grown hg hne, h⟩
/-- The numbers as cells. -/
def cellsOf (xs : List Nat) : List Value := xs.map fun m => .int .u64 (m : Nat)
/-- The window in block bw, the choices in block gc, the list in v. -/
def Sit (w : World) (base gc q bw s p T : Nat) (B : Nat → Bool) (xs : List Nat) (v : Value) (u : World) : Prop :=
  gc < base ∧ bw < base ∧ w.heap.size ≤ gc ∧ w.heap.size ≤ bw ∧ bw ≠ gc ∧ 1 ≤ s ∧ base ≤ u.heap.size ∧
  Cod u gc q p ∧ Below w.heap.size w u ∧ (∃ g n c : Nat, Blk u bw 30 #[.int .i64 (s : Nat), .int .u64 (T : Nat), .slice (some ⟨g, 0, none⟩) n c] ∧ WRow u g n s B ∧ v.ownBlock ≠ some g) ∧
  u.ownsRow base 22 1 v xs.length (cellsOf xs) ∧ (xs = [] → v = .slice none 0 0)
section
variable {w u u' : World} {base gc q bw s p T : Nat} {B : Nat → Bool} {xs : List Nat} {v : Value}
theorem Sit.next {p' : Nat} (h : Sit w base gc q bw s p T B xs v u) (hc : Cod u' gc q p') (hg : u.grownBy u' (some gc)) : Sit w base gc q bw s p' T B xs v u' := by
  obtain ⟨h1, h2, h3, h4, h5, h6, h7, hcod, hb, ⟨g, n, c, hk, hr, hne⟩, ho, hn⟩ := h
  refine ⟨h1, h2, h3, h4, h5, h6, Nat.le_trans h7 hg.size, hc, below_only hb hg hb.size h3, ⟨g, n, c, hk.grown hg (by simp [h5]), hr.only h6 hcod hg, hne⟩, ho.kept hg (.inr ?_), hn⟩
  intro e
  have := ho.lt gc e
  omega
theorem Sit.below (h : Sit w base gc q bw s p T B xs v u) (hg : Below u.heap.size u u') : Sit w base gc q bw s p T B xs v u' := by
  obtain ⟨h1, h2, h3, h4, h5, h6, h7, hcod, hb, ⟨g, n, c, hk, hr, hne⟩, ho, hn⟩ := h
  exact ⟨h1, h2, h3, h4, h5, h6, Nat.le_trans h7 hg.size, hcod.below hg, hb.trans (hg.mono hb.size), ⟨g, n, c, hk.below hg hk.lt, hr.below hg, hne⟩, ho.kept (only_of_below hg none) (by
    rcases hv : v.ownBlock with _ | k
    · exact .inl rfl
    · exact .inr (by simp)), hn⟩
theorem Sit.alloc (h : Sit w base gc q bw s p T B xs v u) (o : Obj) : Sit w base gc q bw s p T B xs v (u.alloc o) := h.below ((Below.refl _ _).alloc (Nat.le_refl _) o)
theorem Sit.drewN (h : Sit w base gc q bw s p T B xs v u) (d : Nat) : Sit w base gc q bw s p T B xs v (u.drewN d) := h.below (below_drewN (Below.refl _ _) d)
theorem Sit.at (h : Sit w base gc q bw s p T B xs v u) : atOf u gc = p := h.2.2.2.2.2.2.2.1.atOf
theorem Sit.own (h : Sit w base gc q bw s p T B xs v u) : u.ownsRow base 22 1 v xs.length (cellsOf xs) := h.2.2.2.2.2.2.2.2.2.2.1
theorem Sit.bas (h : Sit w base gc q bw s p T B xs v u) : base ≤ u.heap.size := h.2.2.2.2.2.2.1
/-- The new window is stored. -/
theorem Sit.stored {T' g' n' c' : Nat} {B' : Nat → Bool} (h : Sit w base gc q bw s p T B xs v u) (hr : WRow u g' n' s B') (hne : v.ownBlock ≠ some g') :
    Sit w base gc q bw s p T' B' xs v (((u.setCell ⟨bw, 0, none⟩ (.int .i64 (s : Nat))).setCell ⟨bw, 1, none⟩ (.int .u64 (T' : Nat))).setCell ⟨bw, 2, none⟩ (.slice (some ⟨g', 0, none⟩) n' c')) := by
  obtain ⟨h1, h2, h3, h4, h5, h6, h7, hcod, hb, ⟨g, n, c, hk, hrr, _⟩, ho, hn⟩ := h
  have hgb : g' ≠ bw := by
    rintro rfl
    obtain ⟨x, hx⟩ := hr.cell h6
    have := (hk.cell 0).symm.trans hx
    simp at this
  refine ⟨h1, h2, h3, h4, h5, h6, by simpa [World.setCell] using h7, hcod.store hk (by intro _ h; cases h) (by intro _ h; cases h) h5, ((hb.setCell (p := ⟨bw, 0, none⟩) h4 _).setCell (p := ⟨bw, 1, none⟩) h4 _).setCell (p := ⟨bw, 2, none⟩) h4 _,
    ⟨g', n', c', ((hk.put 0 _).put 1 _).put 2 _, ((hr.far hgb 0 _).far hgb 1 _).far hgb 2 _, hne⟩, ?_, hn⟩
  exact ownsRow_setCell_below (ownsRow_setCell_below (ownsRow_setCell_below ho h2 _) h2 _) h2 _
/-- A number is appended. -/
theorem Sit.appended {N g7 c7 : Nat} (h : Sit w base gc q bw s p T B xs v u) (ho7 : u'.ownsRow base 22 1 (.slice (some ⟨g7, 0, none⟩) (xs.length + 1) c7) (xs.length + 1) (cellsOf xs ++ [.int .u64 (N : Nat)]))
    (hg : u.grownBy u' v.ownBlock) (hat : v.ownBlock = some g7 ∨ g7 = u.heap.size) : Sit w base gc q bw s p T B (xs ++ [N]) (.slice (some ⟨g7, 0, none⟩) (xs.length + 1) c7) u' := by
  obtain ⟨h1, h2, h3, h4, h5, h6, h7, hcod, hb, ⟨g, n, c, hk, hr, hne⟩, ho, hn⟩ := h
  have hlt := ho.lt
  have hgn : some g ≠ v.ownBlock := fun e => hne e.symm
  have hgcn : some gc ≠ v.ownBlock := fun e => by have := hlt gc e.symm; omega
  have hbwn : some bw ≠ v.ownBlock := fun e => by have := hlt bw e.symm; omega
  refine ⟨h1, h2, h3, h4, h5, h6, Nat.le_trans h7 hg.size, hcod.kept hg hgcn ?_, hb.grown hg hb.size (fun k hk => by have := (hlt k hk).1; omega), ⟨g, n, c, hk.grown hg hbwn, hr.kept hg hgn, ?_⟩, ?_, fun e => by simp at e⟩
  · intro b hb'
    have hx := ho.cells hb' 0
    rcases xs with _ | ⟨m, xs⟩
    · rw [hn rfl] at hb'; cases hb'
    · exact ⟨m, by simpa [cellsOf, Addr.add] using hx (.int .u64 (m : Nat)) rfl⟩
  · intro e
    have e : g7 = g := by simpa [Value.ownBlock] using e
    subst e
    rcases hat with hat | hat
    · exact hne hat
    · have := hr.lt h6; omega
  · simpa [cellsOf] using ho7
end
theorem wrow_kept_own {u u' : World} {v : Value} {g n S : Nat} {B : Nat → Bool} (h : WRow u g n S B) (hg : u.grownBy u' v.ownBlock) (hne : v.ownBlock ≠ some g) : WRow u' g n S B := h.kept hg (fun e => hne e.symm)
/-- In the midst of the acceptance: the new window lies in the variable bn. -/
def Mid (w : World) (base gc q bw s p T : Nat) (B : Nat → Bool) (xs : List Nat) (v : Value) (bn T5 g5 n5 c5 : Nat) (B5 : Nat → Bool) (u : World) : Prop :=
  Sit w base gc q bw s p T B xs v u ∧ WRow u g5 n5 s B5 ∧ v.ownBlock ≠ some g5 ∧ base ≤ bn ∧ v.ownBlock ≠ some bn ∧ Blk u bn 30 #[.int .i64 (s : Nat), .int .u64 (T5 : Nat), .slice (some ⟨g5, 0, none⟩) n5 c5]
section
variable {w u u' : World} {base gc q bw s p T bn T5 g5 n5 c5 : Nat} {B B5 : Nat → Bool} {xs : List Nat} {v : Value}
theorem Mid.below (h : Mid w base gc q bw s p T B xs v bn T5 g5 n5 c5 B5 u) (hg : Below u.heap.size u u') : Mid w base gc q bw s p T B xs v bn T5 g5 n5 c5 B5 u' := by
  obtain ⟨h1, h2, h3, h4, h5, h6⟩ := h
  exact ⟨h1.below hg, h2.below hg, h3, h4, h5, h6.below hg h6.lt⟩
theorem Mid.alloc (h : Mid w base gc q bw s p T B xs v bn T5 g5 n5 c5 B5 u) (o : Obj) : Mid w base gc q bw s p T B xs v bn T5 g5 n5 c5 B5 (u.alloc o) := h.below ((Below.refl _ _).alloc (Nat.le_refl _) o)
theorem Mid.drew (h : Mid w base gc q bw s p T B xs v bn T5 g5 n5 c5 B5 u) : Mid w base gc q bw s p T B xs v bn T5 g5 n5 c5 B5 u.drew := h.below (below_drewN (Below.refl _ _) 1)
theorem Mid.stored (h : Mid w base gc q bw s p T B xs v bn T5 g5 n5 c5 B5 u) : Mid w base gc q bw s p T5 B5 xs v bn T5 g5 n5 c5 B5 (((u.setCell ⟨bw, 0, none⟩ (.int .i64 (s : Nat))).setCell ⟨bw, 1, none⟩ (.int .u64 (T5 : Nat))).setCell ⟨bw, 2, none⟩ (.slice (some ⟨g5, 0, none⟩) n5 c5)) := by
  obtain ⟨h1, h2, h3, h4, h5, h6⟩ := h
  have hs := h1.stored (T' := T5) (c' := c5) h2 h3
  obtain ⟨k1, k2, _, _, _, k6, _, _, _, ⟨g, n, c, hk, _, _⟩, _, _⟩ := h1
  have hgb : g5 ≠ bw := by
    rintro rfl
    obtain ⟨x, hx⟩ := h2.cell k6
    have := (hk.cell 0).symm.trans hx
    simp at this
  have hnb : bn ≠ bw := by omega
  exact ⟨hs, ((h2.far hgb 0 _).far hgb 1 _).far hgb 2 _, h3, h4, h5, ((h6.far (p := ⟨bw, 0, none⟩) hnb _).far (p := ⟨bw, 1, none⟩) hnb _).far (p := ⟨bw, 2, none⟩) hnb _⟩
theorem Mid.appended {N g7 c7 : Nat} (h : Mid w base gc q bw s p T B xs v bn T5 g5 n5 c5 B5 u) (ho7 : u'.ownsRow base 22 1 (.slice (some ⟨g7, 0, none⟩) (xs.length + 1) c7) (xs.length + 1) (cellsOf xs ++ [.int .u64 (N : Nat)]))
    (hg : u.grownBy u' v.ownBlock) (hat : v.ownBlock = some g7 ∨ g7 = u.heap.size) : Mid w base gc q bw s p T B (xs ++ [N]) (.slice (some ⟨g7, 0, none⟩) (xs.length + 1) c7) bn T5 g5 n5 c5 B5 u' := by
  obtain ⟨h1, h2, h3, h4, h5, h6⟩ := h
  have k6 : 1 ≤ s := h1.2.2.2.2.2.1
  have hl := h2.lt k6
  have hb := h6.lt
  refine ⟨h1.appended ho7 hg hat, h2.kept hg (fun e => h3 e.symm), ?_, h4, ?_, h6.grown hg (fun e => h5 e.symm)⟩
  · intro e
    have e : g7 = g5 := by simpa [Value.ownBlock] using e
    subst e
    rcases hat with hat | hat
    · exact h3 hat
    · omega
  · intro e
    have e : g7 = bn := by simpa [Value.ownBlock] using e
    subst e
    rcases hat with hat | hat
    · exact h5 hat
    · omega
theorem Mid.boxn (h : Mid w base gc q bw s p T B xs v bn T5 g5 n5 c5 B5 u) : u.cell? ⟨bn, 0, none⟩ = some (.int .i64 (s : Nat)) ∧ u.cell? ⟨bn, 1, none⟩ = some (.int .u64 (T5 : Nat)) ∧ u.cell? ⟨bn, 2, none⟩ = some (.slice (some ⟨g5, 0, none⟩) n5 c5) := by
  obtain ⟨h1, h2, h3, h4, h5, h6⟩ := h
  exact ⟨h6.cell 0, h6.cell 1, h6.cell 2⟩
/-- The window's variable may be read and written. -/
theorem Sit.box (h : Sit w base gc q bw s p T B xs v u) : ∃ g n c : Nat, (u.cell? ⟨bw, 0, none⟩ = some (.int .i64 (s : Nat)) ∧ u.cell? ⟨bw, 1, none⟩ = some (.int .u64 (T : Nat)) ∧ u.cell? ⟨bw, 2, none⟩ = some (.slice (some ⟨g, 0, none⟩) n c)) ∧ u.frozen? ⟨bw, 0, none⟩ = false ∧ u.frozen? ⟨bw, 1, none⟩ = false ∧ u.frozen? ⟨bw, 2, none⟩ = false := by
  obtain ⟨_, _, _, _, _, _, _, _, _, ⟨g, n, c, hk, _, _⟩, _, _⟩ := h
  exact ⟨g, n, c, ⟨hk.cell 0, hk.cell 1, hk.cell 2⟩, hk.free 0, hk.free 1, hk.free 2⟩
end
theorem Blk.drew {w : World} {g : Nat} {t : TypeId} {cs : Array Value} (h : Blk w g t cs) : Blk w.drew g t cs := h
theorem stored_lit (W : World) (bw : Nat) (a b c : Value) (cs : Array Value) (t : TypeId) : Blk ((((W.setCell ⟨bw, 0, none⟩ a).setCell ⟨bw, 1, none⟩ b).setCell ⟨bw, 2, none⟩ c).alloc (Obj.cells cs t)) W.heap.size t cs := by
  have e : (((W.setCell ⟨bw, 0, none⟩ a).setCell ⟨bw, 1, none⟩ b).setCell ⟨bw, 2, none⟩ c).heap.size = W.heap.size := by simp [World.setCell]
  have h := heap_alloc_new (((W.setCell ⟨bw, 0, none⟩ a).setCell ⟨bw, 1, none⟩ b).setCell ⟨bw, 2, none⟩ c) (Obj.cells cs t)
  rw [e] at h
  exact h
end Go.Proofs.Ytbepkfdfabgigaa
