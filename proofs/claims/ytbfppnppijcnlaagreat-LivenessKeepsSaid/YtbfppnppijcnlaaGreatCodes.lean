/-
  Words for memory, without a program: a block that is known whole, and which blocks a call leaves as they were.
  Conditions: none.
-/
import Derived.Below
import Derived.Laws.OwnMore
import Derived.Laws.Rows
import Derived.Deep.Draws
import Derived.Lib.Hide
import Derived.Test.YtbfppnppijcnlaaGreatProg
import Derived.WalkKit
import Derived.WalkLawsBesides
import Derived.WalkSpells
import Derived.Outline
import Derived.BigQuiet
import Derived.Deep.QuietTactic
import Derived.OwnWalk
import Derived.Laws.AppendOwn
namespace Go.Proofs.YtbfppnppijcnlaaGreat
open Go.RowKit
set_option linter.unusedVariables false

theorem ret_int {k : IntKind} {a b : Int} (h : a = b) : Ending.returned (.int k a) = .returned (.int k b) := by rw [h]
theorem ret_bool {a b : Bool} (h : a = b) : Ending.returned (.bool a) = .returned (.bool b) := by rw [h]
/-- Block g holds just the cells cs of element type t; it may be written. -/
def Blk (w : World) (g : Nat) (t : TypeId) (cs : Array Value) : Prop := w.heap[g]? = some (.cells cs t (0, 0))
section
variable {w w' : World} {g : Nat} {t : TypeId} {cs : Array Value}
theorem Blk.lt (h : Blk w g t cs) : g < w.heap.size := by
  unfold Blk at h
  exact (Array.getElem?_eq_some_iff.1 h).1
theorem Blk.cell (h : Blk w g t cs) (i : Nat) : w.cell? ⟨g, i, none⟩ = cs[i]? := cell_of_row w g i cs t (0, 0) h
theorem Blk.free (h : Blk w g t cs) (i : Nat) : w.frozen? ⟨g, i, none⟩ = false := by
  unfold Blk at h
  simp [World.frozen?, h]
theorem Blk.same (h : Blk w g t cs) (hb : w'.heap[g]? = w.heap[g]?) : Blk w' g t cs := hb.trans h
theorem Blk.alloc (h : Blk w g t cs) (o : Obj) : Blk (w.alloc o) g t cs := h.same (Below.heap_alloc w o g h.lt)
theorem Blk.drewN (h : Blk w g t cs) (n : Nat) : Blk (w.drewN n) g t cs := h
theorem Blk.put (h : Blk w g t cs) (i : Nat) (u : Value) : Blk (w.setCell ⟨g, i, none⟩ u) g t (cs.setIfInBounds i u) := by
  unfold Blk at h ⊢
  simp [World.setCell, Array.getElem?_modify, h]
theorem Blk.far (h : Blk w g t cs) {p : Addr} (hp : g ≠ p.block) (u : Value) : Blk (w.setCell p u) g t cs := h.same (Below.heap_setCell w p u g hp)
theorem Blk.below {B : Nat} (h : Blk w g t cs) (hb : Below B w w') (hg : g < B) : Blk w' g t cs := h.same (hb.block g hg)
theorem Blk.grown {row : Option Nat} (h : Blk w g t cs) (hb : w.grownBy w' row) (hg : some g ≠ row) : Blk w' g t cs := h.same (hb.block g h.lt hg)
theorem Blk.of_own {base n cap : Nat} {xs : List Value} (h : w.ownsRow base t 1 (.slice (some ⟨g, 0, none⟩) n cap) n xs) : ∃ cs : Array Value, Blk w g t cs ∧ base ≤ g ∧ n ≤ cap ∧ cap ≤ maxLen ∧ cs.size = cap ∧ ∀ i, i < n → cs[i]? = xs[i]? := by
  rcases h.2 with ⟨h0, _⟩ | ⟨g', cap', cur, hv, hb, hg, hn, hm, hs, ht⟩
  · cases h0
  · injection hv with h1 h2 h3
    injection h1 with h1
    injection h1 with h1
    subst h1; subst h3
    refine ⟨cur, hg, hb, hn, hm, by omega, fun i hi => ?_⟩
    rw [← ht, List.getElem?_take, if_pos (by omega)]
    simp
end

theorem own_form {w : World} {base e size n : Nat} {v : Value} {xs : List Value} (h : w.ownsRow base e size v n xs) : ∃ A c, v = .slice A n c := by
  rcases h.2 with ⟨rfl, rfl⟩ | ⟨g, cap, cur, rfl, _⟩
  · exact ⟨_, _, rfl⟩
  · exact ⟨_, _, rfl⟩
/-- What a call may have changed: the block row alone; and it may have made blocks. -/
theorem only_refl (w : World) (row : Option Nat) : w.grownBy w row := ⟨rfl, rfl, rfl, Nat.le_refl _, fun _ _ _ => rfl⟩
theorem only_trans {a b c : World} {row : Option Nat} (h : a.grownBy b row) (k : b.grownBy c row) : a.grownBy c row :=
  ⟨k.os.trans h.os, k.tape.trans h.tape, k.output.trans h.output, Nat.le_trans h.size k.size, fun i hi hn => (k.block i (Nat.lt_of_lt_of_le hi h.size) hn).trans (h.block i hi hn)⟩
theorem only_drewN {a w : World} {row : Option Nat} (h : a.grownBy w row) (n : Nat) : a.grownBy (w.drewN n) row := ⟨h.os, h.tape, h.output, h.size, h.block⟩
theorem only_alloc {a w : World} {row : Option Nat} (h : a.grownBy w row) (o : Obj) : a.grownBy (w.alloc o) row :=
  only_trans h ⟨rfl, rfl, rfl, by simp, fun k hk _ => Below.heap_alloc w o k hk⟩
theorem only_put {a w : World} {g : Nat} (h : a.grownBy w (some g)) (i : Nat) (u : Value) : a.grownBy (w.setCell ⟨g, i, none⟩ u) (some g) :=
  only_trans h ⟨rfl, rfl, rfl, by simp [World.setCell], fun k _ hn => Below.heap_setCell w ⟨g, i, none⟩ u k (fun e => hn (by rw [e]))⟩
theorem only_of_below {a w : World} (h : Below a.heap.size a w) (row : Option Nat) : a.grownBy w row := ⟨h.os, h.tape, h.output, h.size, fun i hi _ => h.block i hi⟩
theorem below_drewN {B : Nat} {a w : World} (h : Below B a w) (n : Nat) : Below B a (w.drewN n) := ⟨h.os, h.tape, h.output, h.size, h.block⟩
theorem below_only {B g : Nat} {a b c : World} (h : Below B a b) (k : b.grownBy c (some g)) (hs : B ≤ b.heap.size) (hg : B ≤ g) : Below B a c :=
  h.grown k hs (fun x hx => by injection hx with hx; omega)
theorem below_then {B : Nat} {a b c : World} (h : Below B a b) (k : Below b.heap.size b c) (hs : B ≤ b.heap.size) : Below B a c := h.trans (k.mono hs)

/-- Cells that are known, one by one, from place 0 on. -/
def Row (w : World) (g n : Nat) (f : Nat → Value) : Prop := ∀ k, k < n → w.cell? ⟨g, k, none⟩ = some (f k)
section
variable {w w' : World} {g n : Nat} {f : Nat → Value}
theorem Row.lt (h : Row w g n f) (hn : 0 < n) : g < w.heap.size := World.block_lt_of_cell? w ⟨g, 0, none⟩ (h 0 hn)
theorem Row.same (h : Row w g n f) (hb : w'.heap[g]? = w.heap[g]?) : Row w' g n f := fun k hk => (World.cell?_of_block (a := ⟨g, k, none⟩) hb).trans (h k hk)
theorem Row.below {B : Nat} (h : Row w g n f) (hb : Below B w w') (hg : g < B) : Row w' g n f := h.same (hb.block g hg)
theorem Row.below' (h : Row w g n f) (hb : Below w.heap.size w w') : Row w' g n f := fun k hk => (h.below hb (h.lt (by omega))) k hk
theorem Row.grown {row : Option Nat} (h : Row w g n f) (hb : w.grownBy w' row) (hg : some g ≠ row) : Row w' g n f := fun k hk => (h.same (hb.block g (h.lt (by omega)) hg)) k hk
theorem Row.drewN (h : Row w g n f) (d : Nat) : Row (w.drewN d) g n f := h
theorem Row.alloc (h : Row w g n f) (o : Obj) : Row (w.alloc o) g n f := fun k hk => (h.same (Below.heap_alloc w o g (h.lt (by omega)))) k hk
theorem Row.of_blk {t : TypeId} {cs : Array Value} (h : Blk w g t cs) (hc : ∀ k, k < n → cs[k]? = some (f k)) : Row w g n f := fun k hk => (h.cell k).trans (hc k hk)
end
/-- What came in as a list of bytes: nil, or cells at an address. -/
def Byts (w : World) (A : Option Addr) (n : Nat) : Prop := ∀ k, k < n → ∃ ad, ∃ x : Nat, A = some ad ∧ x < 256 ∧ w.cell? (ad.add k) = some (.int .u8 x)
end Go.Proofs.YtbfppnppijcnlaaGreat
namespace Go.Proofs.YtbfppnppijcnlaaGreat
open Go.RowKit
set_option linter.unusedVariables false
theorem codes_info : (Tryz.prog.info? 5).map (fun i => (i.zero, i.size, i.bytes)) = some (some (.int .u8 0), 1, 1) := by kernel_rfl

/-- A block of bytes. -/
noncomputable def Typ (w : World) (g : Nat) : Prop := ∃ cs fr, w.heap[g]? = some (.cells cs 5 fr)
theorem Typ.same {w w' : World} {g : Nat} (h : Typ w g) (hb : w'.heap[g]? = w.heap[g]?) : Typ w' g := by
  obtain ⟨cs, fr, h⟩ := h
  exact ⟨cs, fr, hb.trans h⟩
/-- The row of choices: their number, address and capacity. -/
structure Ls where
  n : Nat
  A : Option Addr
  cap : Nat
/-- The choices behind the pointer to block gc: n of them, at the place p. -/
noncomputable def Cod (w : World) (gc : Nat) (n : Ls) (p : Nat) : Prop :=
  p ≤ n.n ∧ n.n ≤ 250 ∧ Blk w gc 103 #[.slice n.A n.n n.cap, .int .i64 (p : Nat)] ∧ n.n ≤ n.cap ∧ ∀ k, k < n.n → ∃ ga x : Nat, n.A = some ⟨ga, 0, none⟩ ∧ ga ≠ gc ∧ x < 256 ∧ Typ w ga ∧ w.cell? ⟨ga, k, none⟩ = some (.int .u8 x)
section
variable {w w' : World} {gc : Nat} {n : Ls} {p : Nat}
theorem Cod.lt (h : Cod w gc n p) : gc < w.heap.size := by obtain ⟨_, _, hb, _⟩ := h; exact hb.lt
theorem Cod.same (h : Cod w gc n p) (hb : ∀ k, k < w.heap.size → w'.heap[k]? = w.heap[k]?) : Cod w' gc n p := by
  obtain ⟨h1, h2, h3, hcap, h4⟩ := h
  refine ⟨h1, h2, h3.same (hb _ h3.lt), hcap, fun k hk => ?_⟩
  obtain ⟨ga, x, e, hne, hx, hT, hc⟩ := h4 k hk
  exact ⟨ga, x, e, hne, hx, hT.same (hb _ (World.block_lt_of_cell? w ⟨ga, k, none⟩ hc)), (World.cell?_of_block (a := ⟨ga, k, none⟩) (hb _ (World.block_lt_of_cell? w ⟨ga, k, none⟩ hc))).trans hc⟩
theorem Cod.below (h : Cod w gc n p) (hb : Below w.heap.size w w') : Cod w' gc n p := h.same hb.block
theorem Cod.drewN (h : Cod w gc n p) (d : Nat) : Cod (w.drewN d) gc n p := h
theorem Cod.alloc (h : Cod w gc n p) (o : Obj) : Cod (w.alloc o) gc n p := h.same fun k hk => Below.heap_alloc w o k hk
/-- A block whose first cell is no slice is another one. -/
theorem Cod.ne (h : Cod w gc n p) {g : Nat} {u : Value} (hu : w.cell? ⟨g, 0, none⟩ = some u) (hs : ∀ A l c, u ≠ .slice A l c) : g ≠ gc := by
  rintro rfl
  obtain ⟨_, _, hb, _⟩ := h
  have := (hb.cell 0).symm.trans hu
  simp at this
  exact hs _ _ _ this.symm
end


/-- What Next returns, and where the choices stand then. -/
noncomputable def NextPost (w : World) (gc : Nat) (n : Ls) (p : Nat) (m : Int) (e : Ending) (w' : World) : Prop :=
  w.grownBy w' (some gc) ∧ ((p < n.n ∧ Cod w' gc n (p + 1) ∧ ∃ ga x : Nat, n.A = some ⟨ga, 0, none⟩ ∧ x < 256 ∧ w.cell? ⟨ga, p, none⟩ = some (.int .u8 x) ∧ e = .returned (.int .i64 ((x : Int) * m / 256))) ∨ (n.n ≤ p ∧ Cod w' gc n p ∧ e = .returned (.int .i64 0)))
theorem next_det (gc : Nat) (n : Ls) (p : Nat) (m : Int) (w : World) (h : Cod w gc n p) (hm0 : 1 ≤ m) (hm1 : m ≤ 1099511627776) :
    Calls Tryz.prog 63 #[.pointer (some ⟨gc, 0, none⟩), .int .i64 m] w (NextPost w gc n p m) := by
  obtain ⟨h1, h2, hb, hcap, h4⟩ := h
  obtain ⟨N, A, cap⟩ := n
  simp only at h1 h2 hb hcap h4
  have c0 : w.cell? ⟨gc, 0, none⟩ = some (.slice A N cap) := hb.cell 0
  have c1 : w.cell? ⟨gc, 1, none⟩ = some (.int .i64 (p : Nat)) := hb.cell 1
  have f1 := hb.free 1
  by_cases hp : p < N
  · obtain ⟨ga, x, rfl, hne, hx, _, hc⟩ := h4 p hp
    have hx0 : 0 ≤ (x : Int) * m := Int.mul_nonneg (by omega) (by omega)
    have hx1 : (x : Int) * m ≤ 255 * m := Int.mul_le_mul_of_nonneg_right (by omega) (by omega)
    have hq : decide (N ≤ p) = false := by simp; omega
    have hq' : decide ((N : Int) ≤ p) = false := by simp; omega
    have hfin : Cod (w.setCell ⟨gc, 1, none⟩ (.int .i64 ((p : Int) + 1))) gc ⟨N, some ⟨ga, 0, none⟩, cap⟩ (p + 1) := by
      refine ⟨by show p + 1 ≤ N; omega, h2, ?_, hcap, fun k hk => ?_⟩
      · have := hb.put 1 (.int .i64 ((p : Int) + 1)); simpa using this
      · obtain ⟨ga', x', e, hne', hx', hT', hc'⟩ := h4 k hk
        exact ⟨ga', x', e, hne', hx', hT'.same (Below.heap_setCell w ⟨gc, 1, none⟩ _ ga' (by simpa using hne')), (World.cell?_setCell_other w ⟨gc, 1, none⟩ ⟨ga', k, none⟩ _ (by simp)).trans hc'⟩
    have Hf := Lib.hid hfin
    have Hb := Lib.hid hb
    clear hfin h4 hb
    have hcw : (w.setCell ⟨gc, 1, none⟩ (.int .i64 ((p : Int) + 1))).cell? ⟨ga, p, none⟩ = some (.int .u8 x) := (World.cell?_setCell_other w ⟨gc, 1, none⟩ ⟨ga, p, none⟩ _ (by simp)).trans hc
    go_enter Tryz.func63, Tryz.ntmps63
    go_wp2_with fail
    go_quiet (fail)
    go_wp2_with fail
    go_quiet (fail)
    go_wp2_with fail
    go_ret
    exact ⟨only_drewN (only_put (only_drewN (only_refl _ _) _) _ _) _, .inl ⟨hp, Hf.out, ga, x, rfl, hx, hc, rfl⟩⟩
  · have hq : decide ((N : Int) ≤ p) = true := by simp; omega
    have Hb := Lib.hid hb
    have H4 := Lib.hid h4
    clear h4 hb
    go_enter Tryz.func63, Tryz.ntmps63
    go_wp2_with fail
    go_quiet (fail)
    go_wp2_with fail
    go_ret
    exact ⟨only_drewN (only_refl _ _) _, .inr ⟨by show N ≤ p; omega, ⟨h1, h2, Hb.out, hcap, H4.out⟩, rfl⟩⟩
theorem next_any (gc : Nat) (n : Ls) (p : Nat) (m : Int) (w : World) (h : Cod w gc n p) (hm0 : 1 ≤ m) (hm1 : m ≤ 1099511627776) :
    Calls Tryz.prog 63 #[.pointer (some ⟨gc, 0, none⟩), .int .i64 m] w fun e w' =>
      ∃ r : Nat, ∃ p' : Nat, e = .returned (.int .i64 (r : Nat)) ∧ (r : Int) < m ∧ Cod w' gc n p' ∧ p ≤ p' ∧ (p < n.n → p < p') ∧ w.grownBy w' (some gc) := by
  refine (next_det gc n p m w h hm0 hm1).mono ?_
  rintro e w' ⟨hg, ⟨h1, h2, ga, x, _, hx, _, rfl⟩ | ⟨h1, h2, rfl⟩⟩
  · have hx0 : 0 ≤ (x : Int) * m := Int.mul_nonneg (by omega) (by omega)
    have hx1 : (x : Int) * m ≤ 255 * m := Int.mul_le_mul_of_nonneg_right (by omega) (by omega)
    refine ⟨((x : Int) * m / 256).toNat, p + 1, ret_int ?_, ?_, h2, by omega, fun _ => by omega, hg⟩
    · rw [Int.toNat_of_nonneg (by omega)]
    · rw [Int.toNat_of_nonneg (by omega)]; omega
  · exact ⟨0, p, rfl, by omega, h2, Nat.le_refl _, fun h => by omega, hg⟩

noncomputable def bytsOf (w : World) (ad : Addr) (q : Nat) : List Value := (List.range q).map fun k => (w.cell? (ad.add k)).getD undef
theorem bytsOf_get {w : World} {ad : Addr} {q : Nat} (h : Byts w (some ad) q) (j : Nat) (u : Value) (hj : (bytsOf w ad q)[j]? = some u) : j < q ∧ w.cell? (ad.add j) = some u ∧ ∃ x : Nat, x < 256 ∧ u = .int .u8 x := by
  have hjq : j < q := by
    have := (List.getElem?_eq_some_iff.1 hj).1
    simpa [bytsOf] using this
  obtain ⟨ad', x, e, hx, hc⟩ := h j hjq
  injection e with e
  subst e
  have : u = .int .u8 x := by
    simp [bytsOf, hjq, hc] at hj
    exact hj.symm
  subst this
  exact ⟨hjq, hc, x, hx, rfl⟩
theorem bytsOf_at {w : World} {ad : Addr} {q : Nat} (h : Byts w (some ad) q) : ∀ j u, (bytsOf w ad q)[j]? = some u → w.cell? (ad.add j) = some u := fun j u hj => (bytsOf_get h j u hj).2.1
theorem bytsOf_one {w : World} {ad : Addr} {q : Nat} (h : Byts w (some ad) q) : ∀ u ∈ bytsOf w ad q, u.oneCell' = true := by
  intro u hu
  obtain ⟨j, hj⟩ := List.mem_iff_getElem?.1 hu
  obtain ⟨_, _, x, _, rfl⟩ := bytsOf_get h j u hj
  rfl
noncomputable def NewPost (w : World) (n : Nat) (m : Int) (e : Ending) (w' : World) : Prop :=
  ∃ (gc : Nat) (q : Ls), e = .returned (.pointer (some ⟨gc, 0, none⟩)) ∧ w.heap.size ≤ gc ∧ Cod w' gc q 0 ∧ (q.n : Int) = min (n : Int) m ∧ (∀ ga, q.A = some ⟨ga, 0, none⟩ → w.heap.size ≤ ga ∧ ∃ cs, Blk w' ga 5 cs) ∧ Below w.heap.size w w'
theorem new_end {w w1 : World} {ad : Addr} {q : Nat} {v1 : Value} (h : Byts w (some ad) q) (hq : q ≤ 250) (ho : w1.ownsRow w.heap.size 5 1 v1 q (bytsOf w ad q)) (hg : w.grownBy w1 (Value.ownBlock (.slice none 0 0))) (n : Nat) (m : Int) (hm : (q : Int) = min (n : Int) m) :
    NewPost w n m (.returned (.pointer (some ⟨w1.heap.size, 0, none⟩))) (w1.alloc (.cells #[v1, .int .i64 0] 103)) := by
  have hb : Below w.heap.size w w1 := (Below.refl _ _).grown hg (Nat.le_refl _) (by simp [Value.ownBlock])
  rcases ho.2 with ⟨rfl, rfl⟩ | ⟨g, cap, cur, rfl, hbase, hh, hn, hm', hs, ht⟩
  · exact ⟨w1.heap.size, ⟨0, none, 0⟩, rfl, hg.size, ⟨Nat.zero_le _, hq, heap_alloc_new w1 _, Nat.le_refl _, fun k hk => absurd hk (Nat.not_lt_zero _)⟩, hm, fun ga e => (by cases e), hb.alloc hg.size _⟩
  · refine ⟨w1.heap.size, ⟨q, some ⟨g, 0, none⟩, cap⟩, rfl, hg.size, ⟨Nat.zero_le _, hq, heap_alloc_new w1 _, hn, fun k hk => ?_⟩, hm, fun ga e => (by cases e; exact ⟨hbase, cur, (Below.heap_alloc w1 _ g (Array.getElem?_eq_some_iff.1 hh).1).trans hh⟩), hb.alloc hg.size _⟩
    have hk : k < q := hk
    have hlen : (bytsOf w ad q)[k]? = some ((w.cell? (ad.add k)).getD undef) := by simp [bytsOf, hk]
    obtain ⟨_, _, x, hx, he⟩ := bytsOf_get h k _ hlen
    have hlt : g < w1.heap.size := (Array.getElem?_eq_some_iff.1 hh).1
    refine ⟨g, x, rfl, by omega, hx, ⟨cur, (0, 0), (Below.heap_alloc w1 _ g hlt).trans hh⟩, ?_⟩
    rw [World.cell?_alloc_lt w1 _ ⟨g, k, none⟩ hlt, ho.cellAt k (by omega), hlen, he]
theorem new_any (A : Option Addr) (n cap : Nat) (m : Int) (w : World) (h : Byts w A n) (hn : n ≤ cap) (hcap : cap ≤ maxLen) (hm0 : 0 ≤ m) (hm1 : m ≤ 250) :
    Calls Tryz.prog 10 #[.slice A n cap, .int .i64 m] w (NewPost w n m) := by
  obtain ⟨i0, hi0, hz0, hz1, hz2⟩ := info_parts codes_info
  unfold maxLen at hcap
  rcases A with _ | ad
  · have hn0 : n = 0 := by
      rcases Nat.eq_zero_or_pos n with h0 | h0
      · exact h0
      · obtain ⟨ad, x, e, _⟩ := h 0 h0; cases e
    subst hn0
    go_enter Tryz.func10, Tryz.ntmps10
    go_wp2_with (at_builtin; refine wpList_append_own_none _ rfl (.const (.slice none 0 0)) (.tmp 10) 22 rfl w.heap.size 5 i0 1 Tryz.underlying22 hi0 hz1 (.slice none 0 0) 0 [] rfl (World.ownsRow_nil _ _ _ _) _ rfl ?_)
    go_ret
    exact ⟨w.heap.size, ⟨0, none, 0⟩, rfl, Nat.le_refl _, ⟨Nat.le_refl _, by show 0 ≤ 250; omega, heap_alloc_new w _, Nat.le_refl _, fun k hk => absurd hk (Nat.not_lt_zero _)⟩, by show ((0 : Nat) : Int) = _; omega, fun ga e => (by cases e), (Below.refl _ _).alloc (Nat.le_refl _) _⟩
  rcases (by omega : m < (n : Int) ∨ (n : Int) ≤ m) with hmn | hmn
  · obtain ⟨q, rfl⟩ := Int.eq_ofNat_of_zero_le hm0
    have hqn : q ≤ n := by omega
    have hqm : q ≤ 250 := by omega
    have hb : Byts w (some ad) q := fun k hk => h k (by omega)
    go_enter Tryz.func10, Tryz.ntmps10
    go_wp2_with (at_builtin; have hx1 := bytsOf_at hb; have hx2 := bytsOf_one hb; have hx3 : (bytsOf w ad q).length = q * 1 := (by simp [bytsOf]); have hx4 : 0 + q ≤ maxLen := (by unfold maxLen; omega); have hx5 : (0 + q) * 1 ≤ 140737488355328 := (by omega); have hx := World.ownsRow_nil w w.heap.size 5 1; refine wpList_append_own _ rfl (.const (.slice none 0 0)) (.tmp 10) 22 rfl w.heap.size 5 i0 (.int .u8 0) 1 1 Tryz.underlying22 hi0 hz0 hz1 hz2 rfl (by decide) (.slice none 0 0) 0 [] rfl hx ad q _ (bytsOf w ad q) rfl hx3 hx1 hx2 hx4 hx5 (Nat.le_refl _) ?_; clear hx hx1 hx2 hx3 hx4 hx5; intro v1 w1 hown1 hg1 _; simp only [Nat.zero_add, List.nil_append] at hown1; obtain ⟨A1, c1, hv1⟩ := own_form hown1; subst hv1)
    go_ret
    have hmq : (q : Int) = min (n : Int) (q : Int) := by omega
    exact new_end hb hqm hown1 hg1 _ _ hmq
  · have hqm : n ≤ 250 := by omega
    obtain ⟨q, rfl⟩ : ∃ q, q = n := ⟨n, rfl⟩
    have hb := h
    go_enter Tryz.func10, Tryz.ntmps10
    go_wp2_with (at_builtin; have hx1 := bytsOf_at hb; have hx2 := bytsOf_one hb; have hx3 : (bytsOf w ad q).length = q * 1 := (by simp [bytsOf]); have hx4 : 0 + q ≤ maxLen := (by unfold maxLen; omega); have hx5 : (0 + q) * 1 ≤ 140737488355328 := (by omega); have hx := World.ownsRow_nil w w.heap.size 5 1; refine wpList_append_own _ rfl (.const (.slice none 0 0)) (.tmp 10) 22 rfl w.heap.size 5 i0 (.int .u8 0) 1 1 Tryz.underlying22 hi0 hz0 hz1 hz2 rfl (by decide) (.slice none 0 0) 0 [] rfl hx ad q _ (bytsOf w ad q) rfl hx3 hx1 hx2 hx4 hx5 (Nat.le_refl _) ?_; clear hx hx1 hx2 hx3 hx4 hx5; intro v1 w1 hown1 hg1 _; simp only [Nat.zero_add, List.nil_append] at hown1; obtain ⟨A1, c1, hv1⟩ := own_form hown1; subst hv1)
    go_ret
    have hmq : (q : Int) = min (q : Int) m := by omega
    exact new_end hb hqm hown1 hg1 _ _ hmq
end Go.Proofs.YtbfppnppijcnlaaGreat
