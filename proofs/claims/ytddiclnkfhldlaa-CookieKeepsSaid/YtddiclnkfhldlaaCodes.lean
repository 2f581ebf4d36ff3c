/-
  The contracts of the choices that a law draws its input from: New, Left and Next of draw.Codes. Next returns a number from 0 to n - 1 and goes one place on.
  Conditions: n is from 1 to 2^40; at most 250 choices are kept.
-/
import Derived.Test.YtddiclnkfhldlaaProg
import Derived.Test.YtddiclnkfhldlaaMem
import Derived.WalkKit
import Derived.WalkLawsBesides
import Derived.WalkSpells
import Derived.Outline
import Derived.Lib.Hide
import Derived.BigQuiet
import Derived.Deep.QuietTactic
import Derived.OwnWalk
import Derived.Laws.AppendOwn
namespace Go.Proofs.Ytddiclnkfhldlaa
open Go.RowKit
set_option linter.unusedVariables false
theorem codes_info : (Try.prog.info? 5).map (fun i => (i.zero, i.size, i.bytes)) = some (some (.int .u8 0), 1, 1) := by kernel_rfl

/-- A block of bytes. -/
def Typ (w : World) (g : Nat) : Prop := ∃ cs fr, w.heap[g]? = some (.cells cs 5 fr)
theorem Typ.same {w w' : World} {g : Nat} (h : Typ w g) (hb : w'.heap[g]? = w.heap[g]?) : Typ w' g := by
  obtain ⟨cs, fr, h⟩ := h
  exact ⟨cs, fr, hb.trans h⟩
/-- The row of choices: their number, address and capacity. -/
structure Ls where
  n : Nat
  A : Option Addr
  cap : Nat
/-- The choices behind the pointer to block gc: n of them, at the place p. -/
def Cod (w : World) (gc : Nat) (n : Ls) (p : Nat) : Prop :=
  p ≤ n.n ∧ n.n ≤ 250 ∧ Blk w gc 84 #[.slice n.A n.n n.cap, .int .i64 (p : Nat)] ∧ n.n ≤ n.cap ∧ ∀ k, k < n.n → ∃ ga x : Nat, n.A = some ⟨ga, 0, none⟩ ∧ ga ≠ gc ∧ x < 256 ∧ Typ w ga ∧ w.cell? ⟨ga, k, none⟩ = some (.int .u8 x)
section
variable {w w' : World} {gc : Nat} {n : Ls} {p : Nat}
theorem Cod.lt (h : Cod w gc n p) : gc < w.heap.size := by obtain ⟨_, _, hb, _⟩ := h; exact hb.lt
theorem Cod.same (h : Cod w gc n p) (hb : ∀ k, k < w.heap.size → w'.heap[k]? = w.heap[k]?) : Cod w' gc n p := by
  obtain ⟨h1, h2, h3, hcap, h4⟩ := h
  refine ⟨h1, h2, h3.same (hb _ h3.lt), hcap, fun k hk => ?_⟩
  obtain ⟨ga, x, e, hne, hx, hT, hc⟩ := h4 k hk
  exact ⟨ga, x, e, hne, hx, hT.same (hb _ (World.block_lt_of_cell? w ⟨ga, k, none⟩ hc)), (World.cell?_of_block (a := ⟨ga, k, none⟩) (hb _ (World.block_lt_of_cell? w ⟨ga, k, none⟩ hc))).trans hc⟩
theorem Cod.below (h : Cod w gc n p) (hb : Below w.heap.size w w') : Cod w' gc n p := h.same hb.block
theorem Cod.drewN (h : Cod w gc n p) (d : Nat) : Cod (w.drewN d) gc n p := h
theorem Cod.alloc (h : Cod w gc n p) (o : Obj) : Cod (w.alloc o) gc n p := h.same fun k hk => Below.heap_alloc w o k hk
/-- A block whose first cell is no slice is another one. -/
theorem Cod.ne (h : Cod w gc n p) {g : Nat} {u : Value} (hu : w.cell? ⟨g, 0, none⟩ = some u) (hs : ∀ A l c, u ≠ .slice A l c) : g ≠ gc := by
  rintro rfl
  obtain ⟨_, _, hb, _⟩ := h
  have := (hb.cell 0).symm.trans hu
  simp at this
  exact hs _ _ _ this.symm
end


/-- What Next returns, and where the choices stand then. -/
def NextPost (w : World) (gc : Nat) (n : Ls) (p : Nat) (m : Int) (e : Ending) (w' : World) : Prop :=
  w.grownBy w' (some gc) ∧ ((p < n.n ∧ Cod w' gc n (p + 1) ∧ ∃ ga x : Nat, n.A = some ⟨ga, 0, none⟩ ∧ x < 256 ∧ w.cell? ⟨ga, p, none⟩ = some (.int .u8 x) ∧ e = .returned (.int .i64 ((x : Int) * m / 256))) ∨ (n.n ≤ p ∧ Cod w' gc n p ∧ e = .returned (.int .i64 0)))
theorem next_det (gc : Nat) (n : Ls) (p : Nat) (m : Int) (w : World) (h : Cod w gc n p) (hm0 : 1 ≤ m) (hm1 : m ≤ 1099511627776) :
    Calls Try.prog 12 #[.pointer (some ⟨gc, 0, none⟩), .int .i64 m] w (NextPost w gc n p m) := by
  obtain ⟨h1, h2, hb, hcap, h4⟩ := h
  obtain ⟨N, A, cap⟩ := n
  simp only at h1 h2 hb hcap h4
  have c0 : w.cell? ⟨gc, 0, none⟩ = some (.slice A N cap) := hb.cell 0
  have c1 : w.cell? ⟨gc, 1, none⟩ = some (.int .i64 (p : Nat)) := hb.cell 1
  have f1 := hb.free 1
  by_cases hp : p < N
  · obtain ⟨ga, x, rfl, hne, hx, _, hc⟩ := h4 p hp
    have hx0 : 0 ≤ (x : Int) * m := Int.mul_nonneg (by omega) (by omega)
    have hx1 : (x : Int) * m ≤ 255 * m := Int.mul_le_mul_of_nonneg_right (by omega) (by omega)
    have hq : decide (N ≤ p) = false := by simp; omega
    have hq' : decide ((N : Int) ≤ p) = false := by simp; omega
    have hfin : Cod (w.setCell ⟨gc, 1, none⟩ (.int .i64 ((p : Int) + 1))) gc ⟨N, some ⟨ga, 0, none⟩, cap⟩ (p + 1) := by
      refine ⟨by show p + 1 ≤ N; omega, h2, ?_, hcap, fun k hk => ?_⟩
      · have := hb.put 1 (.int .i64 ((p : Int) + 1)); simpa using this
      · obtain ⟨ga', x', e, hne', hx', hT', hc'⟩ := h4 k hk
        exact ⟨ga', x', e, hne', hx', hT'.same (Below.heap_setCell w ⟨gc, 1, none⟩ _ ga' (by simpa using hne')), (World.cell?_setCell_other w ⟨gc, 1, none⟩ ⟨ga', k, none⟩ _ (by simp)).trans hc'⟩
    have Hf := Lib.hid hfin
    have Hb := Lib.hid hb
    clear hfin h4 hb
    have hcw : (w.setCell ⟨gc, 1, none⟩ (.int .i64 ((p : Int) + 1))).cell? ⟨ga, p, none⟩ = some (.int .u8 x) := (World.cell?_setCell_other w ⟨gc, 1, none⟩ ⟨ga, p, none⟩ _ (by simp)).trans hc
    go_enter Try.func12, Try.ntmps12
    go_wp2_with fail
    go_quiet (fail)
    go_wp2_with fail
    go_quiet (fail)
    go_wp2_with fail
    go_ret
    exact ⟨only_drewN (only_put (only_drewN (only_refl _ _) _) _ _) _, .inl ⟨hp, Hf.out, ga, x, rfl, hx, hc, rfl⟩⟩
  · have hq : decide ((N : Int) ≤ p) = true := by simp; omega
    have Hb := Lib.hid hb
    have H4 := Lib.hid h4
    clear h4 hb
    go_enter Try.func12, Try.ntmps12
    go_wp2_with fail
    go_quiet (fail)
    go_wp2_with fail
    go_ret
    exact ⟨only_drewN (only_refl _ _) _, .inr ⟨by show N ≤ p; omega, ⟨h1, h2, Hb.out, hcap, H4.out⟩, rfl⟩⟩
theorem next_any (gc : Nat) (n : Ls) (p : Nat) (m : Int) (w : World) (h : Cod w gc n p) (hm0 : 1 ≤ m) (hm1 : m ≤ 1099511627776) :
    Calls Try.prog 12 #[.pointer (some ⟨gc, 0, none⟩), .int .i64 m] w fun e w' =>
      ∃ r : Nat, ∃ p' : Nat, e = .returned (.int .i64 (r : Nat)) ∧ (r : Int) < m ∧ Cod w' gc n p' ∧ p ≤ p' ∧ (p < n.n → p < p') ∧ w.grownBy w' (some gc) := by
  refine (next_det gc n p m w h hm0 hm1).mono ?_
  rintro e w' ⟨hg, ⟨h1, h2, ga, x, _, hx, _, rfl⟩ | ⟨h1, h2, rfl⟩⟩
  · have hx0 : 0 ≤ (x : Int) * m := Int.mul_nonneg (by omega) (by omega)
    have hx1 : (x : Int) * m ≤ 255 * m := Int.mul_le_mul_of_nonneg_right (by omega) (by omega)
    refine ⟨((x : Int) * m / 256).toNat, p + 1, ret_int ?_, ?_, h2, by omega, fun _ => by omega, hg⟩
    · rw [Int.toNat_of_nonneg (by omega)]
    · rw [Int.toNat_of_nonneg (by omega)]; omega
  · exact ⟨0, p, rfl, by omega, h2, Nat.le_refl _, fun h => by omega, hg⟩

def bytsOf (w : World) (ad : Addr) (q : Nat) : List Value := (List.range q).map fun k => (w.cell? (ad.add k)).getD undef
theorem bytsOf_get {w : World} {ad : Addr} {q : Nat} (h : Byts w (some ad) q) (j : Nat) (u : Value) (hj : (bytsOf w ad q)[j]? = some u) : j < q ∧ w.cell? (ad.add j) = some u ∧ ∃ x : Nat, x < 256 ∧ u = .int .u8 x := by
  have hjq : j < q := by
    have := (List.getElem?_eq_some_iff.1 hj).1
    simpa [bytsOf] using this
  obtain ⟨ad', x, e, hx, hc⟩ := h j hjq
  injection e with e
  subst e
  have : u = .int .u8 x := by
    simp [bytsOf, hjq, hc] at hj
    exact hj.symm
  subst this
  exact ⟨hjq, hc, x, hx, rfl⟩
theorem bytsOf_at {w : World} {ad : Addr} {q : Nat} (h : Byts w (some ad) q) : ∀ j u, (bytsOf w ad q)[j]? = some u → w.cell? (ad.add j) = some u := fun j u hj => (bytsOf_get h j u hj).2.1
theorem bytsOf_one {w : World} {ad : Addr} {q : Nat} (h : Byts w (some ad) q) : ∀ u ∈ bytsOf w ad q, u.oneCell' = true := by
  intro u hu
  obtain ⟨j, hj⟩ := List.mem_iff_getElem?.1 hu
  obtain ⟨_, _, x, _, rfl⟩ := bytsOf_get h j u hj
  rfl
def NewPost (w : World) (n : Nat) (m : Int) (e : Ending) (w' : World) : Prop :=
  ∃ (gc : Nat) (q : Ls), e = .returned (.pointer (some ⟨gc, 0, none⟩)) ∧ w.heap.size ≤ gc ∧ Cod w' gc q 0 ∧ (q.n : Int) = min (n : Int) m ∧ (∀ ga, q.A = some ⟨ga, 0, none⟩ → w.heap.size ≤ ga ∧ ∃ cs, Blk w' ga 5 cs) ∧ Below w.heap.size w w'
theorem new_end {w w1 : World} {ad : Addr} {q : Nat} {v1 : Value} (h : Byts w (some ad) q) (hq : q ≤ 250) (ho : w1.ownsRow w.heap.size 5 1 v1 q (bytsOf w ad q)) (hg : w.grownBy w1 (Value.ownBlock (.slice none 0 0))) (n : Nat) (m : Int) (hm : (q : Int) = min (n : Int) m) :
    NewPost w n m (.returned (.pointer (some ⟨w1.heap.size, 0, none⟩))) (w1.alloc (.cells #[v1, .int .i64 0] 84)) := by
  have hb : Below w.heap.size w w1 := (Below.refl _ _).grown hg (Nat.le_refl _) (by simp [Value.ownBlock])
  rcases ho.2 with ⟨rfl, rfl⟩ | ⟨g, cap, cur, rfl, hbase, hh, hn, hm', hs, ht⟩
  · exact ⟨w1.heap.size, ⟨0, none, 0⟩, rfl, hg.size, ⟨Nat.zero_le _, hq, heap_alloc_new w1 _, Nat.le_refl _, fun k hk => absurd hk (Nat.not_lt_zero _)⟩, hm, fun ga e => (by cases e), hb.alloc hg.size _⟩
  · refine ⟨w1.heap.size, ⟨q, some ⟨g, 0, none⟩, cap⟩, rfl, hg.size, ⟨Nat.zero_le _, hq, heap_alloc_new w1 _, hn, fun k hk => ?_⟩, hm, fun ga e => (by cases e; exact ⟨hbase, cur, (Below.heap_alloc w1 _ g (Array.getElem?_eq_some_iff.1 hh).1).trans hh⟩), hb.alloc hg.size _⟩
    have hk : k < q := hk
    have hlen : (bytsOf w ad q)[k]? = some ((w.cell? (ad.add k)).getD undef) := by simp [bytsOf, hk]
    obtain ⟨_, _, x, hx, he⟩ := bytsOf_get h k _ hlen
    have hlt : g < w1.heap.size := (Array.getElem?_eq_some_iff.1 hh).1
    refine ⟨g, x, rfl, by omega, hx, ⟨cur, (0, 0), (Below.heap_alloc w1 _ g hlt).trans hh⟩, ?_⟩
    rw [World.cell?_alloc_lt w1 _ ⟨g, k, none⟩ hlt, ho.cellAt k (by omega), hlen, he]
theorem new_any (A : Option Addr) (n cap : Nat) (m : Int) (w : World) (h : Byts w A n) (hn : n ≤ cap) (hcap : cap ≤ maxLen) (hm0 : 0 ≤ m) (hm1 : m ≤ 250) :
    Calls Try.prog 9 #[.slice A n cap, .int .i64 m] w (NewPost w n m) := by
  obtain ⟨i0, hi0, hz0, hz1, hz2⟩ := info_parts codes_info
  unfold maxLen at hcap
  rcases A with _ | ad
  · have hn0 : n = 0 := by
      rcases Nat.eq_zero_or_pos n with h0 | h0
      · exact h0
      · obtain ⟨ad, x, e, _⟩ := h 0 h0; cases e
    subst hn0
    go_enter Try.func9, Try.ntmps9
    go_wp2_with (at_builtin; refine wpList_append_own_none _ rfl (.const (.slice none 0 0)) (.tmp 10) 22 rfl w.heap.size 5 i0 1 Try.underlying22 hi0 hz1 (.slice none 0 0) 0 [] rfl (World.ownsRow_nil _ _ _ _) _ rfl ?_)
    go_ret
    exact ⟨w.heap.size, ⟨0, none, 0⟩, rfl, Nat.le_refl _, ⟨Nat.le_refl _, by show 0 ≤ 250; omega, heap_alloc_new w _, Nat.le_refl _, fun k hk => absurd hk (Nat.not_lt_zero _)⟩, by show ((0 : Nat) : Int) = _; omega, fun ga e => (by cases e), (Below.refl _ _).alloc (Nat.le_refl _) _⟩
  rcases (by omega : m < (n : Int) ∨ (n : Int) ≤ m) with hmn | hmn
  · obtain ⟨q, rfl⟩ := Int.eq_ofNat_of_zero_le hm0
    have hqn : q ≤ n := by omega
    have hqm : q ≤ 250 := by omega
    have hb : Byts w (some ad) q := fun k hk => h k (by omega)
    go_enter Try.func9, Try.ntmps9
    go_wp2_with (at_builtin; have hx1 := bytsOf_at hb; have hx2 := bytsOf_one hb; have hx3 : (bytsOf w ad q).length = q * 1 := (by simp [bytsOf]); have hx4 : 0 + q ≤ maxLen := (by unfold maxLen; omega); have hx5 : (0 + q) * 1 ≤ 140737488355328 := (by omega); have hx := World.ownsRow_nil w w.heap.size 5 1; refine wpList_append_own _ rfl (.const (.slice none 0 0)) (.tmp 10) 22 rfl w.heap.size 5 i0 (.int .u8 0) 1 1 Try.underlying22 hi0 hz0 hz1 hz2 rfl (by decide) (.slice none 0 0) 0 [] rfl hx ad q _ (bytsOf w ad q) rfl hx3 hx1 hx2 hx4 hx5 (Nat.le_refl _) ?_; clear hx hx1 hx2 hx3 hx4 hx5; intro v1 w1 hown1 hg1 _; simp only [Nat.zero_add, List.nil_append] at hown1; obtain ⟨A1, c1, hv1⟩ := own_form hown1; subst hv1)
    go_ret
    have hmq : (q : Int) = min (n : Int) (q : Int) := by omega
    exact new_end hb hqm hown1 hg1 _ _ hmq
  · have hqm : n ≤ 250 := by omega
    obtain ⟨q, rfl⟩ : ∃ q, q = n := ⟨n, rfl⟩
    have hb := h
    go_enter Try.func9, Try.ntmps9
    go_wp2_with (at_builtin; have hx1 := bytsOf_at hb; have hx2 := bytsOf_one hb; have hx3 : (bytsOf w ad q).length = q * 1 := (by simp [bytsOf]); have hx4 : 0 + q ≤ maxLen := (by unfold maxLen; omega); have hx5 : (0 + q) * 1 ≤ 140737488355328 := (by omega); have hx := World.ownsRow_nil w w.heap.size 5 1; refine wpList_append_own _ rfl (.const (.slice none 0 0)) (.tmp 10) 22 rfl w.heap.size 5 i0 (.int .u8 0) 1 1 Try.underlying22 hi0 hz0 hz1 hz2 rfl (by decide) (.slice none 0 0) 0 [] rfl hx ad q _ (bytsOf w ad q) rfl hx3 hx1 hx2 hx4 hx5 (Nat.le_refl _) ?_; clear hx hx1 hx2 hx3 hx4 hx5; intro v1 w1 hown1 hg1 _; simp only [Nat.zero_add, List.nil_append] at hown1; obtain ⟨A1, c1, hv1⟩ := own_form hown1; subst hv1)
    go_ret
    have hmq : (q : Int) = min (q : Int) m := by omega
    exact new_end hb hqm hown1 hg1 _ _ hmq
end Go.Proofs.Ytddiclnkfhldlaa
