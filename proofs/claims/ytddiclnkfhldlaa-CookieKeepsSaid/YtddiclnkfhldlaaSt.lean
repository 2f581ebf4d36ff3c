/-
  What a function that draws a term keeps: its result's variable, the choices, and what has been there before; and the list that it fills.
  Conditions: none.
-/
import Derived.Test.YtddiclnkfhldlaaFine
import Derived.Maps.AppendAt
namespace Go.Proofs.Ytddiclnkfhldlaa
open Go.RowKit Go.Sort
set_option linter.unusedVariables false
/-- Of a call that began in the world w, with the choices in block gc: its result's variable is still empty, and only the choices and new blocks have changed. -/
structure St (w : World) (gc : Nat) (n : Ls) (p : Nat) (wx : World) : Prop where
  z : Blk wx w.heap.size 30 #[.int .i64 0, .int .i64 0, .slice none 0 0]
  c : ∃ p', p ≤ p' ∧ Cod wx gc n p'
  g : w.grownBy wx (some gc)
  l : gc < w.heap.size
section
variable {w wx wy : World} {gc : Nat} {n : Ls} {p : Nat}
theorem St.sz (h : St w gc n p wx) : w.heap.size < wx.heap.size := h.z.lt
theorem St.bel (h : St w gc n p wx) (hb : Below wx.heap.size wx wy) : St w gc n p wy :=
  ⟨h.z.below hb h.z.lt, h.c.imp fun _ k => ⟨k.1, k.2.below hb⟩, only_trans h.g (only_of_below hb _), h.l⟩
theorem St.only (h : St w gc n p wx) {p1 p2 : Nat} (hp : p ≤ p1) (h12 : p1 ≤ p2) (hc : Cod wy gc n p2) (hg : wx.grownBy wy (some gc)) : St w gc n p wy :=
  ⟨h.z.grown hg (by intro e; injection e with e; have := h.l; omega), ⟨p2, Nat.le_trans hp h12, hc⟩, only_trans h.g hg, h.l⟩
theorem St.own {B : Nat} {v : Value} {k : Nat} {xs : List Value} (h : St w gc n p wx) (ho : wx.ownsRow B 30 3 v k xs) (hB : w.heap.size < B) (hg : wx.grownBy wy v.ownBlock) : St w gc n p wy := by
  have hv : ∀ g, v.ownBlock = some g → B ≤ g ∧ ∃ cs, wx.heap[g]? = some (.cells cs 30 (0, 0)) := by
    intro g hvg
    rcases ho.2 with ⟨rfl, _⟩ | ⟨g', cap, cur, rfl, hb, hh, _⟩
    · cases hvg
    · injection hvg with e
      subst e
      exact ⟨hb, cur, hh⟩
  have hl := h.l
  refine ⟨h.z.grown hg (fun e => by have := (hv _ e.symm).1; omega), ?_, ?_, h.l⟩
  · obtain ⟨p', hp, hc⟩ := h.c
    obtain ⟨h1, h2, h3, hcap, h4⟩ := hc
    refine ⟨p', hp, h1, h2, h3.grown hg (fun e => by have := (hv _ e.symm).1; omega), hcap, fun k hk => ?_⟩
    obtain ⟨ga, x, e, hne, hx, hT, hcell⟩ := h4 k hk
    have hlt := World.block_lt_of_cell? wx ⟨ga, k, none⟩ hcell
    have hga : some ga ≠ v.ownBlock := by
      intro e
      obtain ⟨_, cs, hcs⟩ := hv _ e.symm
      obtain ⟨cs', fr, hcs'⟩ := hT
      rw [hcs] at hcs'
      injection hcs' with hcs'
      injection hcs' with _ e2
      exact absurd e2 (by decide)
    exact ⟨ga, x, e, hne, hx, hT.same (hg.block ga hlt hga), (World.cell?_of_block (a := ⟨ga, k, none⟩) (hg.block ga hlt hga)).trans hcell⟩
  · refine ⟨hg.os.trans h.g.os, hg.tape.trans h.g.tape, hg.output.trans h.g.output, Nat.le_trans h.g.size hg.size, fun i hi hn => ?_⟩
    have hix := Nat.lt_of_lt_of_le hi h.g.size
    exact (hg.block i hix (fun e => by have := (hv _ e.symm).1; omega)).trans (h.g.block i hi hn)
theorem St.alloc (h : St w gc n p wx) (o : Obj) : St w gc n p (wx.alloc o) :=
  h.bel ((Below.refl _ _).alloc (Nat.le_refl _) _)
theorem St.start (h : Cod w gc n p) : St w gc n p (w.alloc (.cells #[.int .i64 0, .int .i64 0, .slice none 0 0] 30)) :=
  ⟨heap_alloc_new w _, ⟨p, Nat.le_refl _, h.alloc _⟩, only_alloc (only_refl w _) _, h.lt⟩
end
/-- Blocks that have been made since, but for the result's variable. -/
def S0 (w : World) (g : Nat) : Prop := w.heap.size < g
theorem sn_s0 {w wx : World} {gc : Nat} {n : Ls} {p : Nat} (h : St w gc n p wx) : ∀ g, SN (S0 w) wx g → S0 w g := by
  intro g hg
  have := h.sz
  unfold S0 at *
  rcases hg with hg | hg
  · exact hg
  · omega
theorem up_s0 {w wx : World} {gc : Nat} {n : Ls} {p : Nat} (h : St w gc n p wx) : ∀ g, wx.heap.size ≤ g → S0 w g := by
  intro g hg
  have := h.sz
  unfold S0
  omega
theorem TrS.later {w wx wy : World} {gc : Nat} {n : Ls} {p : Nat} {t : Tm} {A : Option Addr} {c : Nat} (h : TrS (S0 w) wx t A c) (hs : St w gc n p wx) (hg : wx.grownBy wy (some gc)) : TrS (S0 w) wy t A c :=
  h.only hg (by unfold S0; have := hs.l; omega)
theorem next_st {w wx : World} {gc : Nat} {n : Ls} {p : Nat} (m : Int) (h : St w gc n p wx) (hm0 : 1 ≤ m) (hm1 : m ≤ 1000) :
    Calls Try.prog 12 #[.pointer (some ⟨gc, 0, none⟩), .int .i64 m] wx fun e w' => ∃ r : Nat, e = .returned (.int .i64 (r : Nat)) ∧ (r : Int) < m ∧ St w gc n p w' ∧ wx.grownBy w' (some gc) := by
  obtain ⟨p', hp, hc⟩ := h.c
  refine (next_any gc n p' m wx hc hm0 (by omega)).mono ?_
  rintro e w' ⟨r, p2, rfl, hr, hc2, hp2, _, hg⟩
  exact ⟨r, rfl, hr, h.only hp hp2 hc2 hg, hg⟩
theorem name_st {w wx : World} {gc : Nat} {n : Ls} {p : Nat} (h : St w gc n p wx) :
    Calls Try.prog 52 #[.pointer (some ⟨gc, 0, none⟩)] wx fun e w' => ∃ v : Int, e = .returned (.agg #[.int .i64 2, .int .i64 v, .slice none 0 0]) ∧ 0 ≤ v ∧ v ≤ 3000000 ∧ St w gc n p w' ∧ wx.grownBy w' (some gc) := by
  obtain ⟨p', hp, hc⟩ := h.c
  refine (cname_any gc n p' wx hc).mono ?_
  rintro e w' ⟨o, k, p2, rfl, ho, hk1, hk5, hc2, hp2, hg⟩
  exact ⟨_, rfl, by omega, by omega, h.only hp hp2 hc2 hg, hg⟩
def TermPost (w : World) (gc : Nat) (n : Ls) (p d : Nat) (e : Ending) (w' : World) : Prop :=
  ∃ t A c p', e = .returned (.agg #[.int .i64 t.op, .int .i64 t.val, .slice A t.args.length c]) ∧ TrS (fun g => w.heap.size ≤ g) w' t A c ∧ Fine d t ∧ p ≤ p' ∧ Cod w' gc n p' ∧ w.grownBy w' (some gc)
def TermSt (w : World) (gc : Nat) (n : Ls) (p d : Nat) (wx : World) (e : Ending) (w' : World) : Prop :=
  ∃ t A c, e = .returned (.agg #[.int .i64 t.op, .int .i64 t.val, .slice A t.args.length c]) ∧ TrS (fun g => wx.heap.size ≤ g) w' t A c ∧ Fine d t ∧ St w gc n p w' ∧ wx.grownBy w' (some gc)
theorem term_st {w wx : World} {gc : Nat} {n : Ls} {p d : Nat} {dp : Int} (hT : ∀ p W, Cod W gc n p → Calls Try.prog 20 #[.pointer (some ⟨gc, 0, none⟩), .int .i64 dp] W (TermPost W gc n p d)) (h : St w gc n p wx) :
    Calls Try.prog 20 #[.pointer (some ⟨gc, 0, none⟩), .int .i64 dp] wx (TermSt w gc n p d wx) := by
  obtain ⟨p', hp, hc⟩ := h.c
  refine (hT p' wx hc).mono ?_
  rintro e w' ⟨t, A, c, p2, rfl, ht, hf, hp2, hc2, hg⟩
  exact ⟨t, A, c, rfl, ht, hf, h.only hp hp2 hc2 hg, hg⟩
/-- The end: the term is stored into the result's variable. -/
theorem term_ret {w V : World} {gc : Nat} {n : Ls} {p d : Nat} {t : Tm} {A : Option Addr} {c : Nat} {a : Act} (h : St w gc n p V) (ht : TrS (S0 w) V t A c) (hf : Fine d t)
    (h4 : a.tmps[4]?.getD undef = .pointer (some ⟨w.heap.size, 0, none⟩)) (hd : a.defers = []) :
    bodyPost Try.prog Try.f20 (TermPost w gc n p d) Exit.ret a (((V.setCell ⟨w.heap.size, 0, none⟩ (.int .i64 t.op)).setCell ⟨w.heap.size, 1, none⟩ (.int .i64 t.val)).setCell ⟨w.heap.size, 2, none⟩ (.slice A t.args.length c)) := by
  obtain ⟨p', hp, hc⟩ := h.c
  have hz := ((h.z.put 0 (.int .i64 t.op)).put 1 (.int .i64 t.val)).put 2 (.slice A t.args.length c)
  simp only [List.setIfInBounds_toArray, List.set_cons_zero, List.set_cons_succ] at hz
  have hgl := h.l
  have hne : w.heap.size ≠ gc := by omega
  have n0 : NoByte #[Value.int .i64 0, .int .i64 0, .slice none 0 0] := NoByte.three (fun x h => by cases h) (fun x h => by cases h) (fun x h => by cases h)
  have n1 := n0.put 0 (u := .int .i64 t.op) (fun x h => by cases h)
  have n2 := n1.put 1 (u := .int .i64 t.val) (fun x h => by cases h)
  have hc' := ((hc.put h.z hne n0 0 (.int .i64 t.op)).put (h.z.put 0 (.int .i64 t.op)) hne n1 1 (.int .i64 t.val)).put ((h.z.put 0 (.int .i64 t.op)).put 1 (.int .i64 t.val)) hne n2 2 (.slice A t.args.length c)
  have hg' := only_far (p := ⟨w.heap.size, 2, none⟩) (only_far (p := ⟨w.heap.size, 1, none⟩) (only_far (p := ⟨w.heap.size, 0, none⟩) h.g (.inr (Nat.le_refl _)) (.int .i64 t.op)) (.inr (Nat.le_refl _)) (.int .i64 t.val)) (.inr (Nat.le_refl _)) (.slice A t.args.length c)
  have hk : ∀ g, S0 w g → (((V.setCell ⟨w.heap.size, 0, none⟩ (.int .i64 t.op)).setCell ⟨w.heap.size, 1, none⟩ (.int .i64 t.val)).setCell ⟨w.heap.size, 2, none⟩ (.slice A t.args.length c)).heap[g]? = V.heap[g]? := by
    intro g hS
    unfold S0 at hS
    rw [Below.heap_setCell _ ⟨w.heap.size, 2, none⟩ _ g (by simp; omega), Below.heap_setCell _ ⟨w.heap.size, 1, none⟩ _ g (by simp; omega), Below.heap_setCell _ ⟨w.heap.size, 0, none⟩ _ g (by simp; omega)]
  have ht' := (ht.keep fun g hS _ => hk g hS).mono (S' := fun g => w.heap.size ≤ g) (fun g k => by unfold S0 at k; omega)
  generalize ((V.setCell ⟨w.heap.size, 0, none⟩ (.int .i64 t.op)).setCell ⟨w.heap.size, 1, none⟩ (.int .i64 t.val)).setCell ⟨w.heap.size, 2, none⟩ (.slice A t.args.length c) = w4 at *
  have d0 : w4.cell? ⟨w.heap.size, 0, none⟩ = some (.int .i64 t.op) := hz.cell 0
  have d1 : w4.cell? ⟨w.heap.size, 1, none⟩ = some (.int .i64 t.val) := hz.cell 1
  have d2 : w4.cell? ⟨w.heap.size, 2, none⟩ = some (.slice A t.args.length c) := hz.cell 2
  refine bodyPost_ret (v := .agg #[.int .i64 t.op, .int .i64 t.val, .slice A t.args.length c]) ?_ hd ⟨t, A, c, p', rfl, ht', hf, hp, hc', hg'⟩
  simp [results, Try.results20, go_sem, d0, d1, d2, h4]
/-! ### The list that is filled -/
theorem Flat.map' {S S' : Nat → Prop} {w w' : World} {ts : List Tm} {xs : List Value} (h : Flat S w ts xs) (f : ∀ t A c, TrS S w t A c → TrS S' w' t A c) : Flat S' w' ts xs := by
  induction h with
  | nil => exact .nil
  | cons h k ih => exact .cons (f _ _ _ h) ih
/-- A slice that the call has filled with the terms ts, in blocks from B on. -/
def Coll (B : Nat) (w : World) (v : Value) (ts : List Tm) : Prop :=
  ∃ A c xs, v = .slice A ts.length c ∧ w.ownsRow B 30 3 v ts.length xs ∧ Flat (fun g => B ≤ g ∧ some g ≠ v.ownBlock) w ts xs
section
variable {B : Nat} {w w' w1 : World} {v v' : Value} {ts : List Tm} {t : Tm} {A : Option Addr} {c : Nat}
theorem Coll.nil (B : Nat) (w : World) : Coll B w (.slice none 0 0) [] := ⟨none, 0, [], rfl, World.ownsRow_nil _ _ _ _, .nil⟩
theorem Coll.keep (h : Coll B w v ts) (hk : ∀ g, B ≤ g → g < w.heap.size → w'.heap[g]? = w.heap[g]?) : Coll B w' v ts := by
  obtain ⟨A, c, xs, rfl, ho, hf⟩ := h
  exact ⟨A, c, xs, rfl, own_same ho hk, hf.map fun _ _ _ k => k.keep fun g hS hl => hk g hS.1 hl⟩
theorem Coll.bel (h : Coll B w v ts) (hb : Below w.heap.size w w') : Coll B w' v ts := h.keep fun g _ hl => hb.block g hl
theorem Coll.alloc (h : Coll B w v ts) (o : Obj) : Coll B (w.alloc o) v ts := h.keep fun g _ hl => Below.heap_alloc w o g hl
theorem Coll.only {gc : Nat} (h : Coll B w v ts) (hg : w.grownBy w' (some gc)) (hgc : gc < B) : Coll B w' v ts := h.keep fun g hB hl => hg.block g hl (by intro e; injection e with e; omega)
theorem Coll.tr (h : Coll B w v ts) : ∃ A c, v = .slice A ts.length c ∧ TrS (fun g => B ≤ g) w (.mk 0 0 ts) A c := by
  obtain ⟨A, c, xs, rfl, ho, hf⟩ := h
  exact ⟨A, c, rfl, (TrS.of_own ho hf f0 f0).mono fun g k => k.elim (fun k => k.1) (fun k => k)⟩
theorem Coll.lt (h : Coll B w v ts) : ∀ g, v.ownBlock = some g → g < w.heap.size := by
  intro g hg
  obtain ⟨A, c, xs, rfl, ho, _⟩ := h
  rcases ho.2 with ⟨h0, _⟩ | ⟨g', cap, cur, hv, hb, hh, _⟩
  · injection h0 with e; subst e; cases hg
  · injection hv with e; subst e
    injection hg with e; subst e
    exact (Array.getElem?_eq_some_iff.1 hh).1
/-- One term more. -/
theorem Coll.snoc (h : Coll B w v ts) (ht : TrS (fun g => B ≤ g ∧ some g ≠ v.ownBlock) w t A c) {o : Obj} {xs : List Value} {n : Nat} (hx : ∃ A c, v = .slice A ts.length c)
    (hf : Flat (fun g => B ≤ g ∧ some g ≠ v.ownBlock) w ts xs) (hn : n = ts.length + 1) (hw : ∃ A c, v' = .slice A n c)
    (hown : w'.ownsRow B 30 3 v' n (xs ++ [.int .i64 t.op, .int .i64 t.val, .slice A t.args.length c])) (hg : (w.alloc o).grownBy w' v.ownBlock) (hd : v'.ownBlock = v.ownBlock ∨ v'.ownBlock = some (w.alloc o).heap.size) :
    Coll B w' v' (ts ++ [t]) := by
  have hf2 : Flat (fun g => B ≤ g ∧ some g ≠ v.ownBlock) w (ts ++ [t]) (xs ++ [.int .i64 t.op, .int .i64 t.val, .slice A t.args.length c]) := hf.append (.cons ht .nil)
  have hlen : (ts ++ [t]).length = n := by simp [hn]
  obtain ⟨A', c', rfl⟩ := hw
  refine ⟨A', c', _, by rw [hlen], by rw [hlen]; exact hown, hf2.map' fun u Au cu hu => ?_⟩
  have h1 := hu.lt
  have h2 : TrS (fun g => (B ≤ g ∧ some g ≠ v.ownBlock) ∧ g < w.heap.size) w' u Au cu := h1.keep fun g hS hl => by
    have e1 : (w.alloc o).heap[g]? = w.heap[g]? := Below.heap_alloc w o g hl
    rw [← e1]
    exact hg.block g (by simp; omega) hS.1.2
  refine h2.mono fun g hS => ⟨hS.1.1, ?_⟩
  rcases hd with hd | hd
  · rw [hd]; exact hS.1.2
  · rw [hd]
    intro e
    injection e with e
    have := hS.2
    simp at e
    omega
end
/-- The append of one term, at the operation. -/
theorem wpList_append_term {ops : Array Oper} {rest : List Oper} {o : Oper} {a : Act} {Q : Exit → Act → World → Prop} (hgd : o.guard = none) (s x : Operand)
    (ho : o.op = .call { callee := .builtin .append, args := #[s, x], argTypes := #[28, 28] })
    {B : Nat} {w : World} {v : Value} {ts : List Tm} {t : Tm} {A : Option Addr} {c : Nat} (hC : Coll B w v ts) (ht : TrS (fun g => B ≤ g ∧ some g ≠ v.ownBlock) w t A c) (hl : ts.length ≤ 1000000) (hB : B ≤ w.heap.size) (H : Nat) (hH : w.heap.size = H)
    (hs : a.eval s = v) (hx : a.eval x = .slice (some ⟨H, 0, none⟩) 1 1)
    (h : ∀ A' c' w', Coll B w' (.slice A' (ts.length + 1) c') (ts ++ [t]) → (w.alloc (.cells #[.int .i64 t.op, .int .i64 t.val, .slice A t.args.length c] 30)).grownBy w' v.ownBlock → wpList Try.prog ops Q rest (a.put o.dst (.slice A' (ts.length + 1) c')) w') :
    wpList Try.prog ops Q (o :: rest) a (w.alloc (.cells #[.int .i64 t.op, .int .i64 t.val, .slice A t.args.length c] 30)) := by
  obtain ⟨i0, hi0, hz0, hz1, hz2⟩ := info_parts term_info
  subst hH
  obtain ⟨A0, c0, xs, hv, hown, hf⟩ := hC
  have hb := heap_alloc_new w (Obj.cells #[.int .i64 t.op, .int .i64 t.val, .slice A t.args.length c] 30)
  refine wpList_append_own_at _ hgd s x 28 ho B 30 i0 (.agg #[.int .i64 0, .int .i64 0, .slice none 0 0]) 3 40 Try.underlying28 hi0 hz0 hz1 hz2 rfl (by decide) v ts.length xs hs
    (own_same hown fun g _ hg => Below.heap_alloc w _ g hg) ⟨w.heap.size, 0, none⟩ 1 1 [.int .i64 t.op, .int .i64 t.val, .slice A t.args.length c] hx rfl ?_ ?_ ?_ ?_ ?_ ?_
  · intro j u hj
    rw [add_at]
    match j with
    | 0 => cases hj; exact Blk.cell hb 0
    | 1 => cases hj; exact Blk.cell hb 1
    | 2 => cases hj; exact Blk.cell hb 2
    | j + 3 => simp at hj
  · intro u hu
    simp at hu
    rcases hu with rfl | rfl | rfl <;> rfl
  · unfold maxLen; omega
  · omega
  · simp; omega
  · intro v' w' h1 h2 _ h4
    obtain ⟨A', c', hv'⟩ := own_form h1
    subst hv'
    exact h A' c' w' (Coll.snoc ⟨A0, c0, xs, hv, hown, hf⟩ ht ⟨A0, c0, hv⟩ hf rfl ⟨A', c', rfl⟩ h1 h2 h4) h2
end Go.Proofs.Ytddiclnkfhldlaa
