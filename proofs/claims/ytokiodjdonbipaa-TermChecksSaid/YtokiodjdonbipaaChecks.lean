/-
  The walk of the law TermChecks: both sides agree on which terms are valid, on how many nodes they have, and on whose names they are.
  Conditions: none.
-/
import Derived.Test.YtokiodjdonbipaaChk
import Derived.Test.YtokiodjdonbipaaSize
import Derived.Test.YtokiodjdonbipaaValid
import Derived.Test.YtokiodjdonbipaaNodes
import Derived.Deep.RegionHeld3
import Derived.Deep.DrawnRows
import Derived.Deep.DeepCutAuto
import Derived.Deep.Cut
import Derived.Deep.CutBlock
import Derived.LoopTactic
namespace Go.Proofs.Ytokiodjdonbipaa.termChecks
open Go.RowKit Go.Sort
set_option linter.unusedVariables false
attribute [local go_sem ↓] Go.wp_at_zero Go.wp_at_succ
/-- A box that holds a term, the term's own blocks being others. -/
def Bx (w : World) (g : Nat) (t : Tm) (A : Option Addr) (c : Nat) : Prop := Blk w g 24 #[.int .i64 t.op, .int .i64 t.val, .slice A t.args.length c] ∧ TrS (fun b => b < g) w t A c
section
variable {w w' : World} {g : Nat} {t : Tm} {A : Option Addr} {c : Nat}
theorem Bx.bel (h : Bx w g t A c) (hb : Below w.heap.size w w') : Bx w' g t A c := ⟨h.1.below hb h.1.lt, h.2.bel hb⟩
theorem Bx.c0 (h : Bx w g t A c) : w.cell? ⟨g, 0, none⟩ = some (.int .i64 t.op) := h.1.cell 0
theorem Bx.c1 (h : Bx w g t A c) : w.cell? ⟨g, 1, none⟩ = some (.int .i64 t.val) := h.1.cell 1
theorem Bx.c2 (h : Bx w g t A c) : w.cell? ⟨g, 2, none⟩ = some (.slice A t.args.length c) := h.1.cell 2
end
/-- The blocks of the terms: neither the choices nor the box of the deep term. -/
def P0 (gc s b : Nat) : Prop := b ≠ gc ∧ b ≠ s + 1
/-- The three boxes, and the choices. -/
structure Sit (S : Nat → Prop) (w V : World) (gc q s : Nat) (a t D : Tm) (A AT AD : Option Addr) (ca ct cd : Nat) : Prop where
  a1 : Blk V w.heap.size 24 #[.int .i64 a.op, .int .i64 a.val, .slice A a.args.length ca]
  a2 : TrS S V a A ca
  t1 : Blk V s 24 #[.int .i64 t.op, .int .i64 t.val, .slice AT t.args.length ct]
  t2 : TrS S V t AT ct
  d1 : Blk V (s + 1) 24 #[.int .i64 D.op, .int .i64 D.val, .slice AD D.args.length cd]
  d2 : TrS S V D AD cd
  c : ∃ p, Cod V gc q p
  bw : Below w.heap.size w V
  h1 : w.heap.size < gc
  h2 : gc < s
section
variable {S : Nat → Prop} {w V V' : World} {gc q s : Nat} {a t D : Tm} {A AT AD : Option Addr} {ca ct cd : Nat}
theorem Sit.bel (h : Sit S w V gc q s a t D A AT AD ca ct cd) (hb : Below V.heap.size V V') : Sit S w V' gc q s a t D A AT AD ca ct cd :=
  ⟨h.a1.below hb h.a1.lt, h.a2.bel hb, h.t1.below hb h.t1.lt, h.t2.bel hb, h.d1.below hb h.d1.lt, h.d2.bel hb, h.c.imp fun _ k => k.below hb, below_then h.bw hb h.bw.size, h.h1, h.h2⟩
theorem Sit.str {p : Nat} (hS : ∀ b, S b → b ≠ gc) (h : Sit S w V gc q s a t D A AT AD ca ct cd) (hg : V.grownBy V' (some gc)) (hc : Cod V' gc q p) : Sit S w V' gc q s a t D A AT AD ca ct cd := by
  have e1 := h.h1
  have e2 := h.h2
  exact ⟨h.a1.grown hg (by intro e; injection e with e; omega), h.a2.only hg (fun k => hS _ k rfl), h.t1.grown hg (by intro e; injection e with e; omega), h.t2.only hg (fun k => hS _ k rfl), h.d1.grown hg (by intro e; injection e with e; omega), h.d2.only hg (fun k => hS _ k rfl), ⟨p, hc⟩, below_only h.bw hg h.bw.size (by omega), h.h1, h.h2⟩
theorem Sit.deep {E : Tm} {AE : Option Addr} {ce : Nat} (hS : ∀ b, S b → b ≠ s + 1) (h : Sit S w V gc q s a t D A AT AD ca ct cd) (hE : TrS S V E AE ce) : Sit S w (((V.setCell ⟨s + 1, 0, none⟩ (.int .i64 E.op)).setCell ⟨s + 1, 1, none⟩ (.int .i64 E.val)).setCell ⟨s + 1, 2, none⟩ (.slice AE E.args.length ce)) gc q s a t E A AT AE ca ct ce := by
  have e1 := h.h1
  have e2 := h.h2
  have hk : ∀ b, b ≠ s + 1 → (((V.setCell ⟨s + 1, 0, none⟩ (.int .i64 E.op)).setCell ⟨s + 1, 1, none⟩ (.int .i64 E.val)).setCell ⟨s + 1, 2, none⟩ (.slice AE E.args.length ce)).heap[b]? = V.heap[b]? := fun b hb => by
    rw [Below.heap_setCell _ _ _ _ (by simpa using hb), Below.heap_setCell _ _ _ _ (by simpa using hb), Below.heap_setCell _ _ _ _ (by simpa using hb)]
  have hz := ((h.d1.put 0 (.int .i64 E.op)).put 1 (.int .i64 E.val)).put 2 (.slice AE E.args.length ce)
  simp only [List.setIfInBounds_toArray, List.set_cons_zero, List.set_cons_succ] at hz
  refine ⟨h.a1.same (hk _ (by omega)), h.a2.keep fun b hb _ => hk b (hS b hb), h.t1.same (hk _ (by omega)), h.t2.keep fun b hb _ => hk b (hS b hb), hz, hE.keep fun b hb _ => hk b (hS b hb), ?_, ?_, h.h1, h.h2⟩
  · obtain ⟨p, hc⟩ := h.c
    have n0 : NoByte #[.int .i64 D.op, .int .i64 D.val, .slice AD D.args.length cd] := NoByte.three (fun x h => by cases h) (fun x h => by cases h) (fun x h => by cases h)
    have n1 := n0.put 0 (u := .int .i64 E.op) (fun x h => by cases h)
    have n2 := n1.put 1 (u := .int .i64 E.val) (fun x h => by cases h)
    exact ⟨p, ((hc.put h.d1 (by omega) n0 0 (.int .i64 E.op)).put (h.d1.put 0 (.int .i64 E.op)) (by omega) n1 1 (.int .i64 E.val)).put ((h.d1.put 0 (.int .i64 E.op)).put 1 (.int .i64 E.val)) (by omega) n2 2 (.slice AE E.args.length ce)⟩
  · exact ((h.bw.setCell (p := ⟨s + 1, 0, none⟩) (by simp; omega) _).setCell (p := ⟨s + 1, 1, none⟩) (by simp; omega) _).setCell (p := ⟨s + 1, 2, none⟩) (by simp; omega) _
/-- From now on the terms lie in old blocks. -/
theorem Sit.old (h : Sit S w V gc q s a t D A AT AD ca ct cd) : Sit (fun b => S b ∧ b < V.heap.size) w V gc q s a t D A AT AD ca ct cd :=
  ⟨h.a1, h.a2.lt, h.t1, h.t2.lt, h.d1, h.d2.lt, h.c, h.bw, h.h1, h.h2⟩
/-- A new row has grown. -/
theorem Sit.own {B : Nat} {v : Value} {k : Nat} {xs : List Value} (h : Sit S w V gc q s a t D A AT AD ca ct cd) (hS : ∀ b, S b → b < B) (hs : s + 1 < B) (ho : V.ownsRow B 24 3 v k xs) (hg : V.grownBy V' v.ownBlock) : Sit S w V' gc q s a t D A AT AD ca ct cd := by
  have e1 := h.h1
  have e2 := h.h2
  have hv : ∀ g, v.ownBlock = some g → B ≤ g := by
    intro g hvg
    rcases ho.2 with ⟨rfl, _⟩ | ⟨g', cap, cur, rfl, hb, hh, _⟩
    · cases hvg
    · injection hvg with e
      subst e
      exact hb
  have hn : ∀ b, b < B → some b ≠ v.ownBlock := fun b hb e => by have := hv b e.symm; omega
  obtain ⟨p, hc⟩ := h.c
  have hc2 : ∃ p', Cod V' gc q p' := by
    have hv2 : ∀ g, v.ownBlock = some g → B ≤ g ∧ ∃ cs, V.heap[g]? = some (.cells cs 24 (0, 0)) := by
      intro g hvg
      rcases ho.2 with ⟨rfl, _⟩ | ⟨g', cap, cur, rfl, hb, hh, _⟩
      · cases hvg
      · injection hvg with e
        subst e
        exact ⟨hb, cur, hh⟩
    obtain ⟨h1, h2, A, cap, h3, hcap, h4⟩ := hc
    refine ⟨p, h1, h2, A, cap, h3.grown hg (hn _ (by omega)), hcap, fun k hk => ?_⟩
    obtain ⟨ga, x, e, hne, hx, hT, hcell⟩ := h4 k hk
    have hlt := World.block_lt_of_cell? V ⟨ga, k, none⟩ hcell
    have hga : some ga ≠ v.ownBlock := by
      intro e
      obtain ⟨_, cs, hcs⟩ := hv2 _ e.symm
      obtain ⟨cs', fr, hcs'⟩ := hT
      rw [hcs] at hcs'
      injection hcs' with hcs'
      injection hcs' with _ e2
      exact absurd e2 (by decide)
    exact ⟨ga, x, e, hne, hx, hT.same (hg.block ga hlt hga), (World.cell?_of_block (a := ⟨ga, k, none⟩) (hg.block ga hlt hga)).trans hcell⟩
  refine ⟨h.a1.grown hg (hn _ (by omega)), h.a2.keep fun b hb hl => hg.block b hl (hn b (hS b hb)), h.t1.grown hg (hn _ (by omega)), h.t2.keep fun b hb hl => hg.block b hl (hn b (hS b hb)), h.d1.grown hg (hn _ hs), h.d2.keep fun b hb hl => hg.block b hl (hn b (hS b hb)), hc2, ?_, h.h1, h.h2⟩
  exact ⟨hg.os.trans h.bw.os, hg.tape.trans h.bw.tape, hg.output.trans h.bw.output, Nat.le_trans h.bw.size hg.size, fun i hi => (hg.block i (Nat.lt_of_lt_of_le hi h.bw.size) (hn i (by omega))).trans (h.bw.block i hi)⟩
end
/-- The cells of the four boxes. -/
def C12 (ws s g11 : Nat) (a t D O : Tm) (A AT AD AO : Option Addr) (ca ct cd co : Nat) (W' : World) : Prop := W'.cell? ⟨ws, 0, none⟩ = some (.int .i64 a.op) ∧ W'.cell? ⟨ws, 1, none⟩ = some (.int .i64 a.val) ∧ W'.cell? ⟨ws, 2, none⟩ = some (.slice A a.args.length ca) ∧ W'.cell? ⟨s, 0, none⟩ = some (.int .i64 t.op) ∧ W'.cell? ⟨s, 1, none⟩ = some (.int .i64 t.val) ∧ W'.cell? ⟨s, 2, none⟩ = some (.slice AT t.args.length ct) ∧ W'.cell? ⟨s + 1, 0, none⟩ = some (.int .i64 D.op) ∧ W'.cell? ⟨s + 1, 1, none⟩ = some (.int .i64 D.val) ∧ W'.cell? ⟨s + 1, 2, none⟩ = some (.slice AD D.args.length cd) ∧ W'.cell? ⟨g11, 0, none⟩ = some (.int .i64 O.op) ∧ W'.cell? ⟨g11, 1, none⟩ = some (.int .i64 O.val) ∧ W'.cell? ⟨g11, 2, none⟩ = some (.slice AO O.args.length co)
/-- What has become of the world W: the choices have moved on, and there are new blocks. -/
def Sx (gc q : Nat) (W wx : World) : Prop := W.grownBy wx (some gc) ∧ ∃ p, Cod wx gc q p
theorem Sx.alloc {gc q : Nat} {W wx : World} (h : Sx gc q W wx) (o : Obj) : Sx gc q W (wx.alloc o) := ⟨only_alloc h.1 o, h.2.imp fun _ k => k.alloc o⟩
theorem Sx.drewN {gc q : Nat} {W wx : World} (h : Sx gc q W wx) (n : Nat) : Sx gc q W (wx.drewN n) := ⟨only_drewN h.1 n, h.2.imp fun _ k => k.drewN n⟩
def Nn (gc b : Nat) : Prop := b ≠ gc
/-- The four boxes. -/
structure Fo (gc q ws s g11 : Nat) (a t D O : Tm) (A AT AD AO : Option Addr) (ca ct cd co : Nat) (V : World) : Prop where
  a1 : Blk V ws 24 #[.int .i64 a.op, .int .i64 a.val, .slice A a.args.length ca]
  a2 : TrS (Nn gc) V a A ca
  t1 : Blk V s 24 #[.int .i64 t.op, .int .i64 t.val, .slice AT t.args.length ct]
  t2 : TrS (Nn gc) V t AT ct
  d1 : Blk V (s + 1) 24 #[.int .i64 D.op, .int .i64 D.val, .slice AD D.args.length cd]
  d2 : TrS (Nn gc) V D AD cd
  o1 : Blk V g11 24 #[.int .i64 O.op, .int .i64 O.val, .slice AO O.args.length co]
  o2 : TrS (Nn gc) V O AO co
  n1 : ws ≠ gc
  n2 : s ≠ gc
  n3 : s + 1 ≠ gc
  n4 : g11 ≠ gc
  lt : gc < V.heap.size
section
variable {gc q ws s g11 : Nat} {a t D O : Tm} {A AT AD AO : Option Addr} {ca ct cd co : Nat} {W wx : World}
theorem Fo.gr (h : Fo gc q ws s g11 a t D O A AT AD AO ca ct cd co W) (hg : W.grownBy wx (some gc)) : Fo gc q ws s g11 a t D O A AT AD AO ca ct cd co wx :=
  ⟨h.a1.grown hg (by intro e; injection e with e; exact h.n1 e), h.a2.only hg (fun k => k rfl), h.t1.grown hg (by intro e; injection e with e; exact h.n2 e), h.t2.only hg (fun k => k rfl), h.d1.grown hg (by intro e; injection e with e; exact h.n3 e), h.d2.only hg (fun k => k rfl), h.o1.grown hg (by intro e; injection e with e; exact h.n4 e), h.o2.only hg (fun k => k rfl), h.n1, h.n2, h.n3, h.n4, Nat.lt_of_lt_of_le h.lt hg.size⟩
theorem Fo.c12 (h : Fo gc q ws s g11 a t D O A AT AD AO ca ct cd co W) : C12 ws s g11 a t D O A AT AD AO ca ct cd co W :=
  ⟨h.a1.cell 0, h.a1.cell 1, h.a1.cell 2, h.t1.cell 0, h.t1.cell 1, h.t1.cell 2, h.d1.cell 0, h.d1.cell 1, h.d1.cell 2, h.o1.cell 0, h.o1.cell 1, h.o1.cell 2⟩
theorem li12 {ts : List Tm} {Al : Option Addr} {cl : Nat} (h : Fo gc q ws s g11 a t D O A AT AD AO ca ct cd co W) (hx : Sx gc q W wx) (hl : TrS (Nn gc) W (.mk 0 0 ts) Al cl) (hn : ts.length ≤ 1000000) :
    Calls Try.prog 25 #[.slice Al ts.length cl] wx fun e w' => ∃ L l, e = .returned (.agg #[.int .i64 3, .int .i64 0, .slice L ts.length l]) ∧ TrS (Nn gc) w' (.mk 3 0 ts) L l ∧ Sx gc q W w' ∧ C12 ws s g11 a t D O A AT AD AO ca ct cd co w' := by
  refine (rlist_any (Nn gc) ts wx Al cl (hl.only hx.1 (fun k => k rfl)) hn).mono ?_
  rintro e w' ⟨L, l, rfl, ht, hb⟩
  have hg := only_trans hx.1 (only_of_below hb (some gc))
  have hs : gc < wx.heap.size := Nat.lt_of_lt_of_le h.lt hx.1.size
  exact ⟨L, l, rfl, ht.mono (fun b k => k.elim id (fun k e => by subst e; omega)), ⟨hg, hx.2.imp fun _ k => k.below hb⟩, (h.gr hg).c12⟩
theorem te12 (h : Fo gc q ws s g11 a t D O A AT AD AO ca ct cd co W) (hx : Sx gc q W wx) :
    Calls Try.prog 12 #[.pointer (some ⟨gc, 0, none⟩), .int .i64 2] wx fun e w' => ∃ x AX cx, e = .returned (.agg #[.int .i64 x.op, .int .i64 x.val, .slice AX x.args.length cx]) ∧ TrS (Nn gc) w' x AX cx ∧ Sx gc q W w' ∧ wx.grownBy w' (some gc) ∧ C12 ws s g11 a t D O A AT AD AO ca ct cd co w' := by
  obtain ⟨p, hc⟩ := hx.2
  refine (cterm_any 1 gc q p wx 2 rfl (by omega) hc).mono ?_
  rintro e w' ⟨x, AX, cx, p', rfl, ht, _, _, hc', hg'⟩
  have hg := only_trans hx.1 hg'
  have hs : gc < wx.heap.size := Nat.lt_of_lt_of_le h.lt hx.1.size
  exact ⟨x, AX, cx, rfl, ht.mono (fun b k e => by subst e; omega), ⟨hg, p', hc'⟩, hg', (h.gr hg).c12⟩
theorem ne12 (h : Fo gc q ws s g11 a t D O A AT AD AO ca ct cd co W) (hx : Sx gc q W wx) :
    Calls Try.prog 20 #[.pointer (some ⟨gc, 0, none⟩), .int .i64 13] wx fun e w' => ∃ n : Int, e = .returned (.int .i64 n) ∧ fits n ∧ Sx gc q W w' ∧ wx.grownBy w' (some gc) ∧ C12 ws s g11 a t D O A AT AD AO ca ct cd co w' := by
  obtain ⟨p, hc⟩ := hx.2
  refine (next_any gc q p 13 wx hc (by omega) (by omega)).mono ?_
  rintro e w' ⟨r, p', rfl, hr, hc', _, _, hg'⟩
  have hg := only_trans hx.1 hg'
  exact ⟨_, rfl, fn (by omega) (by omega), ⟨hg, p', hc'⟩, hg', (h.gr hg).c12⟩
theorem in12 (h : Fo gc q ws s g11 a t D O A AT AD AO ca ct cd co W) (hx : Sx gc q W wx) :
    Calls Try.prog 24 #[.pointer (some ⟨gc, 0, none⟩)] wx fun e w' => ∃ n : Int, e = .returned (.int .i64 n) ∧ fits n ∧ Sx gc q W w' ∧ wx.grownBy w' (some gc) ∧ C12 ws s g11 a t D O A AT AD AO ca ct cd co w' := by
  obtain ⟨p, hc⟩ := hx.2
  refine (cint_any gc q p wx hc).mono ?_
  rintro e w' ⟨r, p', rfl, hr, _, hc', hg'⟩
  have hg := only_trans hx.1 hg'
  exact ⟨_, rfl, hr, ⟨hg, p', hc'⟩, hg', (h.gr hg).c12⟩
theorem ts12 (h : Fo gc q ws s g11 a t D O A AT AD AO ca ct cd co W) (hx : Sx gc q W wx) :
    Calls Try.prog 26 #[.pointer (some ⟨gc, 0, none⟩), .int .i64 3, .int .i64 2] wx fun e w' => ∃ us AU cU, e = .returned (.slice AU us.length cU) ∧ TrS (Nn gc) w' (.mk 0 0 us) AU cU ∧ Sx gc q W w' ∧ wx.grownBy w' (some gc) ∧ C12 ws s g11 a t D O A AT AD AO ca ct cd co w' := by
  obtain ⟨p, hc⟩ := hx.2
  refine (cterms_any 1 3 gc q p wx 2 3 rfl rfl (by omega) (by omega) hc).mono ?_
  rintro e w' ⟨us, AU, cU, rfl, hco, _, _, hct⟩
  have hg := only_trans hx.1 hct.g
  have hs : gc < wx.heap.size := Nat.lt_of_lt_of_le h.lt hx.1.size
  obtain ⟨A', c', e1, ht⟩ := hco.tr
  injection e1 with e1 _ e3
  subst e1; subst e3
  exact ⟨us, AU, cU, rfl, ht.mono (fun b k e => by subst e; omega), ⟨hg, hct.c.imp fun _ k => k.2⟩, hct.g, (h.gr hg).c12⟩
/-- The slice of the seven. -/
theorem seven {V : World} {H : Nat} (hH : V.heap.size = H) {ts us : List Tm} {x : Tm} {L AU : Option Addr} {l cU bp : Nat} {n v : Int} (h : Fo gc q ws s g11 a t D O A AT AD AO ca ct cd co V) (hL : TrS (Nn gc) V (.mk 3 0 ts) L l) (hP : TrS (Nn gc) V (.mk 5 0 [t, x]) (some ⟨bp, 0, none⟩) 2) (hU : TrS (Nn gc) V (.mk n v us) AU cU) :
    Tr (V.alloc (Obj.cells #[.int .i64 a.op, .int .i64 a.val, .slice A a.args.length ca, .int .i64 t.op, .int .i64 t.val, .slice AT t.args.length ct, .int .i64 D.op, .int .i64 D.val, .slice AD D.args.length cd, .int .i64 3, .int .i64 0, .slice L ts.length l, .int .i64 O.op, .int .i64 O.val, .slice AO O.args.length co, .int .i64 5, .int .i64 0, .slice (some ⟨bp, 0, none⟩) 2 2, .int .i64 n, .int .i64 v, .slice AU us.length cU] 24)) (.mk 0 0 [a, t, D, .mk 3 0 ts, O, .mk 5 0 [t, x], .mk n v us]) (some ⟨H, 0, none⟩) 7 := by
  subst hH
  have hf : Flat (Nn gc) V [a, t, D, .mk 3 0 ts, O, .mk 5 0 [t, x], .mk n v us] [.int .i64 a.op, .int .i64 a.val, .slice A a.args.length ca, .int .i64 t.op, .int .i64 t.val, .slice AT t.args.length ct, .int .i64 D.op, .int .i64 D.val, .slice AD D.args.length cd, .int .i64 3, .int .i64 0, .slice L ts.length l, .int .i64 O.op, .int .i64 O.val, .slice AO O.args.length co, .int .i64 5, .int .i64 0, .slice (some ⟨bp, 0, none⟩) 2 2, .int .i64 n, .int .i64 v, .slice AU us.length cU] := .cons h.a2 (.cons h.t2 (.cons h.d2 (.cons hL (.cons h.o2 (.cons hP (.cons hU .nil))))))
  have hb := heap_alloc_new V (Obj.cells #[.int .i64 a.op, .int .i64 a.val, .slice A a.args.length ca, .int .i64 t.op, .int .i64 t.val, .slice AT t.args.length ct, .int .i64 D.op, .int .i64 D.val, .slice AD D.args.length cd, .int .i64 3, .int .i64 0, .slice L ts.length l, .int .i64 O.op, .int .i64 O.val, .slice AO O.args.length co, .int .i64 5, .int .i64 0, .slice (some ⟨bp, 0, none⟩) 2 2, .int .i64 n, .int .i64 v, .slice AU us.length cU] 24)
  exact (TrS.of_own (c := 7) (A := some ⟨V.heap.size, 0, none⟩) ⟨rfl, .inr ⟨_, 7, _, rfl, Nat.zero_le _, hb, Nat.le_refl _, by unfold maxLen; omega, rfl, rfl⟩⟩ (hf.map fun _ _ _ k => k.alloc _) f0 f0).tr
end
def Rel7 (w : World) (v75 v76 v77 : Value) (wx : World) : Prop := ∃ G us, v75 = .slice (some ⟨G, 0, none⟩) 7 7 ∧ v76 = .int .i64 7 ∧ v77 = .int .i64 0 ∧ us.length = 7 ∧ Tr wx (.mk 0 0 us) (some ⟨G, 0, none⟩) 7 ∧ Below w.heap.size w wx
set_option maxRecDepth 100000 in
set_option maxHeartbeats 4000000 in
theorem termChecks_walk (w : World) (a : Tm) (A : Option Addr) (ca : Nat) (ha : Tr w a A ca) (A2 : Option Addr) (len cap : Nat) (h : Byts w A2 len) (hl : len ≤ cap ∧ cap ≤ maxLen) :
    Calls Try.prog 5 #[.agg #[.int .i64 a.op, .int .i64 a.val, .slice A a.args.length ca], .slice A2 len cap] w fun e w' => e = .returned (.bool true) ∧ Below w.heap.size w w' := by
  have k1 : Blk (w.alloc (Obj.cells #[.int .i64 a.op, .int .i64 a.val, .slice A a.args.length ca] 24)) w.heap.size 24 #[.int .i64 a.op, .int .i64 a.val, .slice A a.args.length ca] := heap_alloc_new w _
  have k2 : TrS (fun b => b < w.heap.size) (w.alloc (Obj.cells #[.int .i64 a.op, .int .i64 a.val, .slice A a.args.length ca] 24)) a A ca := ha.sup.alloc _
  have k3 : Below w.heap.size w (w.alloc (Obj.cells #[.int .i64 a.op, .int .i64 a.val, .slice A a.args.length ca] 24)) := (Below.refl _ _).alloc (Nat.le_refl _) _
  have hby0 : Byts (w.alloc (Obj.cells #[.int .i64 a.op, .int .i64 a.val, .slice A a.args.length ca] 24)) A2 len := by
    intro k hk
    obtain ⟨ad, x, e, hx, hc⟩ := h k hk
    exact ⟨ad, x, e, hx, cell_alloc hc⟩
  have K := Lib.hid (And.intro (show Bx _ _ _ _ _ from ⟨k1, k2⟩) k3)
  have HB0 := Lib.hid hby0
  clear k1 k2 k3 hby0 h ha
  go_enter Try.func5, Try.ntmps5
  go_wp2_with fail
  generalize w.alloc (Obj.cells #[.int .i64 a.op, .int .i64 a.val, .slice A a.args.length ca] 24) = W at *
  refine (awake_any _).mono ?_
  rintro e w1 ⟨rfl, hb1⟩
  have HB := Lib.hid (show Byts w1 A2 len from by
    intro k hk
    obtain ⟨ad, x, e, hx, hc⟩ := HB0.out k hk
    exact ⟨ad, x, e, hx, (hb1.cell (World.block_lt_of_cell? W _ hc)).trans hc⟩)
  replace K := Lib.hid (And.intro (K.out.1.bel hb1) (below_then K.out.2 hb1 K.out.2.size))
  clear hb1 HB0
  have c0 := K.out.1.c0
  have c1 := K.out.1.c1
  have c2 := K.out.1.c2
  go_wp2_with fail
  refine (size_any a w1 A ca K.out.1.2.tr).mono ?_
  rintro e w2 ⟨rfl, hsz, hb2⟩
  have HB2 := Lib.hid (show Byts w2 A2 len from by
    intro k hk
    obtain ⟨ad, x, e, hx, hc⟩ := HB.out k hk
    exact ⟨ad, x, e, hx, (hb2.cell (World.block_lt_of_cell? w1 _ hc)).trans hc⟩)
  replace K := Lib.hid (And.intro (K.out.1.bel hb2) (below_then K.out.2 hb2 K.out.2.size))
  have HSZ := Lib.hid (size_any a w2 A ca K.out.1.2.tr)
  clear hb2 HB c0 c1 c2 hsz
  have c0 := K.out.1.c0
  have c1 := K.out.1.c1
  have c2 := K.out.1.c2
  generalize sizeT a = z at *
  by_cases hz : 300 ≤ z
  · have z1 : decide (z ≥ 300) = true := by simpa using hz
    have z2 : decide (300 ≤ z) = true := by simpa using hz
    go_wp2_with fail
    refine HSZ.out.mono ?_
    rintro e w3 ⟨rfl, _, hb3⟩
    have HB3 := Lib.hid (below_then K.out.2 hb3 K.out.2.size)
    clear hb3
    go_wp2_with fail
    exact bodyPost_ret (v := .bool true) (by simp [results, Try.results5, go_sem]) rfl ⟨rfl, HB3.out⟩
  · have z1 : decide (z ≥ 300) = false := by simp; omega
    have z2 : decide (300 ≤ z) = false := by simp; omega
    clear HSZ
    go_wp2_with fail
    refine (new_any A2 len cap 120 _ HB2.out hl.1 hl.2 (by omega) (by omega)).mono ?_
    rintro e w3 ⟨gc, q, rfl, hgc, hcod, hq, hb3⟩
    have hgcw : w.heap.size ≤ gc := Nat.le_trans K.out.2.size hgc
    have hwz : w.heap.size < w2.heap.size := K.out.1.1.lt
    replace K := Lib.hid (And.intro (K.out.1.bel hb3) (below_then K.out.2 hb3 K.out.2.size))
    have C3 := Lib.hid hcod
    have hgl := hcod.lt
    have h23 := hb3.size
    clear hcod hq hb3 c0 c1 c2 HB2
    go_wp2_with fail
    refine (cterm_any 3 gc q 0 w3 4 rfl (by omega) C3.out).mono ?_
    rintro e w4 ⟨t, AT, ct, p4, rfl, ht, hft, _, hc4, hg4⟩
    have hne : w.heap.size ≠ gc := by omega
    have HT := Lib.hid ht
    have C4 := Lib.hid hc4
    have G4 := Lib.hid hg4
    clear ht hft hc4 hg4
    have h34 : w3.heap.size ≤ w4.heap.size := G4.out.size
    have b1 : Blk ((w4.alloc (Obj.cells #[.int .i64 t.op, .int .i64 t.val, .slice AT t.args.length ct] 24)).alloc (Obj.cells #[.int .i64 t.op, .int .i64 t.val, .slice AT t.args.length ct] 24)) w4.heap.size 24 #[.int .i64 t.op, .int .i64 t.val, .slice AT t.args.length ct] := Blk.alloc (heap_alloc_new w4 _) _
    have b2 : Blk ((w4.alloc (Obj.cells #[.int .i64 t.op, .int .i64 t.val, .slice AT t.args.length ct] 24)).alloc (Obj.cells #[.int .i64 t.op, .int .i64 t.val, .slice AT t.args.length ct] 24)) (w4.heap.size + 1) 24 #[.int .i64 t.op, .int .i64 t.val, .slice AT t.args.length ct] := by
      have := heap_alloc_new (w4.alloc (Obj.cells #[.int .i64 t.op, .int .i64 t.val, .slice AT t.args.length ct] 24)) (Obj.cells #[.int .i64 t.op, .int .i64 t.val, .slice AT t.args.length ct] 24)
      simp only [World.size_alloc] at this
      exact this
    have bz : Below w4.heap.size w4 ((w4.alloc (Obj.cells #[.int .i64 t.op, .int .i64 t.val, .slice AT t.args.length ct] 24)).alloc (Obj.cells #[.int .i64 t.op, .int .i64 t.val, .slice AT t.args.length ct] 24)) := ((Below.refl _ _).alloc (Nat.le_refl _) _).alloc (by simp) _
    have ta4 : TrS (fun b => b < w.heap.size) w3 a A ca := K.out.1.2
    have sit : Sit (P0 gc w4.heap.size) w ((w4.alloc (Obj.cells #[.int .i64 t.op, .int .i64 t.val, .slice AT t.args.length ct] 24)).alloc (Obj.cells #[.int .i64 t.op, .int .i64 t.val, .slice AT t.args.length ct] 24)) gc q w4.heap.size a t t A AT AT ca ct ct := by
      have tt := (HT.out.lt.mono (S' := P0 gc w4.heap.size) (fun b hb => ⟨by omega, by omega⟩)).bel bz
      exact ⟨(K.out.1.1.grown G4.out (by intro e; injection e with e; omega)).below bz (by omega), (((ta4.only G4.out (by omega)).mono (fun b hb => ⟨by omega, by omega⟩)).bel bz), b1, tt, b2, tt, ⟨p4, C4.out.below bz⟩, below_then (below_only K.out.2 G4.out K.out.2.size hgcw) bz (below_only K.out.2 G4.out K.out.2.size hgcw).size, by omega, by omega⟩
    have SI := Lib.hid sit
    clear sit b1 b2 bz ta4 K C3 C4 G4 HT h34
    go_upto_region 6 with (fail)
    generalize ((w4.alloc (Obj.cells #[.int .i64 t.op, .int .i64 t.val, .slice AT t.args.length ct] 24)).alloc (Obj.cells #[.int .i64 t.op, .int .i64 t.val, .slice AT t.args.length ct] 24)) = V at *
    generalize w4.heap.size = s at *
    obtain ⟨p5, hc5⟩ := SI.out.c
    have C5 := Lib.hid hc5
    clear hc5
    go_wp2_with fail
    refine (next_any gc q p5 8 V C5.out (by omega) (by omega)).mono ?_
    rintro e w5 ⟨x, p6, rfl, hx, hc6, _, _, hg6⟩
    replace SI := Lib.hid (SI.out.str (fun b hb => hb.1) hg6 hc6)
    clear hc6 hg6 C5
    go_wp2_with fail
    go_loopw [8] (fun i wr => ∃ k : Nat, ∃ D AD cd, k ≤ 61 ∧ i = .int .i64 k ∧ Sit (P0 gc s) w wr gc q s a t D A AT AD ca ct cd) (fun i _ => (intOf i).toNat)
    case atStart => exact ⟨54 + x, t, AT, ct, by omega, by go_num, SI.out⟩
    case round =>
      obtain ⟨k, D, AD, cd, hk, rfl, hsi⟩ := hrel
      have SR := Lib.hid hsi
      clear hsi SI
      by_cases hk0 : 0 < k
      · have q0 : decide (0 < (k : Int)) = true := by simp; omega
        have q1 : decide ((k : Int) > 0) = true := by simp; omega
        have d0 : wr.cell? ⟨s + 1, 0, none⟩ = some (.int .i64 D.op) := SR.out.d1.cell 0
        have d1 : wr.cell? ⟨s + 1, 1, none⟩ = some (.int .i64 D.val) := SR.out.d1.cell 1
        have d2 : wr.cell? ⟨s + 1, 2, none⟩ = some (.slice AD D.args.length cd) := SR.out.d1.cell 2
        have hB : s + 1 < wr.heap.size := SR.out.d1.lt
        have e1 := SR.out.h1
        have e2 := SR.out.h2
        have hto : TrS (P0 gc s) (wr.alloc (Obj.cells #[.int .i64 D.op, .int .i64 D.val, .slice AD D.args.length cd] 24)) (.mk 0 0 [D]) (some ⟨wr.heap.size, 0, none⟩) 1 := TrS.one (heap_alloc_new wr _) ⟨by omega, by omega⟩ (SR.out.d2.alloc _) f0 f0
        have HTO := Lib.hid hto
        clear hto
        go_wp2_with fail
        refine (rof_any (P0 gc s) [D] _ _ 1 HTO.out (by simp)).mono ?_
        rintro e w6 ⟨A1, c1, rfl, ht6, hb6⟩
        have S6 := Lib.hid ((SR.out.bel (show Below wr.heap.size wr (wr.alloc (Obj.cells #[.int .i64 D.op, .int .i64 D.val, .slice AD D.args.length cd] 24)) from (Below.refl _ _).alloc (Nat.le_refl _) _)).bel hb6)
        have T6 := Lib.hid (ht6.mono (S' := P0 gc s) (fun b hb => hb.elim id (fun hb => by simp at hb; exact ⟨by omega, by omega⟩)))
        clear ht6 hb6 d0 d1 d2 HTO SR
        have d0 : w6.cell? ⟨s + 1, 0, none⟩ = some (.int .i64 D.op) := S6.out.d1.cell 0
        have d1 : w6.cell? ⟨s + 1, 1, none⟩ = some (.int .i64 D.val) := S6.out.d1.cell 1
        have d2 : w6.cell? ⟨s + 1, 2, none⟩ = some (.slice AD D.args.length cd) := S6.out.d1.cell 2
        have fz0 := S6.out.d1.free 0
        have fz1 := S6.out.d1.free 1
        have fz2 := S6.out.d1.free 2
        go_wp2_with fail
        go_roundw
        case rel => exact ⟨k - 1, .mk 3 0 [D], A1, c1, by omega, by go_num, S6.out.deep (fun b hb => hb.2) (E := .mk 3 0 [D]) T6.out⟩
        case measure => simp [intOf]; omega
      · have q0 : decide (0 < (k : Int)) = false := by simp; omega
        have q1 : decide ((k : Int) > 0) = false := by simp; omega
        obtain ⟨p7, hc7⟩ := SR.out.c
        have C7 := Lib.hid hc7
        clear hc7
        go_wp2_with fail
        refine (next_any gc q p7 5 wr C7.out (by omega) (by omega)).mono ?_
        rintro e w7 ⟨y, p8, rfl, hy, hc8, _, _, hg8⟩
        have S7 := Lib.hid (SR.out.str (fun b hb => hb.1) hg8 hc8)
        clear hc8 hg8 C7 SR
        go_wp2_with fail
        have S8 := Lib.hid S7.out.old
        have hs7 : s + 1 < w7.heap.size := S7.out.d1.lt
        clear S7
        generalize hB : w7.heap.size = B at *
        go_loopw [9, 10] (fun l nn wr => ∃ k : Nat, ∃ ts : List Tm, nn = .int .i64 k ∧ k + ts.length ≤ 601 ∧ Coll B wr l ts ∧ B ≤ wr.heap.size ∧ Sit (fun b => P0 gc s b ∧ b < B) w wr gc q s a t D A AT AD ca ct cd) (fun _ nn _ => (intOf nn).toNat)
        case atStart => exact ⟨597 + y, [], by go_num, by simp; omega, Coll.nil _ _, by omega, S8.out⟩
        case round =>
          obtain ⟨k, ts, rfl, hk, hco, hbr, hsi⟩ := hrel
          obtain ⟨Al, cl, rfl, _⟩ := hco.tr
          have HCO := Lib.hid hco
          have SR := Lib.hid hsi
          clear hco hsi
          by_cases hk0 : 0 < k
          · have q2 : decide (0 < (k : Int)) = true := by simp; omega
            have q3 : decide ((k : Int) > 0) = true := by simp; omega
            have fk := Lib.hid (show fits (k : Int) from fn (by omega) (by omega))
            go_wp2_with fail
            refine (rnumber_any (fun _ => True) k _ fk.out).mono ?_
            rintro e w9 ⟨A1, c1, rfl, ht9, hb9⟩
            have hts : ts.length ≤ 1000000 := by omega
            have hc1 : c1 ≤ maxLen := ht9.ofits.2.2.2
            have hB9 : B ≤ w9.heap.size := Nat.le_trans hbr hb9.size
            have HC9 := Lib.hid (HCO.out.bel hb9)
            have S9 := Lib.hid (SR.out.bel hb9)
            have HT9 := Lib.hid (TrS.leaf (fun g => B ≤ g ∧ some g ≠ (Value.slice Al ts.length cl).ownBlock) w9 1 (k : Int) A1 c1 (fn (by omega) (by omega)) fk.out hc1)
            have hcp : ∀ A' c' w4, Coll B w4 (.slice A' (ts.length + 1) c') (ts ++ [.mk 1 (k : Int) []]) → (w9.alloc (.cells #[.int .i64 1, .int .i64 k, .slice A1 0 c1] 24)).grownBy w4 (Value.slice Al ts.length cl).ownBlock → B ≤ w4.heap.size ∧ Sit (fun b => P0 gc s b ∧ b < B) w w4 gc q s a t D A AT AD ca ct cd := fun A' c' w4 _ hg4 => by
              obtain ⟨A0, c0, xs, hv0, ho0, _⟩ := HC9.out.alloc (.cells #[.int .i64 1, .int .i64 k, .slice A1 0 c1] 24)
              have h3 := S9.out.bel (show Below w9.heap.size w9 (w9.alloc (.cells #[.int .i64 1, .int .i64 k, .slice A1 0 c1] 24)) from (Below.refl _ _).alloc (Nat.le_refl _) _)
              exact ⟨by have := hg4.size; simp at this; omega, h3.own (fun b hb => hb.2) hs7 ho0 hg4⟩
            have HCP := Lib.hid hcp
            clear ht9 hb9 hcp HCO SR
            go_wp2_with (at_builtin; refine wpList_append_term (t := .mk 1 (k : Int) []) rfl (.tmp 46) (.tmp 49) rfl HC9.out HT9.out hts hB9 w9.heap.size rfl rfl rfl ?_; intro A' c' w10 hC10 hg10; have HC10 := Lib.hid hC10; have HS10 := Lib.hid (HCP.out A' c' w10 hC10 hg10); clear hC10 hg10)
            go_roundw
            case rel => exact ⟨k - 1, ts ++ [.mk 1 (k : Int) []], by go_num, by simp; omega, by simpa using HC10.out, HS10.out.1, HS10.out.2⟩
            case measure => simp [intOf]; omega
          · have q2 : decide (0 < (k : Int)) = false := by simp; omega
            have q3 : decide ((k : Int) > 0) = false := by simp; omega
            have a0 : wr.cell? ⟨w.heap.size, 0, none⟩ = some (.int .i64 a.op) := SR.out.a1.cell 0
            have a1 : wr.cell? ⟨w.heap.size, 1, none⟩ = some (.int .i64 a.val) := SR.out.a1.cell 1
            have a2 : wr.cell? ⟨w.heap.size, 2, none⟩ = some (.slice A a.args.length ca) := SR.out.a1.cell 2
            have b0 : wr.cell? ⟨s, 0, none⟩ = some (.int .i64 t.op) := SR.out.t1.cell 0
            have b1 : wr.cell? ⟨s, 1, none⟩ = some (.int .i64 t.val) := SR.out.t1.cell 1
            have b2 : wr.cell? ⟨s, 2, none⟩ = some (.slice AT t.args.length ct) := SR.out.t1.cell 2
            have hgr : gc < wr.heap.size := by have := SR.out.h2; have := SR.out.t1.lt; omega
            go_wp2_with fail
            refine (rseal_any _ t a wr AT A ct ca SR.out.t2 SR.out.a2).mono ?_
            rintro e w11 ⟨A1, c1, rfl, ht11, hb11⟩
            have hod := (ht11.lt.mono (S' := fun b => b ≠ gc ∧ b < w11.heap.size) (fun b hb => ⟨hb.1.elim (fun k => k.1.1) (fun k => by omega), hb.2⟩))
            have HOD := Lib.hid hod
            have SS := Lib.hid (SR.out.bel hb11)
            have HC11 := Lib.hid (HCO.out.bel hb11)
            have hgr11 : gc < w11.heap.size := Nat.lt_of_lt_of_le hgr hb11.size
            have hB11 : B ≤ w11.heap.size := Nat.le_trans hbr hb11.size
            obtain ⟨Al', cl', eal, htl⟩ := HC11.out.tr
            injection eal with e1 _ e3
            subst e1; subst e3
            have hBg : gc < B := by have := SS.out.h2; omega
            have HTL := Lib.hid ((htl.lt.mono (S' := fun b => b ≠ gc ∧ b < w11.heap.size) (fun b hb => ⟨by omega, hb.2⟩)).alloc (Obj.cells #[.int .i64 7, .int .i64 0, .slice A1 2 c1] 24))
            clear hod ht11 hb11 SR HCO a0 a1 a2 b0 b1 b2 htl
            have SZ := Lib.hid (SS.out.bel (show Below w11.heap.size w11 (w11.alloc (Obj.cells #[.int .i64 7, .int .i64 0, .slice A1 2 c1] 24)) from (Below.refl _ _).alloc (Nat.le_refl _) _))
            have HCZ := Lib.hid (HC11.out.alloc (Obj.cells #[.int .i64 7, .int .i64 0, .slice A1 2 c1] 24))
            have HBZ := Lib.hid (show Blk (w11.alloc (Obj.cells #[.int .i64 7, .int .i64 0, .slice A1 2 c1] 24)) w11.heap.size 24 #[.int .i64 7, .int .i64 0, .slice A1 2 c1] from heap_alloc_new w11 _)
            have HDZ := Lib.hid (HOD.out.alloc (Obj.cells #[.int .i64 7, .int .i64 0, .slice A1 2 c1] 24))
            clear SS HC11 HOD
            go_wp2_with fail
            generalize (w11.alloc (Obj.cells #[.int .i64 7, .int .i64 0, .slice A1 2 c1] 24)) = Z at *
            generalize w11.heap.size = g11 at *
            obtain ⟨p12, hc12⟩ := SZ.out.c
            refine (cint_any gc q p12 Z hc12).mono ?_
            rintro e w12 ⟨r, p13, rfl, hfr, _, hc13, hg13⟩
            have HFR := Lib.hid hfr
            have SY := Lib.hid (SZ.out.str (fun b hb => hb.1.1) hg13 hc13)
            have HBY := Lib.hid (HBZ.out.grown hg13 (by intro e; injection e with e; omega))
            have HDY := Lib.hid (HDZ.out.only hg13 (fun k => k.1 rfl))
            have HLY := Lib.hid (HTL.out.only hg13 (fun k => k.1 rfl))
            clear hc12 hc13 hg13 hfr SZ HBZ HDZ HCZ HTL
            have o0 : w12.cell? ⟨g11, 0, none⟩ = some (.int .i64 7) := HBY.out.cell 0
            have o1 : w12.cell? ⟨g11, 1, none⟩ = some (.int .i64 0) := HBY.out.cell 1
            have o2 : w12.cell? ⟨g11, 2, none⟩ = some (.slice A1 2 c1) := HBY.out.cell 2
            have fo := HBY.out.free 1
            go_upto_region 17 with (fail)
            have hk : ∀ b, b ≠ g11 → (w12.setCell ⟨g11, 1, none⟩ (.int .i64 r)).heap[b]? = w12.heap[b]? := fun b hb => Below.heap_setCell _ _ _ _ (by simpa using hb)
            have e1 := SY.out.h1
            have e2 := SY.out.h2
            have hts2 : ts.length ≤ 1000000 := by omega
            have hob := HBY.out.put 1 (.int .i64 r)
            simp only [List.setIfInBounds_toArray, List.set_cons_zero, List.set_cons_succ] at hob
            have ksl : ∀ {u : Tm} {E : Option Addr} {ce : Nat}, TrS (fun b => P0 gc s b ∧ b < B) w12 u E ce → TrS (Nn gc) (w12.setCell ⟨g11, 1, none⟩ (.int .i64 r)) u E ce := fun k => (k.keep fun b hb _ => hk b (by have := hb.2; omega)).mono fun b hb => hb.1.1
            have fo : Fo gc q w.heap.size s g11 a t D (.mk 7 r [t, a]) A AT _ A1 ca ct _ c1 (w12.setCell ⟨g11, 1, none⟩ (.int .i64 r)) :=
              ⟨SY.out.a1.same (hk _ (by omega)), ksl SY.out.a2, SY.out.t1.same (hk _ (by omega)), ksl SY.out.t2, SY.out.d1.same (hk _ (by omega)), ksl SY.out.d2, hob, ((HDY.out.keep fun b hb _ => hk b (by have := hb.2; omega)).mono (fun b hb => hb.1)).re (fn (by omega) (by omega)) HFR.out, by omega, by omega, by omega, by omega, Nat.lt_of_lt_of_le (by omega : gc < s + 1) (Nat.le_of_lt (by have := SY.out.d1.lt; simpa using this))⟩
            have sx : Sx gc q (w12.setCell ⟨g11, 1, none⟩ (.int .i64 r)) (w12.setCell ⟨g11, 1, none⟩ (.int .i64 r)) := ⟨only_refl _ _, by
              obtain ⟨p, hc⟩ := SY.out.c
              exact ⟨p, hc.put HBY.out (by omega) (NoByte.three (fun x h => by cases h) (fun x h => by cases h) (fun x h => by cases h)) 1 (.int .i64 r)⟩⟩
            have hl0 : TrS (Nn gc) (w12.setCell ⟨g11, 1, none⟩ (.int .i64 r)) (.mk 0 0 ts) Al cl := (HLY.out.keep fun b hb _ => hk b (by have := hb.2; omega)).mono fun b hb => hb.1
            have bw : Below w.heap.size w (w12.setCell ⟨g11, 1, none⟩ (.int .i64 r)) := SY.out.bw.setCell (p := ⟨g11, 1, none⟩) (by simp; omega) _
            have FO := Lib.hid fo
            have SX := Lib.hid sx
            have HL0 := Lib.hid hl0
            have BW := Lib.hid bw
            have F5 := Lib.hid (show fits 5 from fn (by omega) (by omega))
            have nn : ¬ Nn gc gc := fun k => k rfl
            clear fo sx hl0 bw hk hob ksl SY HBY HDY HLY o0 o1 o2
            generalize (w12.setCell ⟨g11, 1, none⟩ (.int .i64 r)) = Y at *
            go_cut [75, 76, 77] (Rel7 w)
            case first =>
              have x0 : Y.cell? ⟨w.heap.size, 0, none⟩ = some (.int .i64 a.op) := FO.out.a1.cell 0
              have x1 : Y.cell? ⟨w.heap.size, 1, none⟩ = some (.int .i64 a.val) := FO.out.a1.cell 1
              have x2 : Y.cell? ⟨w.heap.size, 2, none⟩ = some (.slice A a.args.length ca) := FO.out.a1.cell 2
              have x3 : Y.cell? ⟨s, 0, none⟩ = some (.int .i64 t.op) := FO.out.t1.cell 0
              have x4 : Y.cell? ⟨s, 1, none⟩ = some (.int .i64 t.val) := FO.out.t1.cell 1
              have x5 : Y.cell? ⟨s, 2, none⟩ = some (.slice AT t.args.length ct) := FO.out.t1.cell 2
              have x6 : Y.cell? ⟨s + 1, 0, none⟩ = some (.int .i64 D.op) := FO.out.d1.cell 0
              have x7 : Y.cell? ⟨s + 1, 1, none⟩ = some (.int .i64 D.val) := FO.out.d1.cell 1
              have x8 : Y.cell? ⟨s + 1, 2, none⟩ = some (.slice AD D.args.length cd) := FO.out.d1.cell 2
              have x9 : Y.cell? ⟨g11, 0, none⟩ = some (.int .i64 7) := FO.out.o1.cell 0
              have x10 : Y.cell? ⟨g11, 1, none⟩ = some (.int .i64 r) := FO.out.o1.cell 1
              have x11 : Y.cell? ⟨g11, 2, none⟩ = some (.slice A1 2 c1) := FO.out.o1.cell 2
              have n0 := World.new_ne Y _ x0
              have n1 := World.new_ne Y _ x3
              have n2 := World.new_ne Y _ x6
              have n3 := World.new_ne Y _ x9
              go_region_held3 (fun w' => w'.cell? ⟨w.heap.size, 0, none⟩ = some (.int .i64 a.op) ∧ w'.cell? ⟨w.heap.size, 1, none⟩ = some (.int .i64 a.val) ∧ w'.cell? ⟨w.heap.size, 2, none⟩ = some (.slice A a.args.length ca) ∧ w'.cell? ⟨s, 0, none⟩ = some (.int .i64 t.op) ∧ w'.cell? ⟨s, 1, none⟩ = some (.int .i64 t.val) ∧ w'.cell? ⟨s, 2, none⟩ = some (.slice AT t.args.length ct) ∧ w'.cell? ⟨s + 1, 0, none⟩ = some (.int .i64 D.op) ∧ w'.cell? ⟨s + 1, 1, none⟩ = some (.int .i64 D.val) ∧ w'.cell? ⟨s + 1, 2, none⟩ = some (.slice AD D.args.length cd) ∧ w'.cell? ⟨g11, 0, none⟩ = some (.int .i64 7) ∧ w'.cell? ⟨g11, 1, none⟩ = some (.int .i64 r) ∧ w'.cell? ⟨g11, 2, none⟩ = some (.slice A1 2 c1)) (go_keep)
                (first
                  | (go_at_call 25; refine (li12 FO.out (SX.out.drewN 1) HL0.out hts2).mono ?_; rintro e v1 ⟨L, l, rfl, ht1, hx1, z0, z1, z2, z3, z4, z5, z6, z7, z8, z9, z10, z11⟩; have nA1 := World.new_ne v1 _ z0; have nB1 := World.new_ne v1 _ z3; have nC1 := World.new_ne v1 _ z6; have nD1 := World.new_ne v1 _ z9; have HT1 := Lib.hid ht1; have X1 := Lib.hid hx1; clear ht1 hx1)
                  | (go_at_call 12; refine (te12 FO.out X1.out).mono ?_; rintro e v2 ⟨x5, AX, cx, rfl, ht2, hx2, hg2, z0, z1, z2, z3, z4, z5, z6, z7, z8, z9, z10, z11⟩; have nA2 := World.new_ne v2 _ z0; have nB2 := World.new_ne v2 _ z3; have nC2 := World.new_ne v2 _ z6; have nD2 := World.new_ne v2 _ z9; have HT2 := Lib.hid ht2; have X2 := Lib.hid hx2; have G2 := Lib.hid hg2; clear ht2 hx2 hg2)
                  | (go_at_call 20; (first | refine (ne12 FO.out X2.out).mono ?_ | refine (ne12 FO.out (X2.out.alloc _)).mono ?_); rintro e v3 ⟨n7, rfl, hn7, hx3, hg3, z0, z1, z2, z3, z4, z5, z6, z7, z8, z9, z10, z11⟩; have nA3 := World.new_ne v3 _ z0; have nB3 := World.new_ne v3 _ z3; have nC3 := World.new_ne v3 _ z6; have nD3 := World.new_ne v3 _ z9; have HN7 := Lib.hid hn7; clear hn7; have X3 := Lib.hid hx3; have G3 := Lib.hid hg3; clear hx3 hg3)
                  | (go_at_call 24; (first | refine (in12 FO.out X3.out).mono ?_ | refine (in12 FO.out (X3.out.alloc _)).mono ?_); rintro e v4 ⟨v7, rfl, hv7, hx4, hg4, z0, z1, z2, z3, z4, z5, z6, z7, z8, z9, z10, z11⟩; have nA4 := World.new_ne v4 _ z0; have nB4 := World.new_ne v4 _ z3; have nC4 := World.new_ne v4 _ z6; have nD4 := World.new_ne v4 _ z9; have HV7 := Lib.hid hv7; clear hv7; have X4 := Lib.hid hx4; have G4 := Lib.hid hg4; clear hx4 hg4)
                  | (go_at_call 26; (first | refine (ts12 FO.out X4.out).mono ?_ | refine (ts12 FO.out (X4.out.alloc _)).mono ?_); rintro e v5 ⟨us, AU, cU, rfl, hu5, hx5, hg5, z0, z1, z2, z3, z4, z5, z6, z7, z8, z9, z10, z11⟩; have nA5 := World.new_ne v5 _ z0; have nB5 := World.new_ne v5 _ z3; have nC5 := World.new_ne v5 _ z6; have nD5 := World.new_ne v5 _ z9; have HU5 := Lib.hid hu5; clear hu5; have X5 := Lib.hid hx5; have G5 := Lib.hid hg5; clear hx5 hg5))
              all_goals (go_wp2_with fail; go_meet; first
                | exact ⟨_, [a, t, D, .mk 3 0 ts, .mk 7 r [t, a], .mk 5 0 [t, x5], .mk n7 v7 us], rfl, rfl, rfl, rfl, seven rfl (FO.out.gr (only_trans X5.out.1 (only_refl v5 (some gc)))) (HT1.out.only (only_trans G2.out (only_trans (only_alloc (only_refl v2 (some gc)) _) (only_trans G3.out (only_trans G4.out G5.out)))) nn) ((TrS.two (S := Nn gc) (heap_alloc_new v2 _) (Nat.ne_of_gt (Nat.lt_of_lt_of_le FO.out.lt X2.out.1.size)) ((FO.out.gr X2.out.1).t2.alloc _) ((HT2.out.only (only_refl v2 (some gc)) nn).alloc _) F5.out f0).only (only_trans G3.out (only_trans G4.out G5.out)) nn) ((HU5.out.only (only_refl v5 (some gc)) nn).re HN7.out HV7.out), (below_only BW.out (only_trans X5.out.1 (only_refl v5 (some gc))) BW.out.size hgcw).alloc (below_only BW.out (only_trans X5.out.1 (only_refl v5 (some gc))) BW.out.size hgcw).size _⟩
                | exact ⟨_, [a, t, D, .mk 3 0 ts, .mk 7 r [t, a], .mk 5 0 [t, x5], .mk n7 v7 us], rfl, rfl, rfl, rfl, seven rfl (FO.out.gr (only_trans X5.out.1 (only_refl v5 (some gc)))) (HT1.out.only (only_trans G2.out (only_trans G3.out (only_trans (only_alloc (only_refl v3 (some gc)) _) (only_trans G4.out G5.out)))) nn) ((TrS.two (S := Nn gc) (heap_alloc_new v3 _) (Nat.ne_of_gt (Nat.lt_of_lt_of_le FO.out.lt X3.out.1.size)) ((FO.out.gr X3.out.1).t2.alloc _) ((HT2.out.only G3.out nn).alloc _) F5.out f0).only (only_trans G4.out G5.out) nn) ((HU5.out.only (only_refl v5 (some gc)) nn).re HN7.out HV7.out), (below_only BW.out (only_trans X5.out.1 (only_refl v5 (some gc))) BW.out.size hgcw).alloc (below_only BW.out (only_trans X5.out.1 (only_refl v5 (some gc))) BW.out.size hgcw).size _⟩
                | exact ⟨_, [a, t, D, .mk 3 0 ts, .mk 7 r [t, a], .mk 5 0 [t, x5], .mk n7 v7 us], rfl, rfl, rfl, rfl, seven rfl (FO.out.gr (only_trans X5.out.1 (only_refl v5 (some gc)))) (HT1.out.only (only_trans G2.out (only_trans G3.out (only_trans G4.out (only_trans (only_alloc (only_refl v4 (some gc)) _) G5.out)))) nn) ((TrS.two (S := Nn gc) (heap_alloc_new v4 _) (Nat.ne_of_gt (Nat.lt_of_lt_of_le FO.out.lt X4.out.1.size)) ((FO.out.gr X4.out.1).t2.alloc _) ((HT2.out.only (only_trans G3.out G4.out) nn).alloc _) F5.out f0).only G5.out nn) ((HU5.out.only (only_refl v5 (some gc)) nn).re HN7.out HV7.out), (below_only BW.out (only_trans X5.out.1 (only_refl v5 (some gc))) BW.out.size hgcw).alloc (below_only BW.out (only_trans X5.out.1 (only_refl v5 (some gc))) BW.out.size hgcw).size _⟩
                | exact ⟨_, [a, t, D, .mk 3 0 ts, .mk 7 r [t, a], .mk 5 0 [t, x5], .mk n7 v7 us], rfl, rfl, rfl, rfl, seven (World.size_alloc _ _) (FO.out.gr (only_trans X5.out.1 (only_alloc (only_refl v5 (some gc)) _))) (HT1.out.only (only_trans G2.out (only_trans G3.out (only_trans G4.out (only_trans G5.out (only_alloc (only_refl v5 (some gc)) _))))) nn) (TrS.two (S := Nn gc) (heap_alloc_new v5 _) (Nat.ne_of_gt (Nat.lt_of_lt_of_le FO.out.lt X5.out.1.size)) ((FO.out.gr X5.out.1).t2.alloc _) ((HT2.out.only (only_trans G3.out (only_trans G4.out G5.out)) nn).alloc _) F5.out f0) ((HU5.out.only (only_alloc (only_refl v5 (some gc)) _) nn).re HN7.out HV7.out), (below_only BW.out (only_trans X5.out.1 (only_alloc (only_refl v5 (some gc)) _)) BW.out.size hgcw).alloc (below_only BW.out (only_trans X5.out.1 (only_alloc (only_refl v5 (some gc)) _)) BW.out.size hgcw).size _⟩)
            case rest =>
            obtain ⟨G, us7, rfl, rfl, rfl, h7, htr, hbw⟩ := hcut
            have H7 := Lib.hid h7
            have HT7 := Lib.hid htr
            have HB7 := Lib.hid hbw
            clear h7 htr hbw FO SX HL0 BW F5 HFR
            generalize wc = Q at *
            have hm := follows_mixed
            go_wp2_with fail
            go_loopw [77] (fun i wr => ∃ k : Nat, k ≤ 7 ∧ i = .int .i64 k ∧ Below Q.heap.size Q wr) (fun i _ => 7 - (intOf i).toNat)
            case atStart => exact ⟨0, by omega, rfl, Below.refl _ _⟩
            case round =>
              obtain ⟨k, hk, rfl, hb⟩ := hrel
              by_cases hk7 : k < 7
              · have y1 : decide ((k : Int) < 7) = true := by simp; omega
                have y2 : (0 : Int) ≤ (k : Int) := by omega
                have y3 : (k : Int) < 7 := by omega
                obtain ⟨g, k0, AA, CC, hA, c0, c1, c2, htr⟩ := (HT7.out.bel hb).at k (by rw [Tm.args_mk, H7.out]; exact hk7)
                injection hA with hA
                injection hA with e1 e2 _
                subst e1; subst e2
                simp only [Tm.args_mk] at c0 c1 c2 htr
                generalize us7[k]'(by rw [H7.out]; exact hk7) = u at *
                rw [Nat.zero_add] at c0 c1 c2
                have HFV := Lib.hid htr.ofits.2.1
                have HTW := Lib.hid (htr.alloc (Obj.cells #[.int .i64 u.op, .int .i64 u.val, .slice AA u.args.length CC] 24))
                have HBW := Lib.hid (hb.alloc hb.size (Obj.cells #[.int .i64 u.op, .int .i64 u.val, .slice AA u.args.length CC] 24))
                have hbk : Blk (wr.alloc (Obj.cells #[.int .i64 u.op, .int .i64 u.val, .slice AA u.args.length CC] 24)) wr.heap.size 24 #[.int .i64 u.op, .int .i64 u.val, .slice AA u.args.length CC] := heap_alloc_new wr _
                have HBK := Lib.hid hbk
                clear hbk htr hb
                go_upto_region 20 with (fail)
                generalize wr.alloc (Obj.cells #[.int .i64 u.op, .int .i64 u.val, .slice AA u.args.length CC] 24) = W3 at *
                have HTU := HTW
                generalize wr.heap.size = s13 at *
                have m0 : W3.cell? ⟨s13, 0, none⟩ = some (.int .i64 u.op) := HBK.out.cell 0
                have m1 : W3.cell? ⟨s13, 1, none⟩ = some (.int .i64 u.val) := HBK.out.cell 1
                have m2 : W3.cell? ⟨s13, 2, none⟩ = some (.slice AA u.args.length CC) := HBK.out.cell 2
                have G0 := cell_regrown m0
                have G1 := cell_regrown m1
                have G2 := cell_regrown m2
                clear m0 m1 m2 c0 c1 c2
                have k1 : ∀ n os, Calls Try.prog 27 #[.agg #[.int .i64 u.op, .int .i64 u.val, .slice AA u.args.length CC]] (grow (redrawn W3 n) os) fun e w'' => e = .returned (.bool (validT u)) ∧ ∃ p : Regrown, w'' = grow (redrawn W3 p.d) p.os := fun n os => Calls.regrown_of (pvalid_any u (grow (redrawn W3 n) os) AA CC (HTU.out.bel (below_regrown W3 n os)))
                have k2 : ∀ n os, Calls Try.prog 28 #[.agg #[.int .i64 u.op, .int .i64 u.val, .slice AA u.args.length CC]] (grow (redrawn W3 n) os) fun e w'' => e = .returned (.bool (validT u)) ∧ ∃ p : Regrown, w'' = grow (redrawn W3 p.d) p.os := fun n os => Calls.regrown_of (rvalid_any u (grow (redrawn W3 n) os) AA CC (HTU.out.bel (below_regrown W3 n os)))
                have k3 : ∀ n os, Calls Try.prog 29 #[.agg #[.int .i64 u.op, .int .i64 u.val, .slice AA u.args.length CC]] (grow (redrawn W3 n) os) fun e w'' => e = .returned (.int .i64 ((min (nodesT u) 601 : Nat) : Int)) ∧ ∃ p : Regrown, w'' = grow (redrawn W3 p.d) p.os := fun n os => Calls.regrown_of (pnodes_any u (grow (redrawn W3 n) os) AA CC (HTU.out.bel (below_regrown W3 n os)))
                have k4 : ∀ n os, Calls Try.prog 30 #[.agg #[.int .i64 u.op, .int .i64 u.val, .slice AA u.args.length CC]] (grow (redrawn W3 n) os) fun e w'' => e = .returned (.int .i64 ((min (nodesT u) 601 : Nat) : Int)) ∧ ∃ p : Regrown, w'' = grow (redrawn W3 p.d) p.os := fun n os => Calls.regrown_of (rnodes_any u (grow (redrawn W3 n) os) AA CC (HTU.out.bel (below_regrown W3 n os)))
                have k5 : ∀ n os, Calls Try.prog 31 #[.agg #[.int .i64 u.op, .int .i64 u.val, .slice AA u.args.length CC]] (grow (redrawn W3 n) os) fun e w'' => e = .returned (.int .i64 (ownT u)) ∧ ∃ p : Regrown, w'' = grow (redrawn W3 p.d) p.os := fun n os => Calls.regrown_of (powner_any u (grow (redrawn W3 n) os) AA CC HFV.out)
                have k6 : ∀ n os, Calls Try.prog 32 #[.agg #[.int .i64 u.op, .int .i64 u.val, .slice AA u.args.length CC]] (grow (redrawn W3 n) os) fun e w'' => e = .returned (.int .i64 (ownT u)) ∧ ∃ p : Regrown, w'' = grow (redrawn W3 p.d) p.os := fun n os => Calls.regrown_of (rowner_any u (grow (redrawn W3 n) os) AA CC HFV.out)
                generalize validT u = vb at *
                generalize ((min (nodesT u) 601 : Nat) : Int) = nq at *
                generalize ownT u = oq at *
                have K1 := Lib.hid k1
                have K2 := Lib.hid k2
                have K3 := Lib.hid k3
                have K4 := Lib.hid k4
                have K5 := Lib.hid k5
                have K6 := Lib.hid k6
                clear k1 k2 k3 k4 k5 k6
                have vv : (vb != vb) = false := by simp
                refine wp_region_quiet_below (by assumption) (by kernel_rfl) ?_
                repeat (go_big_quiet_step (first | with_reducible exact K1.out _ _ | with_reducible exact K2.out _ _ | with_reducible exact K3.out _ _ | with_reducible exact K4.out _ _ | with_reducible exact K5.out _ _ | with_reducible exact K6.out _ _))
                refine wpQuiet_nil ?_
                intro _ hw'
                obtain ⟨⟨dq, osq⟩, hw''⟩ := hw'
                subst hw''
                go_wp2_with fail
                go_roundw
                case rel => exact ⟨k + 1, by omega, by go_num, below_then HBW.out (below_regrown W3 dq osq) HBW.out.size⟩
                case measure => simp [intOf]; omega
              · have y1 : decide ((k : Int) < 7) = false := by simp; omega
                have HBE := Lib.hid (below_then HB7.out hb HB7.out.size)
                clear hb
                go_wp2_with fail
                exact bodyPost_ret (v := .bool true) (by simp [results, Try.results5, go_sem]) rfl ⟨rfl, HBE.out⟩
end Go.Proofs.Ytokiodjdonbipaa.termChecks
