/-
  The walk of the law TermAgrees: both ends of an exchange agree, and a sealed term opens with its key alone.
  Conditions: none.
-/
import Derived.Test.YtokiodjdonbipaaTerm
import Derived.Test.YtokiodjdonbipaaConP
import Derived.Test.YtokiodjdonbipaaValid
import Derived.Deep.RegionHeld3
import Derived.Deep.DrawnRows
import Derived.Deep.DeepCutAuto
import Derived.Deep.Cut
import Derived.Deep.CutBlock
namespace Go.Proofs.Ytokiodjdonbipaa.termAgrees
open Go.RowKit Go.Sort
set_option linter.unusedVariables false
attribute [local go_sem ↓] Go.wp_at_zero Go.wp_at_succ
theorem agree_comm (t u : Tm) : agreeT t u = agreeT u t := by
  unfold agreeT
  cases h : lessT u t
  · cases k : lessT t u
    · have := equT_iff.1 (lessT_total k h)
      subst this
      rfl
    · rfl
  · rw [lessT_asymm h]; rfl
theorem fine_valid {d : Nat} {t : Tm} (h : Fine d t) (h1 : d ≤ 60) (h2 : nb d ≤ 600) : validT t = true := by
  unfold validT
  have h3 := h.depth
  have h4 := h.nodes
  simp [h.forms]
  omega
theorem agree_valid {v u : Int} (hv : 0 ≤ v) (hu : 0 ≤ u) : validT (agreeT (.mk 2 v []) (.mk 2 u [])) = true := by
  have g1 := fine_leaf (d := 1) (o := 2) (v := v) (.inr ⟨.inl rfl, hv⟩) (by omega)
  have g2 := fine_leaf (d := 1) (o := 2) (v := u) (.inr ⟨.inl rfl, hu⟩) (by omega)
  refine fine_valid (d := 2) ?_ (by omega) (by simp [nb])
  unfold agreeT
  by_cases hl : lessT (.mk 2 u []) (.mk 2 v []) = true
  · rw [if_pos hl]; exact fine_shared g2 g1 (lessT_asymm hl)
  · rw [if_neg hl]; exact fine_shared g1 g2 (by simpa using hl)
theorem bcell {W w1 : World} (hb : Below W.heap.size W w1) : (∀ b o, b < W.heap.size → w1.cell? ⟨b, o, none⟩ = W.cell? ⟨b, o, none⟩) ∧ (∀ b o, b < W.heap.size → w1.frozen? ⟨b, o, none⟩ = W.frozen? ⟨b, o, none⟩) :=
  ⟨fun b o h => hb.cell (p := ⟨b, o, none⟩) h, fun b o h => hb.frozen (p := ⟨b, o, none⟩) h⟩
theorem szl1 {W w1 : World} {z : Obj} (h : Below (W.alloc z).drew.heap.size (W.alloc z).drew w1) : W.heap.size < w1.heap.size := by have := h.size; simp at this; omega
theorem szl2 {W w1 : World} {z : Obj} {d : Nat} (h : Below ((W.alloc z).drewN d).heap.size ((W.alloc z).drewN d) w1) : W.heap.size < w1.heap.size := by
  have := h.size
  have e : ((W.alloc z).drewN d).heap.size = W.heap.size + 1 := by show (W.alloc z).heap.size = _; simp
  omega
theorem szl3 {W w1 : World} {z : Obj} (h : Below (W.alloc z).heap.size (W.alloc z) w1) : W.heap.size < w1.heap.size := by have := h.size; simp at this; omega
/-- A box that holds a term. -/
def Bx (w : World) (g : Nat) (t : Tm) (A : Option Addr) (c : Nat) : Prop := Blk w g 24 #[.int .i64 t.op, .int .i64 t.val, .slice A t.args.length c] ∧ Tr w t A c
theorem Bx.bel {w w' : World} {g : Nat} {t : Tm} {A : Option Addr} {c : Nat} (h : Bx w g t A c) (hb : Below w.heap.size w w') : Bx w' g t A c := ⟨h.1.below hb h.1.lt, h.2.bel hb⟩
theorem Bx.c0 {w : World} {g : Nat} {t : Tm} {A : Option Addr} {c : Nat} (h : Bx w g t A c) : w.cell? ⟨g, 0, none⟩ = some (.int .i64 t.op) := h.1.cell 0
theorem Bx.c1 {w : World} {g : Nat} {t : Tm} {A : Option Addr} {c : Nat} (h : Bx w g t A c) : w.cell? ⟨g, 1, none⟩ = some (.int .i64 t.val) := h.1.cell 1
theorem Bx.c2 {w : World} {g : Nat} {t : Tm} {A : Option Addr} {c : Nat} (h : Bx w g t A c) : w.cell? ⟨g, 2, none⟩ = some (.slice A t.args.length c) := h.1.cell 2
/-- The region's pair: a term in a new box, and whether there is one. -/
def Pair (W : World) (s : Tm) (b : Bool) (v8 v9 : Value) (wx : World) : Prop := ∃ G A c, v8 = .pointer (some ⟨G, 0, none⟩) ∧ v9 = .bool b ∧ Bx wx G s A c ∧ Below W.heap.size W wx
/-- A call in a region: the boxes a and b stay. -/
def Six (wx : World) (ga gb : Nat) (a b : Tm) (A B : Option Addr) (ca cb : Nat) : Prop := wx.cell? ⟨ga, 0, none⟩ = some (.int .i64 a.op) ∧ wx.cell? ⟨ga, 1, none⟩ = some (.int .i64 a.val) ∧ wx.cell? ⟨ga, 2, none⟩ = some (.slice A a.args.length ca) ∧ wx.cell? ⟨gb, 0, none⟩ = some (.int .i64 b.op) ∧ wx.cell? ⟨gb, 1, none⟩ = some (.int .i64 b.val) ∧ wx.cell? ⟨gb, 2, none⟩ = some (.slice B b.args.length cb)
theorem six_of {W wx : World} {ga gb : Nat} {a b : Tm} {A B : Option Addr} {ca cb : Nat} (hA : Bx W ga a A ca) (hB : Bx W gb b B cb) (hb : Below W.heap.size W wx) : Six wx ga gb a b A B ca cb :=
  ⟨(hA.bel hb).1.cell 0, (hA.bel hb).1.cell 1, (hA.bel hb).1.cell 2, (hB.bel hb).1.cell 0, (hB.bel hb).1.cell 1, (hB.bel hb).1.cell 2⟩
theorem Bx.ne {W wx : World} {g : Nat} {t : Tm} {A : Option Addr} {c G : Nat} (h : Bx W g t A c) (hb : Below W.heap.size W wx) (hG : W.heap.size ≤ G) : TrS (fun g => g ≠ G) wx t A c :=
  (h.2.sup.bel hb).mono fun g hg => by omega
theorem tr_ne {w : World} {t : Tm} {A : Option Addr} {c G : Nat} (h : Tr w t A c) (hG : w.heap.size ≤ G) : TrS (fun g => g ≠ G) w t A c := h.sup.mono fun g hg => by omega
theorem trs_ne {wx w : World} {t : Tm} {A : Option Addr} {c G : Nat} (h : TrS (SN (fun g => g ≠ G) wx) w t A c) (hG : G < wx.heap.size) : TrS (fun g => g ≠ G) w t A c := h.mono fun g hg => by
  rcases hg with h | h
  · exact h
  · omega
theorem blk_new {w w1 v : World} (hx : Below w1.heap.size w1 v) (e : w1.heap = (w.alloc (Obj.cells #[.int .i64 0, .int .i64 0, .slice none 0 0] 24)).heap) : Blk v w.heap.size 24 #[.int .i64 0, .int .i64 0, .slice none 0 0] := by
  have h := heap_alloc_new w (Obj.cells #[.int .i64 0, .int .i64 0, .slice none 0 0] 24)
  rw [← e] at h
  exact Blk.below h hx (by rw [e]; simp)
/-- The end of a region: the new box is written last. -/
theorem Bx.made {w : World} {t : Tm} {A : Option Addr} {c G : Nat} (hb : Blk w G 24 #[.int .i64 0, .int .i64 0, .slice none 0 0]) (ht : TrS (fun g => g ≠ G) w t A c) :
    Bx (((w.setCell ⟨G, 0, none⟩ (.int .i64 t.op)).setCell ⟨G, 1, none⟩ (.int .i64 t.val)).setCell ⟨G, 2, none⟩ (.slice A t.args.length c)) G t A c := by
  have hz := ((hb.put 0 (.int .i64 t.op)).put 1 (.int .i64 t.val)).put 2 (.slice A t.args.length c)
  simp only [List.setIfInBounds_toArray, List.set_cons_zero, List.set_cons_succ] at hz
  refine ⟨hz, (ht.keep fun g hg _ => ?_).tr⟩
  rw [Below.heap_setCell _ _ _ _ (by simpa using hg), Below.heap_setCell _ _ _ _ (by simpa using hg), Below.heap_setCell _ _ _ _ (by simpa using hg)]
theorem below_put3 {B : Nat} {a w : World} (h : Below B a w) {G : Nat} (hG : B ≤ G) (u v x : Value) : Below B a (((w.setCell ⟨G, 0, none⟩ u).setCell ⟨G, 1, none⟩ v).setCell ⟨G, 2, none⟩ x) :=
  ((h.setCell (p := ⟨G, 0, none⟩) hG _).setCell (p := ⟨G, 1, none⟩) hG _).setCell (p := ⟨G, 2, none⟩) hG _
theorem pub6 {W wx : World} {ga gb : Nat} {a b : Tm} {A B : Option Addr} {ca cb : Nat} (hb : Below W.heap.size W wx) (hA : Bx W ga a A ca) (hB : Bx W gb b B cb) :
    Calls Try.prog 39 #[.agg #[.int .i64 a.op, .int .i64 a.val, .slice A a.args.length ca]] wx fun e w' => ∃ A1 c1, e = .returned (.agg #[.int .i64 4, .int .i64 0, .slice A1 1 c1]) ∧ TrS (SN (fun g => g ≠ W.heap.size) wx) w' (.mk 4 0 [a]) A1 c1 ∧ Below W.heap.size W w' ∧ Below wx.heap.size wx w' ∧ Six w' ga gb a b A B ca cb := by
  refine (ppublic_any _ a wx A ca (hA.ne hb (Nat.le_refl _))).mono ?_
  rintro e w' ⟨A1, c1, rfl, ht, hbx⟩
  have hb2 := below_then hb hbx hb.size
  exact ⟨A1, c1, rfl, ht, hb2, hbx, six_of hA hB hb2⟩
theorem agr6 {W wx : World} {ga gb G : Nat} {a b : Tm} {A B A1 : Option Addr} {ca cb c1 : Nat} (hb : Below W.heap.size W wx) (hA : Bx W ga a A ca) (hB : Bx W gb b B cb) (hG : W.heap.size ≤ G) (h1 : TrS (fun g => g ≠ G) wx (.mk 4 0 [a]) A1 c1) :
    Calls Try.prog 38 #[.agg #[.int .i64 4, .int .i64 0, .slice A1 1 c1], .agg #[.int .i64 b.op, .int .i64 b.val, .slice B b.args.length cb]] wx fun e w' => ∃ s A2 c2, s = agreeT a b ∧ e = .returned (.tuple #[.agg #[.int .i64 s.op, .int .i64 s.val, .slice A2 s.args.length c2], .bool true]) ∧ TrS (SN (fun g => g ≠ G) wx) w' s A2 c2 ∧ Below W.heap.size W w' ∧ Below wx.heap.size wx w' ∧ Six w' ga gb a b A B ca cb := by
  refine (pagree_any _ a b wx A1 B c1 cb h1 (hB.ne hb hG)).mono ?_
  rintro e w' ⟨A2, c2, rfl, ht, hbx⟩
  have hb2 := below_then hb hbx hb.size
  exact ⟨_, A2, c2, rfl, rfl, ht, hb2, hbx, six_of hA hB hb2⟩
theorem seal6 {W wx : World} {ga gb : Nat} {a b : Tm} {A B : Option Addr} {ca cb : Nat} (hb : Below W.heap.size W wx) (hA : Bx W ga a A ca) (hB : Bx W gb b B cb) :
    Calls Try.prog 41 #[.agg #[.int .i64 a.op, .int .i64 a.val, .slice A a.args.length ca], .agg #[.int .i64 b.op, .int .i64 b.val, .slice B b.args.length cb]] wx fun e w' => ∃ A1 c1, e = .returned (.agg #[.int .i64 7, .int .i64 0, .slice A1 2 c1]) ∧ TrS (SN (fun g => g ≠ W.heap.size) wx) w' (.mk 7 0 [a, b]) A1 c1 ∧ Below W.heap.size W w' ∧ Below wx.heap.size wx w' ∧ Six w' ga gb a b A B ca cb := by
  refine (pseal_any _ a b wx A B ca cb (hA.ne hb (Nat.le_refl _)) (hB.ne hb (Nat.le_refl _))).mono ?_
  rintro e w' ⟨A1, c1, rfl, ht, hbx⟩
  have hb2 := below_then hb hbx hb.size
  exact ⟨A1, c1, rfl, ht, hb2, hbx, six_of hA hB hb2⟩
theorem open6 {W wx : World} {ga gb G : Nat} {a b : Tm} {A B A1 : Option Addr} {ca cb c1 : Nat} (hb : Below W.heap.size W wx) (hA : Bx W ga a A ca) (hB : Bx W gb b B cb) (h1 : TrS (fun g => g ≠ G) wx (.mk 7 0 [a, b]) A1 c1) :
    Calls Try.prog 40 #[.agg #[.int .i64 a.op, .int .i64 a.val, .slice A a.args.length ca], .agg #[.int .i64 7, .int .i64 0, .slice A1 2 c1]] wx fun e w' => ∃ A2 c2, e = .returned (.tuple #[.agg #[.int .i64 b.op, .int .i64 b.val, .slice A2 b.args.length c2], .bool true]) ∧ TrS (fun g => g ≠ G) w' b A2 c2 ∧ Below W.heap.size W w' ∧ Below wx.heap.size wx w' ∧ Six w' ga gb a b A B ca cb := by
  refine (punseal_yes _ a b a wx A1 A c1 ca h1 (hA.2.bel hb) (equT_iff.2 rfl)).mono ?_
  rintro e w' ⟨A2, c2, rfl, ht, hbx⟩
  have hb2 := below_then hb hbx hb.size
  exact ⟨A2, c2, rfl, ht, hb2, hbx, six_of hA hB hb2⟩
/-- Opening with the other key. -/
theorem other6 {W wx : World} {ga gb : Nat} {a b : Tm} {A B A1 : Option Addr} {ca cb c1 : Nat} (hb : Below W.heap.size W wx) (hA : Bx W ga a A ca) (hB : Bx W gb b B cb) (h1 : Tr wx (.mk 7 0 [a, b]) A1 c1) :
    Calls Try.prog 40 #[.agg #[.int .i64 b.op, .int .i64 b.val, .slice B b.args.length cb], .agg #[.int .i64 7, .int .i64 0, .slice A1 2 c1]] wx fun e w' => ∃ o v A2 n2 c2 r, r = equT a b ∧ e = .returned (.tuple #[.agg #[.int .i64 o, .int .i64 v, .slice A2 n2 c2], .bool r]) ∧ Below W.heap.size W w' ∧ Below wx.heap.size wx w' ∧ Six w' ga gb a b A B ca cb := by
  cases he : equT a b
  · refine (punseal_no a b b wx A1 B c1 cb h1 (hB.2.bel hb) he).mono ?_
    rintro e w' ⟨rfl, hbx⟩
    have hb2 := below_then hb hbx hb.size
    exact ⟨_, _, _, _, _, _, rfl, rfl, hb2, hbx, six_of hA hB hb2⟩
  · refine (punseal_yes _ a b b wx A1 B c1 cb h1.sup (hB.2.bel hb) he).mono ?_
    rintro e w' ⟨A2, c2, rfl, ht, hbx⟩
    have hb2 := below_then hb hbx hb.size
    exact ⟨_, _, _, _, _, _, rfl, rfl, hb2, hbx, six_of hA hB hb2⟩
set_option maxRecDepth 100000 in
set_option maxHeartbeats 4000000 in
theorem termAgrees_walk (w : World) (A2 : Option Addr) (len cap : Nat) (h : Byts w A2 len) (hl : len ≤ cap ∧ cap ≤ maxLen) :
    Calls Try.prog 8 #[.slice A2 len cap] w fun e w' => e = .returned (.bool true) ∧ Below w.heap.size w w' := by
  go_enter Try.func8, Try.ntmps8
  go_wp2_with fail
  refine (awake_any _).mono ?_
  rintro e w1 ⟨rfl, hb1⟩
  have hby : Byts w1 A2 len := by
    intro k hk
    obtain ⟨ad, x, e, hx, hc⟩ := h k hk
    exact ⟨ad, x, e, hx, (hb1.cell (World.block_lt_of_cell? w _ hc)).trans hc⟩
  have B1 := Lib.hid hb1
  have HB := Lib.hid hby
  clear hb1 h hby
  go_wp2_with fail
  refine (new_any A2 len cap 120 _ HB.out hl.1 hl.2 (by omega) (by omega)).mono ?_
  rintro e w2 ⟨gc, q, rfl, hgc, hcod, hq, hb2⟩
  have hgcw : w.heap.size ≤ gc := Nat.le_trans B1.out.size hgc
  have B2 := Lib.hid (below_then B1.out hb2 B1.out.size)
  have C2 := Lib.hid hcod
  have hgl := hcod.lt
  clear hcod hq hb2 hgc
  go_wp2_with fail
  refine (cname_any gc q 0 _ C2.out).mono ?_
  rintro e w3 ⟨o, k, p3, rfl, ho, hk1, hk5, hc3, _, hg3⟩
  have G3 := Lib.hid hg3
  have C3 := Lib.hid hc3
  obtain ⟨va, hva, hva0⟩ : ∃ x : Int, x = ((o * 1048576 + k : Nat) : Int) ∧ 0 ≤ x ∧ x ≤ 9000000 := ⟨_, rfl, by omega, by omega⟩
  rw [← hva]
  clear hc3 hg3 hva
  go_wp2_with fail
  refine (cname_any gc q p3 _ C3.out).mono ?_
  rintro e w4 ⟨o', k', p4, rfl, ho', hk1', hk5', hc4, _, hg4⟩
  have G4 := Lib.hid (only_trans G3.out hg4)
  have C4 := Lib.hid hc4
  obtain ⟨vb, hvb, hvb0⟩ : ∃ x : Int, x = ((o' * 1048576 + k' : Nat) : Int) ∧ 0 ≤ x ∧ x ≤ 9000000 := ⟨_, rfl, by omega, by omega⟩
  rw [← hvb]
  clear hc4 hg4 hvb
  go_wp2_with fail
  refine (cterm_any 2 gc q p4 w4 3 rfl (by omega) C4.out).mono ?_
  rintro e w5 ⟨x, AX, cx, p5, rfl, hx, _, _, hc5, hg5⟩
  have hgl4 : gc < w4.heap.size := Nat.lt_of_lt_of_le hgl G4.out.size
  have G5 := Lib.hid (only_trans G4.out hg5)
  have C5 := Lib.hid hc5
  have HX := Lib.hid hx
  clear hc5 hg5 hx
  go_wp2_with fail
  refine (cterm_any 2 gc q p5 w5 3 rfl (by omega) C5.out).mono ?_
  rintro e w6 ⟨y, AY, cy, p6, rfl, hy, _, _, hc6, hg6⟩
  have HX6 := Lib.hid (HX.out.only hg6 (by omega)).tr
  have HY6 := Lib.hid hy.tr
  have B6 := Lib.hid (below_only B2.out (only_trans G5.out hg6) B2.out.size hgcw)
  clear hc6 hg6 hy HX C5 C4 C3 C2 G3 G4 G5 B1 B2 HB
  go_upto_region 5 with (fail)
  have k1 : Bx ((((w6.alloc (Obj.cells #[.int .i64 2, .int .i64 va, .slice none 0 0] 24)).alloc (Obj.cells #[.int .i64 2, .int .i64 vb, .slice none 0 0] 24)).alloc (Obj.cells #[.int .i64 x.op, .int .i64 x.val, .slice AX x.args.length cx] 24)).alloc (Obj.cells #[.int .i64 y.op, .int .i64 y.val, .slice AY y.args.length cy] 24)) w6.heap.size (.mk 2 va []) none 0 := ⟨Blk.alloc (Blk.alloc (Blk.alloc (heap_alloc_new w6 _) _) _) _, Tr.leaf _ _ _ _ _ (fn (by omega) (by omega)) (fn (by omega) (by omega)) (Nat.zero_le _)⟩
  have k2 : Bx ((((w6.alloc (Obj.cells #[.int .i64 2, .int .i64 va, .slice none 0 0] 24)).alloc (Obj.cells #[.int .i64 2, .int .i64 vb, .slice none 0 0] 24)).alloc (Obj.cells #[.int .i64 x.op, .int .i64 x.val, .slice AX x.args.length cx] 24)).alloc (Obj.cells #[.int .i64 y.op, .int .i64 y.val, .slice AY y.args.length cy] 24)) (w6.heap.size + 1) (.mk 2 vb []) none 0 := ⟨by
    have := heap_alloc_new (w6.alloc (Obj.cells #[.int .i64 2, .int .i64 va, .slice none 0 0] 24)) (Obj.cells #[.int .i64 2, .int .i64 vb, .slice none 0 0] 24)
    simp only [World.size_alloc] at this
    exact Blk.alloc (Blk.alloc this _) _, Tr.leaf _ _ _ _ _ (fn (by omega) (by omega)) (fn (by omega) (by omega)) (Nat.zero_le _)⟩
  have k3 : Bx ((((w6.alloc (Obj.cells #[.int .i64 2, .int .i64 va, .slice none 0 0] 24)).alloc (Obj.cells #[.int .i64 2, .int .i64 vb, .slice none 0 0] 24)).alloc (Obj.cells #[.int .i64 x.op, .int .i64 x.val, .slice AX x.args.length cx] 24)).alloc (Obj.cells #[.int .i64 y.op, .int .i64 y.val, .slice AY y.args.length cy] 24)) (w6.heap.size + 1 + 1) x AX cx := ⟨by
    have := heap_alloc_new ((w6.alloc (Obj.cells #[.int .i64 2, .int .i64 va, .slice none 0 0] 24)).alloc (Obj.cells #[.int .i64 2, .int .i64 vb, .slice none 0 0] 24)) (Obj.cells #[.int .i64 x.op, .int .i64 x.val, .slice AX x.args.length cx] 24)
    simp only [World.size_alloc] at this
    exact Blk.alloc this _, (((HX6.out.alloc _).alloc _).alloc _).alloc _⟩
  have k4 : Bx ((((w6.alloc (Obj.cells #[.int .i64 2, .int .i64 va, .slice none 0 0] 24)).alloc (Obj.cells #[.int .i64 2, .int .i64 vb, .slice none 0 0] 24)).alloc (Obj.cells #[.int .i64 x.op, .int .i64 x.val, .slice AX x.args.length cx] 24)).alloc (Obj.cells #[.int .i64 y.op, .int .i64 y.val, .slice AY y.args.length cy] 24)) (w6.heap.size + 1 + 1 + 1) y AY cy := ⟨by
    have := heap_alloc_new (((w6.alloc (Obj.cells #[.int .i64 2, .int .i64 va, .slice none 0 0] 24)).alloc (Obj.cells #[.int .i64 2, .int .i64 vb, .slice none 0 0] 24)).alloc (Obj.cells #[.int .i64 x.op, .int .i64 x.val, .slice AX x.args.length cx] 24)) (Obj.cells #[.int .i64 y.op, .int .i64 y.val, .slice AY y.args.length cy] 24)
    simp only [World.size_alloc] at this
    exact this, (((HY6.out.alloc _).alloc _).alloc _).alloc _⟩
  have k5 : Below w.heap.size w ((((w6.alloc (Obj.cells #[.int .i64 2, .int .i64 va, .slice none 0 0] 24)).alloc (Obj.cells #[.int .i64 2, .int .i64 vb, .slice none 0 0] 24)).alloc (Obj.cells #[.int .i64 x.op, .int .i64 x.val, .slice AX x.args.length cx] 24)).alloc (Obj.cells #[.int .i64 y.op, .int .i64 y.val, .slice AY y.args.length cy] 24)) := (((B6.out.alloc B6.out.size _).alloc (by have := B6.out.size; simp; omega) _).alloc (by have := B6.out.size; simp; omega) _).alloc (by have := B6.out.size; simp; omega) _
  have K := Lib.hid (And.intro k1 (And.intro k2 (And.intro k3 (And.intro k4 k5))))
  clear k1 k2 k3 k4 k5 HX6 HY6 B6
  generalize ((((w6.alloc (Obj.cells #[.int .i64 2, .int .i64 va, .slice none 0 0] 24)).alloc (Obj.cells #[.int .i64 2, .int .i64 vb, .slice none 0 0] 24)).alloc (Obj.cells #[.int .i64 x.op, .int .i64 x.val, .slice AX x.args.length cx] 24)).alloc (Obj.cells #[.int .i64 y.op, .int .i64 y.val, .slice AY y.args.length cy] 24)) = W at *
  generalize w6.heap.size = s at *
  go_cut [8, 9] (Pair W (agreeT (.mk 2 va []) (.mk 2 vb [])) true)
  case first =>
    have a0 : W.cell? ⟨s, 0, none⟩ = some (.int .i64 2) := K.out.1.1.cell 0
    have a1 : W.cell? ⟨s, 1, none⟩ = some (.int .i64 va) := K.out.1.1.cell 1
    have a2 : W.cell? ⟨s, 2, none⟩ = some (.slice none 0 0) := K.out.1.1.cell 2
    have b0 : W.cell? ⟨s + 1, 0, none⟩ = some (.int .i64 2) := K.out.2.1.1.cell 0
    have b1 : W.cell? ⟨s + 1, 1, none⟩ = some (.int .i64 vb) := K.out.2.1.1.cell 1
    have b2 : W.cell? ⟨s + 1, 2, none⟩ = some (.slice none 0 0) := K.out.2.1.1.cell 2
    have n0 := World.new_ne W _ a0
    have n1 := World.new_ne W _ b0
    have m1 := Lib.hid (fun d => below_drewN (Below.refl W.heap.size W) d)
    have m2 := Lib.hid (fun d o => below_drewN ((Below.refl W.heap.size W).alloc (Nat.le_refl _) o) d)
    go_region_held3 (fun w' => w'.cell? ⟨s, 0, none⟩ = some (.int .i64 2) ∧ w'.cell? ⟨s, 1, none⟩ = some (.int .i64 va) ∧ w'.cell? ⟨s, 2, none⟩ = some (.slice none 0 0) ∧ w'.cell? ⟨s + 1, 0, none⟩ = some (.int .i64 2) ∧ w'.cell? ⟨s + 1, 1, none⟩ = some (.int .i64 vb) ∧ w'.cell? ⟨s + 1, 2, none⟩ = some (.slice none 0 0)) (go_keep)
      (first
        | (go_at_call 39; refine (pub6 (W := W) ?_ K.out.1 K.out.2.1).mono ?_; (first | exact m1.out 1 | exact m2.out 1 _); rintro e v1 ⟨A1, c1, rfl, ht1, hB1, hx1, z0, z1, z2, z3, z4, z5⟩; obtain ⟨hc1, hf1⟩ := bcell hx1; (first | have sz1 := szl1 hx1 | have sz1 := szl2 hx1 | have sz1 := szl3 hx1 | skip); have n2 := World.new_ne v1 _ z0; have n3 := World.new_ne v1 _ z3; have HT1 := Lib.hid ht1; have HB1 := Lib.hid hB1; have HX1 := Lib.hid hx1; have m3 := Lib.hid (fun o => hB1.alloc hB1.size o); clear ht1 hB1 hx1)
        | (go_at_call 38; first
            | refine (agr6 (W := W) (G := W.heap.size) HB1.out K.out.1 K.out.2.1 (Nat.le_refl _) (trs_ne HT1.out (by first | (simp; done) | (show _ < (World.alloc _ _).heap.size; simp; done)))).mono ?_
            | refine (agr6 (W := W) (G := v1.heap.size) HB1.out K.out.1 K.out.2.1 HB1.out.size (tr_ne HT1.out.tr (Nat.le_refl _))).mono ?_
            | refine (agr6 (W := W) (G := v1.heap.size) (m3.out _) K.out.1 K.out.2.1 HB1.out.size ((tr_ne HT1.out.tr (Nat.le_refl _)).alloc _)).mono ?_
           rintro e v2 ⟨sv, A2', c2, hsv, rfl, ht2, hB2, hx2, z0, z1, z2, z3, z4, z5⟩; have HS2 := Lib.hid hsv; have HT2 := Lib.hid ht2; clear hsv ht2; obtain ⟨hc2, hf2⟩ := bcell hx2; have n4 := World.new_ne v2 _ z0; have n5 := World.new_ne v2 _ z3; have HB2 := Lib.hid hB2; have HX2 := Lib.hid hx2; clear hB2 hx2))
    · have hs := HS2.out; clear HS2; subst hs; go_wp2_with fail; go_meet; exact ⟨_, A2', c2, rfl, rfl, ⟨heap_alloc_new v2 _, HT2.out.tr.alloc _⟩, HB2.out.alloc HB2.out.size _⟩
    · have hs := HS2.out; clear HS2; subst hs; go_wp2_with fail; go_meet; exact ⟨_, A2', c2, rfl, rfl, Bx.made (blk_new HX2.out rfl) (trs_ne HT2.out (by first | (simp; done) | (show _ < (World.alloc _ _).heap.size; simp; done))), below_put3 HB2.out HB1.out.size _ _ _⟩
    · have hs := HS2.out; clear HS2; subst hs; go_wp2_with fail; go_meet; exact ⟨_, A2', c2, rfl, rfl, Bx.made ((blk_new HX1.out rfl).below HX2.out sz1) (trs_ne HT2.out sz1), below_put3 HB2.out (Nat.le_refl _) _ _ _⟩
  case rest =>
    obtain ⟨g8, A8, c8, rfl, rfl, h8, hb⟩ := hcut
    generalize wc = W1 at *
    have hg8 := h8.1.lt
    have L8 := Lib.hid h8
    clear h8
    replace K := Lib.hid (And.intro (K.out.1.bel hb) (And.intro (K.out.2.1.bel hb) (And.intro (K.out.2.2.1.bel hb) (And.intro (K.out.2.2.2.1.bel hb) (below_then K.out.2.2.2.2 hb K.out.2.2.2.2.size)))))
    clear hb
    go_upto_region 6 with (fail)
    go_cut [10, 11] (Pair W1 (agreeT (.mk 2 vb []) (.mk 2 va [])) true)
    case first =>
      have a0 : W1.cell? ⟨s + 1, 0, none⟩ = some (.int .i64 2) := K.out.2.1.1.cell 0
      have a1 : W1.cell? ⟨s + 1, 1, none⟩ = some (.int .i64 vb) := K.out.2.1.1.cell 1
      have a2 : W1.cell? ⟨s + 1, 2, none⟩ = some (.slice none 0 0) := K.out.2.1.1.cell 2
      have b0 : W1.cell? ⟨s, 0, none⟩ = some (.int .i64 2) := K.out.1.1.cell 0
      have b1 : W1.cell? ⟨s, 1, none⟩ = some (.int .i64 va) := K.out.1.1.cell 1
      have b2 : W1.cell? ⟨s, 2, none⟩ = some (.slice none 0 0) := K.out.1.1.cell 2
      have n0 := World.new_ne W1 _ a0
      have n1 := World.new_ne W1 _ b0
      have m1 := Lib.hid (fun d => below_drewN (Below.refl W1.heap.size W1) d)
      have m2 := Lib.hid (fun d o => below_drewN ((Below.refl W1.heap.size W1).alloc (Nat.le_refl _) o) d)
      go_region_held3 (fun w' => w'.cell? ⟨s + 1, 0, none⟩ = some (.int .i64 2) ∧ w'.cell? ⟨s + 1, 1, none⟩ = some (.int .i64 vb) ∧ w'.cell? ⟨s + 1, 2, none⟩ = some (.slice none 0 0) ∧ w'.cell? ⟨s, 0, none⟩ = some (.int .i64 2) ∧ w'.cell? ⟨s, 1, none⟩ = some (.int .i64 va) ∧ w'.cell? ⟨s, 2, none⟩ = some (.slice none 0 0)) (go_keep)
        (first
          | (go_at_call 39; refine (pub6 (W := W1) ?_ K.out.2.1 K.out.1).mono ?_; (first | exact m1.out 1 | exact m2.out 1 _); rintro e v1 ⟨A1, c1, rfl, ht1, hB1, hx1, z0, z1, z2, z3, z4, z5⟩; obtain ⟨hc1, hf1⟩ := bcell hx1; (first | have sz1 := szl1 hx1 | have sz1 := szl2 hx1 | have sz1 := szl3 hx1 | skip); have n2 := World.new_ne v1 _ z0; have n3 := World.new_ne v1 _ z3; have HT1 := Lib.hid ht1; have HB1 := Lib.hid hB1; have HX1 := Lib.hid hx1; have m3 := Lib.hid (fun o => hB1.alloc hB1.size o); clear ht1 hB1 hx1)
          | (go_at_call 38; first
              | refine (agr6 (W := W1) (G := W1.heap.size) HB1.out K.out.2.1 K.out.1 (Nat.le_refl _) (trs_ne HT1.out (by first | (simp; done) | (show _ < (World.alloc _ _).heap.size; simp; done)))).mono ?_
              | refine (agr6 (W := W1) (G := v1.heap.size) HB1.out K.out.2.1 K.out.1 HB1.out.size (tr_ne HT1.out.tr (Nat.le_refl _))).mono ?_
              | refine (agr6 (W := W1) (G := v1.heap.size) (m3.out _) K.out.2.1 K.out.1 HB1.out.size ((tr_ne HT1.out.tr (Nat.le_refl _)).alloc _)).mono ?_
             rintro e v2 ⟨sv, A2', c2, hsv, rfl, ht2, hB2, hx2, z0, z1, z2, z3, z4, z5⟩; have HS2 := Lib.hid hsv; have HT2 := Lib.hid ht2; clear hsv ht2; obtain ⟨hc2, hf2⟩ := bcell hx2; have n4 := World.new_ne v2 _ z0; have n5 := World.new_ne v2 _ z3; have HB2 := Lib.hid hB2; have HX2 := Lib.hid hx2; clear hB2 hx2))
      · have hs := HS2.out; clear HS2; subst hs; go_wp2_with fail; go_meet; exact ⟨_, A2', c2, rfl, rfl, ⟨heap_alloc_new v2 _, HT2.out.tr.alloc _⟩, HB2.out.alloc HB2.out.size _⟩
      · have hs := HS2.out; clear HS2; subst hs; go_wp2_with fail; go_meet; exact ⟨_, A2', c2, rfl, rfl, Bx.made (blk_new HX2.out rfl) (trs_ne HT2.out (by first | (simp; done) | (show _ < (World.alloc _ _).heap.size; simp; done))), below_put3 HB2.out HB1.out.size _ _ _⟩
      · have hs := HS2.out; clear HS2; subst hs; go_wp2_with fail; go_meet; exact ⟨_, A2', c2, rfl, rfl, Bx.made ((blk_new HX1.out rfl).below HX2.out sz1) (trs_ne HT2.out sz1), below_put3 HB2.out (Nat.le_refl _) _ _ _⟩
    case rest =>
      obtain ⟨g10, A10, c10, rfl, rfl, h10, hb⟩ := hcut
      generalize wc = W2 at *
      have hg10 := h10.1.lt
      have L10 := Lib.hid h10
      clear h10
      replace L8 := Lib.hid (L8.out.bel hb)
      replace K := Lib.hid (And.intro (K.out.1.bel hb) (And.intro (K.out.2.1.bel hb) (And.intro (K.out.2.2.1.bel hb) (And.intro (K.out.2.2.2.1.bel hb) (below_then K.out.2.2.2.2 hb K.out.2.2.2.2.size)))))
      clear hb
      go_upto_region 7 with (fail)
      go_cut [12, 13] (Pair W2 y true)
      case first =>
        have a0 : W2.cell? ⟨s + 1 + 1, 0, none⟩ = some (.int .i64 x.op) := K.out.2.2.1.1.cell 0
        have a1 : W2.cell? ⟨s + 1 + 1, 1, none⟩ = some (.int .i64 x.val) := K.out.2.2.1.1.cell 1
        have a2 : W2.cell? ⟨s + 1 + 1, 2, none⟩ = some (.slice AX x.args.length cx) := K.out.2.2.1.1.cell 2
        have b0 : W2.cell? ⟨s + 1 + 1 + 1, 0, none⟩ = some (.int .i64 y.op) := K.out.2.2.2.1.1.cell 0
        have b1 : W2.cell? ⟨s + 1 + 1 + 1, 1, none⟩ = some (.int .i64 y.val) := K.out.2.2.2.1.1.cell 1
        have b2 : W2.cell? ⟨s + 1 + 1 + 1, 2, none⟩ = some (.slice AY y.args.length cy) := K.out.2.2.2.1.1.cell 2
        have n0 := World.new_ne W2 _ a0
        have n1 := World.new_ne W2 _ b0
        have m1 := Lib.hid (fun d => below_drewN (Below.refl W2.heap.size W2) d)
        have m2 := Lib.hid (fun d o => below_drewN ((Below.refl W2.heap.size W2).alloc (Nat.le_refl _) o) d)
        go_region_held3 (fun w' => w'.cell? ⟨s + 1 + 1, 0, none⟩ = some (.int .i64 x.op) ∧ w'.cell? ⟨s + 1 + 1, 1, none⟩ = some (.int .i64 x.val) ∧ w'.cell? ⟨s + 1 + 1, 2, none⟩ = some (.slice AX x.args.length cx) ∧ w'.cell? ⟨s + 1 + 1 + 1, 0, none⟩ = some (.int .i64 y.op) ∧ w'.cell? ⟨s + 1 + 1 + 1, 1, none⟩ = some (.int .i64 y.val) ∧ w'.cell? ⟨s + 1 + 1 + 1, 2, none⟩ = some (.slice AY y.args.length cy)) (go_keep)
          (first
            | (go_at_call 41; refine (seal6 (W := W2) ?_ K.out.2.2.1 K.out.2.2.2.1).mono ?_; (first | exact m1.out 1 | exact m2.out 1 _); rintro e v1 ⟨A1, c1, rfl, ht1, hB1, hx1, z0, z1, z2, z3, z4, z5⟩; obtain ⟨hc1, hf1⟩ := bcell hx1; (first | have sz1 := szl1 hx1 | have sz1 := szl2 hx1 | have sz1 := szl3 hx1 | skip); have n2 := World.new_ne v1 _ z0; have n3 := World.new_ne v1 _ z3; have HT1 := Lib.hid ht1; have HB1 := Lib.hid hB1; have HX1 := Lib.hid hx1; have m3 := Lib.hid (fun o => hB1.alloc hB1.size o); clear ht1 hB1 hx1)
            | (go_at_call 40; first
                | refine (open6 (W := W2) (G := W2.heap.size) HB1.out K.out.2.2.1 K.out.2.2.2.1 (trs_ne HT1.out (by first | (simp; done) | (show _ < (World.alloc _ _).heap.size; simp; done)))).mono ?_
                | refine (open6 (W := W2) (G := v1.heap.size) HB1.out K.out.2.2.1 K.out.2.2.2.1 (tr_ne HT1.out.tr (Nat.le_refl _))).mono ?_
                | refine (open6 (W := W2) (G := v1.heap.size) (m3.out _) K.out.2.2.1 K.out.2.2.2.1 ((tr_ne HT1.out.tr (Nat.le_refl _)).alloc _)).mono ?_
               rintro e v2 ⟨A2', c2, rfl, ht2, hB2, hx2, z0, z1, z2, z3, z4, z5⟩; have HT2 := Lib.hid ht2; clear ht2; obtain ⟨hc2, hf2⟩ := bcell hx2; have n4 := World.new_ne v2 _ z0; have n5 := World.new_ne v2 _ z3; have HB2 := Lib.hid hB2; have HX2 := Lib.hid hx2; clear hB2 hx2))
        · go_wp2_with fail; go_meet; exact ⟨_, A2', c2, rfl, rfl, ⟨heap_alloc_new v2 _, HT2.out.tr.alloc _⟩, HB2.out.alloc HB2.out.size _⟩
        · go_wp2_with fail; go_meet; exact ⟨_, A2', c2, rfl, rfl, Bx.made (blk_new HX2.out rfl) HT2.out, below_put3 HB2.out HB1.out.size _ _ _⟩
        · go_wp2_with fail; go_meet; exact ⟨_, A2', c2, rfl, rfl, Bx.made ((blk_new HX1.out rfl).below HX2.out sz1) HT2.out, below_put3 HB2.out (Nat.le_refl _) _ _ _⟩
      case rest =>
        obtain ⟨g12, A12, c12, rfl, rfl, h12, hb⟩ := hcut
        generalize wc = W3 at *
        have hg12 := h12.1.lt
        have L12 := Lib.hid h12
        clear h12
        replace L8 := Lib.hid (L8.out.bel hb)
        replace L10 := Lib.hid (L10.out.bel hb)
        replace K := Lib.hid (And.intro (K.out.1.bel hb) (And.intro (K.out.2.1.bel hb) (And.intro (K.out.2.2.1.bel hb) (And.intro (K.out.2.2.2.1.bel hb) (below_then K.out.2.2.2.2 hb K.out.2.2.2.2.size)))))
        clear hb
        go_upto_region 8 with (fail)
        go_cut [14, 15] (fun _ v15 wx => v15 = .bool (equT x y) ∧ Below W3.heap.size W3 wx)
        case first =>
          have a0 : W3.cell? ⟨s + 1 + 1, 0, none⟩ = some (.int .i64 x.op) := K.out.2.2.1.1.cell 0
          have a1 : W3.cell? ⟨s + 1 + 1, 1, none⟩ = some (.int .i64 x.val) := K.out.2.2.1.1.cell 1
          have a2 : W3.cell? ⟨s + 1 + 1, 2, none⟩ = some (.slice AX x.args.length cx) := K.out.2.2.1.1.cell 2
          have b0 : W3.cell? ⟨s + 1 + 1 + 1, 0, none⟩ = some (.int .i64 y.op) := K.out.2.2.2.1.1.cell 0
          have b1 : W3.cell? ⟨s + 1 + 1 + 1, 1, none⟩ = some (.int .i64 y.val) := K.out.2.2.2.1.1.cell 1
          have b2 : W3.cell? ⟨s + 1 + 1 + 1, 2, none⟩ = some (.slice AY y.args.length cy) := K.out.2.2.2.1.1.cell 2
          have n0 := World.new_ne W3 _ a0
          have n1 := World.new_ne W3 _ b0
          have m1 := Lib.hid (fun d => below_drewN (Below.refl W3.heap.size W3) d)
          have m2 := Lib.hid (fun d o => below_drewN ((Below.refl W3.heap.size W3).alloc (Nat.le_refl _) o) d)
          go_region_held3 (fun w' => w'.cell? ⟨s + 1 + 1, 0, none⟩ = some (.int .i64 x.op) ∧ w'.cell? ⟨s + 1 + 1, 1, none⟩ = some (.int .i64 x.val) ∧ w'.cell? ⟨s + 1 + 1, 2, none⟩ = some (.slice AX x.args.length cx) ∧ w'.cell? ⟨s + 1 + 1 + 1, 0, none⟩ = some (.int .i64 y.op) ∧ w'.cell? ⟨s + 1 + 1 + 1, 1, none⟩ = some (.int .i64 y.val) ∧ w'.cell? ⟨s + 1 + 1 + 1, 2, none⟩ = some (.slice AY y.args.length cy)) (go_keep)
            (first
              | (go_at_call 41; refine (seal6 (W := W3) ?_ K.out.2.2.1 K.out.2.2.2.1).mono ?_; (first | exact m1.out 1 | exact m2.out 1 _); rintro e v1 ⟨A1, c1, rfl, ht1, hB1, hx1, z0, z1, z2, z3, z4, z5⟩; obtain ⟨hc1, hf1⟩ := bcell hx1; (first | have sz1 := szl1 hx1 | have sz1 := szl2 hx1 | have sz1 := szl3 hx1 | skip); have n2 := World.new_ne v1 _ z0; have n3 := World.new_ne v1 _ z3; have HT1 := Lib.hid ht1; have HB1 := Lib.hid hB1; have HX1 := Lib.hid hx1; have m3 := Lib.hid (fun o => hB1.alloc hB1.size o); clear ht1 hB1 hx1)
              | (go_at_call 40; first
                  | refine (other6 (W := W3) HB1.out K.out.2.2.1 K.out.2.2.2.1 HT1.out.tr).mono ?_
                  | refine (other6 (W := W3) (m3.out _) K.out.2.2.1 K.out.2.2.2.1 (HT1.out.tr.alloc _)).mono ?_
                 rintro e v2 ⟨o2, q2, A2', k2, c2, r2, hr2, rfl, hB2, hx2, z0, z1, z2, z3, z4, z5⟩; have HR2 := Lib.hid hr2; clear hr2; obtain ⟨hc2, hf2⟩ := bcell hx2; have n4 := World.new_ne v2 _ z0; have n5 := World.new_ne v2 _ z3; have HB2 := Lib.hid hB2; have HX2 := Lib.hid hx2; clear hB2 hx2))
          all_goals (go_wp2_with fail; go_meet; refine ⟨by rw [HR2.out], ?_⟩; first | exact HB2.out.alloc HB2.out.size _ | exact below_put3 HB2.out HB1.out.size _ _ _ | exact below_put3 HB2.out (Nat.le_refl _) _ _ _)
        case rest =>
          obtain ⟨rfl, hb⟩ := hcut
          generalize wc = W4 at *
          replace L8 := Lib.hid (L8.out.bel hb)
          replace L10 := Lib.hid (L10.out.bel hb)
          replace L12 := Lib.hid (L12.out.bel hb)
          replace K := Lib.hid (And.intro (K.out.1.bel hb) (And.intro (K.out.2.1.bel hb) (And.intro (K.out.2.2.1.bel hb) (And.intro (K.out.2.2.2.1.bel hb) (below_then K.out.2.2.2.2 hb K.out.2.2.2.2.size)))))
          clear hb
          have hv : validT (agreeT (.mk 2 va []) (.mk 2 vb [])) = true := agree_valid hva0.1 hvb0.1
          have e10 := L10.out
          rw [agree_comm] at e10
          have e8 := L8.out
          generalize agreeT (.mk 2 va []) (.mk 2 vb []) = sv at e8 e10 hv
          clear L8 L10
          have HV := Lib.hid hv
          have H8 := Lib.hid e8
          have H10 := Lib.hid e10
          clear hv e8 e10
          have p0 := H8.out.c0
          have p1 := H8.out.c1
          have p2 := H8.out.c2
          have p3 := H10.out.c0
          have p4 := H10.out.c1
          have p5 := H10.out.c2
          go_wp2_with fail
          refine (equal_any sv sv W4 A8 A10 c8 c10 H8.out.2 H10.out.2).mono ?_
          rw [equT_iff.2 rfl]
          rintro e v1 ⟨rfl, hb1⟩
          replace H8 := Lib.hid (H8.out.bel hb1)
          replace L12 := Lib.hid (L12.out.bel hb1)
          replace K := Lib.hid (And.intro (K.out.2.2.1.bel hb1) (And.intro (K.out.2.2.2.1.bel hb1) (below_then K.out.2.2.2.2 hb1 K.out.2.2.2.2.size)))
          clear hb1 p0 p1 p2 p3 p4 p5
          have p0 := H8.out.c0
          have p1 := H8.out.c1
          have p2 := H8.out.c2
          go_wp2_with fail
          refine (pvalid_any sv v1 A8 c8 H8.out.2).mono ?_
          rw [HV.out]
          rintro e v2 ⟨rfl, hb1⟩
          replace L12 := Lib.hid (L12.out.bel hb1)
          replace K := Lib.hid (And.intro (K.out.1.bel hb1) (And.intro (K.out.2.1.bel hb1) (below_then K.out.2.2 hb1 K.out.2.2.size)))
          clear hb1 p0 p1 p2
          have p0 := L12.out.c0
          have p1 := L12.out.c1
          have p2 := L12.out.c2
          have p3 := K.out.2.1.c0
          have p4 := K.out.2.1.c1
          have p5 := K.out.2.1.c2
          go_wp2_with fail
          refine (equal_any y y v2 A12 AY c12 cy L12.out.2 K.out.2.1.2).mono ?_
          rw [equT_iff.2 rfl]
          rintro e v3 ⟨rfl, hb1⟩
          replace K := Lib.hid (And.intro (K.out.1.bel hb1) (And.intro (K.out.2.1.bel hb1) (below_then K.out.2.2 hb1 K.out.2.2.size)))
          clear hb1 p0 p1 p2 p3 p4 p5
          have p0 := K.out.1.c0
          have p1 := K.out.1.c1
          have p2 := K.out.1.c2
          have p3 := K.out.2.1.c0
          have p4 := K.out.2.1.c1
          have p5 := K.out.2.1.c2
          go_wp2_with fail
          refine (equal_any x y v3 AX AY cx cy K.out.1.2 K.out.2.1.2).mono ?_
          rintro e v4 ⟨rfl, hb1⟩
          replace K := Lib.hid (below_then K.out.2.2 hb1 K.out.2.2.size)
          clear hb1 p0 p1 p2 p3 p4 p5
          generalize equT x y = r at *
          cases r <;>
          (go_wp2_with fail
           exact bodyPost_ret (v := .bool true) (by simp [results, Try.results8, go_sem]) rfl ⟨rfl, K.out⟩)
end Go.Proofs.Ytokiodjdonbipaa.termAgrees
