/-
  The walk of the law TermOrders: the order of any terms is a strict total one that agrees with equality.
  Conditions: none.
-/
import Derived.Test.YtokiodjdonbipaaTerm
import Derived.Test.YtokiodjdonbipaaSize
import Derived.Test.YtokiodjdonbipaaOpen
import Derived.LoopTactic
import Derived.Deep.RegionHeld3
import Derived.Deep.DrawnRows
namespace Go.Proofs.Ytokiodjdonbipaa.termOrders
open Go.RowKit Go.Sort
set_option linter.unusedVariables false
attribute [local go_sem ↓] Go.wp_at_zero Go.wp_at_succ
abbrev vT (t : Tm) (A : Option Addr) (c : Nat) : Value := .agg #[.int .i64 t.op, .int .i64 t.val, .slice A t.args.length c]
/-- Five terms lie in block g. -/
def Five (w : World) (g : Nat) (T : Nat → Tm) (AA : Nat → Option Addr) (CC : Nat → Nat) : Prop :=
  ∀ i, i < 5 → Tr w (T i) (AA i) (CC i) ∧ w.cell? ⟨g, i * 3, none⟩ = some (.int .i64 (T i).op) ∧ w.cell? ⟨g, i * 3 + 1, none⟩ = some (.int .i64 (T i).val) ∧ w.cell? ⟨g, i * 3 + 2, none⟩ = some (.slice (AA i) (T i).args.length (CC i))
theorem Five.bel {w w' : World} {g : Nat} {T : Nat → Tm} {AA : Nat → Option Addr} {CC : Nat → Nat} (h : Five w g T AA CC) (hb : Below w.heap.size w w') : Five w' g T AA CC := by
  intro i hi
  obtain ⟨h0, h1, h2, h3⟩ := h i hi
  have hg : g < w.heap.size := World.block_lt_of_cell? w ⟨g, i * 3, none⟩ h1
  exact ⟨h0.bel hb, (hb.cell (p := ⟨g, _, none⟩) hg).trans h1, (hb.cell (p := ⟨g, _, none⟩) hg).trans h2, (hb.cell (p := ⟨g, _, none⟩) hg).trans h3⟩
theorem Five.mk {w : World} {g : Nat} {ty : TypeId} {a b d e f : Tm} {A B D E F : Option Addr} {ca cb cd ce cf : Nat} (ha : Tr w a A ca) (hb : Tr w b B cb) (hd : Tr w d D cd) (he : Tr w e E ce) (hf : Tr w f F cf)
    (h : Blk w g ty #[.int .i64 a.op, .int .i64 a.val, .slice A a.args.length ca, .int .i64 b.op, .int .i64 b.val, .slice B b.args.length cb, .int .i64 d.op, .int .i64 d.val, .slice D d.args.length cd, .int .i64 e.op, .int .i64 e.val, .slice E e.args.length ce, .int .i64 f.op, .int .i64 f.val, .slice F f.args.length cf]) :
    ∃ T AA CC, Five w g T AA CC := by
  refine ⟨fun i => match i with | 0 => a | 1 => b | 2 => d | 3 => e | _ => f, fun i => match i with | 0 => A | 1 => B | 2 => D | 3 => E | _ => F, fun i => match i with | 0 => ca | 1 => cb | 2 => cd | 3 => ce | _ => cf, fun i hi => ?_⟩
  match i, hi with
  | 0, _ => exact ⟨ha, h.cell 0, h.cell 1, h.cell 2⟩
  | 1, _ => exact ⟨hb, h.cell 3, h.cell 4, h.cell 5⟩
  | 2, _ => exact ⟨hd, h.cell 6, h.cell 7, h.cell 8⟩
  | 3, _ => exact ⟨he, h.cell 9, h.cell 10, h.cell 11⟩
  | 4, _ => exact ⟨hf, h.cell 12, h.cell 13, h.cell 14⟩
theorem less_q {w : World} {t u : Tm} {A B : Option Addr} {c d : Nat} (ht : Tr w t A c) (hu : Tr w u B d) {b : Bool} (h : lessT t u = b) (n : Nat) (os : Array Obj) :
    Calls Try.prog 13 #[vT t A c, vT u B d] (grow (redrawn w n) os) fun e w'' => e = .returned (.bool b) ∧ ∃ p : Regrown, w'' = grow (redrawn w p.d) p.os := by
  subst h
  exact Calls.regrown_of (less_any t u _ A B c d (ht.bel (below_regrown w n os)) (hu.bel (below_regrown w n os)))
theorem rless_q {w : World} {t u : Tm} {A B : Option Addr} {c d : Nat} (ht : Tr w t A c) (hu : Tr w u B d) {b : Bool} (h : lessT t u = b) (n : Nat) (os : Array Obj) :
    Calls Try.prog 15 #[vT t A c, vT u B d] (grow (redrawn w n) os) fun e w'' => e = .returned (.bool b) ∧ ∃ p : Regrown, w'' = grow (redrawn w p.d) p.os := by
  subst h
  exact Calls.regrown_of (rless_any t u _ A B c d (ht.bel (below_regrown w n os)) (hu.bel (below_regrown w n os)))
theorem equ_q {w : World} {t u : Tm} {A B : Option Addr} {c d : Nat} (ht : Tr w t A c) (hu : Tr w u B d) {b : Bool} (h : equT t u = b) (n : Nat) (os : Array Obj) :
    Calls Try.prog 14 #[vT t A c, vT u B d] (grow (redrawn w n) os) fun e w'' => e = .returned (.bool b) ∧ ∃ p : Regrown, w'' = grow (redrawn w p.d) p.os := by
  subst h
  exact Calls.regrown_of (equal_any t u _ A B c d (ht.bel (below_regrown w n os)) (hu.bel (below_regrown w n os)))
theorem requ_q {w : World} {t u : Tm} {A B : Option Addr} {c d : Nat} (ht : Tr w t A c) (hu : Tr w u B d) {b : Bool} (h : equT t u = b) (n : Nat) (os : Array Obj) :
    Calls Try.prog 16 #[vT t A c, vT u B d] (grow (redrawn w n) os) fun e w'' => e = .returned (.bool b) ∧ ∃ p : Regrown, w'' = grow (redrawn w p.d) p.os := by
  subst h
  exact Calls.regrown_of (requal_any t u _ A B c d (ht.bel (below_regrown w n os)) (hu.bel (below_regrown w n os)))
/-- A draw of a term, behind which two boxes stay. -/
theorem draw6 {W wx : World} {gc q ga gb ca cb : Nat} {a b : Tm} {A B : Option Addr} (m : Nat) (dp : Int) (hdp : dp = ((m + 1 : Nat) : Int)) (hm : m ≤ 1000) (hc : ∃ p, Cod wx gc q p) (hg : W.grownBy wx (some gc))
    (hA : Blk W ga 24 #[.int .i64 a.op, .int .i64 a.val, .slice A a.args.length ca]) (hB : Blk W gb 24 #[.int .i64 b.op, .int .i64 b.val, .slice B b.args.length cb]) (na : ga ≠ gc) (nb : gb ≠ gc) :
    Calls Try.prog 12 #[.pointer (some ⟨gc, 0, none⟩), .int .i64 dp] wx fun e w' => ∃ t A1 c, e = .returned (vT t A1 c) ∧ TrS (fun g => wx.heap.size ≤ g) w' t A1 c ∧ (∃ p, Cod w' gc q p) ∧ W.grownBy w' (some gc) ∧ wx.grownBy w' (some gc) ∧ w'.cell? ⟨ga, 0, none⟩ = some (.int .i64 a.op) ∧ w'.cell? ⟨ga, 1, none⟩ = some (.int .i64 a.val) ∧ w'.cell? ⟨ga, 2, none⟩ = some (.slice A a.args.length ca) ∧ w'.cell? ⟨gb, 0, none⟩ = some (.int .i64 b.op) ∧ w'.cell? ⟨gb, 1, none⟩ = some (.int .i64 b.val) ∧ w'.cell? ⟨gb, 2, none⟩ = some (.slice B b.args.length cb) := by
  obtain ⟨p, hc⟩ := hc
  refine (cterm_any m gc q p wx dp hdp hm hc).mono ?_
  rintro e w' ⟨t, A1, c, p', rfl, ht, _, _, hc', hg'⟩
  have hgt := only_trans hg hg'
  have h1 := hA.grown hgt (by simp [na])
  have h2 := hB.grown hgt (by simp [nb])
  exact ⟨t, A1, c, rfl, ht, ⟨p', hc'⟩, hgt, hg', h1.cell 0, h1.cell 1, h1.cell 2, h2.cell 0, h2.cell 1, h2.cell 2⟩
theorem ptrs {w w' : World} {gc n : Nat} {t : Tm} {A : Option Addr} {c : Nat} (h : TrS (fun g => n ≤ g) w t A c) (hg : w.grownBy w' (some gc)) (hn : gc < n) : TrS (fun g => n ≤ g) w' t A c := h.only hg (by omega)
set_option maxRecDepth 100000 in
set_option maxHeartbeats 4000000 in
theorem termOrders_core (w : World) (a b : Tm) (A B : Option Addr) (ca cb : Nat) (ha : Tr w a A ca) (hb : Tr w b B cb)
    (A2 : Option Addr) (len cap : Nat) (h : Byts w A2 len) (hl : len ≤ cap ∧ cap ≤ maxLen) :
    Calls Try.prog 3 #[.agg #[.int .i64 a.op, .int .i64 a.val, .slice A a.args.length ca], .agg #[.int .i64 b.op, .int .i64 b.val, .slice B b.args.length cb], .slice A2 len cap] w fun e w' => e = .returned (.bool true) ∧ Below w.heap.size w w' := by
  have hm := follows_mixed
  have b1 : Blk ((w.alloc (Obj.cells #[.int .i64 a.op, .int .i64 a.val, .slice A a.args.length ca] 24)).alloc (Obj.cells #[.int .i64 b.op, .int .i64 b.val, .slice B b.args.length cb] 24)) w.heap.size 24 #[.int .i64 a.op, .int .i64 a.val, .slice A a.args.length ca] := Blk.alloc (heap_alloc_new w _) _
  have b2 : Blk ((w.alloc (Obj.cells #[.int .i64 a.op, .int .i64 a.val, .slice A a.args.length ca] 24)).alloc (Obj.cells #[.int .i64 b.op, .int .i64 b.val, .slice B b.args.length cb] 24)) (w.heap.size + 1) 24 #[.int .i64 b.op, .int .i64 b.val, .slice B b.args.length cb] := by
    have := heap_alloc_new (w.alloc (Obj.cells #[.int .i64 a.op, .int .i64 a.val, .slice A a.args.length ca] 24)) (Obj.cells #[.int .i64 b.op, .int .i64 b.val, .slice B b.args.length cb] 24)
    simp only [World.size_alloc] at this
    exact this
  have bb : Below w.heap.size w ((w.alloc (Obj.cells #[.int .i64 a.op, .int .i64 a.val, .slice A a.args.length ca] 24)).alloc (Obj.cells #[.int .i64 b.op, .int .i64 b.val, .slice B b.args.length cb] 24)) := ((Below.refl _ _).alloc (Nat.le_refl _) _).alloc (by simp) _
  have HA := Lib.hid ha
  have HB := Lib.hid hb
  have HY := Lib.hid h
  have B0 := Lib.hid (And.intro b1 (And.intro b2 bb))
  clear ha hb h b1 b2 bb
  go_enter Try.func3, Try.ntmps3
  go_wp2_with fail
  refine (awake_any _).mono ?_
  rintro e w1 ⟨rfl, hb1⟩
  have b1 := B0.out.1.below hb1 B0.out.1.lt
  have b2 := B0.out.2.1.below hb1 B0.out.2.1.lt
  have bb := below_then B0.out.2.2 hb1 B0.out.2.2.size
  have B1 := Lib.hid (And.intro b1 (And.intro b2 bb))
  have x0 : w1.cell? ⟨w.heap.size, 0, none⟩ = some (.int .i64 a.op) := b1.cell 0
  have x1 : w1.cell? ⟨w.heap.size, 1, none⟩ = some (.int .i64 a.val) := b1.cell 1
  have x2 : w1.cell? ⟨w.heap.size, 2, none⟩ = some (.slice A a.args.length ca) := b1.cell 2
  clear b1 b2 bb hb1 B0
  go_wp2_with fail
  refine (size_any a w1 A ca (HA.out.bel B1.out.2.2)).mono ?_
  rintro e w2 ⟨rfl, hza, hb2⟩
  have SZA := Lib.hid hza
  have b1 := B1.out.1.below hb2 B1.out.1.lt
  have b2 := B1.out.2.1.below hb2 B1.out.2.1.lt
  have bb := below_then B1.out.2.2 hb2 B1.out.2.2.size
  have B2 := Lib.hid (And.intro b1 (And.intro b2 bb))
  have x0 : w2.cell? ⟨w.heap.size, 0, none⟩ = some (.int .i64 a.op) := b1.cell 0
  have x1 : w2.cell? ⟨w.heap.size, 1, none⟩ = some (.int .i64 a.val) := b1.cell 1
  have x2 : w2.cell? ⟨w.heap.size, 2, none⟩ = some (.slice A a.args.length ca) := b1.cell 2
  have y0 : w2.cell? ⟨w.heap.size + 1, 0, none⟩ = some (.int .i64 b.op) := b2.cell 0
  have y1 : w2.cell? ⟨w.heap.size + 1, 1, none⟩ = some (.int .i64 b.val) := b2.cell 1
  have y2 : w2.cell? ⟨w.heap.size + 1, 2, none⟩ = some (.slice B b.args.length cb) := b2.cell 2
  clear b1 b2 bb hb2 B1 hza
  by_cases h3 : 300 ≤ sizeT a
  · have q1 : decide (300 ≤ sizeT a) = true := by simp; omega
    have H3 := Lib.hid h3
    clear h3
    go_wp2_with fail
    refine (size_any a w2 A ca (HA.out.bel B2.out.2.2)).mono ?_
    rintro e w3 ⟨rfl, _, hb3⟩
    have bb := Lib.hid (below_then B2.out.2.2 hb3 B2.out.2.2.size)
    clear hb3 x0 x1 x2 y0 y1 y2
    go_wp2_with fail
    go_ret
    exact ⟨rfl, bb.out⟩
  have q1 : decide (300 ≤ sizeT a) = false := by simp; omega
  clear h3
  go_wp2_with fail
  refine (size_any b w2 B cb (HB.out.bel B2.out.2.2)).mono ?_
  rintro e w3 ⟨rfl, hzb, hb3⟩
  have b1 := B2.out.1.below hb3 B2.out.1.lt
  have b2 := B2.out.2.1.below hb3 B2.out.2.1.lt
  have bb := below_then B2.out.2.2 hb3 B2.out.2.2.size
  have B3 := Lib.hid (And.intro b1 (And.intro b2 bb))
  have x0 : w3.cell? ⟨w.heap.size, 0, none⟩ = some (.int .i64 a.op) := b1.cell 0
  have x1 : w3.cell? ⟨w.heap.size, 1, none⟩ = some (.int .i64 a.val) := b1.cell 1
  have x2 : w3.cell? ⟨w.heap.size, 2, none⟩ = some (.slice A a.args.length ca) := b1.cell 2
  have y0 : w3.cell? ⟨w.heap.size + 1, 0, none⟩ = some (.int .i64 b.op) := b2.cell 0
  have y1 : w3.cell? ⟨w.heap.size + 1, 1, none⟩ = some (.int .i64 b.val) := b2.cell 1
  have y2 : w3.cell? ⟨w.heap.size + 1, 2, none⟩ = some (.slice B b.args.length cb) := b2.cell 2
  clear b1 b2 bb hb3 B2 hzb
  by_cases h3 : 300 ≤ sizeT b
  · have q2 : decide (300 ≤ sizeT b) = true := by simp; omega
    have H3 := Lib.hid h3
    clear h3
    go_wp2_with fail
    refine (size_any a w3 A ca (HA.out.bel B3.out.2.2)).mono ?_
    rintro e w4 ⟨rfl, _, hb4⟩
    have b1 := B3.out.1.below hb4 B3.out.1.lt
    have b2 := B3.out.2.1.below hb4 B3.out.2.1.lt
    have bb := below_then B3.out.2.2 hb4 B3.out.2.2.size
    have B4 := Lib.hid (And.intro b1 (And.intro b2 bb))
    have y0 : w4.cell? ⟨w.heap.size + 1, 0, none⟩ = some (.int .i64 b.op) := b2.cell 0
    have y1 : w4.cell? ⟨w.heap.size + 1, 1, none⟩ = some (.int .i64 b.val) := b2.cell 1
    have y2 : w4.cell? ⟨w.heap.size + 1, 2, none⟩ = some (.slice B b.args.length cb) := b2.cell 2
    clear b1 b2 bb hb4 x0 x1 x2
    go_wp2_with fail
    refine (size_any b w4 B cb (HB.out.bel B4.out.2.2)).mono ?_
    rintro e w5 ⟨rfl, _, hb5⟩
    have bb := Lib.hid (below_then B4.out.2.2 hb5 B4.out.2.2.size)
    clear hb5 y0 y1 y2
    go_wp2_with fail
    go_ret
    exact ⟨rfl, bb.out⟩
  have q2 : decide (300 ≤ sizeT b) = false := by simp; omega
  clear h3
  have hby : Byts w3 A2 len := by
    intro k hk
    obtain ⟨ad, x, e, hx, hc⟩ := HY.out k hk
    exact ⟨ad, x, e, hx, (B3.out.2.2.cell (World.block_lt_of_cell? w _ hc)).trans hc⟩
  have HBY := Lib.hid hby
  clear hby
  go_wp2_with fail
  refine (new_any A2 len cap 120 _ HBY.out hl.1 hl.2 (by omega) (by omega)).mono ?_
  rintro e w4 ⟨gc, q, rfl, hgc, hcod, hq, hb4⟩
  have hgcw : w.heap.size ≤ gc := Nat.le_trans B3.out.2.2.size hgc
  have b1 := B3.out.1.below hb4 B3.out.1.lt
  have b2 := B3.out.2.1.below hb4 B3.out.2.1.lt
  have bb := below_then B3.out.2.2 hb4 B3.out.2.2.size
  have n1 : w.heap.size ≠ gc := by have := B3.out.1.lt; omega
  have n2 : w.heap.size + 1 ≠ gc := by have := B3.out.2.1.lt; omega
  have B4 := Lib.hid (And.intro b1 (And.intro b2 bb))
  have x0 : w4.cell? ⟨w.heap.size, 0, none⟩ = some (.int .i64 a.op) := b1.cell 0
  have x1 : w4.cell? ⟨w.heap.size, 1, none⟩ = some (.int .i64 a.val) := b1.cell 1
  have x2 : w4.cell? ⟨w.heap.size, 2, none⟩ = some (.slice A a.args.length ca) := b1.cell 2
  have y0 : w4.cell? ⟨w.heap.size + 1, 0, none⟩ = some (.int .i64 b.op) := b2.cell 0
  have y1 : w4.cell? ⟨w.heap.size + 1, 1, none⟩ = some (.int .i64 b.val) := b2.cell 1
  have y2 : w4.cell? ⟨w.heap.size + 1, 2, none⟩ = some (.slice B b.args.length cb) := b2.cell 2
  have HC := Lib.hid hcod
  have hgl := hcod.lt
  clear b1 b2 bb hb4 hcod hq B3
  go_wp2_with fail
  have tok1 : True := trivial
  have tok2 : True := trivial
  have tok3 : True := trivial
  have e3 : (3 : Int) = ((2 + 1 : Nat) : Int) := rfl
  have e4 : (4 : Int) = ((3 + 1 : Nat) : Int) := rfl
  have l2 : 2 ≤ 1000 := by omega
  have l3 : 3 ≤ 1000 := by omega
  have E3 := Lib.hid e3
  have E4 := Lib.hid e4
  have hcd : ∀ d, ∃ p, Cod (w4.drewN d) gc q p := fun d => ⟨0, HC.out.drewN d⟩
  have hgd : ∀ d, w4.grownBy (w4.drewN d) (some gc) := fun d => only_drewN (only_refl _ _) d
  have HCD := Lib.hid (And.intro hcd hgd)
  clear e3 e4 hcd hgd
  go_region_held3 (fun w' => w'.cell? ⟨w.heap.size, 0, none⟩ = some (.int .i64 a.op) ∧ w'.cell? ⟨w.heap.size, 1, none⟩ = some (.int .i64 a.val) ∧ w'.cell? ⟨w.heap.size, 2, none⟩ = some (.slice A a.args.length ca) ∧ w'.cell? ⟨w.heap.size + 1, 0, none⟩ = some (.int .i64 b.op) ∧ w'.cell? ⟨w.heap.size + 1, 1, none⟩ = some (.int .i64 b.val) ∧ w'.cell? ⟨w.heap.size + 1, 2, none⟩ = some (.slice B b.args.length cb)) (go_keep)
    (first
      | (have _t := tok1; go_at_call 12; refine (draw6 2 3 E3.out l2 (HCD.out.1 1) (HCD.out.2 1) B4.out.1 B4.out.2.1 n1 n2).mono ?_; rintro e w5 ⟨t1, A1, c1, rfl, ht1, hc1, hg1, _, z10, z11, z12, z13, z14, z15⟩; have HT1 := Lib.hid ht1; have HC1 := Lib.hid hc1; have HG1 := Lib.hid hg1; clear tok1 ht1 hc1 hg1)
      | (have _t := tok2; go_at_call 12; refine (draw6 2 3 E3.out l2 HC1.out HG1.out B4.out.1 B4.out.2.1 n1 n2).mono ?_; rintro e w6 ⟨t2, A2', c2, rfl, ht2, hc2, hg2, hh2, z20, z21, z22, z23, z24, z25⟩; have HT2 := Lib.hid ht2; have HC2 := Lib.hid hc2; have HG2 := Lib.hid hg2; have HH2 := Lib.hid hh2; clear tok2 ht2 hc2 hg2 hh2)
      | (have _t := tok3; go_at_call 12; refine (draw6 3 4 E4.out l3 HC2.out HG2.out B4.out.1 B4.out.2.1 n1 n2).mono ?_; rintro e w7 ⟨t3, A3, c3, rfl, ht3, hc3, hg3, hh3, z30, z31, z32, z33, z34, z35⟩; have HT3 := Lib.hid ht3; have HG3 := Lib.hid hg3; have HH3 := Lib.hid hh3; clear tok3 ht3 hc3 hg3 hh3))
  clear x0 x1 x2 y0 y1 y2 z10 z11 z12 z13 z14 z15 z20 z21 z22 z23 z24 z25 z30 z31 z32 z33 z34 z35
  have hb7 := below_only B4.out.2.2 HG3.out B4.out.2.2.size hgcw
  have ra := HA.out.bel hb7
  have rb := HB.out.bel hb7
  have g5 : gc < w5.heap.size := Nat.lt_of_lt_of_le hgl HG1.out.size
  have r1 := (ptrs (ptrs HT1.out HH2.out hgl) HH3.out hgl).tr
  have r2 := (ptrs HT2.out HH3.out g5).tr
  have r3 := HT3.out.tr
  have hblk := heap_alloc_new w7 (Obj.cells #[.int .i64 a.op, .int .i64 a.val, .slice A a.args.length ca, .int .i64 b.op, .int .i64 b.val, .slice B b.args.length cb, .int .i64 t1.op, .int .i64 t1.val, .slice A1 t1.args.length c1, .int .i64 t2.op, .int .i64 t2.val, .slice A2' t2.args.length c2, .int .i64 t3.op, .int .i64 t3.val, .slice A3 t3.args.length c3] 24)
  obtain ⟨T, AA, CC, hv⟩ := Five.mk (ra.alloc (Obj.cells #[.int .i64 a.op, .int .i64 a.val, .slice A a.args.length ca, .int .i64 b.op, .int .i64 b.val, .slice B b.args.length cb, .int .i64 t1.op, .int .i64 t1.val, .slice A1 t1.args.length c1, .int .i64 t2.op, .int .i64 t2.val, .slice A2' t2.args.length c2, .int .i64 t3.op, .int .i64 t3.val, .slice A3 t3.args.length c3] 24)) (rb.alloc _) (r1.alloc _) (r2.alloc _) (r3.alloc _) hblk
  have hb8 := hb7.alloc hb7.size (Obj.cells #[.int .i64 a.op, .int .i64 a.val, .slice A a.args.length ca, .int .i64 b.op, .int .i64 b.val, .slice B b.args.length cb, .int .i64 t1.op, .int .i64 t1.val, .slice A1 t1.args.length c1, .int .i64 t2.op, .int .i64 t2.val, .slice A2' t2.args.length c2, .int .i64 t3.op, .int .i64 t3.val, .slice A3 t3.args.length c3] 24)
  have V := Lib.hid hv
  have B5 := Lib.hid hb8
  clear hv hb8 hblk ra rb r1 r2 r3 hb7 HT1 HT2 HT3 HC1 HC2 HG1 HG2 HG3 HH2 HH3 HA HB B4 HC HCD g5
  generalize w7.alloc (Obj.cells #[.int .i64 a.op, .int .i64 a.val, .slice A a.args.length ca, .int .i64 b.op, .int .i64 b.val, .slice B b.args.length cb, .int .i64 t1.op, .int .i64 t1.val, .slice A1 t1.args.length c1, .int .i64 t2.op, .int .i64 t2.val, .slice A2' t2.args.length c2, .int .i64 t3.op, .int .i64 t3.val, .slice A3 t3.args.length c3] 24) = W at *
  generalize w7.heap.size = g at *
  go_wp2_with fail
  go_loopw [9] (fun i wr => ∃ k : Nat, k ≤ 5 ∧ i = .int .i64 k ∧ Below W.heap.size W wr) (fun i _ => 5 - (intOf i).toNat)
  case atStart => exact ⟨0, by omega, rfl, Below.refl _ _⟩
  case round =>
    obtain ⟨i, hi, rfl, hb⟩ := hrel
    obtain ⟨wo, hwo⟩ : ∃ wo : World, wo = wr := ⟨_, rfl⟩
    have Hb := Lib.hid hb
    clear hb
    by_cases hi5 : i < 5
    · rw [← hwo] at Hb ⊢
      clear hwo
      have x1 : decide ((i : Int) < 5) = true := by simp; omega
      go_wp2_with fail
      go_loopw [10] (fun j wr => ∃ k : Nat, k ≤ 5 ∧ j = .int .i64 k ∧ Below W.heap.size W wr) (fun j _ => 5 - (intOf j).toNat)
      case atStart => exact ⟨0, by omega, rfl, Hb.out⟩
      case round =>
        obtain ⟨j, hj, rfl, hb⟩ := hrel
        have Hb2 := Lib.hid hb
        by_cases hj5 : j < 5
        · have z1 : decide ((j : Int) < 5) = true := by simp; omega
          have N := Lib.hid (V.out.bel hb)
          clear hb
          have p1 : (0 : Int) ≤ (i : Int) := by omega
          have p2 : (i : Int) < 5 := by omega
          have p3 : (0 : Int) ≤ (j : Int) := by omega
          have p4 : (j : Int) < 5 := by omega
          have l1 := @lessT_asymm (T i) (T j)
          have l2 := @lessT_total (T i) (T j)
          have l3 := @equT_lessT (T i) (T j)
          have l4 := @equT_lessT (T j) (T i)
          have l5 := equT_symm (T i) (T j)
          have hcase : (lessT (T i) (T j) = true ∧ lessT (T j) (T i) = false ∧ equT (T i) (T j) = false) ∨ (lessT (T i) (T j) = false ∧ lessT (T j) (T i) = true ∧ equT (T i) (T j) = false) ∨ (lessT (T i) (T j) = false ∧ lessT (T j) (T i) = false ∧ equT (T i) (T j) = true) := by
            rw [← l5] at l4
            revert l1 l2 l3 l4
            cases lessT (T i) (T j) <;> cases lessT (T j) (T i) <;> cases equT (T i) (T j) <;> simp
          clear l1 l2 l3 l4 l5
          obtain ⟨hri, yi0, yi1, yi2⟩ := N.out i hi5
          have gi0 := cell_regrown yi0
          have gi1 := cell_regrown yi1
          have gi2 := cell_regrown yi2
          have Ri := Lib.hid hri
          clear hri yi0 yi1 yi2
          obtain ⟨hrj, yj0, yj1, yj2⟩ := N.out j hj5
          have gj0 := cell_regrown yj0
          have gj1 := cell_regrown yj1
          have gj2 := cell_regrown yj2
          have Rj := Lib.hid hrj
          clear hrj yj0 yj1 yj2
          rcases hcase with ⟨e1, e2, e3⟩ | ⟨e1, e2, e3⟩ | ⟨e1, e2, e3⟩
          all_goals
            have E1 := Lib.hid e1
            have E2 := Lib.hid e2
            have E3 := Lib.hid e3
            clear e1 e2 e3
            go_wp2_with fail
            refine wp_region_quiet_below (by assumption) (by kernel_rfl) ?_
            repeat (go_big_quiet_step (first | with_reducible exact less_q Ri.out Rj.out E1.out _ _ | with_reducible exact rless_q Ri.out Rj.out E1.out _ _ | with_reducible exact less_q Rj.out Ri.out E2.out _ _ | with_reducible exact equ_q Ri.out Rj.out E3.out _ _ | with_reducible exact requ_q Ri.out Rj.out E3.out _ _))
            refine wpQuiet_nil ?_
            intro _ hw'
            obtain ⟨⟨dq, osq⟩, hw''⟩ := hw'
            subst hw''
            have hbq := below_regrown wr dq osq
            generalize grow (redrawn wr dq) osq = w8 at *
            have N6 := Lib.hid (N.out.bel hbq)
            have Hb6 := Lib.hid (below_then Hb2.out hbq Hb2.out.size)
            clear hbq gi0 gi1 gi2 gj0 gj1 gj2 Ri Rj
            obtain ⟨hri, yi0, yi1, yi2⟩ := N6.out i hi5
            have gi0 := cell_regrown yi0
            have gi1 := cell_regrown yi1
            have gi2 := cell_regrown yi2
            have Ri := Lib.hid hri
            clear hri yi0 yi1 yi2
            obtain ⟨hrj, yj0, yj1, yj2⟩ := N6.out j hj5
            have gj0 := cell_regrown yj0
            have gj1 := cell_regrown yj1
            have gj2 := cell_regrown yj2
            have Rj := Lib.hid hrj
            clear hrj yj0 yj1 yj2
            go_wp2_with fail
            refine wp_region_quiet_below (by assumption) (by kernel_rfl) ?_
            repeat (go_big_quiet_step (first | with_reducible exact less_q Ri.out Rj.out E1.out _ _ | with_reducible exact rless_q Ri.out Rj.out E1.out _ _ | with_reducible exact less_q Rj.out Ri.out E2.out _ _ | with_reducible exact equ_q Ri.out Rj.out E3.out _ _ | with_reducible exact requ_q Ri.out Rj.out E3.out _ _))
            refine wpQuiet_nil ?_
            intro _ hw'
            obtain ⟨⟨dq, osq⟩, hw''⟩ := hw'
            subst hw''
            have hbq := below_regrown w8 dq osq
            generalize grow (redrawn w8 dq) osq = w9 at *
            have N7 := Lib.hid (N6.out.bel hbq)
            have Hb7 := Lib.hid (below_then Hb6.out hbq Hb6.out.size)
            clear hbq gi0 gi1 gi2 gj0 gj1 gj2 Ri Rj
            go_wp2_with fail
            go_loopw [13] (fun k wr => ∃ n : Nat, n ≤ 5 ∧ k = .int .i64 n ∧ Below W.heap.size W wr) (fun k _ => 5 - (intOf k).toNat)
            case atStart => exact ⟨0, by omega, rfl, Hb7.out⟩
          · case round =>
              obtain ⟨k, hk, rfl, hb⟩ := hrel
              by_cases hk5 : k < 5
              · have t1 : decide ((k : Int) < 5) = true := by simp; omega
                have p5 : (0 : Int) ≤ (k : Int) := by omega
                have p6 : (k : Int) < 5 := by omega
                have N8 := Lib.hid (V.out.bel hb)
                have Hb8 := Lib.hid hb
                clear hb
                obtain ⟨hri, yi0, yi1, yi2⟩ := N8.out i hi5
                have gi0 := cell_regrown yi0
                have gi1 := cell_regrown yi1
                have gi2 := cell_regrown yi2
                have Ri := Lib.hid hri
                clear hri yi0 yi1 yi2
                obtain ⟨hrj, yj0, yj1, yj2⟩ := N8.out j hj5
                have gj0 := cell_regrown yj0
                have gj1 := cell_regrown yj1
                have gj2 := cell_regrown yj2
                have Rj := Lib.hid hrj
                clear hrj yj0 yj1 yj2
                obtain ⟨hrk, yk0, yk1, yk2⟩ := N8.out k hk5
                have gk0 := cell_regrown yk0
                have gk1 := cell_regrown yk1
                have gk2 := cell_regrown yk2
                have Rk := Lib.hid hrk
                clear hrk yk0 yk1 yk2
                by_cases hjk : lessT (T j) (T k) = true
                · have EK := Lib.hid hjk
                  have EL := Lib.hid (lessT_trans E1.out hjk)
                  clear hjk
                  go_wp2_with fail
                  refine wp_region_quiet_below (by assumption) (by kernel_rfl) ?_
                  repeat (go_big_quiet_step (first | with_reducible exact less_q Rj.out Rk.out EK.out _ _ | with_reducible exact less_q Ri.out Rk.out EL.out _ _))
                  refine wpQuiet_nil ?_
                  intro _ hw'
                  obtain ⟨⟨dq, osq⟩, hw''⟩ := hw'
                  subst hw''
                  go_wp2_with fail
                  go_roundw
                  case rel => exact ⟨k + 1, by omega, by go_num, below_then Hb8.out (below_regrown _ dq osq) Hb8.out.size⟩
                  case measure => simp [intOf]; omega
                · have hjk' : lessT (T j) (T k) = false := by simpa using hjk
                  have EK := Lib.hid hjk'
                  clear hjk hjk'
                  go_wp2_with fail
                  refine wp_region_quiet_below (by assumption) (by kernel_rfl) ?_
                  repeat (go_big_quiet_step (with_reducible exact less_q Rj.out Rk.out EK.out _ _))
                  refine wpQuiet_nil ?_
                  intro _ hw'
                  obtain ⟨⟨dq, osq⟩, hw''⟩ := hw'
                  subst hw''
                  go_wp2_with fail
                  go_roundw
                  case rel => exact ⟨k + 1, by omega, by go_num, below_then Hb8.out (below_regrown _ dq osq) Hb8.out.size⟩
                  case measure => simp [intOf]; omega
              · have t1 : decide ((k : Int) < 5) = false := by simp; omega
                have Hb8 := Lib.hid hb
                clear hb
                go_wp2_with fail
                refine ⟨⟨j + 1, by omega, by go_num, Hb8.out⟩, ?_⟩
                simp [intOf]
                omega
          · case round =>
              obtain ⟨k, hk, rfl, hb⟩ := hrel
              by_cases hk5 : k < 5
              · have t1 : decide ((k : Int) < 5) = true := by simp; omega
                have p5 : (0 : Int) ≤ (k : Int) := by omega
                have p6 : (k : Int) < 5 := by omega
                have N8 := Lib.hid (V.out.bel hb)
                have Hb8 := Lib.hid hb
                clear hb
                obtain ⟨hri, yi0, yi1, yi2⟩ := N8.out i hi5
                have gi0 := cell_regrown yi0
                have gi1 := cell_regrown yi1
                have gi2 := cell_regrown yi2
                have Ri := Lib.hid hri
                clear hri yi0 yi1 yi2
                obtain ⟨hrj, yj0, yj1, yj2⟩ := N8.out j hj5
                have gj0 := cell_regrown yj0
                have gj1 := cell_regrown yj1
                have gj2 := cell_regrown yj2
                have Rj := Lib.hid hrj
                clear hrj yj0 yj1 yj2
                obtain ⟨hrk, yk0, yk1, yk2⟩ := N8.out k hk5
                have gk0 := cell_regrown yk0
                have gk1 := cell_regrown yk1
                have gk2 := cell_regrown yk2
                have Rk := Lib.hid hrk
                clear hrk yk0 yk1 yk2
                go_wp2_with fail
                refine wp_region_quiet_below (by assumption) (by kernel_rfl) ?_
                repeat (go_big_quiet_step (fail))
                refine wpQuiet_nil ?_
                intro _ hw'
                obtain ⟨⟨dq, osq⟩, hw''⟩ := hw'
                subst hw''
                go_wp2_with fail
                go_roundw
                case rel => exact ⟨k + 1, by omega, by go_num, below_then Hb8.out (below_regrown _ dq osq) Hb8.out.size⟩
                case measure => simp [intOf]; omega
              · have t1 : decide ((k : Int) < 5) = false := by simp; omega
                have Hb8 := Lib.hid hb
                clear hb
                go_wp2_with fail
                refine ⟨⟨j + 1, by omega, by go_num, Hb8.out⟩, ?_⟩
                simp [intOf]
                omega
          · case round =>
              obtain ⟨k, hk, rfl, hb⟩ := hrel
              by_cases hk5 : k < 5
              · have t1 : decide ((k : Int) < 5) = true := by simp; omega
                have p5 : (0 : Int) ≤ (k : Int) := by omega
                have p6 : (k : Int) < 5 := by omega
                have N8 := Lib.hid (V.out.bel hb)
                have Hb8 := Lib.hid hb
                clear hb
                obtain ⟨hri, yi0, yi1, yi2⟩ := N8.out i hi5
                have gi0 := cell_regrown yi0
                have gi1 := cell_regrown yi1
                have gi2 := cell_regrown yi2
                have Ri := Lib.hid hri
                clear hri yi0 yi1 yi2
                obtain ⟨hrj, yj0, yj1, yj2⟩ := N8.out j hj5
                have gj0 := cell_regrown yj0
                have gj1 := cell_regrown yj1
                have gj2 := cell_regrown yj2
                have Rj := Lib.hid hrj
                clear hrj yj0 yj1 yj2
                obtain ⟨hrk, yk0, yk1, yk2⟩ := N8.out k hk5
                have gk0 := cell_regrown yk0
                have gk1 := cell_regrown yk1
                have gk2 := cell_regrown yk2
                have Rk := Lib.hid hrk
                clear hrk yk0 yk1 yk2
                go_wp2_with fail
                refine wp_region_quiet_below (by assumption) (by kernel_rfl) ?_
                repeat (go_big_quiet_step (fail))
                refine wpQuiet_nil ?_
                intro _ hw'
                obtain ⟨⟨dq, osq⟩, hw''⟩ := hw'
                subst hw''
                go_wp2_with fail
                go_roundw
                case rel => exact ⟨k + 1, by omega, by go_num, below_then Hb8.out (below_regrown _ dq osq) Hb8.out.size⟩
                case measure => simp [intOf]; omega
              · have t1 : decide ((k : Int) < 5) = false := by simp; omega
                have Hb8 := Lib.hid hb
                clear hb
                go_wp2_with fail
                refine ⟨⟨j + 1, by omega, by go_num, Hb8.out⟩, ?_⟩
                simp [intOf]
                omega
        · have z1 : decide ((j : Int) < 5) = false := by simp; omega
          clear hb
          go_wp2_with fail
          refine ⟨⟨i + 1, by omega, by go_num, Hb2.out⟩, ?_⟩
          simp [intOf]
          omega
    · have x1 : decide ((i : Int) < 5) = false := by simp; omega
      clear hwo
      go_wp2_with fail
      go_ret
      exact ⟨rfl, B5.out.trans (Hb.out.mono B5.out.size)⟩
theorem termOrders_walk (w : World) (a : Tm) (A : Option Addr) (ca : Nat) (ha : Tr w a A ca) (b : Tm) (B : Option Addr) (cb : Nat) (hb : Tr w b B cb)
    (A2 : Option Addr) (len cap : Nat) (h : Byts w A2 len) (hl : len ≤ cap ∧ cap ≤ maxLen) :
    Calls Try.prog 3 #[.agg #[.int .i64 a.op, .int .i64 a.val, .slice A a.args.length ca], .agg #[.int .i64 b.op, .int .i64 b.val, .slice B b.args.length cb], .slice A2 len cap] w fun e w' => e = .returned (.bool true) ∧ Below w.heap.size w w' :=
  termOrders_core w a b A B ca cb ha hb A2 len cap h hl
end Go.Proofs.Ytokiodjdonbipaa.termOrders
