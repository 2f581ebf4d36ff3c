/-
  The walk of the law ChachaBlocks: both sides make the same block and encrypt alike, or refuse alike.
  Conditions: the table of the quarters lies as its initialiser lays it.
-/
import Derived.Test.YtoojiofgmamjeaaDoorPairs
namespace Go.Proofs.YtoojiofgmamjeaaDoor
open Go.RowKit
set_option linter.unusedVariables false
/-- What Block and Xor give, the length written out. -/
def RPost2 (w : World) (gd : Bool) (m : Nat) (b : Nat → BitVec 8) (e : Ending) (w' : World) : Prop :=
  ∃ A c, e = .returned (.tuple #[.slice A m c, .bool gd]) ∧ m ≤ c ∧ c ≤ maxLen ∧ Byf w' A m b ∧ Below w.heap.size w w'
theorem rp2 {P : Program} {fn : FuncId} {args : Array Value} {w : World} {gd : Bool} {n m : Nat} {b : Nat → BitVec 8} (hm : m = if gd then n else 0) (h : Calls P fn args w (RPost w gd n b)) : Calls P fn args w (RPost2 w gd m b) :=
  h.mono fun e w' ⟨A, k, c, he, h1, h2, h3, h4, h5⟩ => by
    have e1 : k = m := by rw [hm, h3]
    subst e1
    exact ⟨A, c, he, h1, h2, h4, h5⟩
set_option maxRecDepth 100000 in
set_option maxHeartbeats 4000000 in
theorem blocks_lo (w : World) (ht : Tab w) (A0 : Option Addr) (n0 cap0 : Nat) (f0 : Nat → BitVec 8) (h0 : Byf w A0 n0 f0) (l0 : n0 ≤ cap0) (m0 : cap0 ≤ maxLen) (A1 : Option Addr) (n1 cap1 : Nat) (f1 : Nat → BitVec 8) (h1 : Byf w A1 n1 f1) (l1 : n1 ≤ cap1) (m1 : cap1 ≤ maxLen) (c : BitVec 32)
    (A3 : Option Addr) (n3 cap3 : Nat) (f3 : Nat → BitVec 8) (h3 : Byf w A3 n3 f3) (l3 : n3 ≤ cap3) (m3 : cap3 ≤ maxLen) (A4 : Option Addr) (n4 cap4 : Nat) (h4 : Byts w A4 n4) (l4 : n4 ≤ cap4) (m4 : cap4 ≤ maxLen) (hlen : n3 ≤ 600) :
    Calls Tryd.prog 3 #[.slice A0 n0 cap0, .slice A1 n1 cap1, .int .u32 (c.toNat : Nat), .slice A3 n3 cap3, .slice A4 n4 cap4] w fun e w' => e = .returned (.bool true) ∧ Below w.heap.size w w' := by
  have HF0 := Lib.hid h0
  have HF1 := Lib.hid h1
  have HF3 : Hid (Byf w A3 (n3) f3) := fun k hk => h3 k (by omega)
  have HT := Lib.hid ht
  have HK := Lib.hid (key_any A4 n4 cap4 w h4 l4 m4)
  have hcap3 : cap3 ≤ 9223372036854775807 := by unfold maxLen at m3; omega
  have q600 : decide ((600 : Int) < (n3 : Int)) = false := by simp; omega
  clear h0 h1 h3 h4 ht
  go_enter Tryd.func3, Tryd.ntmps3
  go_wp2_with fail
  refine (awake_any _).mono ?_
  rintro e w' ⟨rfl, rfl⟩
  go_wp2_with fail
  refine HK.out.mono ?_
  rintro e w1 ⟨g, o, c1, g2, o2, c2, f, n, rfl, a1, a2, a3, a4, hf, hn, hb1⟩
  have HB1 := Lib.hid hb1
  have HF := Lib.hid hf
  have HN := Lib.hid hn
  clear hf hn hb1 HK
  have hz := heap_alloc_new w1 (Obj.cells #[.slice A0 n0 cap0, .slice A1 n1 cap1, .slice (some ⟨g, o, none⟩) 32 c1, .slice (some ⟨g2, o2, none⟩) 12 c2, .slice (some ⟨g, o, none⟩) 32 c1, .slice A1 n1 cap1, .slice A0 n0 cap0, .slice (some ⟨g2, o2, none⟩) 12 c2] 27)
  have hbel : Below w.heap.size w (w1.alloc (Obj.cells #[.slice A0 n0 cap0, .slice A1 n1 cap1, .slice (some ⟨g, o, none⟩) 32 c1, .slice (some ⟨g2, o2, none⟩) 12 c2, .slice (some ⟨g, o, none⟩) 32 c1, .slice A1 n1 cap1, .slice A0 n0 cap0, .slice (some ⟨g2, o2, none⟩) 12 c2] 27)) := HB1.out.alloc HB1.out.size _
  have hpairs : ∀ j, j < 4 → ∃ X Y : Sl, X.ok (w1.alloc (Obj.cells #[.slice A0 n0 cap0, .slice A1 n1 cap1, .slice (some ⟨g, o, none⟩) 32 c1, .slice (some ⟨g2, o2, none⟩) 12 c2, .slice (some ⟨g, o, none⟩) 32 c1, .slice A1 n1 cap1, .slice A0 n0 cap0, .slice (some ⟨g2, o2, none⟩) 12 c2] 27)) ∧ Y.ok (w1.alloc (Obj.cells #[.slice A0 n0 cap0, .slice A1 n1 cap1, .slice (some ⟨g, o, none⟩) 32 c1, .slice (some ⟨g2, o2, none⟩) 12 c2, .slice (some ⟨g, o, none⟩) 32 c1, .slice A1 n1 cap1, .slice A0 n0 cap0, .slice (some ⟨g2, o2, none⟩) 12 c2] 27)) ∧ (#[.slice A0 n0 cap0, .slice A1 n1 cap1, .slice (some ⟨g, o, none⟩) 32 c1, .slice (some ⟨g2, o2, none⟩) 12 c2, .slice (some ⟨g, o, none⟩) 32 c1, .slice A1 n1 cap1, .slice A0 n0 cap0, .slice (some ⟨g2, o2, none⟩) 12 c2] : Array Value)[j * 2]? = some X.v ∧ (#[.slice A0 n0 cap0, .slice A1 n1 cap1, .slice (some ⟨g, o, none⟩) 32 c1, .slice (some ⟨g2, o2, none⟩) 12 c2, .slice (some ⟨g, o, none⟩) 32 c1, .slice A1 n1 cap1, .slice A0 n0 cap0, .slice (some ⟨g2, o2, none⟩) 12 c2] : Array Value)[j * 2 + 1]? = some Y.v := by
    have k0 : ∀ ob, Sl.ok ⟨A0, n0, cap0, f0⟩ (w1.alloc ob) := fun ob => ⟨l0, m0, (HF0.out.bel HB1.out).alloc ob⟩
    have k1 : ∀ ob, Sl.ok ⟨A1, n1, cap1, f1⟩ (w1.alloc ob) := fun ob => ⟨l1, m1, (HF1.out.bel HB1.out).alloc ob⟩
    have k2 : ∀ ob, Sl.ok ⟨some ⟨g, o, none⟩, 32, c1, f⟩ (w1.alloc ob) := fun ob => ⟨a1, a2, HF.out.alloc ob⟩
    have k3 : ∀ ob, Sl.ok ⟨some ⟨g2, o2, none⟩, 12, c2, n⟩ (w1.alloc ob) := fun ob => ⟨a3, a4, HN.out.alloc ob⟩
    intro j hj
    match j, hj with
    | 0, _ => exact ⟨⟨A0, n0, cap0, f0⟩, ⟨A1, n1, cap1, f1⟩, k0 _, k1 _, rfl, rfl⟩
    | 1, _ => exact ⟨⟨some ⟨g, o, none⟩, 32, c1, f⟩, ⟨some ⟨g2, o2, none⟩, 12, c2, n⟩, k2 _, k3 _, rfl, rfl⟩
    | 2, _ => exact ⟨⟨some ⟨g, o, none⟩, 32, c1, f⟩, ⟨A1, n1, cap1, f1⟩, k2 _, k1 _, rfl, rfl⟩
    | 3, _ => exact ⟨⟨A0, n0, cap0, f0⟩, ⟨some ⟨g2, o2, none⟩, 12, c2, n⟩, k0 _, k3 _, rfl, rfl⟩
    | j + 4, h => exact absurd h (by omega)
  have HZ := Lib.hid hz
  have HBL := Lib.hid hbel
  have HP := Lib.hid hpairs
  have HBB : Hid (Sl.ok ⟨A3, n3, cap3, f3⟩ (w1.alloc (Obj.cells #[.slice A0 n0 cap0, .slice A1 n1 cap1, .slice (some ⟨g, o, none⟩) 32 c1, .slice (some ⟨g2, o2, none⟩) 12 c2, .slice (some ⟨g, o, none⟩) 32 c1, .slice A1 n1 cap1, .slice A0 n0 cap0, .slice (some ⟨g2, o2, none⟩) 12 c2] 27))) := ⟨(by omega : n3 ≤ cap3), m3, (HF3.out.bel HB1.out).alloc _⟩
  have HTT := Lib.hid ((HT.out.bel HB1.out).bel (show Below w1.heap.size w1 (w1.alloc (Obj.cells #[.slice A0 n0 cap0, .slice A1 n1 cap1, .slice (some ⟨g, o, none⟩) 32 c1, .slice (some ⟨g2, o2, none⟩) 12 c2, .slice (some ⟨g, o, none⟩) 32 c1, .slice A1 n1 cap1, .slice A0 n0 cap0, .slice (some ⟨g2, o2, none⟩) 12 c2] 27)) from (Below.refl _ _).alloc (Nat.le_refl _) _))
  clear hz hbel hpairs
  go_wp2_with fail
  generalize hCC : #[Value.slice A0 n0 cap0, .slice A1 n1 cap1, .slice (some ⟨g, o, none⟩) 32 c1, .slice (some ⟨g2, o2, none⟩) 12 c2, .slice (some ⟨g, o, none⟩) 32 c1, .slice A1 n1 cap1, .slice A0 n0 cap0, .slice (some ⟨g2, o2, none⟩) 12 c2] = CC at *
  clear hCC
  generalize w1.alloc (Obj.cells CC 27) = W0 at *
  go_loopw [49] (fun i wr => ∃ j : Nat, j ≤ 4 ∧ i = .int .i64 j ∧ Below W0.heap.size W0 wr) (fun i _ => 4 - (intOf i).toNat)
  case atStart => exact ⟨0, by omega, rfl, Below.refl _ _⟩
  case round =>
    obtain ⟨j, hj, rfl, hbw⟩ := hrel
    have HW := Lib.hid hbw
    clear hbw
    by_cases hlt : j < 4
    · obtain ⟨X, Y, hX, hY, e1, e2⟩ := HP.out j hlt
      have hblk : Blk wr w1.heap.size 27 CC := Blk.below HZ.out HW.out (Blk.lt HZ.out)
      have y1 : wr.cell? ⟨w1.heap.size, j * 2, none⟩ = some X.v := (hblk.cell _).trans e1
      have y2 : wr.cell? ⟨w1.heap.size, j * 2 + 1, none⟩ = some Y.v := (hblk.cell _).trans e2
      have q1 : decide ((j : Int) < 4) = true := by simp; omega
      have q0 : (0 : Int) ≤ (j : Int) := by omega
      have q2 : (j : Int) < 4 := by omega
      have HX := Lib.hid (hX.bel HW.out)
      have HY := Lib.hid (hY.bel HW.out)
      have HB3 := Lib.hid (HBB.out.bel HW.out)
      have HT3 := Lib.hid (HTT.out.bel HW.out)
      clear hX hY e1 e2 hblk
      obtain ⟨XA, xn, xc, xf⟩ := X
      obtain ⟨YA, yn, yc, yf⟩ := Y
      simp only [Sl.v] at y1 y2
      have HL1 := Lib.hid (show Below W0.heap.size W0 (wr.alloc (Obj.cells #[.slice XA xn xc, .slice YA yn yc] 27)) from HW.out.alloc HW.out.size _)
      have HX1 := Lib.hid (HX.out.bel (show Below wr.heap.size wr (wr.alloc (Obj.cells #[.slice XA xn xc, .slice YA yn yc] 27)) from (Below.refl _ _).alloc (Nat.le_refl _) _))
      have HY1 := Lib.hid (HY.out.bel (show Below wr.heap.size wr (wr.alloc (Obj.cells #[.slice XA xn xc, .slice YA yn yc] 27)) from (Below.refl _ _).alloc (Nat.le_refl _) _))
      have HB1' := Lib.hid (HB3.out.bel (show Below wr.heap.size wr (wr.alloc (Obj.cells #[.slice XA xn xc, .slice YA yn yc] 27)) from (Below.refl _ _).alloc (Nat.le_refl _) _))
      have HT1 := Lib.hid (HT3.out.bel (show Below wr.heap.size wr (wr.alloc (Obj.cells #[.slice XA xn xc, .slice YA yn yc] 27)) from (Below.refl _ _).alloc (Nat.le_refl _) _))
      have HO1 : Hid (Blk (wr.alloc (Obj.cells #[.slice XA xn xc, .slice YA yn yc] 27)) wr.heap.size 27 #[.slice XA xn xc, .slice YA yn yc]) := heap_alloc_new wr _
      cases hg : good ⟨XA, xn, xc, xf⟩ ⟨YA, yn, yc, yf⟩
      · have hb1 := gblock ⟨XA, xn, xc, xf⟩ ⟨YA, yn, yc, yf⟩ c (wr.alloc (Obj.cells #[.slice XA xn xc, .slice YA yn yc] 27)) HX1.out HY1.out HT1.out
        rw [hg] at hb1
        have HC1 := Lib.hid (rp2 (m := 0) rfl hb1)
        clear hb1
        go_wp2_with fail
        refine HC1.out.mono ?_
        rintro e w2 ⟨Ap, cp, rfl, lp, mp, hp, hbp⟩
        have HPp := Lib.hid hp
        have HX2 := Lib.hid (HX1.out.bel hbp)
        have HY2 := Lib.hid (HY1.out.bel hbp)
        have HT2 := Lib.hid (HT1.out.bel hbp)
        have HB2 := Lib.hid (HB1'.out.bel hbp)
        have HO2 := Lib.hid (Blk.below HO1.out hbp (Blk.lt HO1.out))
        have HL2 := Lib.hid (below_then HL1.out hbp HL1.out.size)
        have z0 : w2.cell? ⟨wr.heap.size, 0, none⟩ = some (.slice XA xn xc) := HO2.out.cell 0
        have z1 : w2.cell? ⟨wr.heap.size, 1, none⟩ = some (.slice YA yn yc) := HO2.out.cell 1
        have hb2 := grblock ⟨XA, xn, xc, xf⟩ ⟨YA, yn, yc, yf⟩ c w2 HX2.out HY2.out
        rw [hg] at hb2
        have HC2 := Lib.hid (rp2 (m := 0) rfl hb2)
        clear hb2 hp hbp
        go_wp2_with fail
        refine HC2.out.mono ?_
        rintro e w3 ⟨Aq, cq, rfl, lq, mq, hq, hbq⟩
        have HQq := Lib.hid hq
        have HX3 := Lib.hid (HX2.out.bel hbq)
        have HY3 := Lib.hid (HY2.out.bel hbq)
        have HT3' := Lib.hid (HT2.out.bel hbq)
        have HB3' := Lib.hid (HB2.out.bel hbq)
        have HO3 := Lib.hid (Blk.below HO2.out hbq (Blk.lt HO2.out))
        have HL3 := Lib.hid (below_then HL2.out hbq HL2.out.size)
        have HPq := Lib.hid (HPp.out.bel hbq)
        have x0 : w3.cell? ⟨wr.heap.size, 0, none⟩ = some (.slice XA xn xc) := HO3.out.cell 0
        have x1 : w3.cell? ⟨wr.heap.size, 1, none⟩ = some (.slice YA yn yc) := HO3.out.cell 1
        have hb3 := gxor ⟨XA, xn, xc, xf⟩ ⟨YA, yn, yc, yf⟩ c w3 HX3.out HY3.out ⟨A3, n3, cap3, f3⟩ HB3'.out (by simp only; omega) HT3'.out
        rw [hg] at hb3
        have HC3 := Lib.hid (rp2 (m := 0) rfl hb3)
        clear hb3 hq hbq
        go_wp2_with fail
        refine HC3.out.mono ?_
        rintro e w4 ⟨Au, cu, rfl, lu, mu, hu, hbu⟩
        have HUu := Lib.hid hu
        have HX4 := Lib.hid (HX3.out.bel hbu)
        have HY4 := Lib.hid (HY3.out.bel hbu)
        have HB4 := Lib.hid (HB3'.out.bel hbu)
        have HO4 := Lib.hid (Blk.below HO3.out hbu (Blk.lt HO3.out))
        have HL4 := Lib.hid (below_then HL3.out hbu HL3.out.size)
        have HPu := Lib.hid (HPq.out.bel hbu)
        have HQu := Lib.hid (HQq.out.bel hbu)
        have v0 : w4.cell? ⟨wr.heap.size, 0, none⟩ = some (.slice XA xn xc) := HO4.out.cell 0
        have v1 : w4.cell? ⟨wr.heap.size, 1, none⟩ = some (.slice YA yn yc) := HO4.out.cell 1
        have hb4 := grxor ⟨XA, xn, xc, xf⟩ ⟨YA, yn, yc, yf⟩ c w4 HX4.out HY4.out ⟨A3, n3, cap3, f3⟩ HB4.out (by simp only; omega)
        rw [hg] at hb4
        have HC4 := Lib.hid (rp2 (m := 0) rfl hb4)
        clear hb4 hu hbu
        go_wp2_with fail
        refine HC4.out.mono ?_
        rintro e w5 ⟨Av, cv, rfl, lv, mv, hv, hbv⟩
        have HL5 := Lib.hid (below_then HL4.out hbv HL4.out.size)
        have E1 := Lib.hid (fun W (d : ∃ d, W = w5.drewN d) => equal_yes Ap Aq 0 cp cq (bl (st0 xf c yf)) W (by obtain ⟨d, rfl⟩ := d; exact (HPu.out.bel hbv).drewN d) (by obtain ⟨d, rfl⟩ := d; exact (HQu.out.bel hbv).drewN d) lp lq mp mq)
        have E2 := Lib.hid (fun W (d : ∃ d, W = w5.drewN d) => equal_yes Au Av (0) cu cv (xorB f3 xf yf c) W (by obtain ⟨d, rfl⟩ := d; exact (HUu.out.bel hbv).drewN d) (by obtain ⟨d, rfl⟩ := d; exact hv.drewN d) lu lv mu mv)
        clear hv hbv
        go_wp2_with (first | (go_at_call 12; refine (E1.out _ ⟨0, rfl⟩).mono ?_; rintro e w6 ⟨rfl, d6, rfl⟩) | (go_at_call 12; refine (E2.out _ ⟨_, rfl⟩).mono ?_; rintro e w7 ⟨rfl, d7, rfl⟩))
        go_roundw
        case rel => exact ⟨j + 1, by omega, by go_num, below_drewN HL5.out _⟩
        case measure => simp [intOf]; omega
      · have hb1 := gblock ⟨XA, xn, xc, xf⟩ ⟨YA, yn, yc, yf⟩ c (wr.alloc (Obj.cells #[.slice XA xn xc, .slice YA yn yc] 27)) HX1.out HY1.out HT1.out
        rw [hg] at hb1
        have HC1 := Lib.hid (rp2 (m := 64) rfl hb1)
        clear hb1
        go_wp2_with fail
        refine HC1.out.mono ?_
        rintro e w2 ⟨Ap, cp, rfl, lp, mp, hp, hbp⟩
        have HPp := Lib.hid hp
        have HX2 := Lib.hid (HX1.out.bel hbp)
        have HY2 := Lib.hid (HY1.out.bel hbp)
        have HT2 := Lib.hid (HT1.out.bel hbp)
        have HB2 := Lib.hid (HB1'.out.bel hbp)
        have HO2 := Lib.hid (Blk.below HO1.out hbp (Blk.lt HO1.out))
        have HL2 := Lib.hid (below_then HL1.out hbp HL1.out.size)
        have z0 : w2.cell? ⟨wr.heap.size, 0, none⟩ = some (.slice XA xn xc) := HO2.out.cell 0
        have z1 : w2.cell? ⟨wr.heap.size, 1, none⟩ = some (.slice YA yn yc) := HO2.out.cell 1
        have hb2 := grblock ⟨XA, xn, xc, xf⟩ ⟨YA, yn, yc, yf⟩ c w2 HX2.out HY2.out
        rw [hg] at hb2
        have HC2 := Lib.hid (rp2 (m := 64) rfl hb2)
        clear hb2 hp hbp
        go_wp2_with fail
        refine HC2.out.mono ?_
        rintro e w3 ⟨Aq, cq, rfl, lq, mq, hq, hbq⟩
        have HQq := Lib.hid hq
        have HX3 := Lib.hid (HX2.out.bel hbq)
        have HY3 := Lib.hid (HY2.out.bel hbq)
        have HT3' := Lib.hid (HT2.out.bel hbq)
        have HB3' := Lib.hid (HB2.out.bel hbq)
        have HO3 := Lib.hid (Blk.below HO2.out hbq (Blk.lt HO2.out))
        have HL3 := Lib.hid (below_then HL2.out hbq HL2.out.size)
        have HPq := Lib.hid (HPp.out.bel hbq)
        have x0 : w3.cell? ⟨wr.heap.size, 0, none⟩ = some (.slice XA xn xc) := HO3.out.cell 0
        have x1 : w3.cell? ⟨wr.heap.size, 1, none⟩ = some (.slice YA yn yc) := HO3.out.cell 1
        have hb3 := gxor ⟨XA, xn, xc, xf⟩ ⟨YA, yn, yc, yf⟩ c w3 HX3.out HY3.out ⟨A3, n3, cap3, f3⟩ HB3'.out (by simp only; omega) HT3'.out
        rw [hg] at hb3
        have HC3 := Lib.hid (rp2 (m := n3) rfl hb3)
        clear hb3 hq hbq
        go_wp2_with fail
        refine HC3.out.mono ?_
        rintro e w4 ⟨Au, cu, rfl, lu, mu, hu, hbu⟩
        have HUu := Lib.hid hu
        have HX4 := Lib.hid (HX3.out.bel hbu)
        have HY4 := Lib.hid (HY3.out.bel hbu)
        have HB4 := Lib.hid (HB3'.out.bel hbu)
        have HO4 := Lib.hid (Blk.below HO3.out hbu (Blk.lt HO3.out))
        have HL4 := Lib.hid (below_then HL3.out hbu HL3.out.size)
        have HPu := Lib.hid (HPq.out.bel hbu)
        have HQu := Lib.hid (HQq.out.bel hbu)
        have v0 : w4.cell? ⟨wr.heap.size, 0, none⟩ = some (.slice XA xn xc) := HO4.out.cell 0
        have v1 : w4.cell? ⟨wr.heap.size, 1, none⟩ = some (.slice YA yn yc) := HO4.out.cell 1
        have hb4 := grxor ⟨XA, xn, xc, xf⟩ ⟨YA, yn, yc, yf⟩ c w4 HX4.out HY4.out ⟨A3, n3, cap3, f3⟩ HB4.out (by simp only; omega)
        rw [hg] at hb4
        have HC4 := Lib.hid (rp2 (m := n3) rfl hb4)
        clear hb4 hu hbu
        go_wp2_with fail
        refine HC4.out.mono ?_
        rintro e w5 ⟨Av, cv, rfl, lv, mv, hv, hbv⟩
        have HL5 := Lib.hid (below_then HL4.out hbv HL4.out.size)
        have E1 := Lib.hid (fun W (d : ∃ d, W = w5.drewN d) => equal_yes Ap Aq 64 cp cq (bl (st0 xf c yf)) W (by obtain ⟨d, rfl⟩ := d; exact (HPu.out.bel hbv).drewN d) (by obtain ⟨d, rfl⟩ := d; exact (HQu.out.bel hbv).drewN d) lp lq mp mq)
        have E2 := Lib.hid (fun W (d : ∃ d, W = w5.drewN d) => equal_yes Au Av (n3) cu cv (xorB f3 xf yf c) W (by obtain ⟨d, rfl⟩ := d; exact (HUu.out.bel hbv).drewN d) (by obtain ⟨d, rfl⟩ := d; exact hv.drewN d) lu lv mu mv)
        clear hv hbv
        go_wp2_with (first | (go_at_call 12; refine (E1.out _ ⟨0, rfl⟩).mono ?_; rintro e w6 ⟨rfl, d6, rfl⟩) | (go_at_call 12; refine (E2.out _ ⟨_, rfl⟩).mono ?_; rintro e w7 ⟨rfl, d7, rfl⟩))
        go_roundw
        case rel => exact ⟨j + 1, by omega, by go_num, below_drewN HL5.out _⟩
        case measure => simp [intOf]; omega
    · obtain rfl : j = 4 := by omega
      rw [show ((4 : Nat) : Int) = 4 from rfl]
      go_wp2_with fail
      go_ret
      exact ⟨rfl, below_then HBL.out HW.out HBL.out.size⟩
set_option maxRecDepth 100000 in
set_option maxHeartbeats 4000000 in
theorem blocks_hi (w : World) (ht : Tab w) (A0 : Option Addr) (n0 cap0 : Nat) (f0 : Nat → BitVec 8) (h0 : Byf w A0 n0 f0) (l0 : n0 ≤ cap0) (m0 : cap0 ≤ maxLen) (A1 : Option Addr) (n1 cap1 : Nat) (f1 : Nat → BitVec 8) (h1 : Byf w A1 n1 f1) (l1 : n1 ≤ cap1) (m1 : cap1 ≤ maxLen) (c : BitVec 32)
    (A3 : Option Addr) (n3 cap3 : Nat) (f3 : Nat → BitVec 8) (h3 : Byf w A3 n3 f3) (l3 : n3 ≤ cap3) (m3 : cap3 ≤ maxLen) (A4 : Option Addr) (n4 cap4 : Nat) (h4 : Byts w A4 n4) (l4 : n4 ≤ cap4) (m4 : cap4 ≤ maxLen) (hlen : 600 < n3) :
    Calls Tryd.prog 3 #[.slice A0 n0 cap0, .slice A1 n1 cap1, .int .u32 (c.toNat : Nat), .slice A3 n3 cap3, .slice A4 n4 cap4] w fun e w' => e = .returned (.bool true) ∧ Below w.heap.size w w' := by
  have HF0 := Lib.hid h0
  have HF1 := Lib.hid h1
  have HF3 : Hid (Byf w A3 (600) f3) := fun k hk => h3 k (by omega)
  have HT := Lib.hid ht
  have HK := Lib.hid (key_any A4 n4 cap4 w h4 l4 m4)
  have hcap3 : cap3 ≤ 9223372036854775807 := by unfold maxLen at m3; omega
  have q600 : decide ((600 : Int) < (n3 : Int)) = true := by simp; omega
  clear h0 h1 h3 h4 ht
  go_enter Tryd.func3, Tryd.ntmps3
  go_wp2_with fail
  refine (awake_any _).mono ?_
  rintro e w' ⟨rfl, rfl⟩
  go_wp2_with fail
  refine HK.out.mono ?_
  rintro e w1 ⟨g, o, c1, g2, o2, c2, f, n, rfl, a1, a2, a3, a4, hf, hn, hb1⟩
  have HB1 := Lib.hid hb1
  have HF := Lib.hid hf
  have HN := Lib.hid hn
  clear hf hn hb1 HK
  have hz := heap_alloc_new w1 (Obj.cells #[.slice A0 n0 cap0, .slice A1 n1 cap1, .slice (some ⟨g, o, none⟩) 32 c1, .slice (some ⟨g2, o2, none⟩) 12 c2, .slice (some ⟨g, o, none⟩) 32 c1, .slice A1 n1 cap1, .slice A0 n0 cap0, .slice (some ⟨g2, o2, none⟩) 12 c2] 27)
  have hbel : Below w.heap.size w (w1.alloc (Obj.cells #[.slice A0 n0 cap0, .slice A1 n1 cap1, .slice (some ⟨g, o, none⟩) 32 c1, .slice (some ⟨g2, o2, none⟩) 12 c2, .slice (some ⟨g, o, none⟩) 32 c1, .slice A1 n1 cap1, .slice A0 n0 cap0, .slice (some ⟨g2, o2, none⟩) 12 c2] 27)) := HB1.out.alloc HB1.out.size _
  have hpairs : ∀ j, j < 4 → ∃ X Y : Sl, X.ok (w1.alloc (Obj.cells #[.slice A0 n0 cap0, .slice A1 n1 cap1, .slice (some ⟨g, o, none⟩) 32 c1, .slice (some ⟨g2, o2, none⟩) 12 c2, .slice (some ⟨g, o, none⟩) 32 c1, .slice A1 n1 cap1, .slice A0 n0 cap0, .slice (some ⟨g2, o2, none⟩) 12 c2] 27)) ∧ Y.ok (w1.alloc (Obj.cells #[.slice A0 n0 cap0, .slice A1 n1 cap1, .slice (some ⟨g, o, none⟩) 32 c1, .slice (some ⟨g2, o2, none⟩) 12 c2, .slice (some ⟨g, o, none⟩) 32 c1, .slice A1 n1 cap1, .slice A0 n0 cap0, .slice (some ⟨g2, o2, none⟩) 12 c2] 27)) ∧ (#[.slice A0 n0 cap0, .slice A1 n1 cap1, .slice (some ⟨g, o, none⟩) 32 c1, .slice (some ⟨g2, o2, none⟩) 12 c2, .slice (some ⟨g, o, none⟩) 32 c1, .slice A1 n1 cap1, .slice A0 n0 cap0, .slice (some ⟨g2, o2, none⟩) 12 c2] : Array Value)[j * 2]? = some X.v ∧ (#[.slice A0 n0 cap0, .slice A1 n1 cap1, .slice (some ⟨g, o, none⟩) 32 c1, .slice (some ⟨g2, o2, none⟩) 12 c2, .slice (some ⟨g, o, none⟩) 32 c1, .slice A1 n1 cap1, .slice A0 n0 cap0, .slice (some ⟨g2, o2, none⟩) 12 c2] : Array Value)[j * 2 + 1]? = some Y.v := by
    have k0 : ∀ ob, Sl.ok ⟨A0, n0, cap0, f0⟩ (w1.alloc ob) := fun ob => ⟨l0, m0, (HF0.out.bel HB1.out).alloc ob⟩
    have k1 : ∀ ob, Sl.ok ⟨A1, n1, cap1, f1⟩ (w1.alloc ob) := fun ob => ⟨l1, m1, (HF1.out.bel HB1.out).alloc ob⟩
    have k2 : ∀ ob, Sl.ok ⟨some ⟨g, o, none⟩, 32, c1, f⟩ (w1.alloc ob) := fun ob => ⟨a1, a2, HF.out.alloc ob⟩
    have k3 : ∀ ob, Sl.ok ⟨some ⟨g2, o2, none⟩, 12, c2, n⟩ (w1.alloc ob) := fun ob => ⟨a3, a4, HN.out.alloc ob⟩
    intro j hj
    match j, hj with
    | 0, _ => exact ⟨⟨A0, n0, cap0, f0⟩, ⟨A1, n1, cap1, f1⟩, k0 _, k1 _, rfl, rfl⟩
    | 1, _ => exact ⟨⟨some ⟨g, o, none⟩, 32, c1, f⟩, ⟨some ⟨g2, o2, none⟩, 12, c2, n⟩, k2 _, k3 _, rfl, rfl⟩
    | 2, _ => exact ⟨⟨some ⟨g, o, none⟩, 32, c1, f⟩, ⟨A1, n1, cap1, f1⟩, k2 _, k1 _, rfl, rfl⟩
    | 3, _ => exact ⟨⟨A0, n0, cap0, f0⟩, ⟨some ⟨g2, o2, none⟩, 12, c2, n⟩, k0 _, k3 _, rfl, rfl⟩
    | j + 4, h => exact absurd h (by omega)
  have HZ := Lib.hid hz
  have HBL := Lib.hid hbel
  have HP := Lib.hid hpairs
  have HBB : Hid (Sl.ok ⟨A3, 600, cap3, f3⟩ (w1.alloc (Obj.cells #[.slice A0 n0 cap0, .slice A1 n1 cap1, .slice (some ⟨g, o, none⟩) 32 c1, .slice (some ⟨g2, o2, none⟩) 12 c2, .slice (some ⟨g, o, none⟩) 32 c1, .slice A1 n1 cap1, .slice A0 n0 cap0, .slice (some ⟨g2, o2, none⟩) 12 c2] 27))) := ⟨(by omega : 600 ≤ cap3), m3, (HF3.out.bel HB1.out).alloc _⟩
  have HTT := Lib.hid ((HT.out.bel HB1.out).bel (show Below w1.heap.size w1 (w1.alloc (Obj.cells #[.slice A0 n0 cap0, .slice A1 n1 cap1, .slice (some ⟨g, o, none⟩) 32 c1, .slice (some ⟨g2, o2, none⟩) 12 c2, .slice (some ⟨g, o, none⟩) 32 c1, .slice A1 n1 cap1, .slice A0 n0 cap0, .slice (some ⟨g2, o2, none⟩) 12 c2] 27)) from (Below.refl _ _).alloc (Nat.le_refl _) _))
  clear hz hbel hpairs
  go_wp2_with fail
  generalize hCC : #[Value.slice A0 n0 cap0, .slice A1 n1 cap1, .slice (some ⟨g, o, none⟩) 32 c1, .slice (some ⟨g2, o2, none⟩) 12 c2, .slice (some ⟨g, o, none⟩) 32 c1, .slice A1 n1 cap1, .slice A0 n0 cap0, .slice (some ⟨g2, o2, none⟩) 12 c2] = CC at *
  clear hCC
  generalize w1.alloc (Obj.cells CC 27) = W0 at *
  go_loopw [49] (fun i wr => ∃ j : Nat, j ≤ 4 ∧ i = .int .i64 j ∧ Below W0.heap.size W0 wr) (fun i _ => 4 - (intOf i).toNat)
  case atStart => exact ⟨0, by omega, rfl, Below.refl _ _⟩
  case round =>
    obtain ⟨j, hj, rfl, hbw⟩ := hrel
    have HW := Lib.hid hbw
    clear hbw
    by_cases hlt : j < 4
    · obtain ⟨X, Y, hX, hY, e1, e2⟩ := HP.out j hlt
      have hblk : Blk wr w1.heap.size 27 CC := Blk.below HZ.out HW.out (Blk.lt HZ.out)
      have y1 : wr.cell? ⟨w1.heap.size, j * 2, none⟩ = some X.v := (hblk.cell _).trans e1
      have y2 : wr.cell? ⟨w1.heap.size, j * 2 + 1, none⟩ = some Y.v := (hblk.cell _).trans e2
      have q1 : decide ((j : Int) < 4) = true := by simp; omega
      have q0 : (0 : Int) ≤ (j : Int) := by omega
      have q2 : (j : Int) < 4 := by omega
      have HX := Lib.hid (hX.bel HW.out)
      have HY := Lib.hid (hY.bel HW.out)
      have HB3 := Lib.hid (HBB.out.bel HW.out)
      have HT3 := Lib.hid (HTT.out.bel HW.out)
      clear hX hY e1 e2 hblk
      obtain ⟨XA, xn, xc, xf⟩ := X
      obtain ⟨YA, yn, yc, yf⟩ := Y
      simp only [Sl.v] at y1 y2
      have HL1 := Lib.hid (show Below W0.heap.size W0 (wr.alloc (Obj.cells #[.slice XA xn xc, .slice YA yn yc] 27)) from HW.out.alloc HW.out.size _)
      have HX1 := Lib.hid (HX.out.bel (show Below wr.heap.size wr (wr.alloc (Obj.cells #[.slice XA xn xc, .slice YA yn yc] 27)) from (Below.refl _ _).alloc (Nat.le_refl _) _))
      have HY1 := Lib.hid (HY.out.bel (show Below wr.heap.size wr (wr.alloc (Obj.cells #[.slice XA xn xc, .slice YA yn yc] 27)) from (Below.refl _ _).alloc (Nat.le_refl _) _))
      have HB1' := Lib.hid (HB3.out.bel (show Below wr.heap.size wr (wr.alloc (Obj.cells #[.slice XA xn xc, .slice YA yn yc] 27)) from (Below.refl _ _).alloc (Nat.le_refl _) _))
      have HT1 := Lib.hid (HT3.out.bel (show Below wr.heap.size wr (wr.alloc (Obj.cells #[.slice XA xn xc, .slice YA yn yc] 27)) from (Below.refl _ _).alloc (Nat.le_refl _) _))
      have HO1 : Hid (Blk (wr.alloc (Obj.cells #[.slice XA xn xc, .slice YA yn yc] 27)) wr.heap.size 27 #[.slice XA xn xc, .slice YA yn yc]) := heap_alloc_new wr _
      cases hg : good ⟨XA, xn, xc, xf⟩ ⟨YA, yn, yc, yf⟩
      · have hb1 := gblock ⟨XA, xn, xc, xf⟩ ⟨YA, yn, yc, yf⟩ c (wr.alloc (Obj.cells #[.slice XA xn xc, .slice YA yn yc] 27)) HX1.out HY1.out HT1.out
        rw [hg] at hb1
        have HC1 := Lib.hid (rp2 (m := 0) rfl hb1)
        clear hb1
        go_wp2_with fail
        refine HC1.out.mono ?_
        rintro e w2 ⟨Ap, cp, rfl, lp, mp, hp, hbp⟩
        have HPp := Lib.hid hp
        have HX2 := Lib.hid (HX1.out.bel hbp)
        have HY2 := Lib.hid (HY1.out.bel hbp)
        have HT2 := Lib.hid (HT1.out.bel hbp)
        have HB2 := Lib.hid (HB1'.out.bel hbp)
        have HO2 := Lib.hid (Blk.below HO1.out hbp (Blk.lt HO1.out))
        have HL2 := Lib.hid (below_then HL1.out hbp HL1.out.size)
        have z0 : w2.cell? ⟨wr.heap.size, 0, none⟩ = some (.slice XA xn xc) := HO2.out.cell 0
        have z1 : w2.cell? ⟨wr.heap.size, 1, none⟩ = some (.slice YA yn yc) := HO2.out.cell 1
        have hb2 := grblock ⟨XA, xn, xc, xf⟩ ⟨YA, yn, yc, yf⟩ c w2 HX2.out HY2.out
        rw [hg] at hb2
        have HC2 := Lib.hid (rp2 (m := 0) rfl hb2)
        clear hb2 hp hbp
        go_wp2_with fail
        refine HC2.out.mono ?_
        rintro e w3 ⟨Aq, cq, rfl, lq, mq, hq, hbq⟩
        have HQq := Lib.hid hq
        have HX3 := Lib.hid (HX2.out.bel hbq)
        have HY3 := Lib.hid (HY2.out.bel hbq)
        have HT3' := Lib.hid (HT2.out.bel hbq)
        have HB3' := Lib.hid (HB2.out.bel hbq)
        have HO3 := Lib.hid (Blk.below HO2.out hbq (Blk.lt HO2.out))
        have HL3 := Lib.hid (below_then HL2.out hbq HL2.out.size)
        have HPq := Lib.hid (HPp.out.bel hbq)
        have x0 : w3.cell? ⟨wr.heap.size, 0, none⟩ = some (.slice XA xn xc) := HO3.out.cell 0
        have x1 : w3.cell? ⟨wr.heap.size, 1, none⟩ = some (.slice YA yn yc) := HO3.out.cell 1
        have hb3 := gxor ⟨XA, xn, xc, xf⟩ ⟨YA, yn, yc, yf⟩ c w3 HX3.out HY3.out ⟨A3, 600, cap3, f3⟩ HB3'.out (by simp only; omega) HT3'.out
        rw [hg] at hb3
        have HC3 := Lib.hid (rp2 (m := 0) rfl hb3)
        clear hb3 hq hbq
        go_wp2_with fail
        refine HC3.out.mono ?_
        rintro e w4 ⟨Au, cu, rfl, lu, mu, hu, hbu⟩
        have HUu := Lib.hid hu
        have HX4 := Lib.hid (HX3.out.bel hbu)
        have HY4 := Lib.hid (HY3.out.bel hbu)
        have HB4 := Lib.hid (HB3'.out.bel hbu)
        have HO4 := Lib.hid (Blk.below HO3.out hbu (Blk.lt HO3.out))
        have HL4 := Lib.hid (below_then HL3.out hbu HL3.out.size)
        have HPu := Lib.hid (HPq.out.bel hbu)
        have HQu := Lib.hid (HQq.out.bel hbu)
        have v0 : w4.cell? ⟨wr.heap.size, 0, none⟩ = some (.slice XA xn xc) := HO4.out.cell 0
        have v1 : w4.cell? ⟨wr.heap.size, 1, none⟩ = some (.slice YA yn yc) := HO4.out.cell 1
        have hb4 := grxor ⟨XA, xn, xc, xf⟩ ⟨YA, yn, yc, yf⟩ c w4 HX4.out HY4.out ⟨A3, 600, cap3, f3⟩ HB4.out (by simp only; omega)
        rw [hg] at hb4
        have HC4 := Lib.hid (rp2 (m := 0) rfl hb4)
        clear hb4 hu hbu
        go_wp2_with fail
        refine HC4.out.mono ?_
        rintro e w5 ⟨Av, cv, rfl, lv, mv, hv, hbv⟩
        have HL5 := Lib.hid (below_then HL4.out hbv HL4.out.size)
        have E1 := Lib.hid (fun W (d : ∃ d, W = w5.drewN d) => equal_yes Ap Aq 0 cp cq (bl (st0 xf c yf)) W (by obtain ⟨d, rfl⟩ := d; exact (HPu.out.bel hbv).drewN d) (by obtain ⟨d, rfl⟩ := d; exact (HQu.out.bel hbv).drewN d) lp lq mp mq)
        have E2 := Lib.hid (fun W (d : ∃ d, W = w5.drewN d) => equal_yes Au Av (0) cu cv (xorB f3 xf yf c) W (by obtain ⟨d, rfl⟩ := d; exact (HUu.out.bel hbv).drewN d) (by obtain ⟨d, rfl⟩ := d; exact hv.drewN d) lu lv mu mv)
        clear hv hbv
        go_wp2_with (first | (go_at_call 12; refine (E1.out _ ⟨0, rfl⟩).mono ?_; rintro e w6 ⟨rfl, d6, rfl⟩) | (go_at_call 12; refine (E2.out _ ⟨_, rfl⟩).mono ?_; rintro e w7 ⟨rfl, d7, rfl⟩))
        go_roundw
        case rel => exact ⟨j + 1, by omega, by go_num, below_drewN HL5.out _⟩
        case measure => simp [intOf]; omega
      · have hb1 := gblock ⟨XA, xn, xc, xf⟩ ⟨YA, yn, yc, yf⟩ c (wr.alloc (Obj.cells #[.slice XA xn xc, .slice YA yn yc] 27)) HX1.out HY1.out HT1.out
        rw [hg] at hb1
        have HC1 := Lib.hid (rp2 (m := 64) rfl hb1)
        clear hb1
        go_wp2_with fail
        refine HC1.out.mono ?_
        rintro e w2 ⟨Ap, cp, rfl, lp, mp, hp, hbp⟩
        have HPp := Lib.hid hp
        have HX2 := Lib.hid (HX1.out.bel hbp)
        have HY2 := Lib.hid (HY1.out.bel hbp)
        have HT2 := Lib.hid (HT1.out.bel hbp)
        have HB2 := Lib.hid (HB1'.out.bel hbp)
        have HO2 := Lib.hid (Blk.below HO1.out hbp (Blk.lt HO1.out))
        have HL2 := Lib.hid (below_then HL1.out hbp HL1.out.size)
        have z0 : w2.cell? ⟨wr.heap.size, 0, none⟩ = some (.slice XA xn xc) := HO2.out.cell 0
        have z1 : w2.cell? ⟨wr.heap.size, 1, none⟩ = some (.slice YA yn yc) := HO2.out.cell 1
        have hb2 := grblock ⟨XA, xn, xc, xf⟩ ⟨YA, yn, yc, yf⟩ c w2 HX2.out HY2.out
        rw [hg] at hb2
        have HC2 := Lib.hid (rp2 (m := 64) rfl hb2)
        clear hb2 hp hbp
        go_wp2_with fail
        refine HC2.out.mono ?_
        rintro e w3 ⟨Aq, cq, rfl, lq, mq, hq, hbq⟩
        have HQq := Lib.hid hq
        have HX3 := Lib.hid (HX2.out.bel hbq)
        have HY3 := Lib.hid (HY2.out.bel hbq)
        have HT3' := Lib.hid (HT2.out.bel hbq)
        have HB3' := Lib.hid (HB2.out.bel hbq)
        have HO3 := Lib.hid (Blk.below HO2.out hbq (Blk.lt HO2.out))
        have HL3 := Lib.hid (below_then HL2.out hbq HL2.out.size)
        have HPq := Lib.hid (HPp.out.bel hbq)
        have x0 : w3.cell? ⟨wr.heap.size, 0, none⟩ = some (.slice XA xn xc) := HO3.out.cell 0
        have x1 : w3.cell? ⟨wr.heap.size, 1, none⟩ = some (.slice YA yn yc) := HO3.out.cell 1
        have hb3 := gxor ⟨XA, xn, xc, xf⟩ ⟨YA, yn, yc, yf⟩ c w3 HX3.out HY3.out ⟨A3, 600, cap3, f3⟩ HB3'.out (by simp only; omega) HT3'.out
        rw [hg] at hb3
        have HC3 := Lib.hid (rp2 (m := 600) rfl hb3)
        clear hb3 hq hbq
        go_wp2_with fail
        refine HC3.out.mono ?_
        rintro e w4 ⟨Au, cu, rfl, lu, mu, hu, hbu⟩
        have HUu := Lib.hid hu
        have HX4 := Lib.hid (HX3.out.bel hbu)
        have HY4 := Lib.hid (HY3.out.bel hbu)
        have HB4 := Lib.hid (HB3'.out.bel hbu)
        have HO4 := Lib.hid (Blk.below HO3.out hbu (Blk.lt HO3.out))
        have HL4 := Lib.hid (below_then HL3.out hbu HL3.out.size)
        have HPu := Lib.hid (HPq.out.bel hbu)
        have HQu := Lib.hid (HQq.out.bel hbu)
        have v0 : w4.cell? ⟨wr.heap.size, 0, none⟩ = some (.slice XA xn xc) := HO4.out.cell 0
        have v1 : w4.cell? ⟨wr.heap.size, 1, none⟩ = some (.slice YA yn yc) := HO4.out.cell 1
        have hb4 := grxor ⟨XA, xn, xc, xf⟩ ⟨YA, yn, yc, yf⟩ c w4 HX4.out HY4.out ⟨A3, 600, cap3, f3⟩ HB4.out (by simp only; omega)
        rw [hg] at hb4
        have HC4 := Lib.hid (rp2 (m := 600) rfl hb4)
        clear hb4 hu hbu
        go_wp2_with fail
        refine HC4.out.mono ?_
        rintro e w5 ⟨Av, cv, rfl, lv, mv, hv, hbv⟩
        have HL5 := Lib.hid (below_then HL4.out hbv HL4.out.size)
        have E1 := Lib.hid (fun W (d : ∃ d, W = w5.drewN d) => equal_yes Ap Aq 64 cp cq (bl (st0 xf c yf)) W (by obtain ⟨d, rfl⟩ := d; exact (HPu.out.bel hbv).drewN d) (by obtain ⟨d, rfl⟩ := d; exact (HQu.out.bel hbv).drewN d) lp lq mp mq)
        have E2 := Lib.hid (fun W (d : ∃ d, W = w5.drewN d) => equal_yes Au Av (600) cu cv (xorB f3 xf yf c) W (by obtain ⟨d, rfl⟩ := d; exact (HUu.out.bel hbv).drewN d) (by obtain ⟨d, rfl⟩ := d; exact hv.drewN d) lu lv mu mv)
        clear hv hbv
        go_wp2_with (first | (go_at_call 12; refine (E1.out _ ⟨0, rfl⟩).mono ?_; rintro e w6 ⟨rfl, d6, rfl⟩) | (go_at_call 12; refine (E2.out _ ⟨_, rfl⟩).mono ?_; rintro e w7 ⟨rfl, d7, rfl⟩))
        go_roundw
        case rel => exact ⟨j + 1, by omega, by go_num, below_drewN HL5.out _⟩
        case measure => simp [intOf]; omega
    · obtain rfl : j = 4 := by omega
      rw [show ((4 : Nat) : Int) = 4 from rfl]
      go_wp2_with fail
      go_ret
      exact ⟨rfl, below_then HBL.out HW.out HBL.out.size⟩
end Go.Proofs.YtoojiofgmamjeaaDoor
