/-
  The contract of window.Accept: the error of Check, the greater top, and the bits moved up with the new one set.
  Conditions: a window of 1 to 1024 numbers whose words lie in a block of their own and have no bit beyond the size.
-/
import Derived.Test.YtbepkfdfabgigaaWinC
import Derived.Test.YtbepkfdfabgigaaWinP
import Derived.Deep.RegionHeld3
import Derived.Deep.DeepCutAuto
namespace Go.Proofs.Ytbepkfdfabgigaa
open Go.RowKit
set_option linter.unusedVariables false
def AccPost (w : World) (S T n : Nat) (W : Nat → Nat) (m : Nat) (e : Ending) (w' : World) : Prop :=
  ∃ g c : Nat, ∃ W' : Nat → Nat, e = .returned (.tuple #[.agg #[.int .i64 (S : Nat), .int .u64 (accT S T (bitW W) m : Nat), .slice (some ⟨g, 0, none⟩) n c], .int .i64 (chk S T (bitW W) m : Nat)]) ∧
    w.heap.size ≤ g ∧ Row w' g n (fun i => .int .u64 (W' i : Nat)) ∧ (∀ i, W' i < 18446744073709551616) ∧ (∀ k, k < 64 * n → bitW W' k = accB S T (bitW W) m k) ∧ Below w.heap.size w w'
/-- What stands behind the first statement: the copy in block h, its words in block g'. -/
def AccCut (wA : World) (S T n : Nat) (W : Nat → Nat) (p : Value) (wx : World) : Prop :=
  ∃ h g' c' : Nat, ∃ cs : Array Value, p = .pointer (some ⟨h, 0, none⟩) ∧ wA.heap.size ≤ h ∧ wA.heap.size ≤ g' ∧ Blk wx h 30 #[.int .i64 (S : Nat), .int .u64 (T : Nat), .slice (some ⟨g', 0, none⟩) n c'] ∧
    Blk wx g' 22 cs ∧ n ≤ cs.size ∧ (∀ k, k < n → cs[k]? = some (.int .u64 (W k : Nat))) ∧ Below wA.heap.size wA wx
theorem accCut_a {wA wx w1 : World} {S T n g' c' : Nat} {W : Nat → Nat} (hx : Below wA.heap.size wA wx) (hm : Made wx w1 n W g' c') (hb : Below wx.heap.size wx w1) :
    AccCut wA S T n W (.pointer (some ⟨w1.heap.size, 0, none⟩)) (w1.alloc (Obj.cells #[.int .i64 (S : Nat), .int .u64 (T : Nat), .slice (some ⟨g', 0, none⟩) n c'] 30)) := by
  obtain ⟨h1, h2, h3, cs, h4, h5, h6⟩ := hm
  have hs := hx.size
  have hs1 := hb.size
  exact ⟨_, g', c', cs, rfl, by omega, by omega, heap_alloc_new w1 _, h4.alloc _, by omega, h6, (hx.trans (hb.mono hs)).alloc (by omega) _⟩
theorem accCut_b {wA wx w1 : World} {S T n g' c' : Nat} {W : Nat → Nat} (hx : Below wA.heap.size wA wx) (hk0 : Blk wx wA.heap.size 30 #[.int .i64 0, .int .u64 0, .slice none 0 0]) (hm : Made wx w1 n W g' c') (hb : Below wx.heap.size wx w1) :
    AccCut wA S T n W (.pointer (some ⟨wA.heap.size, 0, none⟩)) (((w1.setCell ⟨wA.heap.size, 0, none⟩ (.int .i64 (S : Nat))).setCell ⟨wA.heap.size, 1, none⟩ (.int .u64 (T : Nat))).setCell ⟨wA.heap.size, 2, none⟩ (.slice (some ⟨g', 0, none⟩) n c')) := by
  obtain ⟨h1, h2, h3, cs, h4, h5, h6⟩ := hm
  have hlt := hk0.lt
  have hk := hk0.below hb hlt
  have hA : Below wA.heap.size wA w1 := hx.trans (hb.mono (by omega))
  refine ⟨_, g', c', cs, rfl, Nat.le_refl _, by omega, ?_, ?_, by omega, h6, ((hA.setCell (p := ⟨wA.heap.size, 0, none⟩) (Nat.le_refl _) _).setCell (p := ⟨wA.heap.size, 1, none⟩) (Nat.le_refl _) _).setCell (p := ⟨wA.heap.size, 2, none⟩) (Nat.le_refl _) _⟩
  · exact ((hk.put 0 _).put 1 _).put 2 _
  · exact ((h4.far (p := ⟨wA.heap.size, 0, none⟩) (by show g' ≠ wA.heap.size; omega) _).far (p := ⟨wA.heap.size, 1, none⟩) (by show g' ≠ wA.heap.size; omega) _).far (p := ⟨wA.heap.size, 2, none⟩) (by show g' ≠ wA.heap.size; omega) _
theorem mask_nat (x s : Nat) (hx : x < 18446744073709551616) (hs : s < 64) : bits BinOp.and IntKind.u64 ((x : Nat) : Int) (IntKind.u64.wrap (IntKind.u64.wrap (2 ^ s) - 1)) = ((x &&& (2 ^ s - 1) : Nat) : Int) := by
  have h1 := two_pow_lt hs
  have h2 : (2 : Int) ^ s = ((2 ^ s : Nat) : Int) := by rw [Int.natCast_pow]; rfl
  have h0 : 1 ≤ 2 ^ s := Nat.one_le_two_pow
  have h3 : IntKind.u64.wrap (2 ^ s) = ((2 ^ s : Nat) : Int) := by rw [IntKind.wrap_u64, h2]; omega
  have h4 : IntKind.u64.wrap (((2 ^ s : Nat) : Int) - 1) = ((2 ^ s - 1 : Nat) : Int) := by rw [IntKind.wrap_u64]; omega
  rw [h3, h4, u64_and_nat _ _ hx (by omega)]
theorem or_nat (x r : Nat) (hx : x < 18446744073709551616) (hr : r < 64) : bits BinOp.or IntKind.u64 ((x : Nat) : Int) (IntKind.u64.wrap (2 ^ r)) = ((x ||| 2 ^ r : Nat) : Int) := by
  have h1 := two_pow_lt hr
  have h2 : (2 : Int) ^ r = ((2 ^ r : Nat) : Int) := by rw [Int.natCast_pow]; rfl
  have h3 : IntKind.u64.wrap (2 ^ r) = ((2 ^ r : Nat) : Int) := by
    rw [IntKind.wrap_u64, h2]
    generalize 2 ^ r = p at *
    omega
  rw [h3, u64_or_nat _ _ hx h1]
theorem get_put {cs : Array Value} {n j x : Nat} {W : Nat → Nat} (hs : n ≤ cs.size) (h : ∀ k, k < n → cs[k]? = some (.int .u64 (W k : Nat))) :
    ∀ k, k < n → (cs.setIfInBounds j (.int .u64 (x : Nat)))[k]? = some (.int .u64 (putW W j x k : Nat)) := by
  intro k hk
  rw [Array.getElem?_setIfInBounds]
  unfold putW
  by_cases hjk : j = k
  · subst hjk; rw [if_pos rfl, if_pos (by omega), if_pos rfl]
  · rw [if_neg hjk, if_neg (Ne.symm hjk), h k hk]
/-- What stands ahead of the last bit: the greater top, the words moved up. -/
def AccCut2 (w : World) (S T n : Nat) (W : Nat → Nat) (m h : Nat) (_ : Value) (wx : World) : Prop :=
  ∃ g' c' : Nat, ∃ cs : Array Value, ∃ W' : Nat → Nat, w.heap.size + 2 ≤ g' ∧ Blk wx h 30 #[.int .i64 (S : Nat), .int .u64 (max T m : Nat), .slice (some ⟨g', 0, none⟩) n c'] ∧
    Blk wx g' 22 cs ∧ n ≤ cs.size ∧ (∀ k, k < n → cs[k]? = some (.int .u64 (W' k : Nat))) ∧ (∀ i, W' i < 18446744073709551616) ∧
    (∀ k, k < 64 * n → bitW W' k = (decide (k < S) && (decide (max T m - T ≤ k) && bitW W (k - (max T m - T))))) ∧
    Blk wx (w.heap.size + 1) 30 #[.int .i64 0, .int .u64 0, .slice none 0 0] ∧ Below w.heap.size w wx
set_option maxRecDepth 100000 in
set_option maxHeartbeats 2000000 in
theorem accept_any (S T g n c : Nat) (W : Nat → Nat) (m : Nat) (w : World) (hS : 1 ≤ S) (hS1 : S ≤ 1024) (hn : n = (S + 63) / 64) (hT : T < 18446744073709551616) (hm : m < 18446744073709551616)
    (hr : Row w g n fun i => .int .u64 (W i : Nat)) (hW : ∀ i, W i < 18446744073709551616) (hB : ∀ k, S ≤ k → k < 64 * n → bitW W k = false) :
    Calls Try.prog 22 #[.agg #[.int .i64 (S : Nat), .int .u64 (T : Nat), .slice (some ⟨g, 0, none⟩) n c], .int .u64 (m : Nat)] w (AccPost w S T n W m) := by
  have hg := hr.lt (by omega)
  have hn1 : n ≤ 1000 := by omega
  have hn0 : 1 ≤ n := by omega
  have hSn : S ≤ 64 * n := by omega
  have HR := Lib.hid hr
  have HW := Lib.hid hW
  have HB := Lib.hid hB
  have Hn := Lib.hid hn
  clear hr hW hB hn
  go_enter Try.func22, Try.ntmps22
  go_wp2_with fail
  have hb0 : Below w.heap.size w ((w.alloc (Obj.cells #[.int .i64 (S : Nat), .int .u64 (T : Nat), .slice (some ⟨g, 0, none⟩) n c] 30)).alloc (Obj.cells #[.int .i64 0, .int .u64 0, .slice none 0 0] 30)) := ((Below.refl _ _).alloc (Nat.le_refl _) _).alloc (by simp) _
  have hk0 : Blk ((w.alloc (Obj.cells #[.int .i64 (S : Nat), .int .u64 (T : Nat), .slice (some ⟨g, 0, none⟩) n c] 30)).alloc (Obj.cells #[.int .i64 0, .int .u64 0, .slice none 0 0] 30)) w.heap.size 30 #[.int .i64 (S : Nat), .int .u64 (T : Nat), .slice (some ⟨g, 0, none⟩) n c] := Blk.alloc (heap_alloc_new w _) _
  have hk1 : Blk ((w.alloc (Obj.cells #[.int .i64 (S : Nat), .int .u64 (T : Nat), .slice (some ⟨g, 0, none⟩) n c] 30)).alloc (Obj.cells #[.int .i64 0, .int .u64 0, .slice none 0 0] 30)) (w.heap.size + 1) 30 #[.int .i64 0, .int .u64 0, .slice none 0 0] := by
    have := heap_alloc_new (w.alloc (Obj.cells #[.int .i64 (S : Nat), .int .u64 (T : Nat), .slice (some ⟨g, 0, none⟩) n c] 30)) (Obj.cells #[.int .i64 0, .int .u64 0, .slice none 0 0] 30)
    simpa [Blk] using this
  have hr0 := (HR.out.alloc (Obj.cells #[.int .i64 (S : Nat), .int .u64 (T : Nat), .slice (some ⟨g, 0, none⟩) n c] 30)).alloc (Obj.cells #[.int .i64 0, .int .u64 0, .slice none 0 0] 30)
  have hz0 : ((w.alloc (Obj.cells #[.int .i64 (S : Nat), .int .u64 (T : Nat), .slice (some ⟨g, 0, none⟩) n c] 30)).alloc (Obj.cells #[.int .i64 0, .int .u64 0, .slice none 0 0] 30)).heap.size = w.heap.size + 2 := by simp
  generalize (w.alloc (Obj.cells #[.int .i64 (S : Nat), .int .u64 (T : Nat), .slice (some ⟨g, 0, none⟩) n c] 30)).alloc (Obj.cells #[.int .i64 0, .int .u64 0, .slice none 0 0] 30) = wA at *
  have HB0 := Lib.hid hb0
  have HK0 := Lib.hid hk0
  have HK1 := Lib.hid hk1
  have HR0 := Lib.hid hr0
  have hzA : w.heap.size < wA.heap.size := by omega
  have HZ := Lib.hid hz0
  have c0 : wA.cell? ⟨w.heap.size, 0, none⟩ = some (.int .i64 (S : Nat)) := hk0.cell 0
  have c1 : wA.cell? ⟨w.heap.size, 1, none⟩ = some (.int .u64 (T : Nat)) := hk0.cell 1
  have c2 : wA.cell? ⟨w.heap.size, 2, none⟩ = some (.slice (some ⟨g, 0, none⟩) n c) := hk0.cell 2
  have Cl : Hid (∀ wx, Below wA.heap.size wA wx → Calls Try.prog 29 #[.slice (some ⟨g, 0, none⟩) n c] wx fun e w1 => ∃ g' c' : Nat, e = .returned (.slice (some ⟨g', 0, none⟩) n c') ∧ Made wx w1 n W g' c' ∧ Below wx.heap.size wx w1 ∧
      w1.cell? ⟨w.heap.size, 0, none⟩ = some (.int .i64 (S : Nat)) ∧ w1.cell? ⟨w.heap.size, 1, none⟩ = some (.int .u64 (T : Nat)) ∧ w1.cell? ⟨w.heap.size, 2, none⟩ = some (.slice (some ⟨g, 0, none⟩) n c) ∧
      (∀ b o, b < wx.heap.size → w1.cell? ⟨b, o, none⟩ = wx.cell? ⟨b, o, none⟩) ∧ (∀ b o, b < wx.heap.size → w1.frozen? ⟨b, o, none⟩ = wx.frozen? ⟨b, o, none⟩) ∧ wx.heap.size ≤ w1.heap.size) := Lib.hid (fun wx hx => by
    have hz := hx.size
    refine (clone_any g n c W wx hn0 hn1 (HR0.out.below' hx)).mono ?_
    rintro e w1 ⟨g', c', rfl, hmade, hbc⟩
    have k (i : Nat) : w1.cell? ⟨w.heap.size, i, none⟩ = wA.cell? ⟨w.heap.size, i, none⟩ := (hbc.cell (p := ⟨w.heap.size, i, none⟩) (by show w.heap.size < wx.heap.size; omega)).trans (hx.cell (p := ⟨w.heap.size, i, none⟩) hzA)
    exact ⟨g', c', rfl, hmade, hbc, (k 0).trans c0, (k 1).trans c1, (k 2).trans c2, fun b o h => hbc.cell (p := ⟨b, o, none⟩) h, fun b o h => hbc.frozen (p := ⟨b, o, none⟩) h, hbc.size⟩)
  clear hb0 hk0 hk1 hr0 hz0
  have ne0 := World.new_ne wA _ c0
  have ne1 := World.new_ne wA _ c1
  have ne2 := World.new_ne wA _ c2
  go_cut [6] (AccCut wA S T n W)
  case first =>
    go_region_held3 (fun w' => w'.cell? ⟨w.heap.size, 0, none⟩ = some (.int .i64 (S : Nat)) ∧ w'.cell? ⟨w.heap.size, 1, none⟩ = some (.int .u64 (T : Nat)) ∧ w'.cell? ⟨w.heap.size, 2, none⟩ = some (.slice (some ⟨g, 0, none⟩) n c)) (go_keep)
      (first
        | (go_at_call 29; refine (Cl.out _ ?_).mono ?_; (first | exact Below.refl _ _ | exact (Below.refl _ _).drew | exact (Below.refl _ _).alloc (Nat.le_refl _) _ | exact ((Below.refl _ _).drew).alloc (Nat.le_refl _) _ | exact ((Below.refl _ _).alloc (Nat.le_refl _) _).drew); rintro e w1 ⟨g', c', rfl, hmade, hbc, k0, k1, k2, kc, kf, kz⟩))
    all_goals (go_wp2_with fail; go_meet)
    · exact accCut_a (Below.refl _ _).drew hmade hbc
    · exact accCut_b ((Below.refl _ _).alloc (Nat.le_refl _) _).drew (heap_alloc_new wA _) hmade hbc
  case rest =>
    obtain ⟨h, g', c', cs, rfl, hh, hg', hkh, hkg, hcs, hget, hbx⟩ := hcut
    have hz := HZ.out
    have hrc := HR0.out.below' hbx
    have hk2 := HK0.out.below hbx (by omega)
    have hk4 := HK1.out.below hbx (by omega)
    have hbw : Below w.heap.size w wc := HB0.out.trans (hbx.mono (by omega))
    have HRc := Lib.hid hrc
    have HK2 := Lib.hid hk2
    have HK4 := Lib.hid hk4
    have HKh := Lib.hid hkh
    have HKg := Lib.hid hkg
    have HGet := Lib.hid hget
    have HBw := Lib.hid hbw
    have HZ' := Lib.hid hz
    have x20 : wc.cell? ⟨w.heap.size, 0, none⟩ = some (.int .i64 (S : Nat)) := hk2.cell 0
    have x21 : wc.cell? ⟨w.heap.size, 1, none⟩ = some (.int .u64 (T : Nat)) := hk2.cell 1
    have x22 : wc.cell? ⟨w.heap.size, 2, none⟩ = some (.slice (some ⟨g, 0, none⟩) n c) := hk2.cell 2
    have hlh := hkh.lt
    have hlg := hkg.lt
    have hl4 := hk4.lt
    have hgh : g' ≠ h := by
      rintro rfl
      unfold Blk at hkh hkg
      rw [hkh] at hkg
      injection hkg with hkg
      injection hkg with _ hkg
      exact absurd hkg (by decide)
    clear hrc hk2 hk4 hkh hkg hget hbw hbx c0 c1 c2 ne0 ne1 ne2 hz
    go_wp2_with fail
    refine (check_any S T g n c W m _ hS hS1 hSn hn1 hT hm HRc.out HW.out).mono ?_
    rintro e w1 ⟨rfl, hb1⟩
    have hk4 := HK4.out.below hb1 hl4
    have hkh := HKh.out.below hb1 hlh
    have hkg := HKg.out.below hb1 hlg
    have hbw := HBw.out.trans (hb1.mono HBw.out.size)
    have y40 : w1.cell? ⟨w.heap.size + 1, 0, none⟩ = some (.int .i64 0) := hk4.cell 0
    have y41 : w1.cell? ⟨w.heap.size + 1, 1, none⟩ = some (.int .u64 0) := hk4.cell 1
    have y42 : w1.cell? ⟨w.heap.size + 1, 2, none⟩ = some (.slice none 0 0) := hk4.cell 2
    have z40 := hk4.free 0
    have z41 := hk4.free 1
    have z42 := hk4.free 2
    have yh0 : w1.cell? ⟨h, 0, none⟩ = some (.int .i64 (S : Nat)) := hkh.cell 0
    have yh1 : w1.cell? ⟨h, 1, none⟩ = some (.int .u64 (T : Nat)) := hkh.cell 1
    have yh2 : w1.cell? ⟨h, 2, none⟩ = some (.slice (some ⟨g', 0, none⟩) n c') := hkh.cell 2
    have zh0 := hkh.free 0
    have zh1 := hkh.free 1
    have zh2 := hkh.free 2
    have J4 := Lib.hid hk4
    have Jh := Lib.hid hkh
    have Jg := Lib.hid hkg
    have Jb := Lib.hid hbw
    clear hk4 hkh hkg hbw hb1 x20 x21 x22
    have n4h : w.heap.size + 1 ≠ h := by have := HZ'.out; omega
    have n4g : w.heap.size + 1 ≠ g' := by have := HZ'.out; omega
    by_cases h0 : chk S T (bitW W) m = 0
    · have q0 : (((chk S T (bitW W) m : Nat) : Int) != 0) = false := by rw [h0]; rfl
      obtain ⟨hm0, hcase⟩ := chk_zero h0
      have He : Hid (accT S T (bitW W) m = max T m ∧ ∀ k, accB S T (bitW W) m k = (decide (k < S) && ((decide (max T m - T ≤ k) && bitW W (k - (max T m - T))) || decide (k = max T m - m)))) := Lib.hid ⟨by unfold accT; rw [if_pos h0], fun k => by unfold accB; rw [if_pos h0]⟩
      generalize hE : chk S T (bitW W) m = E at *
      have HE := Lib.hid hE
      have H0 := Lib.hid h0
      clear hE h0
      have Hcase := Lib.hid hcase
      clear hcase
      go_upto_if 28 with (fail)
      go_cut [8] (AccCut2 w S T n W m h)
      case first =>
        by_cases hTm : T < m
        · obtain ⟨d, hd⟩ : ∃ d, d = m - T := ⟨_, rfl⟩
          have hdi : ((m : Int) - (T : Int)) = (d : Nat) := by omega
          have hd64 : d < 18446744073709551616 := by omega
          have Hd := Lib.hid hd
          clear hd
          have hrow1 := Lib.hid (Row.of_blk Jg.out HGet.out)
          go_wp2_with fail
          refine (shift_any g' n c' W d _ hn0 hn1 hd64 hrow1.out HW.out).mono ?_
          rintro e w2 ⟨g2, c2, rfl, hmade, hb2⟩
          obtain ⟨hg2, hnc2, hcm2, cs2, hk2, hs2, hget2⟩ := hmade
          have hlh1 := Jh.out.lt
          have hl41 := J4.out.lt
          have kh := Jh.out.below hb2 hlh1
          have k4 := J4.out.below hb2 hl41
          have hbw2 := Jb.out.trans (hb2.mono Jb.out.size)
          have xh1 : w2.cell? ⟨h, 1, none⟩ = some (.int .u64 (T : Nat)) := kh.cell 1
          have xh2 : w2.cell? ⟨h, 2, none⟩ = some (.slice (some ⟨g', 0, none⟩) n c') := kh.cell 2
          have fh1 := kh.free 1
          have fh2 := kh.free 2
          have ngh : g2 ≠ h := by omega
          have ng4 : g2 ≠ w.heap.size + 1 := by omega
          have Kh := Lib.hid kh
          have K4 := Lib.hid k4
          have Kg := Lib.hid hk2
          have Kb := Lib.hid hbw2
          have Kget := Lib.hid hget2
          have Ks := Lib.hid hs2
          clear kh k4 hk2 hbw2 hget2 hs2 hb2 y40 y41 y42 z40 z41 z42 yh0 yh1 yh2 zh0 zh1 zh2
          go_upto_region 8 with (fail)
          have l4h : w.heap.size + 1 ≠ h := n4h
          have jh := (Kh.out.put 2 (.slice (some ⟨g2, 0, none⟩) n c2)).put 1 (.int .u64 (m : Nat))
          have jg := (Kg.out.far (p := ⟨h, 2, none⟩) ngh (.slice (some ⟨g2, 0, none⟩) n c2)).far (p := ⟨h, 1, none⟩) ngh (.int .u64 (m : Nat))
          have j4 := (K4.out.far (p := ⟨h, 2, none⟩) l4h (.slice (some ⟨g2, 0, none⟩) n c2)).far (p := ⟨h, 1, none⟩) l4h (.int .u64 (m : Nat))
          have jb := (Kb.out.setCell (p := ⟨h, 2, none⟩) (by show w.heap.size ≤ h; have := HZ'.out; omega) (.slice (some ⟨g2, 0, none⟩) n c2)).setCell (p := ⟨h, 1, none⟩) (by show w.heap.size ≤ h; have := HZ'.out; omega) (.int .u64 (m : Nat))
          generalize (w2.setCell ⟨h, 2, none⟩ (.slice (some ⟨g2, 0, none⟩) n c2)).setCell ⟨h, 1, none⟩ (.int .u64 (m : Nat)) = w3 at *
          clear xh1 xh2 fh1 fh2
          have xh0 : w3.cell? ⟨h, 0, none⟩ = some (.int .i64 (S : Nat)) := jh.cell 0
          have xh2 : w3.cell? ⟨h, 2, none⟩ = some (.slice (some ⟨g2, 0, none⟩) n c2) := jh.cell 2
          have xg : w3.cell? ⟨g2, n - 1, none⟩ = some (.int .u64 (shiftW W d (n - 1) : Nat)) := (jg.cell _).trans (Kget.out _ (by omega))
          have fg := jg.free (n - 1)
          have Jh3 := Lib.hid jh
          have Jg3 := Lib.hid jg
          have J43 := Lib.hid j4
          have Jb3 := Lib.hid jb
          have eT : max T m = m := by omega
          have hbits : ∀ k, bitW (shiftW W d) k = (decide (max T m - T ≤ k) && bitW W (k - (max T m - T))) := fun k => by
            rw [bitW_shift W HW.out, eT, ← Hd.out]
          have Hbits := Lib.hid hbits
          have HeT := Lib.hid eT
          clear jh jg j4 jb hbits eT
          by_cases hS64 : S % 64 = 0
          · have hq : decide ((0 : Int) < (S : Int) % 64) = false := decide_eq_false (by omega)
            go_wp2_with fail
            go_meet
            refine ⟨g2, c2, cs2, shiftW W d, by have := HZ'.out; omega, by rw [HeT.out]; exact Jh3.out, Jg3.out, by rw [Ks.out]; exact hnc2, Kget.out, shiftW_lt W HW.out d, fun k hk => ?_, J43.out, Jb3.out⟩
            rw [Hbits.out]
            have : k < S := by have := Hn.out; omega
            simp [this]
          · have hq : decide ((0 : Int) < (S : Int) % 64) = true := decide_eq_true (by omega)
            go_wp2_with fail
            go_region
            go_wp2_with fail
            go_meet
            have hx := mask_nat (shiftW W d (n - 1)) (S % 64) (shiftW_lt W HW.out d _) (by omega)
            rw [hx]
            refine ⟨g2, c2, cs2.setIfInBounds (n - 1) (.int .u64 ((shiftW W d (n - 1) &&& (2 ^ (S % 64) - 1) : Nat) : Nat)), putW (shiftW W d) (n - 1) (shiftW W d (n - 1) &&& (2 ^ (S % 64) - 1)), by have := HZ'.out; omega, ?_, Jg3.out.put (n - 1) _, by rw [Array.size_setIfInBounds, Ks.out]; exact hnc2, ?_, ?_, ?_, ?_, ?_⟩
            · rw [HeT.out]; exact Jh3.out.far (p := ⟨g2, n - 1, none⟩) (Ne.symm ngh) _
            · exact get_put (by rw [Ks.out]; exact hnc2) Kget.out
            · exact putW_lt (shiftW_lt W HW.out d) (Nat.lt_of_le_of_lt Nat.and_le_left (shiftW_lt W HW.out d _))
            · intro k hk
              rw [bitW_mask _ S n k Hn.out (by omega) hk, Hbits.out]
            · exact J43.out.far (p := ⟨g2, n - 1, none⟩) (Ne.symm ng4) _
            · exact (Jb3.out.setCell (p := ⟨g2, n - 1, none⟩) (by show w.heap.size ≤ g2; have := HZ'.out; omega) _).drew
        · have hmT : m ≤ T := by omega
          have hq : decide ((T : Int) < m) = false := decide_eq_false (by omega)
          go_wp2_with fail
          go_meet
          have e1 : max T m = T := by omega
          refine ⟨g', c', cs, W, by have := HZ'.out; omega, by rw [e1]; exact Jh.out, Jg.out, hcs, HGet.out, HW.out, fun k hk => ?_, J4.out, Jb.out⟩
          rw [e1]
          by_cases hkS : k < S
          · simp [hkS]
          · rw [HB.out k (by omega) hk]; simp [hkS]
      case rest =>
        clear y40 y41 y42 z40 z41 z42 yh0 yh1 yh2 zh0 zh1 zh2
        obtain ⟨g3, c3, cs3, W3, hg3, jh, jg, hcs3, hget3, hW3, hbit3, j4, jb⟩ := hcut
        have ng3h : g3 ≠ h := by
          rintro rfl
          unfold Blk at jh jg
          rw [jh] at jg
          injection jg with jg
          injection jg with _ jg
          exact absurd jg (by decide)
        obtain ⟨P, hP⟩ : ∃ P, P = max T m := ⟨_, rfl⟩
        have hP1 : m ≤ P := by omega
        have hP2 : P - m < S := by have := Hcase.out; omega
        have hP3 : P < 18446744073709551616 := by omega
        obtain ⟨k, hk⟩ : ∃ k, k = P - m := ⟨_, rfl⟩
        have hki : ((P : Int) - (m : Int)) = (k : Nat) := by omega
        have hkn : k / 64 < n := by have := Hn.out; omega
        have hq : decide (((k / 64 : Nat) : Int) < n) = true := decide_eq_true (by omega)
        rw [← hP] at jh hbit3
        rw [← hP] at He
        have y40 : wc.cell? ⟨w.heap.size + 1, 0, none⟩ = some (.int .i64 0) := j4.cell 0
        have y41 : wc.cell? ⟨w.heap.size + 1, 1, none⟩ = some (.int .u64 0) := j4.cell 1
        have y42 : wc.cell? ⟨w.heap.size + 1, 2, none⟩ = some (.slice none 0 0) := j4.cell 2
        have z40 := j4.free 0
        have z41 := j4.free 1
        have z42 := j4.free 2
        have yh0 : wc.cell? ⟨h, 0, none⟩ = some (.int .i64 (S : Nat)) := jh.cell 0
        have yh1 : wc.cell? ⟨h, 1, none⟩ = some (.int .u64 (P : Nat)) := jh.cell 1
        have yh2 : wc.cell? ⟨h, 2, none⟩ = some (.slice (some ⟨g3, 0, none⟩) n c3) := jh.cell 2
        have yg : wc.cell? ⟨g3, k / 64, none⟩ = some (.int .u64 (W3 (k / 64) : Nat)) := (jg.cell _).trans (hget3 _ hkn)
        have zg := jg.free (k / 64)
        have J3h := Lib.hid jh
        have J3g := Lib.hid jg
        have J34 := Lib.hid j4
        have J3b := Lib.hid jb
        have Hget3 := Lib.hid hget3
        have HW3 := Lib.hid hW3
        have Hbit3 := Lib.hid hbit3
        have HP := Lib.hid hP
        have Hk := Lib.hid hk
        clear jh jg j4 jb hget3 hW3 hbit3 hP hk
        go_wp2_with fail
        have n43 : w.heap.size + 1 ≠ g3 := by omega
        refine bodyPost_ret (v := .tuple #[.agg #[.int .i64 (S : Nat), .int .u64 (P : Nat), .slice (some ⟨g3, 0, none⟩) n c3], .int .i64 0]) (by simp [results, Try.results22, go_sem, y40, y41, y42]) rfl ?_
        rw [or_nat _ _ (HW3.out _) (Nat.mod_lt _ (by omega))]
        have jg := (((J3g.out.put (k / 64) (.int .u64 ((W3 (k / 64) ||| 2 ^ (k % 64) : Nat) : Nat))).far (p := ⟨w.heap.size + 1, 0, none⟩) (Ne.symm n43) (.int .i64 (S : Nat))).far (p := ⟨w.heap.size + 1, 1, none⟩) (Ne.symm n43) (.int .u64 (P : Nat))).far (p := ⟨w.heap.size + 1, 2, none⟩) (Ne.symm n43) (.slice (some ⟨g3, 0, none⟩) n c3)
        refine ⟨g3, c3, putW W3 (k / 64) (W3 (k / 64) ||| 2 ^ (k % 64)), by rw [He.out.1, HE.out, H0.out]; rfl, by omega, Row.of_blk jg (get_put hcs3 Hget3.out), putW_lt HW3.out (or_lt (HW3.out _) (two_pow_lt (Nat.mod_lt _ (by omega)))), fun j hj => ?_, ?_⟩
        · rw [bitW_set, Hbit3.out j hj, He.out.2 j, ← Hk.out]
          by_cases hjk : j = k
          · have : j < S := by have := Hk.out; omega
            simp [hjk]
            omega
          · simp [hjk]
        · exact (((J3b.out.setCell (p := ⟨g3, k / 64, none⟩) (by show w.heap.size ≤ g3; omega) _).setCell (p := ⟨w.heap.size + 1, 0, none⟩) (by show w.heap.size ≤ w.heap.size + 1; omega) _).setCell (p := ⟨w.heap.size + 1, 1, none⟩) (by show w.heap.size ≤ w.heap.size + 1; omega) _).setCell (p := ⟨w.heap.size + 1, 2, none⟩) (by show w.heap.size ≤ w.heap.size + 1; omega) _
    · have q0 : (((chk S T (bitW W) m : Nat) : Int) != 0) = true := by rw [bne_iff_ne]; omega
      have He : Hid (accT S T (bitW W) m = T ∧ ∀ k, accB S T (bitW W) m k = bitW W k) := Lib.hid ⟨by unfold accT; rw [if_neg h0], fun k => by unfold accB; rw [if_neg h0]⟩
      generalize hE : chk S T (bitW W) m = E at *
      have HE := Lib.hid hE
      clear hE h0
      go_wp2_with fail
      refine bodyPost_ret (v := .tuple #[.agg #[.int .i64 (S : Nat), .int .u64 (T : Nat), .slice (some ⟨g', 0, none⟩) n c'], .int .i64 (E : Nat)]) (by simp [results, Try.results22, go_sem, y40, y41, y42]) rfl ?_
      refine ⟨g', c', W, by rw [He.out.1, HE.out], by have := HZ'.out; omega, ?_, HW.out, fun k hk => (He.out.2 k).symm, ?_⟩
      · have jg := ((Jg.out.far (p := ⟨w.heap.size + 1, 0, none⟩) (Ne.symm n4g) (.int .i64 (S : Nat))).far (p := ⟨w.heap.size + 1, 1, none⟩) (Ne.symm n4g) (.int .u64 (T : Nat))).far (p := ⟨w.heap.size + 1, 2, none⟩) (Ne.symm n4g) (.slice (some ⟨g', 0, none⟩) n c')
        exact Row.of_blk jg HGet.out
      · exact ((Jb.out.setCell (p := ⟨w.heap.size + 1, 0, none⟩) (by show w.heap.size ≤ w.heap.size + 1; omega) _).setCell (p := ⟨w.heap.size + 1, 1, none⟩) (by show w.heap.size ≤ w.heap.size + 1; omega) _).setCell (p := ⟨w.heap.size + 1, 2, none⟩) (by show w.heap.size ≤ w.heap.size + 1; omega) _
end Go.Proofs.Ytbepkfdfabgigaa
