/-
  The contract of chacha's Xor.
  Conditions: the key and the nonce are lists of bytes of the right lengths; the table of the quarters lies as its initialiser lays it; at most 1000 bytes are encrypted.
-/
import Derived.Test.YtoojiofgmamjeaaDoorMake
import Derived.Test.YtoojiofgmamjeaaDoorBlk
namespace Go.Proofs.YtoojiofgmamjeaaDoor
open Go.RowKit
set_option linter.unusedVariables false
/-- Byte i of the stream of a key, a nonce and a counter. -/
def ksB (f n : Nat → BitVec 8) (c : BitVec 32) (i : Nat) : BitVec 8 := bl (st0 f (ad c (BitVec.ofNat 32 (i / 64))) n) (i % 64)
def xo8 (a b : BitVec 8) : BitVec 8 := a ^^^ b
/-- Byte i of what is encrypted. -/
def xorB (fb f n : Nat → BitVec 8) (c : BitVec 32) (i : Nat) : BitVec 8 := xo8 (fb i) (ksB f n c i)
def xL (fb f n : Nat → BitVec 8) (c : BitVec 32) (k : Nat) : List Value := (List.range k).map fun i => .int .u8 ((xorB fb f n c i).toNat : Nat)
theorem xL_succ (fb f n : Nat → BitVec 8) (c : BitVec 32) (k : Nat) : xL fb f n c (k + 1) = xL fb f n c k ++ [.int .u8 ((xorB fb f n c k).toNat : Nat)] := by
  unfold xL
  rw [List.range_succ, List.map_append]
  rfl
theorem w_xo8 (a b : BitVec 8) : bits .xor .u8 (a.toNat : Int) (b.toNat : Int) = ((xo8 a b).toNat : Int) := by
  rw [u8_xor_nat _ _ a.isLt b.isLt]
  unfold xo8
  rw [BitVec.toNat_xor]
theorem ctr_next (c : BitVec 32) (j : Nat) : (((ad c (BitVec.ofNat 32 j)).toNat : Int) + 1) % 4294967296 = ((ad c (BitVec.ofNat 32 (j + 1))).toNat : Int) := by
  unfold ad
  rw [BitVec.toNat_add, BitVec.toNat_add, BitVec.toNat_ofNat, BitVec.toNat_ofNat]
  omega
theorem ctr_zero (c : BitVec 32) : ad c (BitVec.ofNat 32 0) = c := by
  unfold ad
  exact BitVec.add_zero c
/-- Encrypted bytes. -/
def XorPost (w : World) (nb : Nat) (b : Nat → BitVec 8) (e : Ending) (w' : World) : Prop :=
  ∃ A c, e = .returned (.tuple #[.slice A nb c, .bool true]) ∧ nb ≤ c ∧ c ≤ maxLen ∧ Byf w' A nb b ∧ Below w.heap.size w w'
/-- The block that is being used up. -/
def Mask (wr : World) (v : Value) (out : Value) (b : Nat → BitVec 8) : Prop := ∃ g c, v = .slice (some ⟨g, 0, none⟩) 64 c ∧ 64 ≤ c ∧ c ≤ maxLen ∧ Byf wr (some ⟨g, 0, none⟩) 64 b ∧ out.ownBlock ≠ some g
/-- What a round's head finds. -/
structure XIn (w wr : World) (base : Nat) (fb f n : Nat → BitVec 8) (c : BitVec 32) (cnt out mask : Value) (k : Nat) : Prop where
  q : cnt = .int .u32 ((ad c (BitVec.ofNat 32 ((k + 63) / 64))).toNat : Nat)
  o : wr.ownsRow base 5 1 out k (xL fb f n c k)
  m : k % 64 ≠ 0 → Mask wr mask out (bl (st0 f (ad c (BitVec.ofNat 32 (k / 64))) n))
  b : Below w.heap.size w wr
  z : base ≤ wr.heap.size
theorem xorPost_end {w w' : World} {base k c : Nat} {A : Option Addr} {fb f n : Nat → BitVec 8} {cc : BitVec 32} (ho : w'.ownsRow base 5 1 (.slice A k c) k (xL fb f n cc k)) (hb : Below w.heap.size w w') :
    XorPost w k (xorB fb f n cc) (.returned (.tuple #[.slice A k c, .bool true])) w' := by
  rcases ho.2 with ⟨h0, h1⟩ | ⟨g, cap, cur, hv, hbase, hh, hn, hmx, hs, ht⟩
  · injection h0 with e1 e2 e3
    subst e1; subst e3
    exact ⟨none, 0, rfl, by omega, Nat.zero_le _, fun k hk => absurd hk (by omega), hb⟩
  · injection hv with e1 e2 e3
    subst e1; subst e3
    refine ⟨_, c, rfl, hn, hmx, fun i hi => ⟨g, 0, rfl, ?_⟩, hb⟩
    rw [Nat.zero_add, ho.cellAt i (by omega)]
    unfold xL
    simp [hi, u8v]
/-- A block of bytes, its address written out. -/
def BlkPost2 (w : World) (b : Nat → BitVec 8) (e : Ending) (w' : World) : Prop :=
  ∃ g c, e = .returned (.tuple #[.slice (some ⟨g, 0, none⟩) 64 c, .bool true]) ∧ w.heap.size ≤ g ∧ 64 ≤ c ∧ c ≤ maxLen ∧ Byf w' (some ⟨g, 0, none⟩) 64 b ∧ Below w.heap.size w w'
theorem blk_some {P : Program} {fn : FuncId} {args : Array Value} {w : World} {b : Nat → BitVec 8} (h : Calls P fn args w (BlkPost w b)) : Calls P fn args w (BlkPost2 w b) :=
  h.mono fun e w' ⟨A, c, he, ⟨g, hA, hge⟩, h1, h2, h3, h4⟩ => ⟨g, c, by rw [← hA]; exact he, hge, h1, h2, by rw [← hA]; exact h3, h4⟩
theorem own_lt {w : World} {base e size n : Nat} {v : Value} {xs : List Value} (h : w.ownsRow base e size v n xs) : ∀ g, v.ownBlock = some g → g < w.heap.size := by
  intro g hvg
  rcases h.2 with ⟨rfl, _⟩ | ⟨g', cap, cur, rfl, hb, hh, _⟩
  · cases hvg
  · injection hvg with e
    subst e
    exact (Array.getElem?_eq_some_iff.1 hh).1
set_option maxRecDepth 100000 in
set_option maxHeartbeats 1000000 in
theorem xor_any (g o cap g2 o2 cap2 : Nat) (f n fb : Nat → BitVec 8) (c : BitVec 32) (Ab : Option Addr) (nb capb : Nat) (w : World) (ht : Tab w) (h : Byf w (some ⟨g, o, none⟩) 32 f) (h2 : Byf w (some ⟨g2, o2, none⟩) 12 n) (h3 : Byf w Ab nb fb) (hc1 : 32 ≤ cap) (hc2 : 12 ≤ cap2) (hm1 : cap ≤ maxLen) (hm2 : cap2 ≤ maxLen) (hnb : nb ≤ 1000) :
    Calls Tryd.prog 10 #[.slice (some ⟨g, o, none⟩) 32 cap, .int .u32 (c.toNat : Nat), .slice (some ⟨g2, o2, none⟩) 12 cap2, .slice Ab nb capb] w (XorPost w nb (xorB fb f n c)) := by
  obtain ⟨i0, hi0, hz0, hz1, hz2⟩ := info_parts codes_info
  have hs := state_any g o cap g2 o2 cap2 f n c w h h2 hc1 hc2 hm1 hm2
  have HS := Lib.hid hs
  have HT := Lib.hid ht
  have HK := Lib.hid h
  have HN0 := Lib.hid h2
  have HF := Lib.hid h3
  clear hs h h2 ht h3
  have E : Hid (∃ cs, cs = stA (st0 f c n)) := ⟨_, rfl⟩
  obtain ⟨cs, hcs⟩ := E.out
  have hi : (Tryd.prog.info? 41).map (·.size) = some cs.size := by rw [hcs]; exact st_size
  have h1 : cs.all (·.oneCell') = true := by rw [hcs]; exact stA_one _
  have h16 : cs.size = 16 := by rw [hcs]; exact stA_size _
  have HI := Lib.hid hi
  have HO := Lib.hid h1
  have H16 := Lib.hid h16
  rw [← hcs] at HS
  have HC := Lib.hid hcs
  clear E hi h1 h16 hcs
  go_enter Tryd.func10, Tryd.ntmps10
  go_wp2_with fail
  refine HS.out.mono ?_
  rintro e w1 ⟨rfl, hb1⟩
  have HB1 := Lib.hid hb1
  clear hb1 HS
  go_wp2_with (first | ((with_reducible refine wpList_store_row (o := ⟨none, .store 41 (.tmp 10) (.tmp 21), _, _, _, _⟩) ?_ 41 (.tmp 10) (.tmp 21) ?_ (w1.heap.size) cs ?_ ?_ 41 #[.int .u32 0, .int .u32 0, .int .u32 0, .int .u32 0, .int .u32 0, .int .u32 0, .int .u32 0, .int .u32 0, .int .u32 0, .int .u32 0, .int .u32 0, .int .u32 0, .int .u32 0, .int .u32 0, .int .u32 0, .int .u32 0] ?_ ?_ ?_ ?_ ?_); exact rfl; exact rfl; exact rfl; exact rfl; exact heap_alloc_new w1 _; exact HI.out; exact H16.out.symm; exact HO.out; rw [setRow_alloc_at _ _ _ _ _ rfl]))
  have hbW : Below w.heap.size w (w1.alloc (Obj.cells cs 41)) := HB1.out.alloc HB1.out.size _
  have HBW := Lib.hid hbW
  have HW0 := Lib.hid hbW.size
  clear hbW
  generalize w1.alloc (Obj.cells cs 41) = W0 at *
  go_loopw [1, 12, 13, 27] (fun cnt out mask i wr => ∃ k : Nat, k ≤ nb ∧ i = .int .i64 k ∧ XIn w wr W0.heap.size fb f n c cnt out mask k) (fun _ _ _ i _ => nb - (intOf i).toNat)
  case atStart => exact ⟨0, by omega, rfl, by rw [show (0 + 63) / 64 = 0 from rfl, ctr_zero], World.ownsRow_nil _ _ _ _, fun h => absurd rfl h, HBW.out, Nat.le_refl _⟩
  case round =>
    obtain ⟨k, hk, rfl, hz⟩ := hrel
    obtain ⟨A, c', rfl⟩ : ∃ A c, u12 = .slice A k c := own_form hz.o
    obtain rfl := hz.q
    have HZ := Lib.hid hz
    clear hz HBW
    by_cases hlk : k < nb
    · obtain ⟨gb, ob, rfl⟩ := HF.out.some (by omega)
      have cb := (HF.out.bel HZ.out.b).at k hlk
      have q1 : decide ((k : Int) < (nb : Int)) = true := by simp; omega
      have q0 : (0 : Int) ≤ (k : Int) := by omega
      have q2 : (k : Int) < (nb : Int) := by omega
      have hX : ∀ y, ksB f n c k = y → xorB fb f n c k = xo8 (fb k) y := fun y h => by unfold xorB; rw [h]
      have HX := Lib.hid hX
      clear hX
      generalize hx : fb k = x at *
      have hHx := Lib.hid hx
      clear hx
      obtain ⟨r, hr⟩ : ∃ r, k % 64 = r := ⟨_, rfl⟩
      have hr1 : (k : Int) % 64 = (r : Int) := by omega
      have hr2 : r < 64 := by omega
      have w8 := w_xo8
      by_cases hr0 : r = 0
      · subst hr0
        have hk64 : (k + 63) / 64 = k / 64 := by omega
        rw [hk64]
        have HR := Lib.hid hr
        clear hr hk64
        have hbk := block_any g o cap g2 o2 cap2 f n (ad c (BitVec.ofNat 32 (k / 64))) wr (HT.out.bel HZ.out.b) (HK.out.bel HZ.out.b) (HN0.out.bel HZ.out.b) hc1 hc2 hm1 hm2
        have cn := ctr_next c (k / 64)
        have HBK := Lib.hid (blk_some hbk)
        have e0 : ((0 : Nat) : Int) = 0 := rfl
        rw [e0] at hr1
        clear hbk e0
        go_wp2_with fail
        refine HBK.out.mono ?_
        rintro e w2 ⟨gm, cm, rfl, hge, l1, l2, hbf, hb2⟩
        have HBF := Lib.hid hbf
        have HB2 := Lib.hid hb2
        clear hbf hb2
        have cb2 := (HF.out.bel (below_then HZ.out.b HB2.out HZ.out.b.size)).at k hlk
        have cm2 : w2.cell? ⟨gm, 0, none⟩ = some (.int .u8 ((bl (st0 f (ad c (BitVec.ofNat 32 (k / 64))) n) 0).toNat : Nat)) := by
          have := HBF.out.at 0 (by omega)
          simpa using this
        have hy : ksB f n c k = bl (st0 f (ad c (BitVec.ofNat 32 (k / 64))) n) 0 := by unfold ksB; rw [HR.out]
        have HXX := Lib.hid (HX.out _ hy)
        clear hy
        generalize bl (st0 f (ad c (BitVec.ofNat 32 (k / 64))) n) 0 = y at *
        have HO2 := Lib.hid (show w2.ownsRow W0.heap.size 5 1 (.slice A k c') k (xL fb f n c k) from own_same HZ.out.o (fun g _ hgl => HB2.out.block g hgl))
        have HZS := Lib.hid (Nat.le_trans HZ.out.z HB2.out.size)
        have HBL := Lib.hid (below_then HZ.out.b HB2.out HZ.out.b.size)
        have GL : Hid (gm < w2.heap.size) := World.block_lt_of_cell? w2 ⟨gm, 0, none⟩ cm2
        have NE : Hid ((Value.slice A k c').ownBlock ≠ some gm) := fun e => by have := own_lt HZ.out.o gm e; omega
        have hhx : (x.toNat : Int) < 256 := by have := x.isLt; omega
        have hhy : (y.toNat : Int) < 256 := by have := y.isLt; omega
        clear cn
        have hown := HO2.out.alloc (Obj.cells #[.int .u8 ((xo8 x y).toNat : Nat)] 5)
        have hnews := World.news_of_block (heap_alloc_new w2 (Obj.cells #[.int .u8 ((xo8 x y).toNat : Nat)] 5))
        have h1 : ∀ u ∈ ([.int .u8 ((xo8 x y).toNat : Nat)] : List Value), u.oneCell' = true := by
          intro u hu
          simp only [List.mem_cons, List.not_mem_nil, or_false] at hu
          rcases hu with rfl
          rfl
        have hbase : W0.heap.size ≤ (w2.alloc (Obj.cells #[.int .u8 ((xo8 x y).toNat : Nat)] 5)).heap.size := Nat.le_trans HZS.out (by simp)
        have h63 : k + 1 ≤ maxLen := by unfold maxLen; omega
        have hbytes : (k + 1) * 1 ≤ 140737488355328 := by omega
        have HO1 := Lib.hid hown
        have HN := Lib.hid hnews
        have H1 := Lib.hid h1
        have HBb := Lib.hid hbase
        clear hown hnews h1 hbase
        go_wp2_with (at_builtin; refine wpList_append_lies _ rfl (.tmp 44) (.tmp 52) 22 rfl W0.heap.size 5 i0 (.int .u8 0) 1 1 Tryd.underlying22 hi0 hz0 hz1 hz2 rfl (by decide) (.slice A k c') k (xL fb f n c k) rfl HO1.out ⟨w2.heap.size, 0, none⟩ 1 1 [.int .u8 ((xo8 x y).toNat : Nat)] rfl rfl HN.out H1.out (by decide) h63 hbytes HBb.out (w2.heap.size + 1) (by simp) ?_; intro g9 c9 w9 hown9 hg9 hat9 hlt9)
        go_roundw
        case rel =>
          refine ⟨k + 1, by omega, by go_num, ?_, ?_, ?_, ?_, ?_⟩
          · have e9 : (k + 1 + 63) / 64 = k / 64 + 1 := by have := HR.out; omega
            first
            | (rw [e9, ← ctr_next]; done)
            | (rw [e9, ← ctr_next])
            | rw [e9]
          · rw [xL_succ, HXX.out]; exact hown9
          · intro h9
            refine ⟨gm, cm, rfl, l1, l2, ?_, ?_⟩
            · have e9 : (k + 1) / 64 = k / 64 := by have := HR.out; omega
              rw [e9]
              exact (HBF.out.alloc _).grown hg9 (fun _ g' o' s' e e2 => by injection e with e; injection e with e1; subst e1; exact NE.out e2.symm)
            · intro e
              have e : g9 = gm := by simpa [Value.ownBlock] using e
              rcases hat9 with h | h
              · exact NE.out (e ▸ h)
              · have := GL.out; omega
          · exact (HBL.out.alloc HBL.out.size _).grown hg9 (Nat.le_trans HBL.out.size (by simp)) (fun g hg => by have := own_ge HO2.out g hg; have := HW0.out; omega)
          · exact Nat.le_trans HBb.out hg9.size
        case measure => simp [intOf]; omega
      · have hmask := HZ.out.m (by omega)
        obtain ⟨gm, cm, rfl, l1, l2, hbf, hne⟩ := hmask
        have HBF := Lib.hid hbf
        have NE := Lib.hid hne
        clear hbf hne
        have HR := Lib.hid (And.intro hr hr0)
        have cm2 : wr.cell? ⟨gm, r, none⟩ = some (.int .u8 ((bl (st0 f (ad c (BitVec.ofNat 32 (k / 64))) n) r).toNat : Nat)) := by
          have := HBF.out.at r hr2
          simpa using this
        have hy : ksB f n c k = bl (st0 f (ad c (BitVec.ofNat 32 (k / 64))) n) r := by unfold ksB; rw [hr]
        have HXX := Lib.hid (HX.out _ hy)
        have q5 : ((r : Int) == 0) = false := by simp; omega
        have q6 : (r : Int) < 64 := by omega
        have q7 : (0 : Int) ≤ (r : Int) := by omega
        clear hy hr hr0 hr2
        generalize bl (st0 f (ad c (BitVec.ofNat 32 (k / 64))) n) r = y at *
        have HO2 := Lib.hid HZ.out.o
        have HZS := Lib.hid HZ.out.z
        have HBL := Lib.hid HZ.out.b
        have GL : Hid (gm < wr.heap.size) := World.block_lt_of_cell? wr ⟨gm, r, none⟩ cm2
        have hhx : (x.toNat : Int) < 256 := by have := x.isLt; omega
        have hhy : (y.toNat : Int) < 256 := by have := y.isLt; omega
        have hown := HO2.out.alloc (Obj.cells #[.int .u8 ((xo8 x y).toNat : Nat)] 5)
        have hnews := World.news_of_block (heap_alloc_new wr (Obj.cells #[.int .u8 ((xo8 x y).toNat : Nat)] 5))
        have h1 : ∀ u ∈ ([.int .u8 ((xo8 x y).toNat : Nat)] : List Value), u.oneCell' = true := by
          intro u hu
          simp only [List.mem_cons, List.not_mem_nil, or_false] at hu
          rcases hu with rfl
          rfl
        have hbase : W0.heap.size ≤ (wr.alloc (Obj.cells #[.int .u8 ((xo8 x y).toNat : Nat)] 5)).heap.size := Nat.le_trans HZS.out (by simp)
        have h63 : k + 1 ≤ maxLen := by unfold maxLen; omega
        have hbytes : (k + 1) * 1 ≤ 140737488355328 := by omega
        have HO1 := Lib.hid hown
        have HN := Lib.hid hnews
        have H1 := Lib.hid h1
        have HBb := Lib.hid hbase
        clear hown hnews h1 hbase
        go_wp2_with (at_builtin; refine wpList_append_lies _ rfl (.tmp 44) (.tmp 52) 22 rfl W0.heap.size 5 i0 (.int .u8 0) 1 1 Tryd.underlying22 hi0 hz0 hz1 hz2 rfl (by decide) (.slice A k c') k (xL fb f n c k) rfl HO1.out ⟨wr.heap.size, 0, none⟩ 1 1 [.int .u8 ((xo8 x y).toNat : Nat)] rfl rfl HN.out H1.out (by decide) h63 hbytes HBb.out (wr.heap.size + 1) (by simp) ?_; intro g9 c9 w9 hown9 hg9 hat9 hlt9)
        go_roundw
        case rel =>
          refine ⟨k + 1, by omega, by go_num, ?_, ?_, ?_, ?_, ?_⟩
          · have e9 : (k + 1 + 63) / 64 = (k + 63) / 64 := by have := HR.out; omega
            rw [e9]
          · rw [xL_succ, HXX.out]; exact hown9
          · intro h9
            refine ⟨gm, cm, rfl, l1, l2, ?_, ?_⟩
            · have e9 : (k + 1) / 64 = k / 64 := by have := HR.out; omega
              rw [e9]
              exact (HBF.out.alloc _).grown hg9 (fun _ g' o' s' e e2 => by injection e with e; injection e with e1; subst e1; exact NE.out e2.symm)
            · intro e
              have e : g9 = gm := by simpa [Value.ownBlock] using e
              rcases hat9 with h | h
              · exact NE.out (e ▸ h)
              · have := GL.out; omega
          · exact (HBL.out.alloc HBL.out.size _).grown hg9 (Nat.le_trans HBL.out.size (by simp)) (fun g hg => by have := own_ge HO2.out g hg; have := HW0.out; omega)
          · exact Nat.le_trans HBb.out hg9.size
        case measure => simp [intOf]; omega
    · obtain rfl : k = nb := by omega
      have q1 : decide ((k : Int) < (k : Int)) = false := by simp
      go_wp2_with fail
      go_ret2
      exact xorPost_end HZ.out.o HZ.out.b
end Go.Proofs.YtoojiofgmamjeaaDoor
