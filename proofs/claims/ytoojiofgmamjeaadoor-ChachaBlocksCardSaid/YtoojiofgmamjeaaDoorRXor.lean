/-
  The contract of the reference's Xor.
  Conditions: the key and the nonce are lists of bytes of the right lengths; at most 1000 bytes are encrypted.
-/
import Derived.Test.YtoojiofgmamjeaaDoorXor
import Derived.Test.YtoojiofgmamjeaaDoorRBlk
import Derived.BigRegion
import Derived.ChangeAlike
namespace Go.Proofs.YtoojiofgmamjeaaDoor
open Go.RowKit
set_option linter.unusedVariables false
attribute [local go_sem ↓] Go.wp_at_zero Go.wp_at_succ
/-- Byte i, of which the first d are encrypted. -/
def parB (fb f n : Nat → BitVec 8) (c : BitVec 32) (d i : Nat) : BitVec 8 := if i < d then xorB fb f n c i else fb i
/-- What a round's head finds. -/
structure RXIn (w wr : World) (go nb : Nat) (fb f n : Nat → BitVec 8) (c : BitVec 32) (d : Nat) : Prop where
  o : ∃ cs, Blk wr go 5 cs ∧ ∀ i, i < nb → cs[i]? = some (.int .u8 ((parB fb f n c d i).toNat : Nat))
  b : Below w.heap.size w wr
theorem ctr_at (c : BitVec 32) (m : Nat) (hm : m ≤ 1000) : ((c.toNat : Int) + (m : Int)) % 4294967296 = ((ad c (BitVec.ofNat 32 m)).toNat : Int) := by
  unfold ad
  rw [BitVec.toNat_add, BitVec.toNat_ofNat]
  omega
theorem rx_step {wr : World} {go nb d : Nat} {fb f n : Nat → BitVec 8} {c : BitVec 32} {y : BitVec 8} (hd : d < nb) (h : ∃ cs, Blk wr go 5 cs ∧ ∀ i, i < nb → cs[i]? = some (.int .u8 ((parB fb f n c d i).toNat : Nat))) (hy : xorB fb f n c d = y) :
    ∃ cs, Blk (wr.setCell ⟨go, d, none⟩ (.int .u8 (y.toNat : Nat))) go 5 cs ∧ ∀ i, i < nb → cs[i]? = some (.int .u8 ((parB fb f n c (d + 1) i).toNat : Nat)) := by
  obtain ⟨cs, hb, hc⟩ := h
  refine ⟨_, hb.put d _, fun i hi => ?_⟩
  have hsz : d < cs.size := (Array.getElem?_eq_some_iff.1 (hc d hd)).1
  rw [Array.getElem?_setIfInBounds]
  by_cases e : d = i
  · subst e
    rw [if_pos rfl, if_pos hsz, ← hy]
    unfold parB
    rw [if_pos (Nat.lt_succ_self _)]
  · rw [if_neg e, hc i hi]
    unfold parB
    by_cases e2 : i < d
    · rw [if_pos e2, if_pos (by omega)]
    · rw [if_neg e2, if_neg (by omega)]
set_option maxRecDepth 100000 in
set_option maxHeartbeats 1000000 in
theorem rxor_any (g o cap g2 o2 cap2 : Nat) (f n fb : Nat → BitVec 8) (c : BitVec 32) (Ab : Option Addr) (nb capb : Nat) (w : World) (h : Byf w (some ⟨g, o, none⟩) 32 f) (h2 : Byf w (some ⟨g2, o2, none⟩) 12 n) (h3 : Byf w Ab nb fb) (hc1 : 32 ≤ cap) (hc2 : 12 ≤ cap2) (hm1 : cap ≤ maxLen) (hm2 : cap2 ≤ maxLen) (hnb : nb ≤ 1000) (h0 : 0 < nb) :
    Calls Tryd.prog 11 #[.slice (some ⟨g, o, none⟩) 32 cap, .int .u32 (c.toNat : Nat), .slice (some ⟨g2, o2, none⟩) 12 cap2, .slice Ab nb capb] w (XorPost w nb (xorB fb f n c)) := by
  obtain ⟨i0, hi0, hz0, hz1, hz2⟩ := info_parts codes_info
  obtain ⟨gb, ob, rfl⟩ := h3.some h0
  have hnews : ∀ j u, ((List.range nb).map fun i => u8v (fb i))[j]? = some u → w.cell? ((⟨gb, ob, none⟩ : Addr).add j) = some u := by
    intro j u hj
    have hjn : j < nb := by
      have := (List.getElem?_eq_some_iff.1 hj).1
      simpa using this
    have e : (⟨gb, ob, none⟩ : Addr).add j = ⟨gb, ob + j, none⟩ := by
      unfold Addr.add
      split
      · rename_i h; subst h; rfl
      · rfl
    rw [e, h3.at j hjn, ← hj]
    simp [hjn, u8v]
  have hone : ∀ u ∈ (List.range nb).map fun i => u8v (fb i), u.oneCell' = true := by
    intro u hu
    simp only [List.mem_map] at hu
    obtain ⟨i, _, rfl⟩ := hu
    rfl
  have hlen : ((List.range nb).map fun i => u8v (fb i)).length = nb * 1 := by simp
  have h63 : 0 + nb ≤ maxLen := by unfold maxLen; omega
  have hbytes : (0 + nb) * 1 ≤ 140737488355328 := by omega
  have hown := World.ownsRow_nil w w.heap.size 5 1
  have HK := Lib.hid h
  have HN0 := Lib.hid h2
  have HF := Lib.hid h3
  have HNW := Lib.hid hnews
  have HON := Lib.hid hone
  have HLN := Lib.hid hlen
  have HOW := Lib.hid hown
  clear h h2 h3 hnews hone hlen hown
  go_enter Tryd.func11, Tryd.ntmps11
  go_wp2_with (at_builtin; refine wpList_append_lies _ rfl (.const (.slice none 0 0)) (.tmp 23) 22 rfl w.heap.size 5 i0 (.int .u8 0) 1 1 Tryd.underlying22 hi0 hz0 hz1 hz2 rfl (by decide) (.slice none 0 0) 0 [] rfl HOW.out ⟨gb, ob, none⟩ nb capb ((List.range nb).map fun i => u8v (fb i)) rfl HLN.out HNW.out HON.out h0 h63 hbytes (Nat.le_refl _) w.heap.size rfl ?_; intro go co W1 hown1 hg1 _ _)
  simp only [Nat.zero_add, List.nil_append] at hown1
  obtain ⟨cs0, hb0, hge, hcap, hcapm, hsz, hcells⟩ := Blk.of_own hown1
  have hb1 : Below w.heap.size w W1 := (Below.refl _ _).grown hg1 (Nat.le_refl _) (by simp [Value.ownBlock])
  have hstart : RXIn w W1 go nb fb f n c 0 := ⟨⟨cs0, hb0, fun i hi => by rw [hcells i hi]; unfold parB; simp [hi, u8v]⟩, hb1⟩
  have HS0 := Lib.hid hstart
  have HCAPM := Lib.hid hcapm
  have HSZ0 := Lib.hid hb0.lt
  clear hown1 hg1 cs0 hb0 hsz hcells hb1 hstart hcapm
  go_loopw [11] (fun i wr => ∃ m d : Nat, i = .int .i64 ((64 * m : Nat) : Int) ∧ 64 * m < nb + 64 ∧ d ≤ nb ∧ (d = 64 * m ∨ (d = nb ∧ nb ≤ 64 * m)) ∧ RXIn w wr go nb fb f n c d) (fun i _ => nb + 64 - (intOf i).toNat)
  case atStart => exact ⟨0, 0, rfl, by omega, by omega, .inl rfl, HS0.out⟩
  case round =>
    obtain ⟨m, d, rfl, hm, hd, hdm, hz⟩ := hrel
    have HZ := Lib.hid hz
    clear hz HS0
    obtain ⟨at', hat⟩ : ∃ a, 64 * m = a := ⟨_, rfl⟩
    rw [hat] at hm hdm ⊢
    have HAT := Lib.hid hat
    have hdiv : (at' : Int) / 64 = (m : Int) := by omega
    clear hat
    by_cases hlt : at' < nb
    · have q1 : decide ((at' : Int) < (nb : Int)) = true := by simp; omega
      have q0 : (0 : Int) ≤ (at' : Int) := by omega
      obtain rfl : d = at' := by omega
      have hbk := blk_some (rblock_any g o cap g2 o2 cap2 f n (ad c (BitVec.ofNat 32 m)) wr (HK.out.bel HZ.out.b) (HN0.out.bel HZ.out.b) hc1 hc2 hm1 hm2)
      have HBK := Lib.hid hbk
      have cn := ctr_at c m (by omega)
      clear hbk hdm
      go_wp2_with fail
      refine HBK.out.mono ?_
      rintro e w2 ⟨gm, cm, rfl, hge2, l1, l2, hbf, hb2⟩
      have HBF := Lib.hid hbf
      have hgo : go < wr.heap.size := by obtain ⟨cs, hb, _⟩ := HZ.out.o; exact hb.lt
      have HI := Lib.hid (show RXIn w w2 go nb fb f n c d from ⟨by obtain ⟨cs, hb, hc⟩ := HZ.out.o; exact ⟨cs, hb.below hb2 hb.lt, hc⟩, below_then HZ.out.b hb2 HZ.out.b.size⟩)
      have hne : gm ≠ go := by omega
      clear hbf hb2
      go_wp2_with fail
      go_loopw [14] (fun i wr => ∃ k : Nat, i = .int .i64 k ∧ d ≤ k ∧ k ≤ nb ∧ k ≤ d + 64 ∧ RXIn w wr go nb fb f n c k ∧ Byf wr (some ⟨gm, 0, none⟩) 64 (bl (st0 f (ad c (BitVec.ofNat 32 m)) n))) (fun i _ => nb - (intOf i).toNat)
      case atStart => exact ⟨d, rfl, Nat.le_refl _, by omega, by omega, HI.out, HBF.out⟩
      case round =>
        obtain ⟨k, rfl, hk1, hk2, hk3, hz, hmk⟩ := hrel
        have HY := Lib.hid hz
        have HM := Lib.hid hmk
        clear hz hmk HI HBF
        by_cases hin : k < nb ∧ k < d + 64
        · obtain ⟨hin1, hin2⟩ := hin
          have p1 : decide ((k : Int) < (nb : Int)) = true := by simp; omega
          have p2 : decide ((k : Int) < (d : Int) + 64) = true := by simp; omega
          have p0 : (0 : Int) ≤ (k : Int) := by omega
          have p3 : (k : Int) < (nb : Int) := by omega
          obtain ⟨j, hj⟩ : ∃ j, k = d + j := ⟨k - d, by omega⟩
          have e1 : IntKind.i64.wrap ((k : Int) - (d : Int)) = (j : Int) := by rw [IntWalk.i64_in _ (by omega)]; omega
          have e2 : (k : Int) - (d : Int) = (j : Int) := by omega
          have e3 : (0 : Int) ≤ (j : Int) := by omega
          have e4 : (j : Int) < 64 := by omega
          have hkey : xorB fb f n c k = xo8 (fb k) (bl (st0 f (ad c (BitVec.ofNat 32 m)) n) j) := by
            have h := HAT.out
            unfold xorB ksB
            rw [show k / 64 = m by omega, show k % 64 = j by omega]
          have c0 : wr.cell? ⟨go, k, none⟩ = some (.int .u8 ((fb k).toNat : Nat)) := by
            obtain ⟨cs, hb, hc⟩ := HY.out.o
            rw [hb.cell, hc k hin1]
            unfold parB
            rw [if_neg (Nat.lt_irrefl _)]
          have f0 : wr.frozen? ⟨go, k, none⟩ = false := by obtain ⟨cs, hb, hc⟩ := HY.out.o; exact hb.free k
          have c1 : wr.cell? ⟨gm, j, none⟩ = some (.int .u8 ((bl (st0 f (ad c (BitVec.ofNat 32 m)) n) j).toNat : Nat)) := by
            have := HM.out.at j (by omega)
            simpa using this
          have w8 := w_xo8
          have KEY := Lib.hid hkey
          have HJ := Lib.hid hj
          clear hkey hj
          generalize bl (st0 f (ad c (BitVec.ofNat 32 m)) n) j = y at *
          generalize hx : fb k = x at *
          have HXX := Lib.hid hx
          clear hx
          go_wp2_with fail
          go_region
          all_goals
            go_wp2_with fail
            go_roundw
            case rel =>
              have hst := rx_step hin1 HY.out.o KEY.out
              have hbl := HY.out.b.setCell (p := ⟨go, k, none⟩) hge (.int .u8 ((xo8 x y).toNat : Nat))
              have hmk := HM.out.grown (only_put (only_refl wr (some go)) k (.int .u8 ((xo8 x y).toNat : Nat))) (fun _ g' o' s' e e2 => by injection e with e; injection e with e1; injection e2 with e2; omega)
              exact ⟨k + 1, by go_num, by omega, by omega, by omega, ⟨hst, ⟨hbl.os, hbl.tape, hbl.output, hbl.size, hbl.block⟩⟩, hmk⟩
            case measure => simp [intOf]; omega
        · have hk4 : (k = nb ∧ k ≤ d + 64) ∨ (k < nb ∧ k = d + 64) := by omega
          have hend : ∃ m' d', d + 64 = 64 * m' ∧ 64 * m' < nb + 64 ∧ d' ≤ nb ∧ (d' = 64 * m' ∨ (d' = nb ∧ nb ≤ 64 * m')) ∧ k = d' := ⟨m + 1, k, by have := HAT.out; omega, by omega, hk2, by have := HAT.out; omega, rfl⟩
          have HE := Lib.hid hend
          clear hend
          rcases hk4 with ⟨rfl, hk5⟩ | ⟨hk5, rfl⟩
          · have p1 : decide ((k : Int) < (k : Int)) = false := by simp
            clear hin hk1 hk2 hk3
            go_wp2_with fail
            go_roundw
            case rel =>
              obtain ⟨m', d', h1, h2, h3, h4, rfl⟩ := HE.out
              exact ⟨m', _, by rw [← h1]; go_num, h2, h3, h4, HY.out⟩
            case measure => simp [intOf]; omega
          · have p1 : decide (((d + 64 : Nat) : Int) < (nb : Int)) = true := by simp; omega
            have p2 : decide (((d + 64 : Nat) : Int) < (d : Int) + 64) = false := by simp
            clear hin hk1 hk2 hk3
            go_wp2_with fail
            go_roundw
            case rel =>
              obtain ⟨m', d', h1, h2, h3, h4, rfl⟩ := HE.out
              exact ⟨m', _, by rw [← h1]; go_num, h2, h3, h4, HY.out⟩
            case measure => simp [intOf]; omega
    · have q1 : decide ((at' : Int) < (nb : Int)) = false := by simp; omega
      obtain rfl : d = nb := by omega
      go_wp2_with fail
      go_ret2
      obtain ⟨cs, hb, hc⟩ := HZ.out.o
      refine ⟨_, co, rfl, hcap, HCAPM.out, fun i hi => ⟨go, 0, rfl, ?_⟩, HZ.out.b⟩
      rw [Nat.zero_add, hb.cell, hc i hi]
      unfold parB
      rw [if_pos hi]
      rfl
end Go.Proofs.YtoojiofgmamjeaaDoor
