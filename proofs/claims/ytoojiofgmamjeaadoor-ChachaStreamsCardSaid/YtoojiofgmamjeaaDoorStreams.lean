/-
  The walk of the law ChachaStreams: zeros are encrypted as the blocks of the counters, one after the other.
  Conditions: the table of the quarters lies as its initialiser lays it.
-/
import Derived.Test.YtoojiofgmamjeaaDoorTurns
import Derived.Laws.MakeOwn
import Derived.Laws.Entries
namespace Go.Proofs.YtoojiofgmamjeaaDoor
open Go.RowKit
set_option linter.unusedVariables false
/-- The first bytes of the stream. -/
def ksL (f n : Nat → BitVec 8) (c : BitVec 32) (k : Nat) : List Value := (List.range k).map fun i => .int .u8 ((ksB f n c i).toNat : Nat)
theorem ksL_len (f n : Nat → BitVec 8) (c : BitVec 32) (k : Nat) : (ksL f n c k).length = k := by unfold ksL; simp
theorem ksL_block (f n : Nat → BitVec 8) (c : BitVec 32) (m : Nat) : ksL f n c (64 * m + 64) = ksL f n c (64 * m) ++ (List.range 64).map fun k => .int .u8 ((bl (st0 f (ad c (BitVec.ofNat 32 m)) n) k).toNat : Nat) := by
  unfold ksL
  rw [List.range_add, List.map_append, List.map_map]
  refine congrArg (fun l => _ ++ l) ?_
  apply List.map_congr_left
  intro k hk
  rw [List.mem_range] at hk
  show Value.int .u8 _ = _
  unfold ksB
  rw [show (64 * m + k) / 64 = m by omega, show (64 * m + k) % 64 = k by omega]
theorem run_make_bytes (n : Nat) (hn : n ≤ 256) (w : World) : (Instr.makeSlice 22 (.int .i64 (n : Int)) (.int .i64 (n : Int))).run Tryd.prog w = .ok (.slice (some ⟨w.heap.size, 0, none⟩) n n) (w.alloc (.cells (madeCells #[Value.int .u8 0] n) 5)) := by
  obtain ⟨i0, hi0, hz0, hz1, hz2⟩ := info_parts codes_info
  have hb : (i0.bytes : Int) * (n : Int) ≤ 281474976710656 := by rw [hz2]; omega
  have hr := run_make (P := Tryd.prog) w 22 5 i0 (.int .u8 0) Tryd.underlying22 hi0 hz0 .i64 .i64 n n (by omega) (by omega) hb (by omega)
  simp only [Int.toNat_natCast, hz1, Nat.mul_one] at hr
  exact hr
theorem made_byf (n : Nat) (w : World) : Byf (w.alloc (.cells (madeCells #[Value.int .u8 0] n) 5)) (some ⟨w.heap.size, 0, none⟩) n (fun _ => 0#8) := by
  intro k hk
  refine ⟨w.heap.size, 0, rfl, ?_⟩
  rw [cell_of_row _ w.heap.size (0 + k) _ _ _ (heap_alloc_new w _)]
  rw [← Array.getElem?_toList, toList_madeCells_one, List.getElem?_replicate, if_pos (by omega)]
  rfl
theorem xo8_zero (x : BitVec 8) : xo8 0#8 x = x := by unfold xo8; exact BitVec.zero_xor
theorem own_byf {w : World} {base k c : Nat} {A : Option Addr} {f n : Nat → BitVec 8} {cc : BitVec 32} (ho : w.ownsRow base 5 1 (.slice A k c) k (ksL f n cc k)) : Byf w A k (ksB f n cc) ∧ k ≤ c ∧ c ≤ maxLen := by
  rcases ho.2 with ⟨h0, h1⟩ | ⟨g, cap, cur, hv, hbase, hh, hn, hmx, hs, ht⟩
  · injection h0 with e1 e2 e3
    subst e1; subst e3
    exact ⟨fun k hk => absurd hk (by omega), by omega, Nat.zero_le _⟩
  · injection hv with e1 e2 e3
    subst e1; subst e3
    refine ⟨fun i hi => ⟨g, 0, rfl, ?_⟩, hn, hmx⟩
    rw [Nat.zero_add, ho.cellAt i (by omega)]
    unfold ksL
    simp [hi, u8v]
theorem news_byf {w : World} {g : Nat} {b : Nat → BitVec 8} (h : Byf w (some ⟨g, 0, none⟩) 64 b) : ∀ j u, ((List.range 64).map fun k => Value.int .u8 ((b k).toNat : Nat))[j]? = some u → w.cell? ((⟨g, 0, none⟩ : Addr).add j) = some u := by
  intro j u hj
  have hjn : j < 64 := by
    have := (List.getElem?_eq_some_iff.1 hj).1
    simpa using this
  have e : (⟨g, 0, none⟩ : Addr).add j = ⟨g, 0 + j, none⟩ := by
    unfold Addr.add
    split
    · rename_i h; subst h; rfl
    · rfl
  rw [e, h.at j hjn, ← hj]
  simp [hjn]
/-- What a round's head finds. -/
structure SIn (w0 w2 wr : World) (f n : Nat → BitVec 8) (c : BitVec 32) (v : Value) (m : Nat) : Prop where
  o : wr.ownsRow w2.heap.size 5 1 v (64 * m) (ksL f n c (64 * m))
  b : Below w2.heap.size w2 wr
namespace chachaStreams
set_option maxRecDepth 100000 in
set_option maxHeartbeats 1000000 in
theorem chachaStreams_walk (w : World) (ht : Tab w) (A0 : Option Addr) (n0 cap0 : Nat) (h0 : Byts w A0 n0) (l0 : n0 ≤ cap0 ∧ cap0 ≤ maxLen) (a1 : Int) (h1 : 0 ≤ a1 ∧ a1 ≤ 4294967295) (a2 : Int) (h2 : 0 ≤ a2 ∧ a2 ≤ 255) :
    Calls Tryd.prog 5 #[.slice A0 n0 cap0, .int .u32 a1, .int .u8 a2] w fun e w' => e = .returned (.bool true) ∧ Below w.heap.size w w' := by
  obtain ⟨c, rfl⟩ : ∃ c : BitVec 32, a1 = (c.toNat : Nat) := ⟨BitVec.ofNat 32 a1.toNat, by rw [BitVec.toNat_ofNat]; omega⟩
  obtain ⟨nn, rfl⟩ := Int.eq_ofNat_of_zero_le h2.1
  have hnn : nn ≤ 255 := by omega
  obtain ⟨i0, hi0, hz0, hz1, hz2⟩ := info_parts codes_info
  have HT := Lib.hid ht
  have HK := Lib.hid (key_any A0 n0 cap0 w h0 l0.1 l0.2)
  have hmk := run_make_bytes nn (by omega)
  clear h0 ht h1 h2 l0
  go_enter Tryd.func5, Tryd.ntmps5
  go_wp2_with fail
  refine (awake_any _).mono ?_
  rintro e w' ⟨rfl, rfl⟩
  go_wp2_with fail
  refine HK.out.mono ?_
  rintro e w1 ⟨g, o, c1, g2, o2, c2, f, n, rfl, a1, a2, a3, a4, hf, hn, hb1⟩
  have hb1' : Below w.heap.size w (w1.alloc (.cells (madeCells #[Value.int .u8 0] nn) 5)) := hb1.alloc hb1.size _
  have HX := Lib.hid (xor_any g o c1 g2 o2 c2 f n (fun _ => 0#8) c (some ⟨w1.heap.size, 0, none⟩) nn nn _ (HT.out.bel hb1') (hf.alloc _) (hn.alloc _) (made_byf nn w1) a1 a3 a2 a4 (by omega))
  have HF := Lib.hid (hf.alloc (.cells (madeCells #[Value.int .u8 0] nn) 5))
  have HN := Lib.hid (hn.alloc (.cells (madeCells #[Value.int .u8 0] nn) 5))
  have B1 := Lib.hid hb1'
  clear hf hn hb1 hb1' HK
  go_wp2_with fail
  refine HX.out.mono ?_
  rintro e w2 ⟨As, cs, rfl, ls, ms, hs, hb2⟩
  have hs' : Byf w2 As nn (ksB f n c) := fun k hk => by
    obtain ⟨g, o, e, h⟩ := hs k hk
    exact ⟨g, o, e, by rw [h]; unfold xorB; rw [xo8_zero]⟩
  have HS := Lib.hid hs'
  have B2 := Lib.hid (below_then B1.out hb2 B1.out.size)
  have HF2 := Lib.hid (HF.out.bel hb2)
  have HN2 := Lib.hid (HN.out.bel hb2)
  clear hs hs' hb2 HX HF HN hmk
  go_wp2_with fail
  go_loopw [11, 12] (fun v i wr => ∃ m : Nat, i = .int .i64 m ∧ 64 * m < nn + 64 ∧ SIn w w2 wr f n c v m) (fun _ i _ => nn - (intOf i).toNat)
  case atStart => exact ⟨0, rfl, by omega, World.ownsRow_nil _ _ _ _, Below.refl _ _⟩
  case round =>
    obtain ⟨m, rfl, hm, hz⟩ := hrel
    obtain ⟨A, cA, rfl⟩ : ∃ A c, u11 = .slice A (64 * m) c := own_form hz.o
    have HZ := Lib.hid hz
    clear hz
    obtain ⟨k, hk⟩ : ∃ k, 64 * m = k := ⟨_, rfl⟩
    rw [hk] at hm ⊢
    have KK := Lib.hid hk
    clear hk
    by_cases hlt : k < nn
    · have q1 : decide ((k : Int) < (nn : Int)) = true := by simp; omega
      have q2 : (0 : Int) ≤ (m : Int) := by omega
      have q3 : (m : Int) < 256 := by have := KK.out; omega
      have cn := ctr_at c m (by have := KK.out; omega)
      have hbk := blk_some (block_any g o c1 g2 o2 c2 f n (ad c (BitVec.ofNat 32 m)) wr (HT.out.bel (below_then B2.out HZ.out.b B2.out.size)) (HF2.out.bel HZ.out.b) (HN2.out.bel HZ.out.b) a1 a3 a2 a4)
      have HBK := Lib.hid hbk
      clear hbk
      go_wp2_with fail
      refine HBK.out.mono ?_
      rintro e w3 ⟨gm, cm, rfl, hge, l1, l2, hbf, hb3⟩
      have hown : w3.ownsRow w2.heap.size 5 1 (.slice A k cA) k (ksL f n c k) := by
        have := HZ.out.o
        rw [KK.out] at this
        exact own_same this (fun g _ hgl => hb3.block g hgl)
      have hlen : ((List.range 64).map fun j => Value.int .u8 ((bl (st0 f (ad c (BitVec.ofNat 32 m)) n) j).toNat : Nat)).length = 64 * 1 := by simp
      have hone : ∀ u ∈ ((List.range 64).map fun j => Value.int .u8 ((bl (st0 f (ad c (BitVec.ofNat 32 m)) n) j).toNat : Nat)), u.oneCell' = true := by
        intro u hu
        simp only [List.mem_map] at hu
        obtain ⟨i, _, rfl⟩ := hu
        rfl
      have h63 : k + 64 ≤ maxLen := by unfold maxLen; omega
      have hbytes : (k + 64) * 1 ≤ 140737488355328 := by omega
      have hbase : w2.heap.size ≤ w3.heap.size := Nat.le_trans HZ.out.b.size hb3.size
      have HO1 := Lib.hid hown
      have HNW := Lib.hid (news_byf hbf)
      have HL1 := Lib.hid hlen
      have H1 := Lib.hid hone
      have B3 := Lib.hid (below_then HZ.out.b hb3 HZ.out.b.size)
      clear hown hlen hone hbf hb3
      go_wp2_with (at_builtin; refine wpList_append_lies _ rfl (.tmp 56) (.tmp 57) 22 rfl w2.heap.size 5 i0 (.int .u8 0) 1 1 Tryd.underlying22 hi0 hz0 hz1 hz2 rfl (by decide) (.slice A k cA) k (ksL f n c k) rfl HO1.out ⟨gm, 0, none⟩ 64 cm ((List.range 64).map fun j => Value.int .u8 ((bl (st0 f (ad c (BitVec.ofNat 32 m)) n) j).toNat : Nat)) rfl HL1.out HNW.out H1.out (by decide) h63 hbytes hbase w3.heap.size rfl ?_; intro g9 c9 w9 hown9 hg9 _ _)
      go_roundw
      case rel =>
        have hge9 := own_ge HO1.out
        refine ⟨m + 1, by go_num, by have := KK.out; omega, ?_, ?_⟩
        · have e : 64 * (m + 1) = 64 * m + 64 := by omega
          rw [e, ksL_block, KK.out]
          exact hown9
        · exact B3.out.grown hg9 hbase hge9
      case measure => have h64 := KK.out; simp [intOf]; omega
    · have q1 : decide ((k : Int) < (nn : Int)) = false := by simp; omega
      have ho := HZ.out.o
      rw [KK.out] at ho
      obtain ⟨hby, hl1, hl2⟩ := own_byf ho
      have hcA : cA ≤ 9223372036854775807 := by unfold maxLen at hl2; omega
      have q4 : (nn : Int) ≤ (cA : Int) := by omega
      have E := Lib.hid (equal_yes As A nn cs cA (ksB f n c) wr (HS.out.bel HZ.out.b) (fun j hj => hby j (by omega)) ls (by omega) ms hl2)
      clear ho hby
      go_wp2_with (go_at_call 12; refine E.out.mono ?_; rintro e w8 ⟨rfl, d8, rfl⟩)
      go_ret
      exact ⟨rfl, below_drewN (below_then B2.out HZ.out.b B2.out.size) _⟩
end chachaStreams
end Go.Proofs.YtoojiofgmamjeaaDoor
