/-
  The contract of the reference's Block.
  Conditions: the key and the nonce are lists of bytes.
-/
import Derived.Test.YtoojiofgmamjeaaDoorBlk
import Derived.Test.YtoojiofgmamjeaaDoorMix
namespace Go.Proofs.YtoojiofgmamjeaaDoor
open Go.RowKit
set_option linter.unusedVariables false
attribute [local go_sem ↓] Go.wp_at_zero Go.wp_at_succ
theorem stP_c (f : Nat → BitVec 8) (n : Nat → BitVec 8) (c : BitVec 32) (k m : Nat) : stA (upd (stP f 0#32 n k m) 12 c) = stA (stP f c n k m) := by
  apply stA_ext
  intro i hi
  unfold upd stP
  by_cases e : i = 12
  · subst e
    rfl
  · rw [if_neg e]
    simp only [if_neg e]
theorem mix_es (s : St) (es : Array Value) (hes : es = stA s) (i j k l : Nat) (a b c d : Int) (ha : a = (i : Nat)) (hb : b = (j : Nat)) (hc : c = (k : Nat)) (hd : d = (l : Nat)) (hi : i < 16) (hj : j < 16) (hk : k < 16) (hl : l < 16) (hij : i ≠ j) (hik : i ≠ k) (hil : i ≠ l) (hjk : j ≠ k) (hjl : j ≠ l) (hkl : k ≠ l) (w : World) :
    Calls Tryd.prog 18 #[.agg es, .int .i64 a, .int .i64 b, .int .i64 c, .int .i64 d] w fun e w' => ∃ gs, e = .returned (.agg gs) ∧ gs = stA (mix4 s i j k l) ∧ Below w.heap.size w w' := by
  subst hes; subst ha; subst hb; subst hc; subst hd
  exact (mix_any s i j k l hi hj hk hl hij hik hil hjk hjl hkl w).mono fun e w' ⟨he, hb⟩ => ⟨_, he, rfl, hb⟩
/-- What a round's head finds, while the words at the beginning are laid. -/
structure RIn (w wr : World) (st : St) : Prop where
  s : Blk wr w.heap.size 41 (stA st)
  b : Below w.heap.size w wr
/-- .. while the rounds are made (V: the world in which the copy was made). -/
structure MIn (w V wr : World) (cs : Array Value) (st : St) : Prop where
  f : Blk wr w.heap.size 41 cs
  s : Blk wr V.heap.size 41 (stA st)
  b : Below w.heap.size w wr
/-- .. while the bytes are laid. -/
structure YIn (w V W3 wr : World) (cs es : Array Value) (s : St) (v : Value) (j : Nat) : Prop where
  f : Blk wr w.heap.size 41 cs
  g : Blk wr V.heap.size 41 es
  o : wr.ownsRow W3.heap.size 5 1 v (4 * j) (outL s (4 * j))
  b : Below W3.heap.size W3 wr
theorem dbl_lo (s : St) (k : Nat) (hk : k < 4) : mix4 (dbl s k) k (4 + k) (8 + k) (12 + k) = dbl s (k + 1) := by
  have h : ∀ c, qj k c = 4 * c + k := fun c => by unfold qj; rw [if_pos hk]; omega
  show _ = mix4 (dbl s k) (qj k 0) (qj k 1) (qj k 2) (qj k 3)
  rw [h, h, h, h]
  simp
theorem dbl_hi (s : St) (k : Nat) (hk : k < 4) : mix4 (dbl s (4 + k)) k (4 + (k + 1) % 4) (8 + (k + 2) % 4) (12 + (k + 3) % 4) = dbl s (4 + (k + 1)) := by
  have h : ∀ c, qj (4 + k) c = 4 * c + (k + c) % 4 := fun c => by unfold qj; rw [if_neg (by omega)]; congr 2; omega
  show _ = mix4 (dbl s (4 + k)) (qj (4 + k) 0) (qj (4 + k) 1) (qj (4 + k) 2) (qj (4 + k) 3)
  rw [h, h, h, h]
  have e : (k + 0) % 4 = k := by omega
  simp only [e, Nat.mul_zero, Nat.zero_add, Nat.mul_one]
theorem wrap_ad (a b : BitVec 32) : IntKind.u32.wrap ((a.toNat : Int) + (b.toNat : Int)) = ((ad a b).toNat : Int) := by
  rw [← w_ad]; rfl
set_option maxRecDepth 100000 in
set_option maxHeartbeats 2000000 in
theorem rblock_any (g o cap g2 o2 cap2 : Nat) (f n : Nat → BitVec 8) (c : BitVec 32) (w : World) (h : Byf w (some ⟨g, o, none⟩) 32 f) (h2 : Byf w (some ⟨g2, o2, none⟩) 12 n) (hc1 : 32 ≤ cap) (hc2 : 12 ≤ cap2) (hm1 : cap ≤ maxLen) (hm2 : cap2 ≤ maxLen) :
    Calls Tryd.prog 9 #[.slice (some ⟨g, o, none⟩) 32 cap, .int .u32 (c.toNat : Nat), .slice (some ⟨g2, o2, none⟩) 12 cap2] w (BlkPost w (bl (st0 f c n))) := by
  obtain ⟨i0, hi0, hz0, hz1, hz2⟩ := info_parts codes_info
  have H1 := Lib.hid h
  have H2 := Lib.hid h2
  clear h h2
  have z1 : Blk (w.alloc (Obj.cells #[.int .u32 1634760805, .int .u32 857760878, .int .u32 2036477234, .int .u32 1797285236, .int .u32 0, .int .u32 0, .int .u32 0, .int .u32 0, .int .u32 0, .int .u32 0, .int .u32 0, .int .u32 0, .int .u32 0, .int .u32 0, .int .u32 0, .int .u32 0] 41)) w.heap.size 41 (stA (stP f 0#32 n 0 0)) := by rw [← stA_first]; exact heap_alloc_new w _
  have z2 : Below w.heap.size w (w.alloc (Obj.cells #[.int .u32 1634760805, .int .u32 857760878, .int .u32 2036477234, .int .u32 1797285236, .int .u32 0, .int .u32 0, .int .u32 0, .int .u32 0, .int .u32 0, .int .u32 0, .int .u32 0, .int .u32 0, .int .u32 0, .int .u32 0, .int .u32 0, .int .u32 0] 41)) := (Below.refl _ _).alloc (Nat.le_refl _) _
  have Z := Lib.hid (RIn.mk z1 z2)
  clear z1 z2
  go_enter Tryd.func9, Tryd.ntmps9
  go_wp2_with fail
  generalize w.alloc (Obj.cells #[.int .u32 1634760805, .int .u32 857760878, .int .u32 2036477234, .int .u32 1797285236, .int .u32 0, .int .u32 0, .int .u32 0, .int .u32 0, .int .u32 0, .int .u32 0, .int .u32 0, .int .u32 0, .int .u32 0, .int .u32 0, .int .u32 0, .int .u32 0] 41) = W0 at *
  go_loopw [9] (fun i wr => ∃ k : Nat, k ≤ 8 ∧ i = .int .i64 k ∧ RIn w wr (stP f 0#32 n k 0)) (fun i _ => 8 - (intOf i).toNat)
  case atStart => exact ⟨0, by omega, rfl, Z.out⟩
  case round =>
    obtain ⟨k, hk, rfl, hs⟩ := hrel
    have HS := Lib.hid hs
    clear hs Z
    by_cases hlt : k < 8
    · have b1 := H1.out.bel HS.out.b
      go_wp2_with fail
      refine (rword_any _ _ _ _ k f _ b1 (by omega) (by omega) (by unfold maxLen; omega)).mono ?_
      rintro e w2 ⟨rfl, d, rfl⟩
      have s1 := HS.out.s
      have q0 : (4 : Int) + (k : Int) < 16 := by omega
      have q1 : (0 : Int) ≤ 4 + (k : Int) := by omega
      have q2 : (4 + (k : Int)).toNat = 4 + k := by omega
      have y1 : wr.cell? ⟨w.heap.size, 4 + k, none⟩ = some (u32v (stP f 0#32 n k 0 (4 + k))) := (s1.cell _).trans (stA_get _ _ (by omega))
      have y2 := s1.free (4 + k)
      clear s1
      go_wp2_with fail
      go_roundw
      case rel =>
        refine ⟨k + 1, by omega, by go_num, ?_, ?_⟩
        · have := (HS.out.s.drewN d).put (4 + k) (u32v (wd f k))
          rw [stA_set _ _ (by omega), stP_key _ _ _ _ _ hlt] at this
          exact this
        · exact (below_drewN HS.out.b d).setCell (Nat.le_refl _) _
      case measure => simp [intOf]; omega
    · obtain rfl : k = 8 := by omega
      have y1 : wr.cell? ⟨w.heap.size, 12, none⟩ = some (u32v (stP f 0#32 n 8 0 12)) := (HS.out.s.cell _).trans (stA_get _ _ (by omega))
      have y2 := HS.out.s.free 12
      have hs2 := HS.out.s.put 12 (u32v c)
      rw [stA_set _ _ (by omega), stP_c] at hs2
      have HA := Lib.hid (RIn.mk hs2 (HS.out.b.setCell (p := ⟨w.heap.size, 12, none⟩) (Nat.le_refl _) (u32v c)))
      clear HS H1 hlt hs2
      rw [show ((8 : Nat) : Int) = 8 from rfl]
      go_wp2_with fail
      go_loopw [10] (fun i wr => ∃ k : Nat, k ≤ 3 ∧ i = .int .i64 k ∧ RIn w wr (stP f c n 8 k)) (fun i _ => 3 - (intOf i).toNat)
      case atStart => exact ⟨0, by omega, rfl, HA.out⟩
      case round =>
        obtain ⟨k, hk, rfl, hs⟩ := hrel
        have HS := Lib.hid hs
        clear hs HA y1 y2
        by_cases hlt : k < 3
        · have b1 := H2.out.bel HS.out.b
          go_wp2_with fail
          refine (rword_any _ _ _ _ k n _ b1 (by omega) (by omega) (by unfold maxLen; omega)).mono ?_
          rintro e w2 ⟨rfl, d, rfl⟩
          have s1 := HS.out.s
          have q0 : (13 : Int) + (k : Int) < 16 := by omega
          have q1 : (0 : Int) ≤ 13 + (k : Int) := by omega
          have q2 : (13 + (k : Int)).toNat = 13 + k := by omega
          have y1 : wr.cell? ⟨w.heap.size, 13 + k, none⟩ = some (u32v (stP f c n 8 k (13 + k))) := (s1.cell _).trans (stA_get _ _ (by omega))
          have y2 := s1.free (13 + k)
          clear s1
          go_wp2_with fail
          go_roundw
          case rel =>
            refine ⟨k + 1, by omega, by go_num, ?_, ?_⟩
            · have := (HS.out.s.drewN d).put (13 + k) (u32v (wd n k))
              rw [stA_set _ _ (by omega), stP_non _ _ _ _ _ hlt] at this
              exact this
            · exact (below_drewN HS.out.b d).setCell (Nat.le_refl _) _
          case measure => simp [intOf]; omega
        · obtain rfl : k = 3 := by omega
          have sA := HS.out.s
          rw [stP_all] at sA
          generalize st0 f c n = s at *
          have hB := HS.out.b
          have E : Hid (∃ cs, Blk wr w.heap.size 41 cs ∧ cs = stA s) := ⟨_, sA, rfl⟩
          have HB := Lib.hid hB
          clear HS hlt sA H2 hB
          obtain ⟨cs, hA, hcs⟩ := E.out
          have hi : (Tryd.prog.info? 41).map (·.size) = some cs.size := by rw [hcs]; exact st_size
          have h1 : cs.all (·.oneCell') = true := by rw [hcs]; exact stA_one _
          have h16 : cs.size = 16 := by rw [hcs]; exact stA_size _
          have HA := Lib.hid hA
          have HI := Lib.hid hi
          have HO := Lib.hid h1
          have H16 := Lib.hid h16
          have HC := Lib.hid hcs
          have hsz : wr.heap.size = wr.heap.size := rfl
          clear E hA hi h1 h16 hcs hsz
          rw [show ((3 : Nat) : Int) = 3 from rfl]
          go_wp2_with (first | ((with_reducible refine wpList_load_row (o := ⟨some 49, .load 41 (.tmp 8), _, _, _, _⟩) ?_ 41 (.tmp 8) ?_ (w.heap.size) ?_ 41 cs (0, 0) (.array 16 23) ?_ ?_ ?_ ?_ ?_); exact rfl; exact rfl; exact rfl; exact HA.out; exact Tryd.underlying41; exact rfl; exact HI.out) | ((with_reducible refine wpList_store_row (o := ⟨none, .store 41 (.tmp 11) (.tmp 49), _, _, _, _⟩) ?_ 41 (.tmp 11) (.tmp 49) ?_ (wr.heap.size) cs ?_ ?_ 41 #[.int .u32 0, .int .u32 0, .int .u32 0, .int .u32 0, .int .u32 0, .int .u32 0, .int .u32 0, .int .u32 0, .int .u32 0, .int .u32 0, .int .u32 0, .int .u32 0, .int .u32 0, .int .u32 0, .int .u32 0, .int .u32 0] ?_ ?_ ?_ ?_ ?_); exact rfl; exact rfl; exact rfl; exact rfl; exact heap_alloc_new wr _; exact HI.out; exact H16.out.symm; exact HO.out; rw [setRow_alloc_at _ _ _ _ _ rfl]))
          obtain ⟨V, rfl⟩ : ∃ V : World, V = wr := ⟨_, rfl⟩
          have hwV : w.heap.size < V.heap.size := HA.out.lt
          have hm1 : Blk (V.alloc (Obj.cells cs 41)) V.heap.size 41 (stA (rnd s 0)) := by rw [show stA (rnd s 0) = cs from HC.out.symm]; exact heap_alloc_new V _
          have HM0 := Lib.hid (MIn.mk (V := V) (HA.out.alloc (Obj.cells cs 41)) hm1 (HB.out.alloc HB.out.size _))
          clear hm1 HB
          generalize V.alloc (Obj.cells cs 41) = W1 at *
          go_loopw [12] (fun i wr => ∃ m : Nat, m ≤ 10 ∧ i = .int .i64 m ∧ MIn w V wr cs (rnd s m)) (fun i _ => 10 - (intOf i).toNat)
          case atStart => exact ⟨0, by omega, rfl, HM0.out⟩
          case round =>
            obtain ⟨m, hm, rfl, hz⟩ := hrel
            have HM := Lib.hid hz
            clear hz HM0
            by_cases hlt : m < 10
            · obtain ⟨wo, rfl⟩ : ∃ wo : World, wo = wr := ⟨_, rfl⟩
              have dm : decide ((m : Int) < 10) = true := by simp; omega
              go_wp2_with fail
              go_loopw [13] (fun i wr => ∃ k : Nat, k ≤ 4 ∧ i = .int .i64 k ∧ MIn w V wr cs (dbl (rnd s m) k)) (fun i _ => 4 - (intOf i).toNat)
              case atStart => exact ⟨0, by omega, rfl, HM.out⟩
              case round =>
                obtain ⟨k, hk, rfl, hm⟩ := hrel
                have HK := Lib.hid hm
                clear hm HM
                by_cases hlk : k < 4
                · have E2 : Hid (∃ es, Blk wr V.heap.size 41 es ∧ es = stA (dbl (rnd s m) k)) := ⟨_, HK.out.s, rfl⟩
                  obtain ⟨es, hA, hes⟩ := E2.out
                  have zi : (Tryd.prog.info? 41).map (·.size) = some es.size := by rw [hes]; exact st_size
                  have z16 : es.size = 16 := by rw [hes]; exact stA_size _
                  have JA := Lib.hid hA
                  have JI := Lib.hid zi
                  have J16 := Lib.hid z16
                  have JC := Lib.hid hes
                  have dk : decide ((k : Int) < 4) = true := by simp; omega
                  clear E2 hA zi z16 hes
                  go_wp2_with ((with_reducible refine wpList_load_row (o := ⟨some 58, .load 41 (.tmp 11), _, _, _, _⟩) ?_ 41 (.tmp 11) ?_ (V.heap.size) ?_ 41 es (0, 0) (.array 16 23) ?_ ?_ ?_ ?_ ?_); exact rfl; exact rfl; exact rfl; exact JA.out; exact Tryd.underlying41; exact rfl; exact JI.out)
                  refine (mix_es (dbl (rnd s m) k) es JC.out k (4 + k) (8 + k) (12 + k) _ _ _ _ (by omega) (by omega) (by omega) (by omega) (by omega) (by omega) (by omega) (by omega) (by omega) (by omega) (by omega) (by omega) (by omega) (by omega) _).mono ?_
                  rintro e w2 ⟨gs, rfl, hgs, hb⟩
                  have yi : (Tryd.prog.info? 41).map (·.size) = some gs.size := by rw [hgs]; exact st_size
                  have y1 : gs.all (·.oneCell') = true := by rw [hgs]; exact stA_one _
                  have y16 : es.size = gs.size := by rw [J16.out, hgs, stA_size]
                  have KI := Lib.hid yi
                  have KO := Lib.hid y1
                  have K16 := Lib.hid y16
                  have KB := Lib.hid hb
                  have KC := Lib.hid hgs
                  have KA := Lib.hid (JA.out.below hb JA.out.lt)
                  have KF := Lib.hid (HK.out.f.below hb HK.out.f.lt)
                  clear yi y1 y16 hb hgs
                  go_wp2_with ((with_reducible refine wpList_store_row (o := ⟨none, .store 41 (.tmp 11) (.tmp 66), _, _, _, _⟩) ?_ 41 (.tmp 11) (.tmp 66) ?_ (V.heap.size) gs ?_ ?_ 41 es ?_ ?_ ?_ ?_ ?_); exact rfl; exact rfl; exact rfl; exact rfl; exact KA.out; exact KI.out; exact K16.out; exact KO.out)
                  go_roundw
                  case rel =>
                    refine ⟨k + 1, by omega, by go_num, ?_, ?_, ?_⟩
                    · exact (setRow_other _ _ _ _ (by omega)).trans KF.out
                    · have hz := setRow_heap _ V.heap.size _ gs 41 (0, 0) KA.out
                      rw [← dbl_lo (rnd s m) k hlk, ← KC.out]
                      exact hz
                    · exact below_setRow (below_then HK.out.b KB.out HK.out.b.size) (by omega) gs
                  case measure => simp [intOf]; omega
                · obtain rfl : k = 4 := by omega
                  have HM := Lib.hid HK.out
                  clear HK hlk hk
                  rw [show ((4 : Nat) : Int) = 4 from rfl]
                  go_wp2_with fail
                  obtain ⟨wp, rfl⟩ : ∃ wp : World, wp = wr := ⟨_, rfl⟩
                  go_loopw [14] (fun i wr => ∃ k : Nat, k ≤ 4 ∧ i = .int .i64 k ∧ MIn w V wr cs (dbl (rnd s m) (4 + k))) (fun i _ => 4 - (intOf i).toNat)
                  case atStart => exact ⟨0, by omega, rfl, HM.out⟩
                  case round =>
                    obtain ⟨k, hk, rfl, hm⟩ := hrel
                    have HK := Lib.hid hm
                    clear hm HM
                    by_cases hlk : k < 4
                    · have E2 : Hid (∃ es, Blk wr V.heap.size 41 es ∧ es = stA (dbl (rnd s m) (4 + k))) := ⟨_, HK.out.s, rfl⟩
                      obtain ⟨es, hA, hes⟩ := E2.out
                      have zi : (Tryd.prog.info? 41).map (·.size) = some es.size := by rw [hes]; exact st_size
                      have z16 : es.size = 16 := by rw [hes]; exact stA_size _
                      have JA := Lib.hid hA
                      have JI := Lib.hid zi
                      have J16 := Lib.hid z16
                      have JC := Lib.hid hes
                      have dk : decide ((k : Int) < 4) = true := by simp; omega
                      clear E2 hA zi z16 hes
                      go_wp2_with ((with_reducible refine wpList_load_row (o := ⟨some 71, .load 41 (.tmp 11), _, _, _, _⟩) ?_ 41 (.tmp 11) ?_ (V.heap.size) ?_ 41 es (0, 0) (.array 16 23) ?_ ?_ ?_ ?_ ?_); exact rfl; exact rfl; exact rfl; exact JA.out; exact Tryd.underlying41; exact rfl; exact JI.out)
                      refine (mix_es (dbl (rnd s m) (4 + k)) es JC.out k (4 + (k + 1) % 4) (8 + (k + 2) % 4) (12 + (k + 3) % 4) _ _ _ _ (by omega) (by omega) (by omega) (by omega) (by omega) (by omega) (by omega) (by omega) (by omega) (by omega) (by omega) (by omega) (by omega) (by omega) _).mono ?_
                      rintro e w2 ⟨gs, rfl, hgs, hb⟩
                      have yi : (Tryd.prog.info? 41).map (·.size) = some gs.size := by rw [hgs]; exact st_size
                      have y1 : gs.all (·.oneCell') = true := by rw [hgs]; exact stA_one _
                      have y16 : es.size = gs.size := by rw [J16.out, hgs, stA_size]
                      have KI := Lib.hid yi
                      have KO := Lib.hid y1
                      have K16 := Lib.hid y16
                      have KB := Lib.hid hb
                      have KC := Lib.hid hgs
                      have KA := Lib.hid (JA.out.below hb JA.out.lt)
                      have KF := Lib.hid (HK.out.f.below hb HK.out.f.lt)
                      clear yi y1 y16 hb hgs
                      go_wp2_with ((with_reducible refine wpList_store_row (o := ⟨none, .store 41 (.tmp 11) (.tmp 85), _, _, _, _⟩) ?_ 41 (.tmp 11) (.tmp 85) ?_ (V.heap.size) gs ?_ ?_ 41 es ?_ ?_ ?_ ?_ ?_); exact rfl; exact rfl; exact rfl; exact rfl; exact KA.out; exact KI.out; exact K16.out; exact KO.out)
                      go_roundw
                      case rel =>
                        refine ⟨k + 1, by omega, by go_num, ?_, ?_, ?_⟩
                        · exact (setRow_other _ _ _ _ (by omega)).trans KF.out
                        · have hz := setRow_heap _ V.heap.size _ gs 41 (0, 0) KA.out
                          rw [← dbl_hi (rnd s m) k hlk, ← KC.out]
                          exact hz
                        · exact below_setRow (below_then HK.out.b KB.out HK.out.b.size) (by omega) gs
                      case measure => simp [intOf]; omega
                    · obtain rfl : k = 4 := by omega
                      have HM := Lib.hid HK.out
                      clear HK hlk hk
                      rw [show ((4 : Nat) : Int) = 4 from rfl]
                      go_wp2_with fail
                      go_roundw
                      case rel => exact ⟨m + 1, by omega, by go_num, HM.out⟩
                      case measure => simp [intOf]; omega
            · obtain rfl : m = 10 := by omega
              have E2 : Hid (∃ es, Blk wr V.heap.size 41 es ∧ es = stA (rnd s 10)) := ⟨_, HM.out.s, rfl⟩
              obtain ⟨es, hA, hes⟩ := E2.out
              have hf := HM.out.f
              have hb := HM.out.b
              have JA := Lib.hid hA
              have JC := Lib.hid hes
              have JF := Lib.hid hf
              have JB := Lib.hid hb
              clear E2 hA hes hf hb HM hlt hm HA
              rw [show ((10 : Nat) : Int) = 10 from rfl]
              go_wp2_with fail
              obtain ⟨W3, rfl⟩ : ∃ W3 : World, W3 = wr := ⟨_, rfl⟩
              have hV3 : V.heap.size < W3.heap.size := JA.out.lt
              go_loopw [15, 16] (fun v i wr => ∃ j : Nat, j ≤ 16 ∧ i = .int .i64 j ∧ YIn w V W3 wr cs es s v j) (fun _ i _ => 16 - (intOf i).toNat)
              case atStart => exact ⟨0, by omega, rfl, JF.out, JA.out, World.ownsRow_nil _ _ _ _, Below.refl _ _⟩
              case round =>
                obtain ⟨j, hj, rfl, hz⟩ := hrel
                have HY := Lib.hid hz
                clear hz JF JA
                by_cases hlj : j < 16
                · obtain ⟨A, c', rfl⟩ : ∃ A c, u15 = .slice A (4 * j) c := own_form HY.out.o
                  have hfc : wr.cell? ⟨w.heap.size, j, none⟩ = some (.int .u32 ((s j).toNat : Nat)) := by rw [HY.out.f.cell, HC.out]; exact stA_get s j hlj
                  have hgc : wr.cell? ⟨V.heap.size, j, none⟩ = some (.int .u32 ((rnd s 10 j).toNat : Nat)) := by rw [HY.out.g.cell, JC.out]; exact stA_get _ j hlj
                  have e1 := wrap_ad (rnd s 10 j) (s j)
                  have hx : fin s j = ad (rnd s 10 j) (s j) := rfl
                  have h4 := outL_four s j
                  rw [hx] at h4
                  have H4 := Lib.hid h4
                  clear h4 hx
                  have y0 := byt0 (ad (rnd s 10 j) (s j))
                  have y1 := byt1 (ad (rnd s 10 j) (s j))
                  have y2 := byt2 (ad (rnd s 10 j) (s j))
                  have y3 := byt3' (ad (rnd s 10 j) (s j))
                  have q0 : (0 : Int) ≤ (j : Int) := by omega
                  have q1 : (j : Int) < 16 := by omega
                  have hbase : ∀ d, W3.heap.size ≤ ((wr.drewN d).alloc (Obj.cells #[.int .u8 ((byt (ad (rnd s 10 j) (s j)) 0).toNat : Nat), .int .u8 ((byt (ad (rnd s 10 j) (s j)) 1).toNat : Nat), .int .u8 ((byt (ad (rnd s 10 j) (s j)) 2).toNat : Nat), .int .u8 ((byt (ad (rnd s 10 j) (s j)) 3).toNat : Nat)] 5)).heap.size := fun d => Nat.le_trans HY.out.b.size (by simp)
                  have hown : ∀ d, ((wr.drewN d).alloc (Obj.cells #[.int .u8 ((byt (ad (rnd s 10 j) (s j)) 0).toNat : Nat), .int .u8 ((byt (ad (rnd s 10 j) (s j)) 1).toNat : Nat), .int .u8 ((byt (ad (rnd s 10 j) (s j)) 2).toNat : Nat), .int .u8 ((byt (ad (rnd s 10 j) (s j)) 3).toNat : Nat)] 5)).ownsRow W3.heap.size 5 1 (.slice A (4 * j) c') (4 * j) (outL s (4 * j)) := fun d => World.ownsRow.alloc (show (wr.drewN d).ownsRow _ _ _ _ _ _ from HY.out.o) _
                  have hnews := fun d => World.news_of_block (heap_alloc_new (wr.drewN d) (Obj.cells #[.int .u8 ((byt (ad (rnd s 10 j) (s j)) 0).toNat : Nat), .int .u8 ((byt (ad (rnd s 10 j) (s j)) 1).toNat : Nat), .int .u8 ((byt (ad (rnd s 10 j) (s j)) 2).toNat : Nat), .int .u8 ((byt (ad (rnd s 10 j) (s j)) 3).toNat : Nat)] 5))
                  have h1 : ∀ u ∈ ([.int .u8 ((byt (ad (rnd s 10 j) (s j)) 0).toNat : Nat), .int .u8 ((byt (ad (rnd s 10 j) (s j)) 1).toNat : Nat), .int .u8 ((byt (ad (rnd s 10 j) (s j)) 2).toNat : Nat), .int .u8 ((byt (ad (rnd s 10 j) (s j)) 3).toNat : Nat)] : List Value), u.oneCell' = true := by
                    intro u hu
                    simp only [List.mem_cons, List.not_mem_nil, or_false] at hu
                    rcases hu with rfl | rfl | rfl | rfl <;> rfl
                  have h63 : 4 * j + 4 ≤ maxLen := by unfold maxLen; omega
                  have hbytes : (4 * j + 4) * 1 ≤ 140737488355328 := by omega
                  have HO1 := Lib.hid hown
                  have HN := Lib.hid hnews
                  have H1 := Lib.hid h1
                  have HBs := Lib.hid hbase
                  clear hown hnews h1 hbase
                  go_wp2_with fail
                  go_quiet (fail)
                  go_wp2_with (at_builtin; refine wpList_append_lies _ rfl (.tmp 97) (.tmp 109) 22 rfl W3.heap.size 5 i0 (.int .u8 0) 1 1 Tryd.underlying22 hi0 hz0 hz1 hz2 rfl (by decide) (.slice A (4 * j) c') (4 * j) (outL s (4 * j)) rfl (HO1.out _) ⟨wr.heap.size, 0, none⟩ 4 4 [.int .u8 ((byt (ad (rnd s 10 j) (s j)) 0).toNat : Nat), .int .u8 ((byt (ad (rnd s 10 j) (s j)) 1).toNat : Nat), .int .u8 ((byt (ad (rnd s 10 j) (s j)) 2).toNat : Nat), .int .u8 ((byt (ad (rnd s 10 j) (s j)) 3).toNat : Nat)] rfl rfl (HN.out _) H1.out (by decide) h63 hbytes (HBs.out _) (wr.heap.size + 1) (by simp) ?_; intro g9 c9 w9 hown9 hg9 _ _)
                  go_roundw
                  case rel =>
                    have hge := own_ge HY.out.o
                    refine ⟨j + 1, by omega, by go_num, ?_, ?_, ?_, ?_⟩
                    · exact ((show Blk (wr.drewN _) w.heap.size 41 cs from HY.out.f).alloc _).grown hg9 (fun e => by have := hge _ e.symm; omega)
                    · exact ((show Blk (wr.drewN _) V.heap.size 41 es from HY.out.g).alloc _).grown hg9 (fun e => by have := hge _ e.symm; omega)
                    · rw [H4.out]; exact hown9
                    · exact (((below_drewN HY.out.b _).alloc HY.out.b.size _).grown hg9 (HBs.out _) hge)
                  case measure => simp [intOf]; omega
                · obtain rfl : j = 16 := by omega
                  obtain ⟨A, c', rfl⟩ : ∃ A c, u15 = .slice A (4 * 16) c := own_form HY.out.o
                  go_wp2_with fail
                  go_ret2
                  refine ⟨A, c', rfl, ?_⟩
                  exact outPost HY.out.o (below_then JB.out HY.out.b JB.out.size) JB.out.size
end Go.Proofs.YtoojiofgmamjeaaDoor
