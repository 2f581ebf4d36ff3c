/-
  The contract of state: the words at the beginning of a block.
  Conditions: the key and the nonce are lists of bytes.
-/
import Derived.Test.YtoojiofgmamjeaaDoorSt
import Derived.Laws.CopyOwn
import Derived.Laws.Tables
import Derived.Laws.Rows
namespace Go.Proofs.YtoojiofgmamjeaaDoor
open Go.RowKit
set_option linter.unusedVariables false
/-- The words at the beginning. -/
def st0 (f : Nat → BitVec 8) (c : BitVec 32) (n : Nat → BitVec 8) : St := fun i =>
  if i = 0 then 1634760805#32 else if i = 1 then 857760878#32 else if i = 2 then 2036477234#32 else if i = 3 then 1797285236#32 else if i < 12 then wd f (i - 4) else if i = 12 then c else wd n (i - 13)
/-- .. of which the first k words of the key, and the first m of the nonce, are there. -/
def stP (f : Nat → BitVec 8) (c : BitVec 32) (n : Nat → BitVec 8) (k m : Nat) : St := fun i =>
  if i = 0 then 1634760805#32 else if i = 1 then 857760878#32 else if i = 2 then 2036477234#32 else if i = 3 then 1797285236#32 else if i < 12 then (if i < 4 + k then wd f (i - 4) else 0#32) else if i = 12 then c else (if i < 13 + m then wd n (i - 13) else 0#32)
theorem stA_first (f : Nat → BitVec 8) (c : BitVec 32) (n : Nat → BitVec 8) : #[.int .u32 1634760805, .int .u32 857760878, .int .u32 2036477234, .int .u32 1797285236, .int .u32 0, .int .u32 0, .int .u32 0, .int .u32 0, .int .u32 0, .int .u32 0, .int .u32 0, .int .u32 0, .int .u32 (c.toNat : Nat), .int .u32 0, .int .u32 0, .int .u32 0] = stA (stP f c n 0 0) := by
  apply Array.ext_getElem?
  intro k
  by_cases hk : k < 16
  · rw [stA_get _ k hk]
    match k, hk with
    | 0, _ => rfl
    | 1, _ => rfl
    | 2, _ => rfl
    | 3, _ => rfl
    | 4, _ => rfl
    | 5, _ => rfl
    | 6, _ => rfl
    | 7, _ => rfl
    | 8, _ => rfl
    | 9, _ => rfl
    | 10, _ => rfl
    | 11, _ => rfl
    | 12, _ => rfl
    | 13, _ => rfl
    | 14, _ => rfl
    | 15, _ => rfl
    | k + 16, h => exact absurd h (by omega)
  · rw [Array.getElem?_eq_none (by simp; omega), Array.getElem?_eq_none (by rw [stA_size]; omega)]
theorem stP_all (f : Nat → BitVec 8) (c : BitVec 32) (n : Nat → BitVec 8) : stA (stP f c n 8 3) = stA (st0 f c n) := by
  apply stA_ext
  intro k hk
  unfold stP st0
  repeat (first | (rw [if_pos (by omega)]; done) | split <;> try rfl)
  all_goals omega
theorem stP_key (f : Nat → BitVec 8) (c : BitVec 32) (n : Nat → BitVec 8) (k m : Nat) (hk : k < 8) : stA (upd (stP f c n k m) (4 + k) (wd f k)) = stA (stP f c n (k + 1) m) := by
  apply stA_ext
  intro i hi
  unfold upd stP
  by_cases e : i = 4 + k
  · subst e
    rw [if_pos rfl, if_neg (by omega), if_neg (by omega), if_neg (by omega), if_neg (by omega), if_pos (by omega), if_pos (by omega)]
    congr 1
    omega
  · rw [if_neg e]
    by_cases e2 : i < 4 + k
    · simp only [if_pos e2, if_pos (show i < 4 + (k + 1) by omega)]
    · simp only [if_neg e2, if_neg (show ¬ i < 4 + (k + 1) by omega)]
theorem stP_non (f : Nat → BitVec 8) (c : BitVec 32) (n : Nat → BitVec 8) (k m : Nat) (hm : m < 3) : stA (upd (stP f c n k m) (13 + m) (wd n m)) = stA (stP f c n k (m + 1)) := by
  apply stA_ext
  intro i hi
  unfold upd stP
  by_cases e : i = 13 + m
  · subst e
    rw [if_pos rfl, if_neg (by omega), if_neg (by omega), if_neg (by omega), if_neg (by omega), if_neg (by omega), if_neg (by omega), if_pos (by omega)]
    congr 1
    omega
  · rw [if_neg e]
    by_cases e2 : i < 13 + m
    · simp only [if_pos e2, if_pos (show i < 13 + (m + 1) by omega)]
    · simp only [if_neg e2, if_neg (show ¬ i < 13 + (m + 1) by omega)]
theorem st_size {s : St} : (Tryd.prog.info? 41).map (·.size) = some (stA s).size := by
  rw [stA_size]; kernel_rfl
theorem results_row_tmp {P : Program} {fn : Func} {p u : Tmp} {ty : TypeId} (h : fn.results = #[.cell p ty, .tmp u]) (tmps : Array Value) (w : World) (g : Nat) (t : TypeId) (cs : Array Value) (fr : Nat × Nat) (d : TypeDesc)
    (hp : tmps.getD p undef = .pointer (some ⟨g, 0, none⟩)) (hg : w.heap[g]? = some (.cells cs t fr))
    (hu : P.underlying ty = some d) (hd : (match d with | .struct _ | .array _ _ => true | _ => false) = true) (hi : (P.info? ty).map (·.size) = some cs.size) :
    (results fn tmps).run P w = .ok (.tuple #[.agg cs, tmps.getD u undef]) w := by
  have hp' : tmps[p]?.getD undef = .pointer (some ⟨g, 0, none⟩) := by simpa using hp
  simp [results, h, hp', asAddr, run_loadVar_row w g t ty cs fr d hg hu hd hi]
theorem stA_one (s : St) : (stA s).all (·.oneCell') = true := by
  rw [Array.all_eq_true_iff_forall_mem]
  intro v hv
  obtain ⟨k, hk⟩ := Array.getElem?_of_mem hv
  have hk16 : k < 16 := by
    have := (Array.getElem?_eq_some_iff.1 hk).1
    rw [stA_size] at this
    exact this
  rw [stA_get s k hk16] at hk
  injection hk with hk
  subst hk
  rfl
/-- What the round's head finds. -/
structure StIn (w wr : World) (f : Nat → BitVec 8) (c : BitVec 32) (n : Nat → BitVec 8) (k m : Nat) : Prop where
  z : Blk wr w.heap.size 41 #[.int .u32 0, .int .u32 0, .int .u32 0, .int .u32 0, .int .u32 0, .int .u32 0, .int .u32 0, .int .u32 0, .int .u32 0, .int .u32 0, .int .u32 0, .int .u32 0, .int .u32 0, .int .u32 0, .int .u32 0, .int .u32 0]
  s : Blk wr (w.heap.size + 1) 41 (stA (stP f c n k m))
  b : Below w.heap.size w wr
set_option maxHeartbeats 800000 in
theorem state_any (g o cap g2 o2 cap2 : Nat) (f n : Nat → BitVec 8) (c : BitVec 32) (w : World) (h : Byf w (some ⟨g, o, none⟩) 32 f) (h2 : Byf w (some ⟨g2, o2, none⟩) 12 n) (hc1 : 32 ≤ cap) (hc2 : 12 ≤ cap2) (hm1 : cap ≤ maxLen) (hm2 : cap2 ≤ maxLen) :
    Calls Tryd.prog 16 #[.slice (some ⟨g, o, none⟩) 32 cap, .int .u32 (c.toNat : Nat), .slice (some ⟨g2, o2, none⟩) 12 cap2] w fun e w' => e = .returned (.tuple #[.agg (stA (st0 f c n)), .bool true]) ∧ Below w.heap.size w w' := by
  unfold maxLen at hm1 hm2
  have H1 := Lib.hid h
  have H2 := Lib.hid h2
  clear h h2
  go_enter Tryd.func16, Tryd.ntmps16
  go_wp2_with fail
  rw [stA_first f c n]
  have z0 : Blk ((w.alloc (Obj.cells #[.int .u32 0, .int .u32 0, .int .u32 0, .int .u32 0, .int .u32 0, .int .u32 0, .int .u32 0, .int .u32 0, .int .u32 0, .int .u32 0, .int .u32 0, .int .u32 0, .int .u32 0, .int .u32 0, .int .u32 0, .int .u32 0] 41)).alloc (Obj.cells (stA (stP f c n 0 0)) 41)) w.heap.size 41 #[.int .u32 0, .int .u32 0, .int .u32 0, .int .u32 0, .int .u32 0, .int .u32 0, .int .u32 0, .int .u32 0, .int .u32 0, .int .u32 0, .int .u32 0, .int .u32 0, .int .u32 0, .int .u32 0, .int .u32 0, .int .u32 0] := Blk.alloc (heap_alloc_new w _) _
  have z1 := heap_alloc_new (w.alloc (Obj.cells #[.int .u32 0, .int .u32 0, .int .u32 0, .int .u32 0, .int .u32 0, .int .u32 0, .int .u32 0, .int .u32 0, .int .u32 0, .int .u32 0, .int .u32 0, .int .u32 0, .int .u32 0, .int .u32 0, .int .u32 0, .int .u32 0] 41)) (Obj.cells (stA (stP f c n 0 0)) 41)
  simp only [World.size_alloc] at z1
  have z2 : Below w.heap.size w ((w.alloc (Obj.cells #[.int .u32 0, .int .u32 0, .int .u32 0, .int .u32 0, .int .u32 0, .int .u32 0, .int .u32 0, .int .u32 0, .int .u32 0, .int .u32 0, .int .u32 0, .int .u32 0, .int .u32 0, .int .u32 0, .int .u32 0, .int .u32 0] 41)).alloc (Obj.cells (stA (stP f c n 0 0)) 41)) := ((Below.refl _ _).alloc (Nat.le_refl _) _).alloc (by simp) _
  have Z0 := Lib.hid z0
  have Z1 := Lib.hid z1
  have Z2 := Lib.hid z2
  clear z0 z1 z2
  generalize ((w.alloc (Obj.cells #[.int .u32 0, .int .u32 0, .int .u32 0, .int .u32 0, .int .u32 0, .int .u32 0, .int .u32 0, .int .u32 0, .int .u32 0, .int .u32 0, .int .u32 0, .int .u32 0, .int .u32 0, .int .u32 0, .int .u32 0, .int .u32 0] 41)).alloc (Obj.cells (stA (stP f c n 0 0)) 41)) = W0 at *
  go_loopw [22] (fun i wr => ∃ k : Nat, k ≤ 8 ∧ i = .int .i64 k ∧ StIn w wr f c n k 0) (fun i _ => 8 - (intOf i).toNat)
  case atStart => exact ⟨0, by omega, rfl, Z0.out, Z1.out, Z2.out⟩
  case round =>
    obtain ⟨k, hk, rfl, hs⟩ := hrel
    have HS := Lib.hid hs
    clear hs
    by_cases hlt : k < 8
    · have b1 := (H1.out.bel HS.out.b).off (4 * k) 4 (by omega)
      go_wp2_with fail
      refine (word_any _ _ _ _ (fun j => f (4 * k + j)) _ b1 (by omega) (by unfold maxLen; omega)).mono ?_
      rintro e w2 ⟨rfl, d, rfl⟩
      rw [wd_off]
      have s1 := HS.out.s
      have q0 : (4 : Int) + (k : Int) < 16 := by omega
      have q1 : (0 : Int) ≤ 4 + (k : Int) := by omega
      have q2 : (4 + (k : Int)).toNat = 4 + k := by omega
      have y1 : wr.cell? ⟨w.heap.size + 1, 4 + k, none⟩ = some (u32v (stP f c n k 0 (4 + k))) := (s1.cell _).trans (stA_get _ _ (by omega))
      have y2 := s1.free (4 + k)
      clear s1
      go_wp2_with fail
      go_roundw
      case rel =>
        refine ⟨k + 1, by omega, by go_num, ?_, ?_, ?_⟩
        · exact (HS.out.z.drewN d).far (by simp) _
        · have := (HS.out.s.drewN d).put (4 + k) (u32v (wd f k))
          rw [stA_set _ _ (by omega), stP_key _ _ _ _ _ hlt] at this
          exact this
        · exact (below_drewN HS.out.b d).setCell (by simp) _
      case measure => simp [intOf]; omega
    · obtain rfl : k = 8 := by omega
      have HZ := Lib.hid HS.out.z
      have HA := Lib.hid HS.out.s
      have HB := Lib.hid HS.out.b
      clear HS H1 Z0 Z1 Z2 hlt
      rw [show ((8 : Nat) : Int) = 8 from rfl]
      go_wp2_with fail
      go_loopw [34] (fun i wr => ∃ k : Nat, k ≤ 3 ∧ i = .int .i64 k ∧ StIn w wr f c n 8 k) (fun i _ => 3 - (intOf i).toNat)
      case atStart => exact ⟨0, by omega, rfl, HZ.out, HA.out, HB.out⟩
      case round =>
        obtain ⟨k, hk, rfl, hs⟩ := hrel
        have HS := Lib.hid hs
        clear hs HZ HA HB
        by_cases hlt : k < 3
        · have b1 := (H2.out.bel HS.out.b).off (4 * k) 4 (by omega)
          go_wp2_with fail
          refine (word_any _ _ _ _ (fun j => n (4 * k + j)) _ b1 (by omega) (by unfold maxLen; omega)).mono ?_
          rintro e w2 ⟨rfl, d, rfl⟩
          rw [wd_off]
          have s1 := HS.out.s
          have q0 : (13 : Int) + (k : Int) < 16 := by omega
          have q1 : (0 : Int) ≤ 13 + (k : Int) := by omega
          have q2 : (13 + (k : Int)).toNat = 13 + k := by omega
          have y1 : wr.cell? ⟨w.heap.size + 1, 13 + k, none⟩ = some (u32v (stP f c n 8 k (13 + k))) := (s1.cell _).trans (stA_get _ _ (by omega))
          have y2 := s1.free (13 + k)
          clear s1
          go_wp2_with fail
          go_roundw
          case rel =>
            refine ⟨k + 1, by omega, by go_num, ?_, ?_, ?_⟩
            · exact (HS.out.z.drewN d).far (by simp) _
            · have := (HS.out.s.drewN d).put (13 + k) (u32v (wd n k))
              rw [stA_set _ _ (by omega), stP_non _ _ _ _ _ hlt] at this
              exact this
            · exact (below_drewN HS.out.b d).setCell (by simp) _
          case measure => simp [intOf]; omega
        · obtain rfl : k = 3 := by omega
          have z := HS.out.z
          have sA := HS.out.s
          rw [stP_all] at sA
          have hB := HS.out.b
          have e1 : stA (st0 f c n) = stA (st0 f c n) := rfl
          have HZ := Lib.hid z
          have HB := Lib.hid hB
          have E : Hid (∃ cs, Blk wr (w.heap.size + 1) 41 cs ∧ cs = stA (st0 f c n)) := ⟨_, sA, rfl⟩
          clear HS hlt z sA H2 hB e1
          obtain ⟨cs, hA, hcs⟩ := E.out
          have hi : (Tryd.prog.info? 41).map (·.size) = some cs.size := by rw [hcs]; exact st_size
          have h1 : cs.all (·.oneCell') = true := by rw [hcs]; exact stA_one _
          have h16 : cs.size = 16 := by rw [hcs]; exact stA_size _
          have HA := Lib.hid hA
          have HI := Lib.hid hi
          have HO := Lib.hid h1
          have HS := Lib.hid h16
          have HC := Lib.hid hcs
          clear E hA hi h1 h16 hcs
          go_wp2_with (first | ((with_reducible refine wpList_load_row (o := ⟨some 46, .load 41 (.tmp 8), _, _, _, _⟩) ?_ 41 (.tmp 8) ?_ (w.heap.size + 1) ?_ 41 cs (0, 0) (.array 16 23) ?_ ?_ ?_ ?_ ?_); exact rfl; exact rfl; exact rfl; exact HA.out; exact Tryd.underlying41; exact rfl; exact HI.out) | ((with_reducible refine wpList_store_row (o := ⟨none, .store 41 (.tmp 6) (.tmp 46), _, _, _, _⟩) ?_ 41 (.tmp 6) (.tmp 46) ?_ w.heap.size cs ?_ ?_ 41 #[.int .u32 0, .int .u32 0, .int .u32 0, .int .u32 0, .int .u32 0, .int .u32 0, .int .u32 0, .int .u32 0, .int .u32 0, .int .u32 0, .int .u32 0, .int .u32 0, .int .u32 0, .int .u32 0, .int .u32 0, .int .u32 0] ?_ ?_ ?_ ?_ ?_); exact rfl; exact rfl; exact rfl; exact rfl; exact HZ.out; exact HI.out; exact HS.out.symm; exact HO.out))
          have hg := setRow_heap wr w.heap.size _ cs 41 (0, 0) HZ.out
          exact bodyPost_ret (v := .tuple #[.agg cs, .bool true]) (results_row_tmp (p := 6) (u := 7) (ty := 41) Tryd.results16 _ _ w.heap.size 41 cs (0, 0) (.array 16 23) rfl hg Tryd.underlying41 rfl HI.out) rfl ⟨by rw [HC.out], below_setRow HB.out (Nat.le_refl _) cs⟩
set_option maxHeartbeats 400000 in
theorem state_no (A A2 : Option Addr) (n n2 cap cap2 : Nat) (c : BitVec 32) (w : World) (hc1 : n ≤ cap) (hc2 : n2 ≤ cap2) (hm1 : cap ≤ maxLen) (hm2 : cap2 ≤ maxLen) (hno : n ≠ 32 ∨ n2 ≠ 12) :
    Calls Tryd.prog 16 #[.slice A n cap, .int .u32 (c.toNat : Nat), .slice A2 n2 cap2] w fun e w' => e = .returned (.tuple #[.agg #[.int .u32 0, .int .u32 0, .int .u32 0, .int .u32 0, .int .u32 0, .int .u32 0, .int .u32 0, .int .u32 0, .int .u32 0, .int .u32 0, .int .u32 0, .int .u32 0, .int .u32 0, .int .u32 0, .int .u32 0, .int .u32 0], .bool false]) ∧ Below w.heap.size w w' := by
  unfold maxLen at hm1 hm2
  have hi : (Tryd.prog.info? 41).map (·.size) = some (#[.int .u32 0, .int .u32 0, .int .u32 0, .int .u32 0, .int .u32 0, .int .u32 0, .int .u32 0, .int .u32 0, .int .u32 0, .int .u32 0, .int .u32 0, .int .u32 0, .int .u32 0, .int .u32 0, .int .u32 0, .int .u32 0] : Array Value).size := by kernel_rfl
  have HI := Lib.hid hi
  clear hi
  by_cases h32 : n = 32
  · have h12 : n2 ≠ 12 := by omega
    subst h32
    have q0 : (((32 : Nat) : Int) == 32) = true := rfl
    have q1 : ((n2 : Int) == 12) = false := by simp; omega
    have q2 : ((n2 : Int) != 12) = true := by simp; omega
    clear hno h12
    go_enter Tryd.func16, Tryd.ntmps16
    go_wp2_with fail
    exact bodyPost_ret (v := .tuple #[.agg #[.int .u32 0, .int .u32 0, .int .u32 0, .int .u32 0, .int .u32 0, .int .u32 0, .int .u32 0, .int .u32 0, .int .u32 0, .int .u32 0, .int .u32 0, .int .u32 0, .int .u32 0, .int .u32 0, .int .u32 0, .int .u32 0], .bool false]) (results_row_tmp (p := 6) (u := 7) (ty := 41) Tryd.results16 _ _ w.heap.size 41 #[.int .u32 0, .int .u32 0, .int .u32 0, .int .u32 0, .int .u32 0, .int .u32 0, .int .u32 0, .int .u32 0, .int .u32 0, .int .u32 0, .int .u32 0, .int .u32 0, .int .u32 0, .int .u32 0, .int .u32 0, .int .u32 0] (0, 0) (.array 16 23) rfl (heap_alloc_new w _) Tryd.underlying41 rfl HI.out) rfl ⟨rfl, (Below.refl _ _).alloc (Nat.le_refl _) _⟩
  · have q1 : ((n : Int) == 32) = false := by simp; omega
    have q2 : ((n : Int) != 32) = true := by simp; omega
    clear hno h32
    go_enter Tryd.func16, Tryd.ntmps16
    go_wp2_with fail
    exact bodyPost_ret (v := .tuple #[.agg #[.int .u32 0, .int .u32 0, .int .u32 0, .int .u32 0, .int .u32 0, .int .u32 0, .int .u32 0, .int .u32 0, .int .u32 0, .int .u32 0, .int .u32 0, .int .u32 0, .int .u32 0, .int .u32 0, .int .u32 0, .int .u32 0], .bool false]) (results_row_tmp (p := 6) (u := 7) (ty := 41) Tryd.results16 _ _ w.heap.size 41 #[.int .u32 0, .int .u32 0, .int .u32 0, .int .u32 0, .int .u32 0, .int .u32 0, .int .u32 0, .int .u32 0, .int .u32 0, .int .u32 0, .int .u32 0, .int .u32 0, .int .u32 0, .int .u32 0, .int .u32 0, .int .u32 0] (0, 0) (.array 16 23) rfl (heap_alloc_new w _) Tryd.underlying41 rfl HI.out) rfl ⟨rfl, (Below.refl _ _).alloc (Nat.le_refl _) _⟩
end Go.Proofs.YtoojiofgmamjeaaDoor
