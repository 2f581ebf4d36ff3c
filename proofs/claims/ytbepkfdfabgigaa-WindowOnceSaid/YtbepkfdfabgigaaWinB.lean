/-
  The contracts of slices.Clone and of the shift of a list of words.
  Conditions: the words lie in a block of their own, 1 to 1000 of them.
-/
import Derived.Test.YtbepkfdfabgigaaWinA
import Derived.Deep.OwnRows
import Derived.BigRegion
namespace Go.Proofs.Ytbepkfdfabgigaa
open Go.RowKit
set_option linter.unusedVariables false
theorem u64_info : (Try.prog.info? 22).map (fun i => (i.zero, i.size, i.bytes)) = some (some (.int .u64 0), 1, 8) := by kernel_rfl
theorem rowAt {w : World} {g n : Nat} {f : Nat → Value} (h : Row w g n f) : ∀ j u, ((List.range n).map f)[j]? = some u → w.cell? ((⟨g, 0, none⟩ : Addr).add j) = some u := by
  intro j u hj
  have hjn : j < n := by simpa using (List.getElem?_eq_some_iff.1 hj).1
  have : (⟨g, 0, none⟩ : Addr).add j = ⟨g, j, none⟩ := by unfold Addr.add; split <;> simp_all
  rw [this, h j hjn]
  simpa [hjn] using hj
/-- A row of words that a call has made: block g', n of them. -/
def Made (w w' : World) (n : Nat) (W : Nat → Nat) (g c : Nat) : Prop :=
  w.heap.size ≤ g ∧ n ≤ c ∧ c ≤ maxLen ∧ ∃ cs : Array Value, Blk w' g 22 cs ∧ cs.size = c ∧ ∀ k, k < n → cs[k]? = some (.int .u64 (W k : Nat))
def ClonePost (w : World) (n : Nat) (W : Nat → Nat) (e : Ending) (w' : World) : Prop :=
  ∃ g c : Nat, e = .returned (.slice (some ⟨g, 0, none⟩) n c) ∧ Made w w' n W g c ∧ Below w.heap.size w w'
theorem clone_any (g n c : Nat) (W : Nat → Nat) (w : World) (hn0 : 1 ≤ n) (hn1 : n ≤ 1000) (hr : Row w g n fun i => .int .u64 (W i : Nat)) :
    Calls Try.prog 29 #[.slice (some ⟨g, 0, none⟩) n c] w (ClonePost w n W) := by
  obtain ⟨i0, hi0, hz0, hz1, hz2⟩ := info_parts u64_info
  have hg := hr.lt (by omega)
  have hnil := fun W' => Lib.run_eql_slice_nil (P := Try.prog) W' 25 22 (some ⟨g, 0, none⟩) n c 0 0 Try.underlying25
  have HR := Lib.hid hr
  clear hr
  have fin : ∀ (w1 : World) (v1 : Value), w1.ownsRow w.heap.size 22 1 v1 n ((List.range n).map fun k => .int .u64 (W k : Nat)) → (w.alloc (.cells #[] 22)).grownBy w1 (some w.heap.size) → ClonePost w n W (.returned v1) w1 := by
    intro w1 v1 ho hgr
    rcases ho.2 with ⟨rfl, h0⟩ | ⟨g', cap', cur, rfl, _⟩
    · omega
    obtain ⟨cs, hb, hbase, hnc, hcm, hcs, hget⟩ := Blk.of_own ho
    refine ⟨g', cap', rfl, ⟨hbase, hnc, hcm, cs, hb, hcs, fun k hk => ?_⟩, ((Below.refl _ _).alloc (Nat.le_refl _) _).grown hgr (by simp) (fun k hk => by injection hk with hk; omega)⟩
    rw [hget k hk]
    simp [hk]
  have Fin := Lib.hid fin
  clear fin
  have hx1 : (w.alloc (.cells #[] 22)).ownsRow w.heap.size 22 1 (.slice (some ⟨w.heap.size, 0, none⟩) 0 0) 0 [] := World.ownsRow_lit w #[] 0 (Nat.le_refl _) (Nat.zero_le _) rfl
  have hx2 : ∀ j u, ((List.range n).map fun k => Value.int .u64 (W k : Nat))[j]? = some u → (w.alloc (.cells #[] 22)).cell? ((⟨g, 0, none⟩ : Addr).add j) = some u := rowAt (HR.out.alloc _)
  have hx3 : ((List.range n).map fun k => Value.int .u64 (W k : Nat)).length = n * 1 := by simp
  have hx4 : 0 + n ≤ maxLen := (by unfold maxLen; omega)
  have hx5 : (0 + n) * 8 ≤ 140737488355328 := (by omega)
  have hx6 : w.heap.size ≤ (w.alloc (.cells #[] 22)).heap.size := (by simp)
  have hx7 : ∀ u ∈ ((List.range n).map fun k => Value.int .u64 (W k : Nat)), u.oneCell' = true := (by intro u hu; obtain ⟨k, _, rfl⟩ := List.mem_map.1 hu; rfl)
  have Hx1 := Lib.hid hx1
  have Hx2 := Lib.hid hx2
  have Hx3 := Lib.hid hx3
  have Hx4 := Lib.hid hx4
  have Hx5 := Lib.hid hx5
  have Hx6 := Lib.hid hx6
  have Hx7 := Lib.hid hx7
  clear hx1 hx2 hx3 hx4 hx5 hx6 hx7
  go_enter Try.func29, Try.ntmps29
  go_wp2_with (at_builtin; go_loud (refine wpList_append_own _ rfl (.tmp 5) (.tmp 6) 25 rfl w.heap.size 22 i0 (.int .u64 0) 1 8 Try.underlying25 hi0 hz0 hz1 hz2 rfl (by decide) (.slice (some ⟨w.heap.size, 0, none⟩) 0 0) 0 [] rfl Hx1.out ⟨g, 0, none⟩ n _ _ rfl Hx3.out Hx2.out Hx7.out Hx4.out Hx5.out Hx6.out ?_); intro v1 w1 hown1 hg1 _; simp only [Nat.zero_add, List.nil_append] at hown1)
  go_ret
  exact Fin.out _ _ hown1 hg1
theorem ones_any (w : World) : Calls Try.prog 33 #[.int .u64 18446744073709551615] w fun e w' => e = .returned (.int .i64 64) ∧ w = w' := by
  go_enter Try.func33, Try.ntmps33
  go_wp2_with fail
  go_ret
  exact ⟨by kernel_rfl, rfl⟩
/-- The words of a list of words that is moved up. -/
def shiftW (W : Nat → Nat) (d i : Nat) : Nat :=
  if i < d / 64 then 0 else (W (i - d / 64) * 2 ^ (d % 64)) % 18446744073709551616 ||| (if 0 < i - d / 64 then W (i - d / 64 - 1) / 2 ^ (64 - d % 64) else 0)
theorem wrap_mul (x s : Nat) : IntKind.u64.wrap ((x : Int) * 2 ^ s) = ((x * 2 ^ s % 18446744073709551616 : Nat) : Int) := by
  rw [IntKind.wrap_u64, Int.natCast_emod, Int.natCast_mul, Int.natCast_pow]
  rfl
theorem put_step {wr : World} {h n k : Nat} {f : Nat → Nat} {cs : Array Value} (hb : Blk wr h 22 cs) (hs : cs.size = n) (hk : k < n) (hc : ∀ j, j < n → j ≠ k → cs[j]? = some (.int .u64 ((if j < k then f j else 0 : Nat) : Nat))) (x : Int) (hx : x = (f k : Nat)) :
    ∃ cs', Blk (wr.setCell ⟨h, k, none⟩ (.int .u64 x)) h 22 cs' ∧ cs'.size = n ∧ ∀ j, j < n → cs'[j]? = some (.int .u64 ((if j < k + 1 then f j else 0 : Nat) : Nat)) := by
  refine ⟨_, hb.put k _, by simp [hs], fun j hj => ?_⟩
  rw [Array.getElem?_setIfInBounds]
  by_cases hjk : k = j
  · subst hjk
    rw [if_pos rfl, if_pos (by omega), if_pos (by omega), hx]
  · rw [if_neg hjk, hc j hj (Ne.symm hjk)]
    by_cases h1 : j < k
    · rw [if_pos h1, if_pos (by omega)]
    · rw [if_neg h1, if_neg (by omega)]
theorem shift_any (g n c : Nat) (W : Nat → Nat) (d : Nat) (w : World) (hn0 : 1 ≤ n) (hn1 : n ≤ 1000) (hd : d < 18446744073709551616) (hr : Row w g n fun i => .int .u64 (W i : Nat)) (hW : ∀ i, W i < 18446744073709551616) :
    Calls Try.prog 30 #[.slice (some ⟨g, 0, none⟩) n c, .int .u64 (d : Nat)] w (ClonePost w n (shiftW W d)) := by
  have hmk := fun W' => run_make_row' (P := Try.prog) 25 22 (.int .u64 0) 8 Try.underlying25 u64_info rfl .i64 .i64 n (by omega) (by omega) W'
  have hg := hr.lt (by omega)
  have HR := Lib.hid hr
  have HW := Lib.hid hW
  clear hr hW
  go_enter Try.func30, Try.ntmps30
  go_wp2_with fail
  refine (ones_any _).mono ?_
  rintro e w' ⟨rfl, rfl⟩
  go_wp2_with fail
  have hb0 : Below w.heap.size w (w.alloc (Obj.cells (madeCells #[Value.int IntKind.u64 0] n) 22)) := (Below.refl _ _).alloc (Nat.le_refl _) _
  have hk0 : Blk (w.alloc (Obj.cells (madeCells #[Value.int IntKind.u64 0] n) 22)) w.heap.size 22 (madeCells #[Value.int IntKind.u64 0] n) := heap_alloc_new w _
  have hz0 : ∀ j, j < n → (madeCells #[Value.int IntKind.u64 0] n)[j]? = some (.int .u64 0) := by intro j hj; simp [madeCells, hj, Nat.mod_one]
  have hs0 : (madeCells #[Value.int IntKind.u64 0] n).size = n := size_madeCells _ _
  have HB := Lib.hid hb0
  have HK := Lib.hid hk0
  have HZ := Lib.hid hz0
  have HS := Lib.hid hs0
  clear hb0 hk0 hz0 hs0
  generalize w.alloc (Obj.cells (madeCells #[Value.int IntKind.u64 0] n) 22) = W1 at *
  generalize madeCells #[Value.int IntKind.u64 0] n = cs0 at *
  go_loopw [18] (fun i wr => ∃ k : Nat, k ≤ n ∧ i = .int .i64 k ∧ Below w.heap.size w wr ∧ ∃ cs : Array Value, Blk wr w.heap.size 22 cs ∧ cs.size = n ∧ ∀ j, j < n → cs[j]? = some (.int .u64 ((if j < k then shiftW W d j else 0 : Nat) : Nat))) (fun i _ => n - (intOf i).toNat)
  case atStart => exact ⟨0, by omega, rfl, HB.out, cs0, HK.out, HS.out, fun j hj => by rw [HZ.out j hj]; rfl⟩
  case round =>
    obtain ⟨k, hk, rfl, hbr, cs, hkr, hsz, hcs⟩ := hrel
    have HBr := Lib.hid hbr
    have HKr := Lib.hid hkr
    have Hcs := Lib.hid hcs
    have Hsz := Lib.hid hsz
    have HRr := Lib.hid (HR.out.below hbr hg)
    have hwr : w.heap.size < wr.heap.size := hkr.lt
    have hfr := hkr.free k
    clear hbr hkr hcs hsz
    by_cases hkn : k < n
    · have hcell : wr.cell? ⟨w.heap.size, k, none⟩ = some (.int .u64 0) := by rw [HKr.out.cell k, Hcs.out k hkn, if_neg (by omega)]; rfl
      have q1 : decide ((k : Int) < n) = true := by simp; omega
      by_cases hd1 : k < d / 64
      · have q2 : decide ((k : Int) < (d : Int) / 64) = true := by simp; omega
        go_wp2_with fail
        go_roundw
        case rel =>
          refine ⟨k + 1, by omega, by go_num, HBr.out, cs, HKr.out, Hsz.out, fun j hj => ?_⟩
          rw [Hcs.out j hj]
          by_cases hjk : j < k
          · rw [if_pos hjk, if_pos (by omega)]
          · rw [if_neg hjk]
            by_cases hjk' : j < k + 1
            · rw [if_pos hjk']; unfold shiftW; rw [if_pos (by omega)]
            · rw [if_neg hjk']
        case measure => simp [intOf]; omega
      · have q2 : decide ((k : Int) < (d : Int) / 64) = false := by simp; omega
        have hc1 : wr.cell? ⟨g, k - d / 64, none⟩ = some (.int .u64 (W (k - d / 64) : Nat)) := HRr.out _ (by omega)
        by_cases hd2 : k = d / 64
        · have q3 : ((k : Int) - (d : Int) / 64) = 0 := by omega
          have hx : k - d / 64 = 0 := by omega
          have He : Hid (IntKind.u64.wrap (W 0 * 2 ^ (d % 64)) = (shiftW W d k : Nat)) := Lib.hid (by
            unfold shiftW
            rw [if_neg hd1, hx, if_neg (by omega), Nat.or_zero]; exact wrap_mul _ _)
          rw [hx] at hc1
          have Hx := Lib.hid hx
          clear hd2 hx
          go_wp2_with fail
          go_region
          go_wp2_with fail
          refine ⟨⟨k + 1, by omega, by go_num, (HBr.out.setCell (p := ⟨w.heap.size, k, none⟩) (Nat.le_refl _) _).drew, put_step HKr.out Hsz.out hkn (fun j hj _ => Hcs.out j hj) _ He.out⟩, by show n - ((k : Int) + 1).toNat < n - ((k : Int)).toNat; omega⟩
        · have Ho : Hid (bits BinOp.or IntKind.u64 (IntKind.u64.wrap (W (k - d / 64) * 2 ^ (d % 64))) (W (k - d / 64 - 1) / 2 ^ (64 - d % 64)) = (shiftW W d k : Nat)) := Lib.hid (by
            have h1 := HW.out (k - d / 64 - 1)
            have h2 : W (k - d / 64 - 1) / 2 ^ (64 - d % 64) < 18446744073709551616 := Nat.lt_of_le_of_lt (Nat.div_le_self _ _) h1
            unfold shiftW
            rw [if_neg hd1, if_pos (by omega), ← u64_or_nat _ _ (Nat.mod_lt _ (by omega)) h2, wrap_mul]; congr 1)
          have hc2 : wr.cell? ⟨g, k - d / 64 - 1, none⟩ = some (.int .u64 (W (k - d / 64 - 1) : Nat)) := HRr.out _ (by omega)
          have q3 : decide ((0 : Int) < (k : Int) - (d : Int) / 64) = true := decide_eq_true (by omega)
          go_wp2_with fail
          go_region
          go_wp2_with fail
          go_region
          go_wp2_with fail
          obtain ⟨cs1, hb1, hs1, hc1'⟩ : ∃ cs1, Blk (wr.setCell ⟨w.heap.size, k, none⟩ (.int .u64 (IntKind.u64.wrap (W (k - d / 64) * 2 ^ (d % 64))))) w.heap.size 22 cs1 ∧ cs1.size = n ∧ ∀ j, j < n → j ≠ k → cs1[j]? = some (.int .u64 ((if j < k then shiftW W d j else 0 : Nat) : Nat)) :=
            ⟨_, HKr.out.put k _, by simp [Hsz.out], fun j hj hjk => by rw [Array.getElem?_setIfInBounds, if_neg (Ne.symm hjk)]; exact Hcs.out j hj⟩
          refine ⟨⟨k + 1, by omega, by go_num, (((HBr.out.setCell (p := ⟨w.heap.size, k, none⟩) (Nat.le_refl _) _).setCell (p := ⟨w.heap.size, k, none⟩) (Nat.le_refl _) _).drew).drew, put_step hb1 hs1 hkn hc1' _ Ho.out⟩, by show n - ((k : Int) + 1).toNat < n - ((k : Int)).toNat; omega⟩
    · have q1 : decide ((k : Int) < n) = false := decide_eq_false (by omega)
      go_wp2_with fail
      go_ret
      exact ⟨w.heap.size, n, rfl, ⟨Nat.le_refl _, Nat.le_refl _, by unfold maxLen; omega, cs, HKr.out, Hsz.out, fun j hj => by rw [Hcs.out j hj, if_pos (by omega)]⟩, HBr.out⟩
end Go.Proofs.Ytbepkfdfabgigaa
