/-
  The contract of the reference's mix.
  Conditions: the four places are less than 16 and differ.
-/
import Derived.Test.YtoojiofgmamjeaaDoorBlkP
namespace Go.Proofs.YtoojiofgmamjeaaDoor
open Go.RowKit
set_option linter.unusedVariables false
set_option maxHeartbeats 800000 in
theorem mix_any (s : St) (i j k l : Nat) (hi : i < 16) (hj : j < 16) (hk : k < 16) (hl : l < 16) (hij : i ≠ j) (hik : i ≠ k) (hil : i ≠ l) (hjk : j ≠ k) (hjl : j ≠ l) (hkl : k ≠ l) (w : World) :
    Calls Tryd.prog 18 #[.agg (stA s), .int .i64 (i : Nat), .int .i64 (j : Nat), .int .i64 (k : Nat), .int .i64 (l : Nat)] w fun e w' => e = .returned (.agg (stA (mix4 s i j k l))) ∧ Below w.heap.size w w' := by
  have E : Hid (∃ cs, cs = stA s) := ⟨_, rfl⟩
  obtain ⟨cs, hcs⟩ := E.out
  have zi : (Tryd.prog.info? 41).map (·.size) = some cs.size := by rw [hcs]; exact st_size
  have z1 : cs.all (·.oneCell') = true := by rw [hcs]; exact stA_one _
  have z16 : cs.size = 16 := by rw [hcs]; exact stA_size _
  have hget : ∀ k, k < 16 → cs[k]? = some (.int .u32 ((s k).toNat : Nat)) := fun k hk => by rw [hcs]; exact stA_get s k hk
  have HI := Lib.hid zi
  have HO := Lib.hid z1
  have H16 := Lib.hid z16
  have HG := Lib.hid hget
  rw [← hcs]
  have HC := Lib.hid hcs
  clear E zi z1 z16 hcs hget
  have ya : Blk ((w.alloc (.cells cs 41)).alloc (.cells #[.int .u32 0, .int .u32 0, .int .u32 0, .int .u32 0, .int .u32 0, .int .u32 0, .int .u32 0, .int .u32 0, .int .u32 0, .int .u32 0, .int .u32 0, .int .u32 0, .int .u32 0, .int .u32 0, .int .u32 0, .int .u32 0] 41)) w.heap.size 41 cs := Blk.alloc (heap_alloc_new w _) _
  have yb : Blk ((w.alloc (.cells cs 41)).alloc (.cells #[.int .u32 0, .int .u32 0, .int .u32 0, .int .u32 0, .int .u32 0, .int .u32 0, .int .u32 0, .int .u32 0, .int .u32 0, .int .u32 0, .int .u32 0, .int .u32 0, .int .u32 0, .int .u32 0, .int .u32 0, .int .u32 0] 41)) (w.heap.size + 1) 41 #[.int .u32 0, .int .u32 0, .int .u32 0, .int .u32 0, .int .u32 0, .int .u32 0, .int .u32 0, .int .u32 0, .int .u32 0, .int .u32 0, .int .u32 0, .int .u32 0, .int .u32 0, .int .u32 0, .int .u32 0, .int .u32 0] := heap_alloc_next w _ _
  have YA := Lib.hid ya
  have YB := Lib.hid yb
  have YC := Lib.hid (show Below w.heap.size w ((w.alloc (.cells cs 41)).alloc (.cells #[.int .u32 0, .int .u32 0, .int .u32 0, .int .u32 0, .int .u32 0, .int .u32 0, .int .u32 0, .int .u32 0, .int .u32 0, .int .u32 0, .int .u32 0, .int .u32 0, .int .u32 0, .int .u32 0, .int .u32 0, .int .u32 0] 41)) from ((Below.refl _ _).alloc (Nat.le_refl _) _).alloc (by simp) _)
  clear ya yb
  go_enter Tryd.func18, Tryd.ntmps18
  go_wp2_with fail
  generalize (w.alloc (.cells cs 41)).alloc (.cells #[.int .u32 0, .int .u32 0, .int .u32 0, .int .u32 0, .int .u32 0, .int .u32 0, .int .u32 0, .int .u32 0, .int .u32 0, .int .u32 0, .int .u32 0, .int .u32 0, .int .u32 0, .int .u32 0, .int .u32 0, .int .u32 0] 41) = W at *
  have c0 : W.cell? ⟨w.heap.size, i, none⟩ = some (.int .u32 ((s i).toNat : Nat)) := (YA.out.cell i).trans (HG.out i hi)
  have c1 : W.cell? ⟨w.heap.size, j, none⟩ = some (.int .u32 ((s j).toNat : Nat)) := (YA.out.cell j).trans (HG.out j hj)
  have c2 : W.cell? ⟨w.heap.size, k, none⟩ = some (.int .u32 ((s k).toNat : Nat)) := (YA.out.cell k).trans (HG.out k hk)
  have c3 : W.cell? ⟨w.heap.size, l, none⟩ = some (.int .u32 ((s l).toNat : Nat)) := (YA.out.cell l).trans (HG.out l hl)
  have f0 := YA.out.free i
  have f1 := YA.out.free j
  have f2 := YA.out.free k
  have f3 := YA.out.free l
  have i0 : (i : Int) < 16 := by omega
  have i1 : (j : Int) < 16 := by omega
  have i2 : (k : Int) < 16 := by omega
  have i3 : (l : Int) < 16 := by omega
  have j0 : (0 : Int) ≤ (i : Int) := by omega
  have j1 : (0 : Int) ≤ (j : Int) := by omega
  have j2 : (0 : Int) ≤ (k : Int) := by omega
  have j3 : (0 : Int) ≤ (l : Int) := by omega
  have hij' := hij.symm
  have hik' := hik.symm
  have hil' := hil.symm
  have hjk' := hjk.symm
  have hjl' := hjl.symm
  have hkl' := hkl.symm
  have hz : ∀ d, Blk (((((W.drewN d).setCell ⟨w.heap.size, i, none⟩ (.int .u32 ((qr (s i) (s j) (s k) (s l)).a.toNat : Nat))).setCell ⟨w.heap.size, j, none⟩ (.int .u32 ((qr (s i) (s j) (s k) (s l)).b.toNat : Nat))).setCell ⟨w.heap.size, k, none⟩ (.int .u32 ((qr (s i) (s j) (s k) (s l)).c.toNat : Nat))).setCell ⟨w.heap.size, l, none⟩ (.int .u32 ((qr (s i) (s j) (s k) (s l)).d.toNat : Nat))) w.heap.size 41 (stA (mix4 s i j k l)) := by
    intro d
    have h := ((((YA.out.drewN d).put i (u32v (qr (s i) (s j) (s k) (s l)).a)).put j (u32v (qr (s i) (s j) (s k) (s l)).b)).put k (u32v (qr (s i) (s j) (s k) (s l)).c)).put l (u32v (qr (s i) (s j) (s k) (s l)).d)
    rw [HC.out, stA_set _ _ hi, stA_set _ _ hj, stA_set _ _ hk, stA_set _ _ hl] at h
    exact h
  have hy : ∀ d, Blk (((((W.drewN d).setCell ⟨w.heap.size, i, none⟩ (.int .u32 ((qr (s i) (s j) (s k) (s l)).a.toNat : Nat))).setCell ⟨w.heap.size, j, none⟩ (.int .u32 ((qr (s i) (s j) (s k) (s l)).b.toNat : Nat))).setCell ⟨w.heap.size, k, none⟩ (.int .u32 ((qr (s i) (s j) (s k) (s l)).c.toNat : Nat))).setCell ⟨w.heap.size, l, none⟩ (.int .u32 ((qr (s i) (s j) (s k) (s l)).d.toNat : Nat))) (w.heap.size + 1) 41 #[.int .u32 0, .int .u32 0, .int .u32 0, .int .u32 0, .int .u32 0, .int .u32 0, .int .u32 0, .int .u32 0, .int .u32 0, .int .u32 0, .int .u32 0, .int .u32 0, .int .u32 0, .int .u32 0, .int .u32 0, .int .u32 0] :=
    fun d => ((((YB.out.drewN d).far (by simp) _).far (by simp) _).far (by simp) _).far (by simp) _
  have hb : ∀ d, Below w.heap.size w (((((W.drewN d).setCell ⟨w.heap.size, i, none⟩ (.int .u32 ((qr (s i) (s j) (s k) (s l)).a.toNat : Nat))).setCell ⟨w.heap.size, j, none⟩ (.int .u32 ((qr (s i) (s j) (s k) (s l)).b.toNat : Nat))).setCell ⟨w.heap.size, k, none⟩ (.int .u32 ((qr (s i) (s j) (s k) (s l)).c.toNat : Nat))).setCell ⟨w.heap.size, l, none⟩ (.int .u32 ((qr (s i) (s j) (s k) (s l)).d.toNat : Nat))) :=
    fun d => ((((below_drewN YC.out d).setCell (Nat.le_refl _) _).setCell (Nat.le_refl _) _).setCell (Nat.le_refl _) _).setCell (Nat.le_refl _) _
  have E2 : Hid (∃ es, es = stA (mix4 s i j k l)) := ⟨_, rfl⟩
  obtain ⟨es, hes⟩ := E2.out
  have zi : (Tryd.prog.info? 41).map (·.size) = some es.size := by rw [hes]; exact st_size
  have z1 : es.all (·.oneCell') = true := by rw [hes]; exact stA_one _
  have z16 : es.size = 16 := by rw [hes]; exact stA_size _
  rw [← hes] at hz
  have JI := Lib.hid zi
  have JO := Lib.hid z1
  have J16 := Lib.hid z16
  have JC := Lib.hid hes
  have HZ := Lib.hid hz
  have HY := Lib.hid hy
  have HB := Lib.hid hb
  clear zi z1 z16 hes hz hy hb E2 HI HO H16 HG HC YA YB YC
  go_quiet ((go_at_call 23; exact Calls.quiet_of_same ((rquarter_any (s i) (s j) (s k) (s l) _).mono (fun _ _ h => ⟨h.1, h.2.symm⟩))))
  go_wp2_with (first | ((with_reducible refine wpList_load_row (o := ⟨some 45, .load 41 (.tmp 5), _, _, _, _⟩) ?_ 41 (.tmp 5) ?_ (w.heap.size) ?_ 41 es (0, 0) (.array 16 23) ?_ ?_ ?_ ?_ ?_); exact rfl; exact rfl; exact rfl; exact HZ.out _; exact Tryd.underlying41; exact rfl; exact JI.out) | ((with_reducible refine wpList_store_row (o := ⟨none, .store 41 (.tmp 10) (.tmp 45), _, _, _, _⟩) ?_ 41 (.tmp 10) (.tmp 45) ?_ (w.heap.size + 1) es ?_ ?_ 41 #[.int .u32 0, .int .u32 0, .int .u32 0, .int .u32 0, .int .u32 0, .int .u32 0, .int .u32 0, .int .u32 0, .int .u32 0, .int .u32 0, .int .u32 0, .int .u32 0, .int .u32 0, .int .u32 0, .int .u32 0, .int .u32 0] ?_ ?_ ?_ ?_ ?_); exact rfl; exact rfl; exact rfl; exact rfl; exact HY.out _; exact JI.out; exact J16.out.symm; exact JO.out))
  have hg := setRow_heap _ (w.heap.size + 1) _ es 41 (0, 0) (HY.out ‹Nat›)
  exact bodyPost_ret (v := .agg es) (results_cell_row (p := 10) (ty := 41) Tryd.results18 _ _ (w.heap.size + 1) 41 es (0, 0) (.array 16 23) rfl hg Tryd.underlying41 rfl JI.out) rfl ⟨by rw [JC.out], below_setRow (HB.out _) (Nat.le_succ _) es⟩
end Go.Proofs.YtoojiofgmamjeaaDoor
