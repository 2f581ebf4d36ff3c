/-
  The program's list constructors (List, Derive over slices.Clone), and Mod.
  Conditions: none.
-/
import Derived.Test.YtokiodjdonbipaaConP
import Derived.Laws.AppendOwn
import Derived.Lib.SliceRun
namespace Go.Proofs.Ytokiodjdonbipaa
open Go.RowKit Go.Sort
set_option linter.unusedVariables false
attribute [local go_sem ↓] Go.wp_at_zero Go.wp_at_succ
/-- A clone of a row of terms. -/
def ClonePost (w : World) (n : Nat) (xs : List Value) (e : Ending) (w' : World) : Prop :=
  ∃ A c, e = .returned (.slice A n c) ∧ w'.ownsRow w.heap.size 24 3 (.slice A n c) n xs ∧ Below w.heap.size w w'
theorem pclone_any (S : Nat → Prop) (ts : List Tm) (xs : List Value) (w : World) (A : Option Addr) (c : Nat) (hx : Flat S w ts xs) (hcs : ∀ j u, xs[j]? = some u → ∃ g k, A = some ⟨g, k, none⟩ ∧ w.cell? ⟨g, k + j, none⟩ = some u) (hcl : ts.length ≤ c) (hcm : c ≤ maxLen) (hts : ts.length ≤ 1000000) :
    Calls Try.prog 55 #[.slice A ts.length c] w (ClonePost w ts.length xs) := by
  obtain ⟨i0, hi0, hz0, hz1, hz2⟩ := info_parts term_info
  have q22 : ∀ (w : World) (a : Option Addr) (n c n' c' : Nat), (binOp .eql 22 (.slice a n c) (.slice none n' c')).run Try.prog w = .ok (.bool a.isNone) w := fun w a n c n' c' => Lib.run_eql_slice_nil w _ _ a n c n' c' Try.underlying22
  unfold maxLen at hcm
  have hlen := hx.len
  rcases A with _ | ad
  · obtain rfl : ts = [] := by
      rcases ts with _ | ⟨t, ts⟩
      · rfl
      · rcases xs with _ | ⟨u, us⟩
        · simp at hlen
        · obtain ⟨g, k, hA, _⟩ := hcs 0 u rfl
          cases hA
    obtain rfl : xs = [] := by simpa using hlen
    clear hcs hx
    go_enter Try.func55, Try.ntmps55
    go_wp2_with fail
    exact bodyPost_ret (v := .slice none 0 0) (by simp [results, Try.results55, go_sem]) rfl ⟨none, 0, rfl, World.ownsRow_nil _ _ _ _, Below.refl _ _⟩
  · have hown0 : World.ownsRow (w.alloc (Obj.cells #[] 24)) w.heap.size 24 3 (.slice (some ⟨w.heap.size, 0, none⟩) 0 0) 0 [] := ⟨rfl, .inr ⟨w.heap.size, 0, #[], rfl, Nat.le_refl _, heap_alloc_new w _, Nat.le_refl _, Nat.zero_le _, rfl, rfl⟩⟩
    have hone := hx.one'
    have hnews : ∀ j u, xs[j]? = some u → (w.alloc (Obj.cells #[] 24)).cell? (ad.add j) = some u := by
      intro j u hj
      obtain ⟨g, k, hA, hcc⟩ := hcs j u hj
      injection hA with hA
      subst hA
      rw [add_at]
      exact cell_alloc hcc
    have h63 : 0 + ts.length ≤ maxLen := by unfold maxLen; omega
    have hbytes : (0 + ts.length) * 40 ≤ 140737488355328 := by omega
    have hbase : w.heap.size ≤ (w.alloc (Obj.cells #[] 24)).heap.size := by simp
    have HX := Lib.hid hx
    clear hx hcs
    go_enter Try.func55, Try.ntmps55
    go_wp2_with (at_builtin; refine wpList_append_own _ rfl (.tmp 5) (.tmp 6) 22 rfl w.heap.size 24 i0 (.agg #[.int .i64 0, .int .i64 0, .slice none 0 0]) 3 40 Try.underlying22 hi0 hz0 hz1 hz2 rfl (by decide) (.slice (some ⟨w.heap.size, 0, none⟩) 0 0) 0 [] rfl hown0 ad ts.length c xs rfl hlen hnews hone h63 hbytes hbase ?_; intro v1 w1 hown1 hg1 _; simp only [Nat.zero_add, List.nil_append] at hown1; obtain ⟨A1, c1, hv1⟩ := own_form hown1; subst hv1; have HO := Lib.hid hown1; have HG := Lib.hid hg1; clear hown1 hg1)
    have hb1 : RowKit.Below w.heap.size w w1 := ((Below.refl _ _).alloc (Nat.le_refl _) _).grown HG.out (by simp) (by simp [Value.ownBlock])
    exact bodyPost_ret (v := .slice A1 ts.length c1) (by simp [results, Try.results55, go_sem]) rfl ⟨A1, c1, rfl, HO.out, hb1⟩
theorem plist_any (S : Nat → Prop) (ts : List Tm) (w : World) (A : Option Addr) (c : Nat) (ht : TrS S w (.mk 0 0 ts) A c) (hts : ts.length ≤ 1000000) :
    Calls Try.prog 34 #[.slice A ts.length c] w (MkPost S w (.mk 3 0 ts)) := by
  have hfit := ht.ofits
  simp only [Tm.args_mk] at hfit
  obtain ⟨xs, hx, hcs⟩ := ht.flat
  have hz := heap_alloc_new w (Obj.cells #[.int .i64 0, .int .i64 0, .slice none 0 0] 24)
  have hcl := pclone_any S ts xs (w.alloc (Obj.cells #[.int .i64 0, .int .i64 0, .slice none 0 0] 24)) A c (hx.map fun _ _ _ k => k.alloc _) (fun j u h => by
    obtain ⟨g, k, hA, hcc⟩ := hcs j u h
    exact ⟨g, k, hA, cell_alloc hcc⟩) hfit.2.2.1 hfit.2.2.2 hts
  have HC := Lib.hid hcl
  have HZ := Lib.hid hz
  have HX := Lib.hid hx
  clear hcl hz hx hcs ht hfit
  go_enter Try.func34, Try.ntmps34
  go_wp2_with fail
  refine HC.out.mono ?_
  rintro e w1 ⟨A1, c1, rfl, ho, hb⟩
  have z1 := Blk.below HZ.out hb (by simp)
  have c0 : w1.cell? ⟨w.heap.size, 0, none⟩ = some (.int .i64 0) := z1.cell 0
  have c1' : w1.cell? ⟨w.heap.size, 1, none⟩ = some (.int .i64 0) := z1.cell 1
  have c2 : w1.cell? ⟨w.heap.size, 2, none⟩ = some (.slice none 0 0) := z1.cell 2
  have fz0 := z1.free 0
  have fz1 := z1.free 1
  have fz2 := z1.free 2
  have HO := Lib.hid ho
  have HZ1 := Lib.hid z1
  have HB := Lib.hid (below_then ((Below.refl _ _).alloc (Nat.le_refl _) _) hb (by simp))
  clear ho z1 hb
  go_wp2_with fail
  have hz4 := ((HZ1.out.put 0 (.int .i64 3)).put 1 (.int .i64 0)).put 2 (.slice A1 ts.length c1)
  simp only [List.setIfInBounds_toArray, List.set_cons_zero, List.set_cons_succ] at hz4
  have hsz : (w.alloc (Obj.cells #[.int .i64 0, .int .i64 0, .slice none 0 0] 24)).heap.size = w.heap.size + 1 := by simp
  have ho4 : World.ownsRow (((w1.setCell ⟨w.heap.size, 0, none⟩ (.int .i64 3)).setCell ⟨w.heap.size, 1, none⟩ (.int .i64 0)).setCell ⟨w.heap.size, 2, none⟩ (.slice A1 ts.length c1)) (w.alloc (Obj.cells #[.int .i64 0, .int .i64 0, .slice none 0 0] 24)).heap.size 24 3 (.slice A1 ts.length c1) ts.length xs := own_put (own_put (own_put HO.out (by simp) _) (by simp) _) (by simp) _
  have hb4 : Below w.heap.size w (((w1.setCell ⟨w.heap.size, 0, none⟩ (.int .i64 3)).setCell ⟨w.heap.size, 1, none⟩ (.int .i64 0)).setCell ⟨w.heap.size, 2, none⟩ (.slice A1 ts.length c1)) := ((HB.out.setCell (p := ⟨w.heap.size, 0, none⟩) (Nat.le_refl _) _).setCell (p := ⟨w.heap.size, 1, none⟩) (Nat.le_refl _) _).setCell (p := ⟨w.heap.size, 2, none⟩) (Nat.le_refl _) _
  have hf4 := HX.out.bel hb4
  generalize (((w1.setCell ⟨w.heap.size, 0, none⟩ (.int .i64 3)).setCell ⟨w.heap.size, 1, none⟩ (.int .i64 0)).setCell ⟨w.heap.size, 2, none⟩ (.slice A1 ts.length c1)) = w4 at *
  have d0 : w4.cell? ⟨w.heap.size, 0, none⟩ = some (.int .i64 3) := hz4.cell 0
  have d1 : w4.cell? ⟨w.heap.size, 1, none⟩ = some (.int .i64 0) := hz4.cell 1
  have d2 : w4.cell? ⟨w.heap.size, 2, none⟩ = some (.slice A1 ts.length c1) := hz4.cell 2
  exact bodyPost_ret (v := .agg #[.int .i64 3, .int .i64 0, .slice A1 ts.length c1]) (by simp [results, Try.results34, go_sem, d0, d1, d2]) rfl ⟨A1, c1, rfl, TrS.mono (TrS.of_own ho4 hf4 (fn (by omega) (by omega)) f0) (fun g k => k.elim .inl (fun k => .inr (by omega))), hb4⟩
theorem mod_any (v n : Int) (w : World) (hv : fits v) (hn : 0 < n) (hn2 : n ≤ 1000000) :
    Calls Try.prog 33 #[.int .i64 v, .int .i64 n] w fun e w' => ∃ r : Int, e = .returned (.int .i64 r) ∧ 0 ≤ r ∧ r < n ∧ w' = w := by
  have h1 := Int.tmod_lt_of_pos v hn
  have h2 : -n < v.tmod n := by
    have := Int.lt_tmod_of_pos v hn
    omega
  have hn0 : n ≠ 0 := by omega
  unfold fits at hv
  go_enter Try.func33, Try.ntmps33
  go_wp2_with fail
  · rename_i h
    exact bodyPost_ret (v := .int .i64 (v.tmod n + n)) (by simp [results, Try.results33, go_sem]) rfl ⟨_, rfl, by omega, by omega, rfl⟩
  · rename_i h
    exact bodyPost_ret (v := .int .i64 (v.tmod n)) (by simp [results, Try.results33, go_sem]) rfl ⟨_, rfl, by omega, by omega, rfl⟩
end Go.Proofs.Ytokiodjdonbipaa
