/-
  The contracts of the program's List and Derive over a row that is known cell by cell, of Garbage, and of the reference's Same.
  Conditions: none.
-/
import Derived.Test.YtokiodjdonbipaaClone
import Derived.LoopTactic
namespace Go.Proofs.Ytokiodjdonbipaa
open Go.RowKit Go.Sort
set_option linter.unusedVariables false
attribute [local go_sem ↓] Go.wp_at_zero Go.wp_at_succ
theorem own_cells {w : World} {base e size n c : Nat} {A : Option Addr} {xs : List Value} (h : w.ownsRow base e size (.slice A n c) n xs) : ∀ j u, xs[j]? = some u → ∃ g k, A = some ⟨g, k, none⟩ ∧ w.cell? ⟨g, k + j, none⟩ = some u := by
  intro j u hj
  rcases h.2 with ⟨h0, h1⟩ | ⟨g, cap, cur, hv, hb, hg, hn, hm, hs, ht⟩
  · have hl := h.1
    subst h1
    simp at hl
    subst hl
    simp at hj
  · injection hv with e1 _ _
    refine ⟨g, 0, e1, ?_⟩
    rw [Nat.zero_add, cell_of_row w g j cur e (0, 0) hg]
    rw [← ht, List.getElem?_take] at hj
    split at hj
    · simpa using hj
    · cases hj
theorem own_cap {w : World} {base e size n c : Nat} {A : Option Addr} {xs : List Value} (h : w.ownsRow base e size (.slice A n c) n xs) : n ≤ c ∧ c ≤ maxLen := by
  rcases h.2 with ⟨h0, h1⟩ | ⟨g, cap, cur, hv, hb, hg, hn, hm, hs, ht⟩
  · injection h0 with _ e2 e3
    omega
  · injection hv with _ _ e3
    omega
theorem plist_fl (S : Nat → Prop) (ts : List Tm) (xs : List Value) (w : World) (A : Option Addr) (c : Nat) (hx : Flat S w ts xs) (hcs : ∀ j u, xs[j]? = some u → ∃ g k, A = some ⟨g, k, none⟩ ∧ w.cell? ⟨g, k + j, none⟩ = some u) (hcl : ts.length ≤ c) (hcm : c ≤ maxLen) (hts : ts.length ≤ 1000000) :
    Calls Try.prog 34 #[.slice A ts.length c] w (MkPost S w (.mk 3 0 ts)) := by
  have hz := heap_alloc_new w (Obj.cells #[.int .i64 0, .int .i64 0, .slice none 0 0] 24)
  have hcl' := pclone_any S ts xs (w.alloc (Obj.cells #[.int .i64 0, .int .i64 0, .slice none 0 0] 24)) A c (hx.map fun _ _ _ k => k.alloc _) (fun j u h => by
    obtain ⟨g, k, hA, hcc⟩ := hcs j u h
    exact ⟨g, k, hA, cell_alloc hcc⟩) hcl hcm hts
  have HC := Lib.hid hcl'
  have HZ := Lib.hid hz
  have HX := Lib.hid hx
  clear hcl' hz hx hcs
  go_enter Try.func34, Try.ntmps34
  go_wp2_with fail
  refine HC.out.mono ?_
  rintro e w1 ⟨A1, c1, rfl, ho, hb⟩
  have z1 := Blk.below HZ.out hb (by simp)
  have c0 : w1.cell? ⟨w.heap.size, 0, none⟩ = some (.int .i64 0) := z1.cell 0
  have c1' : w1.cell? ⟨w.heap.size, 1, none⟩ = some (.int .i64 0) := z1.cell 1
  have c2 : w1.cell? ⟨w.heap.size, 2, none⟩ = some (.slice none 0 0) := z1.cell 2
  have fz0 := z1.free 0
  have fz1 := z1.free 1
  have fz2 := z1.free 2
  have HO := Lib.hid ho
  have HZ1 := Lib.hid z1
  have HB := Lib.hid (below_then ((Below.refl _ _).alloc (Nat.le_refl _) _) hb (by simp))
  clear ho z1 hb
  go_wp2_with fail
  have hz4 := ((HZ1.out.put 0 (.int .i64 3)).put 1 (.int .i64 0)).put 2 (.slice A1 ts.length c1)
  simp only [List.setIfInBounds_toArray, List.set_cons_zero, List.set_cons_succ] at hz4
  have hsz : (w.alloc (Obj.cells #[.int .i64 0, .int .i64 0, .slice none 0 0] 24)).heap.size = w.heap.size + 1 := by simp
  have ho4 : World.ownsRow (((w1.setCell ⟨w.heap.size, 0, none⟩ (.int .i64 3)).setCell ⟨w.heap.size, 1, none⟩ (.int .i64 0)).setCell ⟨w.heap.size, 2, none⟩ (.slice A1 ts.length c1)) (w.alloc (Obj.cells #[.int .i64 0, .int .i64 0, .slice none 0 0] 24)).heap.size 24 3 (.slice A1 ts.length c1) ts.length xs := own_put (own_put (own_put HO.out (by simp) _) (by simp) _) (by simp) _
  have hb4 : Below w.heap.size w (((w1.setCell ⟨w.heap.size, 0, none⟩ (.int .i64 3)).setCell ⟨w.heap.size, 1, none⟩ (.int .i64 0)).setCell ⟨w.heap.size, 2, none⟩ (.slice A1 ts.length c1)) := ((HB.out.setCell (p := ⟨w.heap.size, 0, none⟩) (Nat.le_refl _) _).setCell (p := ⟨w.heap.size, 1, none⟩) (Nat.le_refl _) _).setCell (p := ⟨w.heap.size, 2, none⟩) (Nat.le_refl _) _
  have hf4 := HX.out.bel hb4
  generalize (((w1.setCell ⟨w.heap.size, 0, none⟩ (.int .i64 3)).setCell ⟨w.heap.size, 1, none⟩ (.int .i64 0)).setCell ⟨w.heap.size, 2, none⟩ (.slice A1 ts.length c1)) = w4 at *
  have d0 : w4.cell? ⟨w.heap.size, 0, none⟩ = some (.int .i64 3) := hz4.cell 0
  have d1 : w4.cell? ⟨w.heap.size, 1, none⟩ = some (.int .i64 0) := hz4.cell 1
  have d2 : w4.cell? ⟨w.heap.size, 2, none⟩ = some (.slice A1 ts.length c1) := hz4.cell 2
  exact bodyPost_ret (v := .agg #[.int .i64 3, .int .i64 0, .slice A1 ts.length c1]) (by simp [results, Try.results34, go_sem, d0, d1, d2]) rfl ⟨A1, c1, rfl, TrS.mono (TrS.of_own ho4 hf4 (fn (by omega) (by omega)) f0) (fun g k => k.elim .inl (fun k => .inr (by omega))), hb4⟩
theorem pderive_fl (n : Int) (hn : fits n) (S : Nat → Prop) (ts : List Tm) (xs : List Value) (w : World) (A : Option Addr) (c : Nat) (hx : Flat S w ts xs) (hcs : ∀ j u, xs[j]? = some u → ∃ g k, A = some ⟨g, k, none⟩ ∧ w.cell? ⟨g, k + j, none⟩ = some u) (hcl : ts.length ≤ c) (hcm : c ≤ maxLen) (hts : ts.length ≤ 1000000) :
    Calls Try.prog 35 #[.int .i64 n, .slice A ts.length c] w (MkPost S w (.mk 6 n ts)) := by
  have hz := heap_alloc_new w (Obj.cells #[.int .i64 0, .int .i64 0, .slice none 0 0] 24)
  have hcl' := pclone_any S ts xs (w.alloc (Obj.cells #[.int .i64 0, .int .i64 0, .slice none 0 0] 24)) A c (hx.map fun _ _ _ k => k.alloc _) (fun j u h => by
    obtain ⟨g, k, hA, hcc⟩ := hcs j u h
    exact ⟨g, k, hA, cell_alloc hcc⟩) hcl hcm hts
  have HC := Lib.hid hcl'
  have HZ := Lib.hid hz
  have HX := Lib.hid hx
  clear hcl' hz hx hcs
  go_enter Try.func35, Try.ntmps35
  go_wp2_with fail
  refine HC.out.mono ?_
  rintro e w1 ⟨A1, c1, rfl, ho, hb⟩
  have z1 := Blk.below HZ.out hb (by simp)
  have c0 : w1.cell? ⟨w.heap.size, 0, none⟩ = some (.int .i64 0) := z1.cell 0
  have c1' : w1.cell? ⟨w.heap.size, 1, none⟩ = some (.int .i64 0) := z1.cell 1
  have c2 : w1.cell? ⟨w.heap.size, 2, none⟩ = some (.slice none 0 0) := z1.cell 2
  have fz0 := z1.free 0
  have fz1 := z1.free 1
  have fz2 := z1.free 2
  have HO := Lib.hid ho
  have HZ1 := Lib.hid z1
  have HB := Lib.hid (below_then ((Below.refl _ _).alloc (Nat.le_refl _) _) hb (by simp))
  clear ho z1 hb
  go_wp2_with fail
  have hz4 := ((HZ1.out.put 0 (.int .i64 6)).put 1 (.int .i64 n)).put 2 (.slice A1 ts.length c1)
  simp only [List.setIfInBounds_toArray, List.set_cons_zero, List.set_cons_succ] at hz4
  have hsz : (w.alloc (Obj.cells #[.int .i64 0, .int .i64 0, .slice none 0 0] 24)).heap.size = w.heap.size + 1 := by simp
  have ho4 : World.ownsRow (((w1.setCell ⟨w.heap.size, 0, none⟩ (.int .i64 6)).setCell ⟨w.heap.size, 1, none⟩ (.int .i64 n)).setCell ⟨w.heap.size, 2, none⟩ (.slice A1 ts.length c1)) (w.alloc (Obj.cells #[.int .i64 0, .int .i64 0, .slice none 0 0] 24)).heap.size 24 3 (.slice A1 ts.length c1) ts.length xs := own_put (own_put (own_put HO.out (by simp) _) (by simp) _) (by simp) _
  have hb4 : Below w.heap.size w (((w1.setCell ⟨w.heap.size, 0, none⟩ (.int .i64 6)).setCell ⟨w.heap.size, 1, none⟩ (.int .i64 n)).setCell ⟨w.heap.size, 2, none⟩ (.slice A1 ts.length c1)) := ((HB.out.setCell (p := ⟨w.heap.size, 0, none⟩) (Nat.le_refl _) _).setCell (p := ⟨w.heap.size, 1, none⟩) (Nat.le_refl _) _).setCell (p := ⟨w.heap.size, 2, none⟩) (Nat.le_refl _) _
  have hf4 := HX.out.bel hb4
  generalize (((w1.setCell ⟨w.heap.size, 0, none⟩ (.int .i64 6)).setCell ⟨w.heap.size, 1, none⟩ (.int .i64 n)).setCell ⟨w.heap.size, 2, none⟩ (.slice A1 ts.length c1)) = w4 at *
  have d0 : w4.cell? ⟨w.heap.size, 0, none⟩ = some (.int .i64 6) := hz4.cell 0
  have d1 : w4.cell? ⟨w.heap.size, 1, none⟩ = some (.int .i64 n) := hz4.cell 1
  have d2 : w4.cell? ⟨w.heap.size, 2, none⟩ = some (.slice A1 ts.length c1) := hz4.cell 2
  exact bodyPost_ret (v := .agg #[.int .i64 6, .int .i64 n, .slice A1 ts.length c1]) (by simp [results, Try.results35, go_sem, d0, d1, d2]) rfl ⟨A1, c1, rfl, TrS.mono (TrS.of_own ho4 hf4 (fn (by omega) (by omega)) hn) (fun g k => k.elim .inl (fun k => .inr (by omega))), hb4⟩
theorem pgarbage_any (n : Int) (w : World) (hn : fits n) :
    Calls Try.prog 36 #[.int .i64 n] w fun e w' => e = .returned (.agg #[.int .i64 10, .int .i64 n, .slice none 0 0]) ∧ Below w.heap.size w w' := by
  go_enter Try.func36, Try.ntmps36
  go_wp2_with fail
  exact bodyPost_ret (v := .agg #[.int .i64 10, .int .i64 n, .slice none 0 0]) (by simp [results, Try.results36, go_sem]) rfl ⟨rfl, (Below.refl _ _).alloc (Nat.le_refl _) _⟩
set_option maxRecDepth 100000 in
set_option maxHeartbeats 2000000 in
theorem rsame_any (ts : List Tm) (w : World) (A B : Option Addr) (c d : Nat) (ha : Tr w (.mk 0 0 ts) A c) (hb : Tr w (.mk 0 0 ts) B d) :
    Calls Try.prog 37 #[.slice A ts.length c, .slice B ts.length d] w fun e w' => e = .returned (.bool true) ∧ Below w.heap.size w w' := by
  have hfit := ha.ofits
  simp only [Tm.args_mk] at hfit
  have hfb := hb.ofits
  simp only [Tm.args_mk] at hfb
  have hcm := hfit.2.2.2
  have hcl := hfit.2.2.1
  have hdl := hfb.2.2.1
  have hdm := hfb.2.2.2
  clear hfit hfb
  unfold maxLen at hcm hdm
  have TT := Lib.hid ha
  have TU := Lib.hid hb
  have hm := follows_mixed
  clear ha hb
  go_enter Try.func37, Try.ntmps37
  go_wp2_with fail
  go_loopw [5] (fun i wr => ∃ k : Nat, k ≤ ts.length ∧ i = .int .i64 k ∧ Below w.heap.size w wr) (fun i _ => ts.length - (intOf i).toNat)
  case atStart => exact ⟨0, Nat.zero_le _, rfl, Below.refl _ _⟩
  case round =>
    obtain ⟨k, hk, rfl, hb⟩ := hrel
    by_cases hkl : k < ts.length
    · obtain ⟨g, k0, AA, CC, rfl, c0, c1, c2, htr⟩ := (TT.out.bel hb).at k hkl
      obtain ⟨g', k0', BB', DD, rfl, c0', c1', c2', htr'⟩ := (TU.out.bel hb).at k hkl
      have x1 : (0 : Int) ≤ (k : Int) := by omega
      have x2 : (k : Int) < (ts.length : Int) := by omega
      have x4 : decide ((k : Int) < (ts.length : Int)) = true := by simp; omega
      have x5 : decide (k < ts.length) = true := by simp; omega
      simp only [Tm.args_mk] at c0 c1 c2 c0' c1' c2' htr htr'
      have G4 := cell_regrown c0
      have G5 := cell_regrown c1
      have G6 := cell_regrown c2
      have G7 := cell_regrown c0'
      have G8 := cell_regrown c1'
      have G9 := cell_regrown c2'
      have HC : Hid (∀ n os, Calls Try.prog 16 #[.agg #[.int .i64 (ts[k]).op, .int .i64 (ts[k]).val, .slice AA (ts[k]).args.length CC], .agg #[.int .i64 (ts[k]).op, .int .i64 (ts[k]).val, .slice BB' (ts[k]).args.length DD]] (grow (redrawn wr n) os) fun e w'' => e = .returned (.bool true) ∧ ∃ p : Regrown, w'' = grow (redrawn wr p.d) p.os) :=
        Lib.hid (fun n os => by
          have h := requal_any (ts[k]) (ts[k]) (grow (redrawn wr n) os) AA BB' CC DD (htr.bel (below_regrown wr n os)) (htr'.bel (below_regrown wr n os))
          rw [equT_iff.2 rfl] at h
          exact Calls.regrown_of h)
      have Hb := Lib.hid hb
      clear htr htr' hb c0 c1 c2 c0' c1' c2'
      go_wp2_with fail
      refine wp_region_quiet_below (by assumption) (by kernel_rfl) ?_
      repeat (go_big_quiet_step (with_reducible exact HC.out _ _))
      refine wpQuiet_nil ?_
      intro _ hw'
      obtain ⟨⟨dq, osq⟩, hw''⟩ := hw'
      subst hw''
      go_wp2_with fail
      go_roundw
      case rel => exact ⟨k + 1, by omega, by go_num, below_then Hb.out (below_regrown wr dq osq) Hb.out.size⟩
      case measure => simp [intOf]; omega
    · have x4 : decide ((k : Int) < (ts.length : Int)) = false := by simp; omega
      have x5 : decide (k < ts.length) = false := by simp; omega
      go_wp2_with fail
      exact bodyPost_ret (v := .bool true) (by simp [results, Try.results37, go_sem]) rfl ⟨rfl, hb⟩
end Go.Proofs.Ytokiodjdonbipaa
