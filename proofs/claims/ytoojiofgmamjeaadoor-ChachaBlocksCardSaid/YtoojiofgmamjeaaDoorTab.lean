/-
  What the row's list gives: the table of the quarters lies in memory, cell for cell.
  Conditions: none.
-/
import Derived.Test.YtoojiofgmamjeaaDoorBlkP
import Derived.Test.YtoojiofgmamjeaaDoorRows
import Derived.Lib.LaidTab
import Derived.OpenShut
namespace Go.Proofs.YtoojiofgmamjeaaDoor
open Go.RowKit Go.ChangeShapes Go.WideShapes
set_option linter.unusedVariables false
theorem gTab : Tryd.prog.globalNamed "ipsecgate/chacha.quarters" = some 0 := by kernel_rfl
theorem gTabType : (Tryd.prog.globals[0]?).map (·.type) = some 45 := by kernel_rfl
theorem cellsT : Tryd.prog.cellsOf 45 = 32 := by kernel_rfl
theorem cellsR : Tryd.prog.cellsOf 44 = 4 := by kernel_rfl
theorem cellsI : Tryd.prog.cellsOf 3 = 1 := by kernel_rfl
theorem tab_row {enc : TypeId × Value → Unit} {w : World} {base : Nat} {spare : Nat → Bool} {held : Bool} {m i : Nat} {cs : List Value} {xs : List (DataW Unit × List MemPlace)} {zs : List Int} {ds : List (DataW Unit)}
    (h : DataW.trod enc Tryd.prog w base spare held m 44 ((cs.drop (i * 4)).take 4) = xs[i]?) (hx : xs.map (·.1) = ds) (hd : ds[i]? = some (Lib.tabData .i64 zs)) : (cs.drop (i * 4)).take 4 = zs.map fun z => Value.int .i64 z := by
  rw [← hx, List.getElem?_map] at hd
  cases hxi : xs[i]? with
  | none => rw [hxi] at hd; cases hd
  | some y =>
    rw [hxi] at h hd
    have h2 : y.1 = Lib.tabData .i64 zs := by simpa using hd
    obtain ⟨y1, y2⟩ := y
    simp only at h2
    subst h2
    exact Lib.cells_of_tab Tryd.underlying44 Tryd.underlying3 cellsI cellsR h
theorem table_of {W : World} (h : laidMetH Tryd.prog [("ipsecgate/chacha.quarters", Rows.laid_ipsecgate_chacha_quarters)] W) : Tab W := by
  obtain ⟨ps, ⟨g', t', cs, fuel, p, q, hg', ht', hvar, hd, _, _⟩, _⟩ := h
  obtain rfl := Option.some.inj (gTab.symm.trans hg')
  obtain rfl := Option.some.inj (gTabType.symm.trans ht')
  obtain ⟨cs⟩ := cs
  have hd : DataW.trod _ Tryd.prog W _ _ _ fuel 45 cs = _ := hd
  obtain ⟨xs, m, _, hx, hl, hlen, hi⟩ := DataW.trod_array Tryd.underlying45 hd
  rw [cellsT] at hl
  rw [cellsR] at hi
  have hxs : xs.map (·.1) = [Lib.tabData .i64 [0, 4, 8, 12], Lib.tabData .i64 [1, 5, 9, 13], Lib.tabData .i64 [2, 6, 10, 14], Lib.tabData .i64 [3, 7, 11, 15], Lib.tabData .i64 [0, 5, 10, 15], Lib.tabData .i64 [1, 6, 11, 12], Lib.tabData .i64 [2, 7, 8, 13], Lib.tabData .i64 [3, 4, 9, 14]] := by
    have h1 := congrArg Prod.fst hx
    have h2 : Rows.laid_ipsecgate_chacha_quarters = DataW.agg (xs.map (·.1)) := h1
    have h3 : (Rows.laid_ipsecgate_chacha_quarters : DataW Unit) = DataW.agg [Lib.tabData .i64 [0, 4, 8, 12], Lib.tabData .i64 [1, 5, 9, 13], Lib.tabData .i64 [2, 6, 10, 14], Lib.tabData .i64 [3, 7, 11, 15], Lib.tabData .i64 [0, 5, 10, 15], Lib.tabData .i64 [1, 6, 11, 12], Lib.tabData .i64 [2, 7, 8, 13], Lib.tabData .i64 [3, 4, 9, 14]] := rfl
    rw [h3] at h2
    injection h2 with h2
    exact h2.symm
  have r0 := tab_row (i := 0) (zs := [0, 4, 8, 12]) (hi 0 (by omega)) hxs rfl
  have r1 := tab_row (i := 1) (zs := [1, 5, 9, 13]) (hi 1 (by omega)) hxs rfl
  have r2 := tab_row (i := 2) (zs := [2, 6, 10, 14]) (hi 2 (by omega)) hxs rfl
  have r3 := tab_row (i := 3) (zs := [3, 7, 11, 15]) (hi 3 (by omega)) hxs rfl
  have r4 := tab_row (i := 4) (zs := [0, 5, 10, 15]) (hi 4 (by omega)) hxs rfl
  have r5 := tab_row (i := 5) (zs := [1, 6, 11, 12]) (hi 5 (by omega)) hxs rfl
  have r6 := tab_row (i := 6) (zs := [2, 7, 8, 13]) (hi 6 (by omega)) hxs rfl
  have r7 := tab_row (i := 7) (zs := [3, 4, 9, 14]) (hi 7 (by omega)) hxs rfl
  have e : cs = tab.toList := by
    have d0 : cs.drop (0 * 4) = (cs.drop (0 * 4)).take 4 ++ cs.drop (1 * 4) := by
      have := (List.take_append_drop 4 (cs.drop (0 * 4))).symm
      rw [List.drop_drop] at this
      exact this
    have d1 : cs.drop (1 * 4) = (cs.drop (1 * 4)).take 4 ++ cs.drop (2 * 4) := by
      have := (List.take_append_drop 4 (cs.drop (1 * 4))).symm
      rw [List.drop_drop] at this
      exact this
    have d2 : cs.drop (2 * 4) = (cs.drop (2 * 4)).take 4 ++ cs.drop (3 * 4) := by
      have := (List.take_append_drop 4 (cs.drop (2 * 4))).symm
      rw [List.drop_drop] at this
      exact this
    have d3 : cs.drop (3 * 4) = (cs.drop (3 * 4)).take 4 ++ cs.drop (4 * 4) := by
      have := (List.take_append_drop 4 (cs.drop (3 * 4))).symm
      rw [List.drop_drop] at this
      exact this
    have d4 : cs.drop (4 * 4) = (cs.drop (4 * 4)).take 4 ++ cs.drop (5 * 4) := by
      have := (List.take_append_drop 4 (cs.drop (4 * 4))).symm
      rw [List.drop_drop] at this
      exact this
    have d5 : cs.drop (5 * 4) = (cs.drop (5 * 4)).take 4 ++ cs.drop (6 * 4) := by
      have := (List.take_append_drop 4 (cs.drop (5 * 4))).symm
      rw [List.drop_drop] at this
      exact this
    have d6 : cs.drop (6 * 4) = (cs.drop (6 * 4)).take 4 ++ cs.drop (7 * 4) := by
      have := (List.take_append_drop 4 (cs.drop (6 * 4))).symm
      rw [List.drop_drop] at this
      exact this
    have d7 : cs.drop (7 * 4) = (cs.drop (7 * 4)).take 4 ++ cs.drop (8 * 4) := by
      have := (List.take_append_drop 4 (cs.drop (7 * 4))).symm
      rw [List.drop_drop] at this
      exact this
    have d8 : cs.drop (8 * 4) = [] := List.drop_eq_nil_of_le (by omega)
    have d : cs = cs.drop (0 * 4) := rfl
    rw [d, d0, r0, d1, r1, d2, r2, d3, r3, d4, r4, d5, r5, d6, r6, d7, r7, d8]
    rfl
  unfold World.var? at hvar
  rw [gTab] at hvar
  simp only [Option.bind_some] at hvar
  split at hvar
  · rename_i cs' t fr hh
    injection hvar with hvar
    refine ⟨t, fr, ?_⟩
    rw [hh, hvar, e]
  · cases hvar
end Go.Proofs.YtoojiofgmamjeaaDoor
