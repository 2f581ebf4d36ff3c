/-
  The contract of the terms that a law draws: a valid term of the depth, in new blocks.
  Conditions: the depth is from 1 to 1000; the choices lie as New lays them.
-/
import Derived.Test.YtddiclnkfhldlaaSt
import Derived.Deep.DeepCutAuto
import Derived.Deep.Cut
import Derived.Deep.CutBlock
import Derived.LoopTactic
namespace Go.Proofs.Ytddiclnkfhldlaa
open Go.RowKit Go.Sort
set_option linter.unusedVariables false
/-- Whether the choice is brought down to a term without arguments. -/
def KRel (w1 : World) (dp : Int) (r : Nat) (v : Value) (wx : World) : Prop := ∃ b : Bool, v = .bool b ∧ (b = true ↔ dp ≤ 1 ∧ 3 < r) ∧ wx = w1
set_option maxRecDepth 100000 in
set_option maxHeartbeats 4000000 in
theorem cterm_any (m : Nat) : ∀ (gc : Nat) (n : Ls) (p : Nat) (w : World) (dp : Int), dp = ((m + 1 : Nat) : Int) → m ≤ 1000 → Cod w gc n p →
    Calls Try.prog 20 #[.pointer (some ⟨gc, 0, none⟩), .int .i64 dp] w (TermPost w gc n p (m + 1)) := by
  induction m using Nat.strongRecOn with
  | _ m ih =>
  intro gc n p w dp hdp hm hcod
  have hst := St.start hcod
  have hIH : 2 ≤ dp → ∀ p W, Cod W gc n p → Calls Try.prog 20 #[.pointer (some ⟨gc, 0, none⟩), .int .i64 (dp - 1)] W (TermPost W gc n p m) := by
    intro h2 p W hW
    obtain ⟨k, rfl⟩ : ∃ k, m = k + 1 := ⟨m - 1, by omega⟩
    exact ih k (by omega) gc n p W (dp - 1) (by omega) (by omega) hW
  have d1 : 1 ≤ dp := by omega
  have d2 : dp ≤ 1001 := by omega
  have HST := Lib.hid hst
  have HIH := Lib.hid hIH
  have HM := Lib.hid hdp
  have hgw : gc < w.heap.size := hcod.lt
  clear hst hIH ih hcod hdp hm
  go_enter Try.func20, Try.ntmps20
  go_wp2_with fail
  refine (next_st 12 HST.out (by omega) (by omega)).mono ?_
  rintro e w1 ⟨r, rfl, hr, hs1, _⟩
  have HS := Lib.hid hs1
  clear hs1 HST
  go_upto_region 2 with (fail)
  go_cut [17] (KRel w1 dp r)
  case first =>
    have HK : Hid (∀ v : Bool, (v = true ↔ dp ≤ 1 ∧ 3 < r) → KRel w1 dp r (.bool v) w1) := Lib.hid (fun v h1 => ⟨v, rfl, h1, rfl⟩)
    by_cases h1 : dp ≤ 1
    · by_cases h3 : 3 < r
      · have q1 : decide (dp ≤ 1) = true := by simp; omega
        have q2 : decide (3 < (r : Int)) = true := by simp; omega
        go_wp2_with fail
        go_meet
        exact HK.out true (by simp; omega)
      · have q1 : decide (dp ≤ 1) = true := by simp; omega
        have q2 : decide (3 < (r : Int)) = false := by simp; omega
        go_wp2_with fail
        go_meet
        exact HK.out false (by simp; omega)
    · have q1 : decide (dp ≤ 1) = false := by simp; omega
      go_wp2_with fail
      go_meet
      exact HK.out false (by simp; omega)
  case rest =>
    obtain ⟨b, rfl, hb, rfl⟩ := hcut
    cases b
    · have hk : dp ≤ 1 → r ≤ 3 := by
        intro h
        have h2 : ¬ (dp ≤ 1 ∧ 3 < r) := fun h => by have := hb.2 h; cases this
        omega
      clear hb
      rcases (by omega : r = 0 ∨ r = 1 ∨ r = 2 ∨ r = 3 ∨ (r = 4 ∧ 2 ≤ dp) ∨ (r = 5 ∧ 2 ≤ dp) ∨ (r = 6 ∧ 2 ≤ dp) ∨ (r = 7 ∧ 2 ≤ dp) ∨ (r = 8 ∧ 2 ≤ dp) ∨ (r = 9 ∧ 2 ≤ dp) ∨ (r = 10 ∧ 2 ≤ dp) ∨ (r = 11 ∧ 2 ≤ dp)) with rfl | rfl | rfl | rfl | ⟨rfl, h2⟩ | ⟨rfl, h2⟩ | ⟨rfl, h2⟩ | ⟨rfl, h2⟩ | ⟨rfl, h2⟩ | ⟨rfl, h2⟩ | ⟨rfl, h2⟩ | ⟨rfl, h2⟩
      all_goals clear hk hr
      · go_wp2_with fail
        refine (next_st 6 HS.out (by omega) (by omega)).mono ?_
        rintro e w2 ⟨x, rfl, hx, hs_H2, hg_H2⟩
        have H2 := Lib.hid hs_H2
        clear hs_H2 hg_H2
        go_wp2_with fail
        refine (rnumber_any (S0 w) (x : Nat) _ (fn (by omega) (by omega))).mono ?_
        rintro e w3 ⟨A, c, rfl, ht, hb⟩
        have hs3 := H2.out.bel hb
        have ht3 := ht.mono (sn_s0 H2.out)
        clear ht hb
        have c0 : w3.cell? ⟨w.heap.size, 0, none⟩ = some (.int .i64 0) := hs3.z.cell 0
        have c1 : w3.cell? ⟨w.heap.size, 1, none⟩ = some (.int .i64 0) := hs3.z.cell 1
        have c2 : w3.cell? ⟨w.heap.size, 2, none⟩ = some (.slice none 0 0) := hs3.z.cell 2
        have fz0 := hs3.z.free 0
        have fz1 := hs3.z.free 1
        have fz2 := hs3.z.free 2
        have HSF := Lib.hid hs3
        have HTF := Lib.hid ht3
        clear hs3 ht3
        go_wp2_with fail
        exact term_ret (t := .mk 1 (x : Nat) []) HSF.out HTF.out (fine_leaf (.inl rfl) (by omega)) rfl rfl
      · go_wp2_with fail
        refine (name_st HS.out).mono ?_
        rintro e w2 ⟨v, rfl, hv0, hv1, hs_H2, hg_H2⟩
        have H2 := Lib.hid hs_H2
        have f_v : fits v := fn hv0 (by omega)
        clear hg_H2
        have ht3 : TrS (S0 w) w2 (.mk 2 v []) none 0 := TrS.leaf _ _ _ _ _ _ (fn (by omega) (by omega)) f_v (Nat.zero_le _)
        have c0 : w2.cell? ⟨w.heap.size, 0, none⟩ = some (.int .i64 0) := hs_H2.z.cell 0
        have c1 : w2.cell? ⟨w.heap.size, 1, none⟩ = some (.int .i64 0) := hs_H2.z.cell 1
        have c2 : w2.cell? ⟨w.heap.size, 2, none⟩ = some (.slice none 0 0) := hs_H2.z.cell 2
        have fz0 := hs_H2.z.free 0
        have fz1 := hs_H2.z.free 1
        have fz2 := hs_H2.z.free 2
        have HSF := Lib.hid hs_H2
        have HTF := Lib.hid ht3
        clear hs_H2 ht3
        go_wp2_with fail
        exact term_ret (t := .mk 2 v []) HSF.out HTF.out (fine_leaf (.inr ⟨.inl rfl, hv0⟩) (by omega)) rfl rfl
      · go_wp2_with fail
        refine (name_st HS.out).mono ?_
        rintro e w2 ⟨v, rfl, hv0, hv1, hs_H2, hg_H2⟩
        have H2 := Lib.hid hs_H2
        have f_v : fits v := fn hv0 (by omega)
        clear hg_H2
        have ht3 : TrS (S0 w) w2 (.mk 2 v []) none 0 := TrS.leaf _ _ _ _ _ _ (fn (by omega) (by omega)) f_v (Nat.zero_le _)
        have c0 : w2.cell? ⟨w.heap.size, 0, none⟩ = some (.int .i64 0) := hs_H2.z.cell 0
        have c1 : w2.cell? ⟨w.heap.size, 1, none⟩ = some (.int .i64 0) := hs_H2.z.cell 1
        have c2 : w2.cell? ⟨w.heap.size, 2, none⟩ = some (.slice none 0 0) := hs_H2.z.cell 2
        have fz0 := hs_H2.z.free 0
        have fz1 := hs_H2.z.free 1
        have fz2 := hs_H2.z.free 2
        have HSF := Lib.hid hs_H2
        have HTF := Lib.hid ht3
        clear hs_H2 ht3
        go_wp2_with fail
        exact term_ret (t := .mk 2 v []) HSF.out HTF.out (fine_leaf (.inr ⟨.inl rfl, hv0⟩) (by omega)) rfl rfl
      · go_wp2_with fail
        refine (next_st 3 HS.out (by omega) (by omega)).mono ?_
        rintro e w2 ⟨x, rfl, hx, hs_H2, hg_H2⟩
        have H2 := Lib.hid hs_H2
        clear hg_H2
        have ht3 : TrS (S0 w) w2 (.mk 9 (x : Nat) []) none 0 := TrS.leaf _ _ _ _ _ _ (fn (by omega) (by omega)) (fn (by omega) (by omega)) (Nat.zero_le _)
        have c0 : w2.cell? ⟨w.heap.size, 0, none⟩ = some (.int .i64 0) := hs_H2.z.cell 0
        have c1 : w2.cell? ⟨w.heap.size, 1, none⟩ = some (.int .i64 0) := hs_H2.z.cell 1
        have c2 : w2.cell? ⟨w.heap.size, 2, none⟩ = some (.slice none 0 0) := hs_H2.z.cell 2
        have fz0 := hs_H2.z.free 0
        have fz1 := hs_H2.z.free 1
        have fz2 := hs_H2.z.free 2
        have HSF := Lib.hid hs_H2
        have HTF := Lib.hid ht3
        clear hs_H2 ht3
        go_wp2_with fail
        exact term_ret (t := .mk 9 (x : Nat) []) HSF.out HTF.out (fine_leaf (.inr ⟨.inr (.inl rfl), by omega⟩) (by omega)) rfl rfl
      · have HT := Lib.hid (HIH.out h2)
        have hm1 : 1 ≤ m := by have := HM.out; omega
        go_wp2_with fail
        refine (next_st 4 HS.out (by omega) (by omega)).mono ?_
        rintro e w2 ⟨x, rfl, hx, hs_H2, hg_H2⟩
        have H2 := Lib.hid hs_H2
        clear hs_H2 hg_H2
        go_wp2_with fail
        go_loopw [6, 7] (fun l nn wr => ∃ k : Nat, ∃ ts : List Tm, nn = .int .i64 k ∧ k + ts.length ≤ 3 ∧ (∀ t ∈ ts, Fine m t) ∧ Coll (w.heap.size + 1) wr l ts ∧ St w gc n p wr) (fun _ nn _ => (intOf nn).toNat)
        case atStart => exact ⟨x, [], rfl, by simp; omega, by simp, Coll.nil _ _, H2.out⟩
        case round =>
          obtain ⟨k, ts, rfl, hk, hfi, hco, hsr⟩ := hrel
          obtain ⟨Al, cl, rfl, _⟩ := hco.tr
          have HFI := Lib.hid hfi
          have HCO := Lib.hid hco
          have HSR := Lib.hid hsr
          have hsz := hsr.sz
          clear hfi hco hsr
          by_cases hk0 : 0 < k
          · have q0 : decide (0 < (k : Int)) = true := by simp; omega
            go_wp2_with fail
            refine (term_st HT.out HSR.out).mono ?_
            rintro e w3 ⟨t, A, c, rfl, ht, hf, hs3, hg3⟩
            have hB : w.heap.size + 1 ≤ w3.heap.size := by have := hg3.size; omega
            have hts : ts.length ≤ 1000000 := by omega
            have HC3 := Lib.hid (HCO.out.only hg3 (by omega))
            have HT3 := Lib.hid (ht.mono (S' := fun g => w.heap.size + 1 ≤ g ∧ some g ≠ (Value.slice Al ts.length cl).ownBlock) (fun g hg => ⟨by omega, fun e => by have := HCO.out.lt g e.symm; omega⟩))
            have HS3 := Lib.hid hs3
            have HF := Lib.hid hf
            have hcp : ∀ A' c' w4, Coll (w.heap.size + 1) w4 (.slice A' (ts.length + 1) c') (ts ++ [t]) → (w3.alloc (.cells #[.int .i64 t.op, .int .i64 t.val, .slice A t.args.length c] 30)).grownBy w4 (Value.slice Al ts.length cl).ownBlock → St w gc n p w4 := fun A' c' w4 _ hg4 => by
              obtain ⟨A0, c0, xs, hv0, ho0, _⟩ := HC3.out.alloc (.cells #[.int .i64 t.op, .int .i64 t.val, .slice A t.args.length c] 30)
              exact (HS3.out.alloc _).own ho0 (by omega) hg4
            have HCP := Lib.hid hcp
            have hfi' : ∀ u ∈ ts ++ [t], Fine m u := by
              intro u hu
              rcases List.mem_append.1 hu with hu | hu
              · exact HFI.out u hu
              · simp at hu; subst hu; exact HF.out
            have HFI' := Lib.hid hfi'
            clear ht hf hs3 hg3 hcp hfi'
            go_wp2_with (at_builtin; refine wpList_append_term rfl (.tmp 45) (.tmp 50) rfl HC3.out HT3.out hts hB w3.heap.size rfl rfl rfl ?_; intro A' c' w4 hC4 hg4; have HC4 := Lib.hid hC4; have HS4 := Lib.hid (HCP.out A' c' w4 hC4 hg4); clear hC4 hg4)
            go_roundw
            case rel => exact ⟨k - 1, ts ++ [t], by go_num, by simp; omega, HFI'.out, by simpa using HC4.out, HS4.out⟩
            case measure => simp [intOf]; omega
          · have q0 : decide (0 < (k : Int)) = false := by simp; omega
            obtain ⟨Al', cl', hal, htl⟩ := HCO.out.tr
            injection hal with e1 e2 e3
            subst e1; subst e3
            have htl0 := htl.mono (S' := S0 w) (fun g hg => by unfold S0; omega)
            have HTL := Lib.hid htl0
            clear htl htl0
            go_wp2_with fail
            refine (rlist_any (S0 w) ts _ _ _ HTL.out (by omega)).mono ?_
            rintro e w4 ⟨A4, c4, rfl, ht4, hb4⟩
            have hs5 := HSR.out.bel hb4
            have ht5 := ht4.mono (sn_s0 HSR.out)
            clear ht4 hb4
            have c0 : w4.cell? ⟨w.heap.size, 0, none⟩ = some (.int .i64 0) := hs5.z.cell 0
            have c1 : w4.cell? ⟨w.heap.size, 1, none⟩ = some (.int .i64 0) := hs5.z.cell 1
            have c2 : w4.cell? ⟨w.heap.size, 2, none⟩ = some (.slice none 0 0) := hs5.z.cell 2
            have fz0 := hs5.z.free 0
            have fz1 := hs5.z.free 1
            have fz2 := hs5.z.free 2
            have HSF := Lib.hid hs5
            have HTF := Lib.hid ht5
            clear hs5 ht5
            go_wp2_with fail
            exact term_ret (t := .mk 3 0 ts) HSF.out HTF.out (fine_list HFI.out (by omega)) rfl rfl
      · have HT := Lib.hid (HIH.out h2)
        have hm1 : 1 ≤ m := by have := HM.out; omega
        go_wp2_with fail
        refine (next_st 4 HS.out (by omega) (by omega)).mono ?_
        rintro e w2 ⟨x, rfl, hx, hs_H2, hg_H2⟩
        have H2 := Lib.hid hs_H2
        clear hs_H2 hg_H2
        go_wp2_with fail
        go_loopw [6, 7] (fun l nn wr => ∃ k : Nat, ∃ ts : List Tm, nn = .int .i64 k ∧ k + ts.length ≤ 3 ∧ (∀ t ∈ ts, Fine m t) ∧ Coll (w.heap.size + 1) wr l ts ∧ St w gc n p wr) (fun _ nn _ => (intOf nn).toNat)
        case atStart => exact ⟨x, [], rfl, by simp; omega, by simp, Coll.nil _ _, H2.out⟩
        case round =>
          obtain ⟨k, ts, rfl, hk, hfi, hco, hsr⟩ := hrel
          obtain ⟨Al, cl, rfl, _⟩ := hco.tr
          have HFI := Lib.hid hfi
          have HCO := Lib.hid hco
          have HSR := Lib.hid hsr
          have hsz := hsr.sz
          clear hfi hco hsr
          by_cases hk0 : 0 < k
          · have q0 : decide (0 < (k : Int)) = true := by simp; omega
            go_wp2_with fail
            refine (term_st HT.out HSR.out).mono ?_
            rintro e w3 ⟨t, A, c, rfl, ht, hf, hs3, hg3⟩
            have hB : w.heap.size + 1 ≤ w3.heap.size := by have := hg3.size; omega
            have hts : ts.length ≤ 1000000 := by omega
            have HC3 := Lib.hid (HCO.out.only hg3 (by omega))
            have HT3 := Lib.hid (ht.mono (S' := fun g => w.heap.size + 1 ≤ g ∧ some g ≠ (Value.slice Al ts.length cl).ownBlock) (fun g hg => ⟨by omega, fun e => by have := HCO.out.lt g e.symm; omega⟩))
            have HS3 := Lib.hid hs3
            have HF := Lib.hid hf
            have hcp : ∀ A' c' w4, Coll (w.heap.size + 1) w4 (.slice A' (ts.length + 1) c') (ts ++ [t]) → (w3.alloc (.cells #[.int .i64 t.op, .int .i64 t.val, .slice A t.args.length c] 30)).grownBy w4 (Value.slice Al ts.length cl).ownBlock → St w gc n p w4 := fun A' c' w4 _ hg4 => by
              obtain ⟨A0, c0, xs, hv0, ho0, _⟩ := HC3.out.alloc (.cells #[.int .i64 t.op, .int .i64 t.val, .slice A t.args.length c] 30)
              exact (HS3.out.alloc _).own ho0 (by omega) hg4
            have HCP := Lib.hid hcp
            have hfi' : ∀ u ∈ ts ++ [t], Fine m u := by
              intro u hu
              rcases List.mem_append.1 hu with hu | hu
              · exact HFI.out u hu
              · simp at hu; subst hu; exact HF.out
            have HFI' := Lib.hid hfi'
            clear ht hf hs3 hg3 hcp hfi'
            go_wp2_with (at_builtin; refine wpList_append_term rfl (.tmp 45) (.tmp 50) rfl HC3.out HT3.out hts hB w3.heap.size rfl rfl rfl ?_; intro A' c' w4 hC4 hg4; have HC4 := Lib.hid hC4; have HS4 := Lib.hid (HCP.out A' c' w4 hC4 hg4); clear hC4 hg4)
            go_roundw
            case rel => exact ⟨k - 1, ts ++ [t], by go_num, by simp; omega, HFI'.out, by simpa using HC4.out, HS4.out⟩
            case measure => simp [intOf]; omega
          · have q0 : decide (0 < (k : Int)) = false := by simp; omega
            obtain ⟨Al', cl', hal, htl⟩ := HCO.out.tr
            injection hal with e1 e2 e3
            subst e1; subst e3
            have htl0 := htl.mono (S' := S0 w) (fun g hg => by unfold S0; omega)
            have HTL := Lib.hid htl0
            clear htl htl0
            go_wp2_with fail
            refine (rlist_any (S0 w) ts _ _ _ HTL.out (by omega)).mono ?_
            rintro e w4 ⟨A4, c4, rfl, ht4, hb4⟩
            have hs5 := HSR.out.bel hb4
            have ht5 := ht4.mono (sn_s0 HSR.out)
            clear ht4 hb4
            have c0 : w4.cell? ⟨w.heap.size, 0, none⟩ = some (.int .i64 0) := hs5.z.cell 0
            have c1 : w4.cell? ⟨w.heap.size, 1, none⟩ = some (.int .i64 0) := hs5.z.cell 1
            have c2 : w4.cell? ⟨w.heap.size, 2, none⟩ = some (.slice none 0 0) := hs5.z.cell 2
            have fz0 := hs5.z.free 0
            have fz1 := hs5.z.free 1
            have fz2 := hs5.z.free 2
            have HSF := Lib.hid hs5
            have HTF := Lib.hid ht5
            clear hs5 ht5
            go_wp2_with fail
            exact term_ret (t := .mk 3 0 ts) HSF.out HTF.out (fine_list HFI.out (by omega)) rfl rfl
      · have HT := Lib.hid (HIH.out h2)
        have hm1 : 1 ≤ m := by have := HM.out; omega
        go_wp2_with fail
        refine (name_st HS.out).mono ?_
        rintro e w2 ⟨v, rfl, hv0, hv1, hs_H2, hg_H2⟩
        have H2 := Lib.hid hs_H2
        have f_v : fits v := fn hv0 (by omega)
        clear hs_H2 hg_H2
        go_wp2_with fail
        refine (rpublic_any (S0 w) (.mk 2 v []) _ none 0 (TrS.leaf _ _ _ _ _ _ (fn (by omega) (by omega)) f_v (Nat.zero_le _))).mono ?_
        rintro e w3 ⟨A, c, rfl, ht, hb⟩
        have hs3 := H2.out.bel hb
        have ht3 := ht.mono (sn_s0 H2.out)
        clear ht hb
        have c0 : w3.cell? ⟨w.heap.size, 0, none⟩ = some (.int .i64 0) := hs3.z.cell 0
        have c1 : w3.cell? ⟨w.heap.size, 1, none⟩ = some (.int .i64 0) := hs3.z.cell 1
        have c2 : w3.cell? ⟨w.heap.size, 2, none⟩ = some (.slice none 0 0) := hs3.z.cell 2
        have fz0 := hs3.z.free 0
        have fz1 := hs3.z.free 1
        have fz2 := hs3.z.free 2
        have HSF := Lib.hid hs3
        have HTF := Lib.hid ht3
        clear hs3 ht3
        go_wp2_with fail
        exact term_ret (t := .mk 4 0 [.mk 2 v []]) HSF.out HTF.out (fine_public (fine_leaf (.inr ⟨.inl rfl, hv0⟩) (by omega))) rfl rfl
      · have HT := Lib.hid (HIH.out h2)
        have hm1 : 1 ≤ m := by have := HM.out; omega
        go_wp2_with fail
        refine (name_st HS.out).mono ?_
        rintro e w2 ⟨v, rfl, hv0, hv1, hs_H2, hg_H2⟩
        have H2 := Lib.hid hs_H2
        have f_v : fits v := fn hv0 (by omega)
        clear hs_H2 hg_H2
        go_wp2_with fail
        refine (rpublic_any (S0 w) (.mk 2 v []) _ none 0 (TrS.leaf _ _ _ _ _ _ (fn (by omega) (by omega)) f_v (Nat.zero_le _))).mono ?_
        rintro e w3 ⟨A, c, rfl, ht, hb⟩
        have H3 := Lib.hid (H2.out.bel hb)
        have T3 := Lib.hid (ht.mono (sn_s0 H2.out))
        clear ht hb
        go_wp2_with fail
        refine (name_st H3.out).mono ?_
        rintro e w4 ⟨u, rfl, hu0, hu1, hs_H4, hg_H4⟩
        have H4 := Lib.hid hs_H4
        have f_u : fits u := fn hu0 (by omega)
        have T4 := Lib.hid (T3.out.later H3.out hg_H4)
        clear hs_H4 hg_H4
        go_wp2_with fail
        refine (ragree_any (S0 w) (.mk 2 v []) (.mk 2 u []) _ A none c 0 T4.out (TrS.leaf _ _ _ _ _ _ (fn (by omega) (by omega)) f_u (Nat.zero_le _))).mono ?_
        rintro e w5 ⟨A5, c5, rfl, ht5, hb5⟩
        have hs5 := H4.out.bel hb5
        have ht6 := ht5.mono (sn_s0 H4.out)
        have hfin : Fine (m + 1) (agreeT (.mk 2 v []) (.mk 2 u [])) := by
          obtain ⟨m', rfl⟩ : ∃ m', m = m' + 1 := ⟨m - 1, by omega⟩
          have g1 := fine_leaf (d := m' + 1) (o := 2) (v := v) (.inr ⟨.inl rfl, hv0⟩) (by omega)
          have g2 := fine_leaf (d := m' + 1) (o := 2) (v := u) (.inr ⟨.inl rfl, hu0⟩) (by omega)
          unfold agreeT
          by_cases hl : lessT (.mk 2 u []) (.mk 2 v []) = true
          · rw [if_pos hl]; exact fine_shared g2 g1 (lessT_asymm hl)
          · rw [if_neg hl]; exact fine_shared g1 g2 (by simpa using hl)
        have HFN := Lib.hid hfin
        generalize agreeT (.mk 2 v []) (.mk 2 u []) = ta at *
        have b6 : Blk _ w5.heap.size _ _ := heap_alloc_new w5 (Obj.cells #[.int .i64 ta.op, .int .i64 ta.val, .slice A5 ta.args.length c5] 30)
        have hs6 := hs5.alloc (Obj.cells #[.int .i64 ta.op, .int .i64 ta.val, .slice A5 ta.args.length c5] 30)
        have ht7 := ht6.alloc (Obj.cells #[.int .i64 ta.op, .int .i64 ta.val, .slice A5 ta.args.length c5] 30)
        have B6 := Lib.hid b6
        have H6 := Lib.hid hs6
        have T6 := Lib.hid ht7
        clear ht5 hb5 hfin b6 hs6 ht7 hs5 ht6
        go_upto_region 24 with (fail)
        generalize w5.alloc (Obj.cells #[.int .i64 ta.op, .int .i64 ta.val, .slice A5 ta.args.length c5] 30) = w6 at *
        generalize w5.heap.size = X at *
        have x0 : w6.cell? ⟨X, 0, none⟩ = some (.int .i64 ta.op) := B6.out.cell 0
        have x1 : w6.cell? ⟨X, 1, none⟩ = some (.int .i64 ta.val) := B6.out.cell 1
        have x2 : w6.cell? ⟨X, 2, none⟩ = some (.slice A5 ta.args.length c5) := B6.out.cell 2
        have hs7 := H6.out
        have ht8 := T6.out
        have c0 : w6.cell? ⟨w.heap.size, 0, none⟩ = some (.int .i64 0) := hs7.z.cell 0
        have c1 : w6.cell? ⟨w.heap.size, 1, none⟩ = some (.int .i64 0) := hs7.z.cell 1
        have c2 : w6.cell? ⟨w.heap.size, 2, none⟩ = some (.slice none 0 0) := hs7.z.cell 2
        have fz0 := hs7.z.free 0
        have fz1 := hs7.z.free 1
        have fz2 := hs7.z.free 2
        have HSF := Lib.hid hs7
        have HTF := Lib.hid ht8
        clear hs7 ht8
        go_wp2_with fail
        exact term_ret (t := ta) HSF.out HTF.out HFN.out rfl rfl
      · have HT := Lib.hid (HIH.out h2)
        have hm1 : 1 ≤ m := by have := HM.out; omega
        go_wp2_with fail
        refine (next_st 9 HS.out (by omega) (by omega)).mono ?_
        rintro e w2 ⟨x, rfl, hx, hs_H2, hg_H2⟩
        have H2 := Lib.hid hs_H2
        clear hs_H2 hg_H2
        go_wp2_with fail
        refine (term_st HT.out H2.out).mono ?_
        rintro e w3 ⟨t, A, c, rfl, ht_t, hf_t, hs_H3, hg_H3⟩
        have H3 := Lib.hid hs_H3
        have T_t := Lib.hid (ht_t.mono (up_s0 H2.out))
        have F_t := Lib.hid hf_t
        have e1 : ((x + 1 : Nat) : Int) = 1 + (x : Int) := by omega
        have b3 := heap_alloc_new w3 (Obj.cells #[.int .i64 t.op, .int .i64 t.val, .slice A t.args.length c] 30)
        have hs4 := H3.out.alloc (Obj.cells #[.int .i64 t.op, .int .i64 t.val, .slice A t.args.length c] 30)
        have ht4 : TrS (S0 w) (w3.alloc (Obj.cells #[.int .i64 t.op, .int .i64 t.val, .slice A t.args.length c] 30)) (.mk 0 0 [t]) (some ⟨w3.heap.size, 0, none⟩) 1 := TrS.one b3 (up_s0 H3.out _ (Nat.le_refl _)) (T_t.out.alloc _) f0 f0
        have H4 := Lib.hid hs4
        have T4 := Lib.hid ht4
        have hx1 : fits (1 + (x : Int)) := fn (by omega) (by omega)
        clear hs_H3 hg_H3 ht_t hf_t b3 hs4 ht4 e1
        go_wp2_with fail
        refine (rderive_any (S0 w) (1 + (x : Int)) hx1 [t] _ _ _ T4.out (by simp)).mono ?_
        rintro e w5 ⟨A5, c5, rfl, ht5, hb5⟩
        have hs5 := H4.out.bel hb5
        have ht6 := ht5.mono (sn_s0 H4.out)
        clear ht5 hb5
        have c0 : w5.cell? ⟨w.heap.size, 0, none⟩ = some (.int .i64 0) := hs5.z.cell 0
        have c1 : w5.cell? ⟨w.heap.size, 1, none⟩ = some (.int .i64 0) := hs5.z.cell 1
        have c2 : w5.cell? ⟨w.heap.size, 2, none⟩ = some (.slice none 0 0) := hs5.z.cell 2
        have fz0 := hs5.z.free 0
        have fz1 := hs5.z.free 1
        have fz2 := hs5.z.free 2
        have HSF := Lib.hid hs5
        have HTF := Lib.hid ht6
        clear hs5 ht6
        go_wp2_with fail
        exact term_ret (t := .mk 6 (1 + (x : Int)) [t]) HSF.out HTF.out (fine_derive F_t.out (by omega)) rfl rfl
      · have HT := Lib.hid (HIH.out h2)
        have hm1 : 1 ≤ m := by have := HM.out; omega
        go_wp2_with fail
        refine (term_st HT.out HS.out).mono ?_
        rintro e w2 ⟨t, A, c, rfl, ht_t, hf_t, hs_H2, hg_H2⟩
        have H2 := Lib.hid hs_H2
        have T_t := Lib.hid (ht_t.mono (up_s0 HS.out))
        have F_t := Lib.hid hf_t
        clear hs_H2 hg_H2 ht_t hf_t
        go_wp2_with fail
        refine (term_st HT.out H2.out).mono ?_
        rintro e w3 ⟨u, B, d, rfl, ht_u, hf_u, hs_H3, hg_H3⟩
        have H3 := Lib.hid hs_H3
        have T_u := Lib.hid (ht_u.mono (up_s0 H2.out))
        have F_u := Lib.hid hf_u
        have T5 := Lib.hid (T_t.out.later H2.out hg_H3)
        clear hs_H3 hg_H3 ht_u hf_u
        go_wp2_with fail
        refine (rseal_any (S0 w) t u _ A B c d T5.out T_u.out).mono ?_
        rintro e w5 ⟨A5, c5, rfl, ht5, hb5⟩
        have hs5 := H3.out.bel hb5
        have ht6 := ht5.mono (sn_s0 H3.out)
        clear ht5 hb5
        have c0 : w5.cell? ⟨w.heap.size, 0, none⟩ = some (.int .i64 0) := hs5.z.cell 0
        have c1 : w5.cell? ⟨w.heap.size, 1, none⟩ = some (.int .i64 0) := hs5.z.cell 1
        have c2 : w5.cell? ⟨w.heap.size, 2, none⟩ = some (.slice none 0 0) := hs5.z.cell 2
        have fz0 := hs5.z.free 0
        have fz1 := hs5.z.free 1
        have fz2 := hs5.z.free 2
        have HSF := Lib.hid hs5
        have HTF := Lib.hid ht6
        clear hs5 ht6
        go_wp2_with fail
        exact term_ret (t := .mk 7 0 [t, u]) HSF.out HTF.out (fine_seal F_t.out F_u.out) rfl rfl
      · have HT := Lib.hid (HIH.out h2)
        have hm1 : 1 ≤ m := by have := HM.out; omega
        go_wp2_with fail
        refine (term_st HT.out HS.out).mono ?_
        rintro e w2 ⟨t, A, c, rfl, ht_t, hf_t, hs_H2, hg_H2⟩
        have H2 := Lib.hid hs_H2
        have T_t := Lib.hid (ht_t.mono (up_s0 HS.out))
        have F_t := Lib.hid hf_t
        clear hs_H2 hg_H2 ht_t hf_t
        go_wp2_with fail
        refine (term_st HT.out H2.out).mono ?_
        rintro e w3 ⟨u, B, d, rfl, ht_u, hf_u, hs_H3, hg_H3⟩
        have H3 := Lib.hid hs_H3
        have T_u := Lib.hid (ht_u.mono (up_s0 H2.out))
        have F_u := Lib.hid hf_u
        have T5 := Lib.hid (T_t.out.later H2.out hg_H3)
        clear hs_H3 hg_H3 ht_u hf_u
        go_wp2_with fail
        refine (rseal_any (S0 w) t u _ A B c d T5.out T_u.out).mono ?_
        rintro e w5 ⟨A5, c5, rfl, ht5, hb5⟩
        have hs5 := H3.out.bel hb5
        have ht6 := ht5.mono (sn_s0 H3.out)
        clear ht5 hb5
        have c0 : w5.cell? ⟨w.heap.size, 0, none⟩ = some (.int .i64 0) := hs5.z.cell 0
        have c1 : w5.cell? ⟨w.heap.size, 1, none⟩ = some (.int .i64 0) := hs5.z.cell 1
        have c2 : w5.cell? ⟨w.heap.size, 2, none⟩ = some (.slice none 0 0) := hs5.z.cell 2
        have fz0 := hs5.z.free 0
        have fz1 := hs5.z.free 1
        have fz2 := hs5.z.free 2
        have HSF := Lib.hid hs5
        have HTF := Lib.hid ht6
        clear hs5 ht6
        go_wp2_with fail
        exact term_ret (t := .mk 7 0 [t, u]) HSF.out HTF.out (fine_seal F_t.out F_u.out) rfl rfl
      · have HT := Lib.hid (HIH.out h2)
        have hm1 : 1 ≤ m := by have := HM.out; omega
        go_wp2_with fail
        refine (next_st 3 HS.out (by omega) (by omega)).mono ?_
        rintro e w2 ⟨x, rfl, hx, hs_H2, hg_H2⟩
        have H2 := Lib.hid hs_H2
        clear hs_H2 hg_H2
        go_wp2_with fail
        refine (term_st HT.out H2.out).mono ?_
        rintro e w3 ⟨t, A, c, rfl, ht_t, hf_t, hs_H3, hg_H3⟩
        have H3 := Lib.hid hs_H3
        have T_t := Lib.hid (ht_t.mono (up_s0 H2.out))
        have F_t := Lib.hid hf_t
        clear hs_H3 hg_H3 ht_t hf_t
        go_wp2_with fail
        refine (rsign_any (S0 w) (x : Nat) (fn (by omega) (by omega)) t _ A c T_t.out).mono ?_
        rintro e w5 ⟨A5, c5, rfl, ht5, hb5⟩
        have hs5 := H3.out.bel hb5
        have ht6 := ht5.mono (sn_s0 H3.out)
        clear ht5 hb5
        have c0 : w5.cell? ⟨w.heap.size, 0, none⟩ = some (.int .i64 0) := hs5.z.cell 0
        have c1 : w5.cell? ⟨w.heap.size, 1, none⟩ = some (.int .i64 0) := hs5.z.cell 1
        have c2 : w5.cell? ⟨w.heap.size, 2, none⟩ = some (.slice none 0 0) := hs5.z.cell 2
        have fz0 := hs5.z.free 0
        have fz1 := hs5.z.free 1
        have fz2 := hs5.z.free 2
        have HSF := Lib.hid hs5
        have HTF := Lib.hid ht6
        clear hs5 ht6
        go_wp2_with fail
        exact term_ret (t := .mk 8 (x : Nat) [t]) HSF.out HTF.out (fine_sign F_t.out (by omega)) rfl rfl
    · have h13 := hb.1 rfl
      have hr3 : 3 < r ∧ r < 12 := by omega
      clear hb h13
      rcases (by omega : (r : Int) % 4 = 0 ∨ (r : Int) % 4 = 1 ∨ (r : Int) % 4 = 2 ∨ (r : Int) % 4 = 3) with hq | hq | hq | hq
      · clear hr hr3
        go_wp2_with fail
        refine (next_st 6 HS.out (by omega) (by omega)).mono ?_
        rintro e w2 ⟨x, rfl, hx, hs_H2, hg_H2⟩
        have H2 := Lib.hid hs_H2
        clear hs_H2 hg_H2
        go_wp2_with fail
        refine (rnumber_any (S0 w) (x : Nat) _ (fn (by omega) (by omega))).mono ?_
        rintro e w3 ⟨A, c, rfl, ht, hb⟩
        have hs3 := H2.out.bel hb
        have ht3 := ht.mono (sn_s0 H2.out)
        clear ht hb
        have c0 : w3.cell? ⟨w.heap.size, 0, none⟩ = some (.int .i64 0) := hs3.z.cell 0
        have c1 : w3.cell? ⟨w.heap.size, 1, none⟩ = some (.int .i64 0) := hs3.z.cell 1
        have c2 : w3.cell? ⟨w.heap.size, 2, none⟩ = some (.slice none 0 0) := hs3.z.cell 2
        have fz0 := hs3.z.free 0
        have fz1 := hs3.z.free 1
        have fz2 := hs3.z.free 2
        have HSF := Lib.hid hs3
        have HTF := Lib.hid ht3
        clear hs3 ht3
        go_wp2_with fail
        exact term_ret (t := .mk 1 (x : Nat) []) HSF.out HTF.out (fine_leaf (.inl rfl) (by omega)) rfl rfl
      · clear hr hr3
        go_wp2_with fail
        refine (name_st HS.out).mono ?_
        rintro e w2 ⟨v, rfl, hv0, hv1, hs_H2, hg_H2⟩
        have H2 := Lib.hid hs_H2
        have f_v : fits v := fn hv0 (by omega)
        clear hg_H2
        have ht3 : TrS (S0 w) w2 (.mk 2 v []) none 0 := TrS.leaf _ _ _ _ _ _ (fn (by omega) (by omega)) f_v (Nat.zero_le _)
        have c0 : w2.cell? ⟨w.heap.size, 0, none⟩ = some (.int .i64 0) := hs_H2.z.cell 0
        have c1 : w2.cell? ⟨w.heap.size, 1, none⟩ = some (.int .i64 0) := hs_H2.z.cell 1
        have c2 : w2.cell? ⟨w.heap.size, 2, none⟩ = some (.slice none 0 0) := hs_H2.z.cell 2
        have fz0 := hs_H2.z.free 0
        have fz1 := hs_H2.z.free 1
        have fz2 := hs_H2.z.free 2
        have HSF := Lib.hid hs_H2
        have HTF := Lib.hid ht3
        clear hs_H2 ht3
        go_wp2_with fail
        exact term_ret (t := .mk 2 v []) HSF.out HTF.out (fine_leaf (.inr ⟨.inl rfl, hv0⟩) (by omega)) rfl rfl
      · clear hr hr3
        go_wp2_with fail
        refine (name_st HS.out).mono ?_
        rintro e w2 ⟨v, rfl, hv0, hv1, hs_H2, hg_H2⟩
        have H2 := Lib.hid hs_H2
        have f_v : fits v := fn hv0 (by omega)
        clear hg_H2
        have ht3 : TrS (S0 w) w2 (.mk 2 v []) none 0 := TrS.leaf _ _ _ _ _ _ (fn (by omega) (by omega)) f_v (Nat.zero_le _)
        have c0 : w2.cell? ⟨w.heap.size, 0, none⟩ = some (.int .i64 0) := hs_H2.z.cell 0
        have c1 : w2.cell? ⟨w.heap.size, 1, none⟩ = some (.int .i64 0) := hs_H2.z.cell 1
        have c2 : w2.cell? ⟨w.heap.size, 2, none⟩ = some (.slice none 0 0) := hs_H2.z.cell 2
        have fz0 := hs_H2.z.free 0
        have fz1 := hs_H2.z.free 1
        have fz2 := hs_H2.z.free 2
        have HSF := Lib.hid hs_H2
        have HTF := Lib.hid ht3
        clear hs_H2 ht3
        go_wp2_with fail
        exact term_ret (t := .mk 2 v []) HSF.out HTF.out (fine_leaf (.inr ⟨.inl rfl, hv0⟩) (by omega)) rfl rfl
      · clear hr hr3
        go_wp2_with fail
        refine (next_st 3 HS.out (by omega) (by omega)).mono ?_
        rintro e w2 ⟨x, rfl, hx, hs_H2, hg_H2⟩
        have H2 := Lib.hid hs_H2
        clear hg_H2
        have ht3 : TrS (S0 w) w2 (.mk 9 (x : Nat) []) none 0 := TrS.leaf _ _ _ _ _ _ (fn (by omega) (by omega)) (fn (by omega) (by omega)) (Nat.zero_le _)
        have c0 : w2.cell? ⟨w.heap.size, 0, none⟩ = some (.int .i64 0) := hs_H2.z.cell 0
        have c1 : w2.cell? ⟨w.heap.size, 1, none⟩ = some (.int .i64 0) := hs_H2.z.cell 1
        have c2 : w2.cell? ⟨w.heap.size, 2, none⟩ = some (.slice none 0 0) := hs_H2.z.cell 2
        have fz0 := hs_H2.z.free 0
        have fz1 := hs_H2.z.free 1
        have fz2 := hs_H2.z.free 2
        have HSF := Lib.hid hs_H2
        have HTF := Lib.hid ht3
        clear hs_H2 ht3
        go_wp2_with fail
        exact term_ret (t := .mk 9 (x : Nat) []) HSF.out HTF.out (fine_leaf (.inr ⟨.inr (.inl rfl), by omega⟩) (by omega)) rfl rfl
end Go.Proofs.Ytddiclnkfhldlaa
