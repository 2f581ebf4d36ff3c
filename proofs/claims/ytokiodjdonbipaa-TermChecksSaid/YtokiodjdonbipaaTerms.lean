/-
  The contracts of Codes.Terms, Garbage and the reference's Same.
  Conditions: none.
-/
import Derived.Test.YtokiodjdonbipaaTerm
import Derived.Test.YtokiodjdonbipaaClone
import Derived.LoopTactic
namespace Go.Proofs.Ytokiodjdonbipaa
open Go.RowKit Go.Sort
set_option linter.unusedVariables false
attribute [local go_sem ↓] Go.wp_at_zero Go.wp_at_succ
/-- The stream of codes of a call that has no box. -/
structure Ct (w : World) (gc n p : Nat) (wx : World) : Prop where
  c : ∃ p', p ≤ p' ∧ Cod wx gc n p'
  g : w.grownBy wx (some gc)
  l : gc < w.heap.size
theorem Ct.own {w wx wy : World} {gc n p : Nat} {B : Nat} {v : Value} {k : Nat} {xs : List Value} (h : Ct w gc n p wx) (ho : wx.ownsRow B 24 3 v k xs) (hB : w.heap.size ≤ B) (hg : wx.grownBy wy v.ownBlock) : Ct w gc n p wy := by
  have hv : ∀ g, v.ownBlock = some g → B ≤ g ∧ ∃ cs, wx.heap[g]? = some (.cells cs 24 (0, 0)) := by
    intro g hvg
    rcases ho.2 with ⟨rfl, _⟩ | ⟨g', cap, cur, rfl, hb, hh, _⟩
    · cases hvg
    · injection hvg with e
      subst e
      exact ⟨hb, cur, hh⟩
  have hl := h.l
  refine ⟨?_, ?_, h.l⟩
  · obtain ⟨p', hp, hc⟩ := h.c
    obtain ⟨h1, h2, A, cap, h3, hcap, h4⟩ := hc
    refine ⟨p', hp, h1, h2, A, cap, h3.grown hg (fun e => by have := (hv _ e.symm).1; omega), hcap, fun k hk => ?_⟩
    obtain ⟨ga, x, e, hne, hx, hT, hcell⟩ := h4 k hk
    have hlt := World.block_lt_of_cell? wx ⟨ga, k, none⟩ hcell
    have hga : some ga ≠ v.ownBlock := by
      intro e
      obtain ⟨_, cs, hcs⟩ := hv _ e.symm
      obtain ⟨cs', fr, hcs'⟩ := hT
      rw [hcs] at hcs'
      injection hcs' with hcs'
      injection hcs' with _ e2
      exact absurd e2 (by decide)
    exact ⟨ga, x, e, hne, hx, hT.same (hg.block ga hlt hga), (World.cell?_of_block (a := ⟨ga, k, none⟩) (hg.block ga hlt hga)).trans hcell⟩
  · refine ⟨hg.os.trans h.g.os, hg.tape.trans h.g.tape, hg.output.trans h.g.output, Nat.le_trans h.g.size hg.size, fun i hi hn => ?_⟩
    have hix := Nat.lt_of_lt_of_le hi h.g.size
    exact (hg.block i hix (fun e => by have := (hv _ e.symm).1; omega)).trans (h.g.block i hi hn)
/-- A drawn list of terms. -/
def TermsPost (w : World) (gc n p d most : Nat) (e : Ending) (w' : World) : Prop :=
  ∃ ts A c, e = .returned (.slice A ts.length c) ∧ Coll w.heap.size w' (.slice A ts.length c) ts ∧ (∀ t ∈ ts, Fine d t) ∧ ts.length ≤ most ∧ Ct w gc n p w'
set_option maxRecDepth 100000 in
set_option maxHeartbeats 2000000 in
theorem cterms_any (m most : Nat) (gc n p : Nat) (w : World) (dp mo : Int) (hdp : dp = ((m + 1 : Nat) : Int)) (hmo : mo = (most : Int)) (hm : m ≤ 1000) (hmost : most ≤ 1000) (hcod : Cod w gc n p) :
    Calls Try.prog 26 #[.pointer (some ⟨gc, 0, none⟩), .int .i64 mo, .int .i64 dp] w (TermsPost w gc n p (m + 1) most) := by
  have hl := hcod.lt
  have HS := Lib.hid hcod
  have hT : ∀ p W, Cod W gc n p → Calls Try.prog 12 #[.pointer (some ⟨gc, 0, none⟩), .int .i64 dp] W (TermPost W gc n p (m + 1)) := fun p W hc => cterm_any m gc n p W dp hdp hm hc
  have HT := Lib.hid hT
  have b1 : 0 ≤ mo := by omega
  have b2 : mo ≤ 1000 := by omega
  have HMO := Lib.hid hmo
  clear hT hdp hcod hmo
  go_enter Try.func26, Try.ntmps26
  go_wp2_with fail
  refine (next_any gc n p _ w HS.out (by omega) (by omega)).mono ?_
  rintro e w2 ⟨x, p2, rfl, hx, hc2, hp2, _, hg2⟩
  have H2 := Lib.hid (show Ct w gc n p w2 from ⟨⟨p2, hp2, hc2⟩, hg2, hl⟩)
  have hxm : x ≤ most := by have := HMO.out; omega
  clear hc2 hg2
  go_wp2_with fail
  go_loopw [7, 8] (fun l nn wr => ∃ k : Nat, ∃ ts : List Tm, nn = .int .i64 k ∧ k + ts.length ≤ most ∧ (∀ t ∈ ts, Fine (m + 1) t) ∧ Coll w.heap.size wr l ts ∧ Ct w gc n p wr) (fun _ nn _ => (intOf nn).toNat)
  case atStart => exact ⟨x, [], rfl, by simp; omega, by simp, Coll.nil _ _, H2.out⟩
  case round =>
    obtain ⟨k, ts, rfl, hk, hfi, hco, hsr⟩ := hrel
    obtain ⟨Al, cl, rfl, _⟩ := hco.tr
    have HFI := Lib.hid hfi
    have HCO := Lib.hid hco
    have HSR := Lib.hid hsr
    have hsz := hsr.g.size
    clear hfi hco hsr
    by_cases hk0 : 0 < k
    · have q0 : decide (0 < (k : Int)) = true := by simp; omega
      obtain ⟨p3, hp3, hc3⟩ := HSR.out.c
      have C3 := Lib.hid hc3
      clear hc3
      go_wp2_with fail
      refine (HT.out p3 _ C3.out).mono ?_
      rintro e w3 ⟨t, A, c, p4, rfl, ht, hf, hp4, hc4, hg3⟩
      have hB : w.heap.size ≤ w3.heap.size := by have := hg3.size; omega
      have hts : ts.length ≤ 1000000 := by omega
      have HC3 := Lib.hid (HCO.out.only hg3 hl)
      have HT3 := Lib.hid (ht.mono (S' := fun g => w.heap.size ≤ g ∧ some g ≠ (Value.slice Al ts.length cl).ownBlock) (fun g hg => ⟨by omega, fun e => by have := HCO.out.lt g e.symm; omega⟩))
      have HS3 := Lib.hid (show Ct w gc n p w3 from ⟨⟨p4, Nat.le_trans hp3 hp4, hc4⟩, only_trans HSR.out.g hg3, hl⟩)
      have HF := Lib.hid hf
      have hcp : ∀ A' c' w4, Coll w.heap.size w4 (.slice A' (ts.length + 1) c') (ts ++ [t]) → (w3.alloc (.cells #[.int .i64 t.op, .int .i64 t.val, .slice A t.args.length c] 24)).grownBy w4 (Value.slice Al ts.length cl).ownBlock → Ct w gc n p w4 := fun A' c' w4 _ hg4 => by
        obtain ⟨A0, c0, xs, hv0, ho0, _⟩ := HC3.out.alloc (.cells #[.int .i64 t.op, .int .i64 t.val, .slice A t.args.length c] 24)
        have h3 : Ct w gc n p (w3.alloc (.cells #[.int .i64 t.op, .int .i64 t.val, .slice A t.args.length c] 24)) := ⟨HS3.out.c.imp fun _ k => ⟨k.1, k.2.alloc _⟩, only_alloc HS3.out.g _, hl⟩
        exact h3.own ho0 (Nat.le_refl _) hg4
      have HCP := Lib.hid hcp
      have hfi' : ∀ u ∈ ts ++ [t], Fine (m + 1) u := by
        intro u hu
        rcases List.mem_append.1 hu with hu | hu
        · exact HFI.out u hu
        · simp at hu; subst hu; exact HF.out
      have HFI' := Lib.hid hfi'
      clear ht hf hc4 hg3 hcp hfi'
      go_wp2_with (at_builtin; refine wpList_append_term rfl (.tmp 17) (.tmp 21) rfl HC3.out HT3.out hts hB w3.heap.size rfl rfl rfl ?_; intro A' c' w4 hC4 hg4; have HC4 := Lib.hid hC4; have HS4 := Lib.hid (HCP.out A' c' w4 hC4 hg4); clear hC4 hg4)
      go_roundw
      case rel => exact ⟨k - 1, ts ++ [t], by go_num, by simp; omega, HFI'.out, by simpa using HC4.out, HS4.out⟩
      case measure => simp [intOf]; omega
    · have q0 : decide (0 < (k : Int)) = false := by simp; omega
      go_wp2_with fail
      exact bodyPost_ret (v := .slice Al ts.length cl) (by simp [results, Try.results26, go_sem]) rfl ⟨ts, Al, cl, rfl, HCO.out, HFI.out, by omega, HSR.out⟩
end Go.Proofs.Ytokiodjdonbipaa
