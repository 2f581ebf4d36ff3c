/-
  The contracts of the choices that a law draws its bytes from, of the law's key, and of the reference's comparison of two equal lists.
  Conditions: the choices are a list of bytes.
-/
import Derived.Test.YtoojiofgmamjeaaDoorBlkP
import Derived.Deep.AppendLies
namespace Go.Proofs.YtoojiofgmamjeaaDoor
open Go.RowKit
set_option linter.unusedVariables false
theorem Byf.grown {w w' : World} {A : Option Addr} {n : Nat} {f : Nat → BitVec 8} {row : Option Nat} (h : Byf w A n f) (hb : w.grownBy w' row) (hne : 0 < n → ∀ g o s, A = some ⟨g, o, s⟩ → some g ≠ row) : Byf w' A n f := by
  intro k hk
  obtain ⟨g, o, e, hc⟩ := h k hk
  exact ⟨g, o, e, (World.cell?_of_block (a := ⟨g, o + k, none⟩) (hb.block g (World.block_lt_of_cell? w ⟨g, o + k, none⟩ hc) (hne (by omega) g o none e))).trans hc⟩
theorem Byf.some {w : World} {A : Option Addr} {n : Nat} {f : Nat → BitVec 8} (h : Byf w A n f) (hn : 0 < n) : ∃ g o, A = some ⟨g, o, none⟩ := by
  obtain ⟨g, o, e, _⟩ := h 0 hn
  exact ⟨g, o, e⟩
/-- A list of bytes that came in. -/
theorem byf_of {w : World} {A : Option Addr} {n : Nat} (h : Byts w A n) : ∃ f, Byf w A n f := by
  have key : ∀ k, k < n → ∃ x : BitVec 8, ∃ g o, A = some ⟨g, o, none⟩ ∧ w.cell? ⟨g, o + k, none⟩ = some (u8v x) := by
    intro k hk
    obtain ⟨ad, x, e, hx, hc⟩ := h k hk
    obtain ⟨ad', x', e', hx', hc'⟩ := h 0 (by omega)
    rw [e] at e'
    injection e' with e'
    subst e'
    have hsp : ad.spot = none := by
      unfold World.cell? at hc'
      simp only [Addr.add, if_true] at hc'
      split at hc'
      · split at hc'
        · cases hc'
        · rename_i hns
          simpa using hns
      · cases hc'
    obtain ⟨g, o, sp⟩ := ad
    simp only at hsp
    subst hsp
    refine ⟨BitVec.ofNat 8 x, g, o, e, ?_⟩
    have hadd : (⟨g, o, none⟩ : Addr).add k = ⟨g, o + k, none⟩ := by
      unfold Addr.add
      split
      · rename_i h; subst h; rfl
      · rfl
    rw [hadd] at hc
    rw [hc]
    unfold u8v
    rw [BitVec.toNat_ofNat, Nat.mod_eq_of_lt (by omega)]
  refine ⟨fun k => if hk : k < n then (key k hk).choose else 0#8, fun k hk => ?_⟩
  have := (key k hk).choose_spec
  simp only [dif_pos hk]
  exact this
/-- Two equal lists. -/
theorem compare_eq (A B : Option Addr) (n c d : Nat) (f : Nat → BitVec 8) (w : World) (ha : Byf w A n f) (hb : Byf w B n f) (hc : n ≤ c) (hd : n ≤ d) (hm : c ≤ maxLen) (hm2 : d ≤ maxLen) :
    Calls Tryd.prog 19 #[.slice A n c, .slice B n d] w fun e w' => e = .returned (.int .i64 0) ∧ ∃ d, w' = w.drewN d := by
  unfold maxLen at hm hm2
  have HA := Lib.hid ha
  have HB := Lib.hid hb
  clear ha hb
  go_enter Tryd.func19, Tryd.ntmps19
  go_wp2_with fail
  go_loopw [5] (fun i wr => ∃ k : Nat, k ≤ n ∧ i = .int .i64 k ∧ ∃ d, wr = w.drewN d) (fun i _ => n - (intOf i).toNat)
  case atStart => exact ⟨0, by omega, rfl, 0, rfl⟩
  case round =>
    obtain ⟨k, hk, rfl, dd, rfl⟩ := hrel
    by_cases hlt : k < n
    · obtain ⟨g, o, rfl⟩ := HA.out.some (by omega)
      obtain ⟨g2, o2, rfl⟩ := HB.out.some (by omega)
      have c0 : w.cell? ⟨g, o + k, none⟩ = some (.int .u8 ((f k).toNat : Nat)) := HA.out.at k hlt
      have c1 : w.cell? ⟨g2, o2 + k, none⟩ = some (.int .u8 ((f k).toNat : Nat)) := HB.out.at k hlt
      have q0 : (0 : Int) ≤ (k : Int) := by omega
      have q1 : (k : Int) < (n : Int) := by omega
      have q2 : decide ((k : Int) < (n : Int)) = true := by simp; omega
      have q3 : decide (k < n) = true := by simp; omega
      generalize f k = x at *
      go_wp2_with fail
      go_quiet (fail)
      go_wp2_with fail
      go_quiet (fail)
      go_wp2_with fail
      go_roundw
      case rel => exact ⟨k + 1, by omega, by go_num, _, rfl⟩
      case measure => simp [intOf]; omega
    · obtain rfl : k = n := by omega
      have q2 : decide ((k : Int) < (k : Int)) = false := by simp
      go_wp2_with fail
      go_ret
      exact ⟨rfl, _, rfl⟩
theorem equal_yes (A B : Option Addr) (n c d : Nat) (f : Nat → BitVec 8) (w : World) (ha : Byf w A n f) (hb : Byf w B n f) (hc : n ≤ c) (hd : n ≤ d) (hm : c ≤ maxLen) (hm2 : d ≤ maxLen) :
    Calls Tryd.prog 12 #[.slice A n c, .slice B n d] w fun e w' => e = .returned (.bool true) ∧ ∃ d, w' = w.drewN d := by
  have H := Lib.hid (compare_eq A B n c d f w ha hb hc hd hm hm2)
  clear ha hb
  go_enter Tryd.func12, Tryd.ntmps12
  go_wp2_with fail
  refine H.out.mono ?_
  rintro e w' ⟨rfl, d, rfl⟩
  go_wp2_with fail
  go_ret
  exact ⟨rfl, _, rfl⟩
/-- The choices behind the pointer to block gc. -/
def MCod (w : World) (gc : Nat) : Prop :=
  ∃ A n cap p f, p ≤ n ∧ n ≤ cap ∧ cap ≤ maxLen ∧ Blk w gc 52 #[.slice A n cap, .int .i64 (p : Nat)] ∧ Byf w A n f ∧ (0 < n → ∀ g o s, A = some ⟨g, o, s⟩ → g < gc)
theorem MCod.lt {w : World} {gc : Nat} (h : MCod w gc) : gc < w.heap.size := by
  obtain ⟨A, n, cap, p, f, _, _, _, hb, _⟩ := h
  exact hb.lt
theorem MCod.bel {w w' : World} {gc : Nat} (h : MCod w gc) (hb : Below w.heap.size w w') : MCod w' gc := by
  obtain ⟨A, n, cap, p, f, h1, h2, h3, h4, h5, h6⟩ := h
  exact ⟨A, n, cap, p, f, h1, h2, h3, h4.below hb h4.lt, h5.bel hb, h6⟩
theorem MCod.grown {w w' : World} {gc : Nat} {row : Option Nat} (h : MCod w gc) (hb : w.grownBy w' row) (hr : ∀ r, row = some r → gc < r) : MCod w' gc := by
  obtain ⟨A, n, cap, p, f, h1, h2, h3, h4, h5, h6⟩ := h
  exact ⟨A, n, cap, p, f, h1, h2, h3, h4.grown hb (fun e => Nat.lt_irrefl _ (hr _ e.symm)), h5.grown hb (fun hn g o s e e2 => by have := h6 hn g o s e; have := hr _ e2.symm; omega), h6⟩
theorem MCod.alloc {w : World} {gc : Nat} (h : MCod w gc) (o : Obj) : MCod (w.alloc o) gc := h.bel ((Below.refl _ _).alloc (Nat.le_refl _) _)
theorem mnew_any (A : Option Addr) (n cap : Nat) (w : World) (h : Byts w A n) (hn : n ≤ cap) (hcap : cap ≤ maxLen) :
    Calls Tryd.prog 14 #[.slice A n cap, .int .i64 60] w fun e w' => e = .returned (.pointer (some ⟨w.heap.size, 0, none⟩)) ∧ MCod w' w.heap.size ∧ Below w.heap.size w w' := by
  obtain ⟨f, hf⟩ := byf_of h
  have fin : ∀ (m cp : Nat), m ≤ n → m ≤ cp → cp ≤ maxLen → MCod (w.alloc (.cells #[.slice A m cp, .int .i64 0] 52)) w.heap.size := by
    intro m cp hm hmc hcp
    refine ⟨A, m, cp, 0, f, Nat.zero_le _, hmc, hcp, heap_alloc_new w _, fun k hk => (hf.alloc _) k (by omega), ?_⟩
    intro hm0 g o s e
    obtain ⟨g', o', e', hc⟩ := hf 0 (by omega)
    rw [e] at e'
    injection e' with e'
    injection e' with e1
    subst e1
    exact World.block_lt_of_cell? w ⟨g, _, none⟩ hc
  have hb : ∀ x, Below w.heap.size w (w.alloc x) := fun x => (Below.refl _ _).alloc (Nat.le_refl _) _
  have hm' : cap ≤ maxLen := hcap
  unfold maxLen at hcap
  have HF := Lib.hid fin
  have HB := Lib.hid hb
  clear h hf fin hb
  by_cases hgt : 60 < n
  · have q1 : decide ((60 : Int) < (n : Int)) = true := by simp; omega
    go_enter Tryd.func14, Tryd.ntmps14
    go_wp2_with fail
    go_ret
    exact ⟨rfl, HF.out 60 cap (by omega) (by omega) hm', HB.out _⟩
  · have q1 : decide ((60 : Int) < (n : Int)) = false := by simp; omega
    go_enter Tryd.func14, Tryd.ntmps14
    go_wp2_with fail
    go_ret
    exact ⟨rfl, HF.out n cap (by omega) hn hm', HB.out _⟩
theorem mleft_any (gc : Nat) (w : World) (A : Option Addr) (n cap p : Nat) (hp : p ≤ n) (hn : n ≤ maxLen) (h : Blk w gc 52 #[.slice A n cap, .int .i64 (p : Nat)]) :
    Calls Tryd.prog 24 #[.pointer (some ⟨gc, 0, none⟩)] w fun e w' => e = .returned (.bool (decide (p < n))) ∧ ∃ d, w' = w.drewN d := by
  have c0 : w.cell? ⟨gc, 0, none⟩ = some (.slice A n cap) := h.cell 0
  have c1 : w.cell? ⟨gc, 1, none⟩ = some (.int .i64 (p : Nat)) := h.cell 1
  unfold maxLen at hn
  go_enter Tryd.func24, Tryd.ntmps24
  go_wp2_with fail
  go_quiet (fail)
  go_wp2_with fail
  go_ret
  exact ⟨by simp, _, rfl⟩
/-- A byte is drawn. -/
def NxPost (gc : Nat) (w : World) (e : Ending) (w' : World) : Prop := ∃ r : BitVec 8, e = .returned (.int .i64 (r.toNat : Nat)) ∧ MCod w' gc ∧ w.grownBy w' (some gc)
theorem mnext_any (gc : Nat) (w : World) (h : MCod w gc) :
    Calls Tryd.prog 21 #[.pointer (some ⟨gc, 0, none⟩), .int .i64 256] w (NxPost gc w) := by
  obtain ⟨A, n, cap, p, f, h1, h2, h3, h4, h5, h6⟩ := h
  have hl := mleft_any gc w A n cap p h1 (Nat.le_trans h2 h3) h4
  have HL := Lib.hid hl
  have HB := Lib.hid h4
  have HF := Lib.hid h5
  have HN := Lib.hid h6
  have H3 := Lib.hid h3
  have hcap : n ≤ 9223372036854775807 := by unfold maxLen at h3; omega
  clear hl h4 h5 h6 h3
  by_cases hp : p < n
  · have q1 : decide (p < n) = true := by simp; omega
    rw [q1] at HL
    obtain ⟨g, o, rfl⟩ := HF.out.some (by omega)
    have hne : g ≠ gc := Nat.ne_of_lt (HN.out (by omega) g o none rfl)
    have c0 : w.cell? ⟨gc, 0, none⟩ = some (.slice (some ⟨g, o, none⟩) n cap) := HB.out.cell 0
    have c1 : w.cell? ⟨gc, 1, none⟩ = some (.int .i64 (p : Nat)) := HB.out.cell 1
    have f1 := HB.out.free 1
    have c2 : w.cell? ⟨g, o + p, none⟩ = some (.int .u8 ((f p).toNat : Nat)) := HF.out.at p hp
    have hx := (f p).isLt
    have hfin : ∀ d, MCod ((w.drewN d).setCell ⟨gc, 1, none⟩ (.int .i64 ((p : Int) + 1))) gc := fun d => by
      refine ⟨some ⟨g, o, none⟩, n, cap, p + 1, f, by omega, h2, H3.out, ?_, ?_, HN.out⟩
      · have := (HB.out.drewN d).put 1 (.int .i64 ((p : Int) + 1)); simpa using this
      · exact (HF.out.drewN d).grown (only_put (only_refl _ _) 1 _) (fun hn0 g' o' s' e hg' => Nat.ne_of_lt (HN.out hn0 g' o' s' e) (by injection hg'))
    have hgr : ∀ d, w.grownBy ((w.drewN d).setCell ⟨gc, 1, none⟩ (.int .i64 ((p : Int) + 1))) (some gc) := fun d => only_put (only_drewN (only_refl _ _) d) 1 _
    have M := Lib.hid hfin
    have G := Lib.hid hgr
    have X := Lib.hid (show ∃ r : BitVec 8, r = f p from ⟨_, rfl⟩)
    generalize f p = x at *
    have NE := Lib.hid hne
    clear hfin hgr X hne
    have t1 : ((p : Int) + 1 - 1) = (p : Int) := by omega
    have q2 : (p : Int) < (n : Int) := by omega
    have q3 : (x.toNat : Int) < 256 := by omega
    go_enter Tryd.func21, Tryd.ntmps21
    go_wp2_with fail
    refine HL.out.mono ?_
    rintro e w1 ⟨rfl, d, rfl⟩
    go_wp2_with fail
    have d0 : ((w.drewN d).setCell ⟨gc, 1, none⟩ (.int .i64 ((p : Int) + 1))).cell? ⟨gc, 0, none⟩ = some (.slice (some ⟨g, o, none⟩) n cap) := (World.cell?_setCell_other _ _ _ _ (by simp)).trans c0
    have d1 : ((w.drewN d).setCell ⟨gc, 1, none⟩ (.int .i64 ((p : Int) + 1))).cell? ⟨gc, 1, none⟩ = some (.int .i64 ((p : Int) + 1)) := World.cell?_setCell_same _ _ _ (show (w.drewN d).cell? _ = _ from c1)
    have d2 : ((w.drewN d).setCell ⟨gc, 1, none⟩ (.int .i64 ((p : Int) + 1))).cell? ⟨g, o + p, none⟩ = some (.int .u8 (x.toNat : Nat)) := (World.cell?_setCell_other _ _ _ _ (by intro e; injection e with e; exact NE.out e.symm)).trans c2
    have M1 := Lib.hid (M.out d)
    have G1 := Lib.hid (G.out d)
    clear M G
    generalize (w.drewN d).setCell ⟨gc, 1, none⟩ (.int .i64 ((p : Int) + 1)) = W2 at *
    have e1 : IntKind.i64.wrap ((p : Int) + 1 - 1) = (p : Int) := by rw [t1]; exact IntWalk.i64_in _ (by omega)
    have q4 : (0 : Int) ≤ (p : Int) := by omega
    go_quiet (fail)
    go_wp2_with fail
    go_ret
    refine ⟨x, ret_int ?_, M1.out, only_drewN G1.out _⟩
    first
    | (have h8 := Int.tmod_eq_emod_of_nonneg (a := (x.toNat : Int)) (b := 256) (by omega); rw [h8]; first | omega | (rw [IntKind.wrap_i64]; omega))
    | omega
  · have q1 : decide (p < n) = false := by simp; omega
    rw [q1] at HL
    go_enter Tryd.func21, Tryd.ntmps21
    go_wp2_with fail
    refine HL.out.mono ?_
    rintro e w1 ⟨rfl, d, rfl⟩
    go_wp2_with fail
    go_ret
    exact ⟨0#8, rfl, ⟨A, n, cap, p, f, h1, h2, H3.out, HB.out, HF.out, HN.out⟩, only_drewN (only_refl _ _) _⟩
theorem own_same {w w' : World} {base e size n : Nat} {v : Value} {xs : List Value} (h : w.ownsRow base e size v n xs) (hs : ∀ g, base ≤ g → g < w.heap.size → w'.heap[g]? = w.heap[g]?) : w'.ownsRow base e size v n xs := by
  refine ⟨h.1, ?_⟩
  rcases h.2 with h0 | ⟨g, cap, cur, hv, hb, hg, h1⟩
  · exact .inl h0
  · exact .inr ⟨g, cap, cur, hv, hb, (hs g hb (Array.getElem?_eq_some_iff.1 hg).1).trans hg, h1⟩
theorem codes_info : (Tryd.prog.info? 5).map (fun i => (i.zero, i.size, i.bytes)) = some (some (.int .u8 0), 1, 1) := by kernel_rfl
theorem own_ge {w : World} {base e size n : Nat} {v : Value} {xs : List Value} (h : w.ownsRow base e size v n xs) : ∀ g, v.ownBlock = some g → base ≤ g := by
  intro g hvg
  rcases h.2 with ⟨rfl, _⟩ | ⟨g', cap, cur, rfl, hb, _⟩
  · cases hvg
  · injection hvg with e
    subst e
    exact hb
/-- A list of so many bytes. -/
def Bys (xs : List Value) : Prop := ∀ (j : Nat) (u : Value), xs[j]? = some u → ∃ b : BitVec 8, u = .int .u8 (b.toNat : Nat)
/-- New bytes. -/
def MbPost (gc n : Nat) (w : World) (e : Ending) (w' : World) : Prop :=
  ∃ A c f, e = .returned (.slice A n c) ∧ n ≤ c ∧ c ≤ maxLen ∧ Byf w' A n f ∧ (0 < n → ∀ g o s, A = some ⟨g, o, s⟩ → w.heap.size ≤ g) ∧ MCod w' gc ∧ w.grownBy w' (some gc)
theorem mb_end {w w' : World} {gc n c : Nat} {A : Option Addr} {xs : List Value} (ho : w'.ownsRow w.heap.size 5 1 (.slice A n c) n xs) (hx : Bys xs) (hm : MCod w' gc) (hg : w.grownBy w' (some gc)) : MbPost gc n w (.returned (.slice A n c)) w' := by
  rcases ho.2 with ⟨h0, h1⟩ | ⟨g, cap, cur, hv, hbase, hh, hn, hmx, hs, ht⟩
  · injection h0 with e1 e2 e3
    subst e1; subst e3
    exact ⟨none, 0, fun _ => 0#8, rfl, by omega, Nat.zero_le _, fun k hk => absurd hk (by omega), fun h => absurd h (by omega), hm, hg⟩
  · injection hv with e1 e2 e3
    subst e1; subst e3
    have hl : xs.length = n := by rw [← ht]; simp; omega
    refine ⟨_, c, fun k => if h : k < n then (hx k _ (List.getElem?_eq_getElem (by omega : k < xs.length))).choose else 0#8, rfl, hn, hmx, fun k hk => ⟨g, 0, rfl, ?_⟩, ?_, hm, hg⟩
    · rw [Nat.zero_add, ho.cellAt k (by omega)]
      simp only [dif_pos hk]
      have hsp := (hx k _ (List.getElem?_eq_getElem (by omega : k < xs.length))).choose_spec
      rw [List.getElem?_eq_getElem (by omega : k < xs.length)]
      unfold u8v
      rw [← hsp]
    · intro _ g' o' s' e
      injection e with e
      injection e with e1
      omega
set_option maxHeartbeats 400000 in
theorem mbytes_any (gc n : Nat) (w : World) (hn : n ≤ 32) (h : MCod w gc) :
    Calls Tryd.prog 15 #[.pointer (some ⟨gc, 0, none⟩), .int .i64 (n : Nat)] w (MbPost gc n w) := by
  obtain ⟨i0, hi0, hz0, hz1, hz2⟩ := info_parts codes_info
  have H := Lib.hid h
  have hlt := h.lt
  clear h
  go_enter Tryd.func15, Tryd.ntmps15
  go_wp2_with fail
  go_loopw [5, 6] (fun v i wr => ∃ k : Nat, ∃ xs, k ≤ n ∧ i = .int .i64 k ∧ wr.ownsRow w.heap.size 5 1 v k xs ∧ Bys xs ∧ MCod wr gc ∧ w.grownBy wr (some gc)) (fun _ i _ => n - (intOf i).toNat)
  case atStart => exact ⟨0, [], by omega, rfl, World.ownsRow_nil _ _ _ _, fun j u hj => by simp at hj, H.out, only_refl _ _⟩
  case round =>
    obtain ⟨k, xs, hk, rfl, ho, hx, hm, hg⟩ := hrel
    obtain ⟨A, c', rfl⟩ : ∃ A c, u5 = .slice A k c := own_form ho
    have HO := Lib.hid ho
    have HX := Lib.hid hx
    have HM := Lib.hid hm
    have HG := Lib.hid hg
    clear ho hx hm hg H
    by_cases hlk : k < n
    · have q1 : decide ((k : Int) < (n : Int)) = true := by simp; omega
      go_wp2_with fail
      refine (mnext_any gc wr HM.out).mono ?_
      rintro e w2 ⟨r, rfl, hm2, hg2⟩
      have hr := r.isLt
      have HO2 := Lib.hid (show w2.ownsRow w.heap.size 5 1 (.slice A k c') k xs from own_same HO.out (fun g hgb hgl => hg2.block g hgl (fun e => by injection e; omega)))
      have HM2 := Lib.hid hm2
      have HG2 := Lib.hid (only_trans HG.out hg2)
      clear hm2 hg2
      have hbv : ((r.toNat : Int) + (k : Int) * 7) % 256 = ((BitVec.ofNat 8 (r.toNat + k * 7)).toNat : Int) := by
        rw [BitVec.toNat_ofNat]
        omega
      generalize BitVec.ofNat 8 (r.toNat + k * 7) = bb at *
      have hbase : w.heap.size ≤ (w2.alloc (Obj.cells #[.int .u8 (bb.toNat : Nat)] 5)).heap.size := Nat.le_trans HG2.out.size (by simp)
      have hown := HO2.out.alloc (Obj.cells #[.int .u8 (bb.toNat : Nat)] 5)
      have hnews := World.news_of_block (heap_alloc_new w2 (Obj.cells #[.int .u8 (bb.toNat : Nat)] 5))
      have h1 : ∀ u ∈ ([.int .u8 (bb.toNat : Nat)] : List Value), u.oneCell' = true := by
        intro u hu
        simp only [List.mem_cons, List.not_mem_nil, or_false] at hu
        rcases hu with rfl
        rfl
      have h63 : k + 1 ≤ maxLen := by unfold maxLen; omega
      have hbytes : (k + 1) * 1 ≤ 140737488355328 := by omega
      have HO1 := Lib.hid hown
      have HN := Lib.hid hnews
      have H1 := Lib.hid h1
      clear hown hnews h1
      go_wp2_with (at_builtin; refine wpList_append_lies _ rfl (.tmp 12) (.tmp 19) 22 rfl w.heap.size 5 i0 (.int .u8 0) 1 1 Tryd.underlying22 hi0 hz0 hz1 hz2 rfl (by decide) (.slice A k c') k xs rfl HO1.out ⟨w2.heap.size, 0, none⟩ 1 1 [.int .u8 (bb.toNat : Nat)] rfl rfl HN.out H1.out (by decide) h63 hbytes hbase (w2.heap.size + 1) (by simp) ?_; intro g9 c9 w9 hown9 hg9 _ _)
      go_roundw
      case rel =>
        have hge := own_ge HO2.out
        refine ⟨k + 1, xs ++ [.int .u8 (bb.toNat : Nat)], by omega, by go_num, hown9, ?_, ?_, ?_⟩
        · intro j u hj
          rw [List.getElem?_append] at hj
          split at hj
          · exact HX.out j u hj
          · rw [List.getElem?_singleton] at hj
            split at hj
            · injection hj with hj
              exact ⟨bb, hj.symm⟩
            · cases hj
        · exact (HM2.out.alloc _).grown hg9 (fun r hr => by have := hge r hr; omega)
        · have hg3 := only_alloc HG2.out (Obj.cells #[.int .u8 (bb.toNat : Nat)] 5)
          exact ⟨hg9.os.trans hg3.os, hg9.tape.trans hg3.tape, hg9.output.trans hg3.output, Nat.le_trans hg3.size hg9.size, fun i hi hn => (hg9.block i (Nat.lt_of_lt_of_le hi hg3.size) (fun e => by have := hge _ e.symm; omega)).trans (hg3.block i hi hn)⟩
      case measure => simp [intOf]; omega
    · obtain rfl : k = n := by omega
      have q1 : decide ((k : Int) < (k : Int)) = false := by simp
      go_wp2_with fail
      go_ret
      exact mb_end HO.out HX.out HM.out HG.out
/-- A key and a nonce. -/
def KeyPost (w : World) (e : Ending) (w' : World) : Prop :=
  ∃ g o c g2 o2 c2 f n, e = .returned (.tuple #[.slice (some ⟨g, o, none⟩) 32 c, .slice (some ⟨g2, o2, none⟩) 12 c2]) ∧ 32 ≤ c ∧ c ≤ maxLen ∧ 12 ≤ c2 ∧ c2 ≤ maxLen ∧ Byf w' (some ⟨g, o, none⟩) 32 f ∧ Byf w' (some ⟨g2, o2, none⟩) 12 n ∧ Below w.heap.size w w'
theorem key_any (A : Option Addr) (n cap : Nat) (w : World) (h : Byts w A n) (hn : n ≤ cap) (hcap : cap ≤ maxLen) :
    Calls Tryd.prog 7 #[.slice A n cap] w (KeyPost w) := by
  have HN := Lib.hid (mnew_any A n cap w h hn hcap)
  clear h
  go_enter Tryd.func7, Tryd.ntmps7
  go_wp2_with fail
  refine HN.out.mono ?_
  rintro e w1 ⟨rfl, hm, hb⟩
  have HM := Lib.hid hm
  have HB := Lib.hid hb
  clear hm hb HN
  go_wp2_with fail
  refine (mbytes_any w.heap.size 32 w1 (by omega) HM.out).mono ?_
  rintro e w2 ⟨A1, c1, f1, rfl, l1, m1, hf1, hge1, hm1, hg1⟩
  have HF1 := Lib.hid hf1
  have HM1 := Lib.hid hm1
  have HG1 := Lib.hid hg1
  have HE1 := Lib.hid hge1
  clear hf1 hm1 hg1 hge1
  go_wp2_with fail
  refine (mbytes_any w.heap.size 12 w2 (by omega) HM1.out).mono ?_
  rintro e w3 ⟨A2, c2, f2, rfl, l2, m2, hf2, hge2, hm2, hg2⟩
  have HF2 := Lib.hid hf2
  have HG2 := Lib.hid hg2
  clear hf2 hm2 hg2 hge2
  obtain ⟨g, o, rfl⟩ := HF1.out.some (by omega)
  obtain ⟨g2, o2, rfl⟩ := HF2.out.some (by omega)
  go_wp2_with fail
  go_ret2
  have hlt := HM.out.lt
  refine ⟨g, o, c1, g2, o2, c2, f1, f2, rfl, l1, m1, l2, m2, HF1.out.grown HG2.out (fun _ g' o' s' e e2 => ?_), HF2.out, ?_⟩
  · have := HE1.out (by omega) g' o' s' e
    injection e2 with e2
    omega
  · exact below_only (below_only HB.out HG1.out HB.out.size (Nat.le_refl _)) HG2.out (Nat.le_trans HB.out.size HG1.out.size) (Nat.le_refl _)
end Go.Proofs.YtoojiofgmamjeaaDoor
