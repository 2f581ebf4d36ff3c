/-
  The walk of the law TermCopies: terms keep what they were made of, whatever becomes of the lists that they were made from, and how many nodes they have.
  Conditions: none.
-/
import Derived.Test.YtokiodjdonbipaaTerms
import Derived.Test.YtokiodjdonbipaaSame
import Derived.Test.YtokiodjdonbipaaNodes
import Derived.Test.YtokiodjdonbipaaValid
import Derived.Deep.RegionHeld3
import Derived.Deep.DrawnRows
import Derived.Deep.DeepCutAuto
import Derived.Deep.Cut
import Derived.Deep.CutBlock
import Derived.LoopTactic
namespace Go.Proofs.Ytokiodjdonbipaa.termCopies
open Go.RowKit Go.Sort
set_option linter.unusedVariables false
attribute [local go_sem ↓] Go.wp_at_zero Go.wp_at_succ
/-- The list terms are valid, and small. -/
theorem list_small {ts : List Tm} (h : ∀ t ∈ ts, Fine 3 t) (hl : ts.length ≤ 5) : nodesL ts ≤ 65 ∧ (∀ n : Int, 0 ≤ n → validT (.mk 6 n ts) = true) ∧ validT (.mk 3 0 ts) = true ∧ nodesT (.mk 3 0 ts) = 1 + nodesL ts ∧ ∀ n, nodesT (.mk 6 n ts) = 1 + nodesL ts := by
  obtain ⟨h1, h2, h3⟩ := listL h
  have h4 : ts.length * nb 3 ≤ 5 * nb 3 := Nat.mul_le_mul_right _ hl
  simp only [nb] at h4 h2
  refine ⟨by omega, fun n hn => ?_, ?_, nodesT_mk _ _ _, fun n => nodesT_mk _ _ _⟩
  · unfold validT
    rw [nodesT_mk, depthT_mk, formsT_mk, h3]
    simp [formN, hn]
    omega
  · unfold validT
    rw [nodesT_mk, depthT_mk, formsT_mk, h3]
    simp [formN]
    omega
theorem nodesL_take {ts : List Tm} {k : Nat} (h : k < ts.length) : nodesL (ts.take (k + 1)) = nodesL (ts.take k) + nodesT ts[k] := by
  induction ts generalizing k with
  | nil => simp at h
  | cons t ts ih =>
    cases k with
    | zero => simp [nodesL_cons, nodesL_nil]
    | succ k =>
      simp at h
      simp only [List.take_succ_cons, nodesL_cons, ih h, List.getElem_cons_succ]
      omega
theorem nodesL_take_le (ts : List Tm) (k : Nat) : nodesL (ts.take k) ≤ nodesL ts := by
  induction ts generalizing k with
  | nil => simp
  | cons t ts ih =>
    cases k with
    | zero => simp [nodesL_nil]
    | succ k => simp only [List.take_succ_cons, nodesL_cons]; have := ih k; omega
/-- What stays, whatever becomes of the row lb. -/
structure Kp (w V : World) (lb : Option Nat) (s : Nat) (ts : List Tm) (xs : List Value) (Aa : Option Addr) (ca : Nat) (Ab : Option Addr) (cb : Nat) : Prop where
  a : Blk V s 24 #[.int .i64 3, .int .i64 0, .slice Aa ts.length ca]
  ta : TrS (fun g => some g ≠ lb) V (.mk 3 0 ts) Aa ca
  b : Blk V (s + 1) 24 #[.int .i64 6, .int .i64 3, .slice Ab ts.length cb]
  tb : TrS (fun g => some g ≠ lb) V (.mk 6 3 ts) Ab cb
  f : Flat (fun g => some g ≠ lb) V ts xs
  na : some s ≠ lb
  nb : some (s + 1) ≠ lb
  gl : ∀ g, lb = some g → w.heap.size ≤ g
  bw : Below w.heap.size w V
section
variable {w V V' : World} {lb : Option Nat} {s : Nat} {ts : List Tm} {xs : List Value} {Aa Ab Ao : Option Addr} {ca cb co : Nat}
theorem Kp.only (h : Kp w V lb s ts xs Aa ca Ab cb) (hg : V.grownBy V' lb) : Kp w V' lb s ts xs Aa ca Ab cb :=
  ⟨h.a.same (hg.block s h.a.lt h.na), h.ta.keep fun g hS hl => hg.block g hl hS, h.b.same (hg.block _ h.b.lt h.nb), h.tb.keep fun g hS hl => hg.block g hl hS, h.f.map fun _ _ _ k => k.keep fun g hS hl => hg.block g hl hS, h.na, h.nb, h.gl,
   ⟨hg.os.trans h.bw.os, hg.tape.trans h.bw.tape, hg.output.trans h.bw.output, Nat.le_trans h.bw.size hg.size, fun i hi => (hg.block i (Nat.lt_of_lt_of_le hi h.bw.size) (fun e => by have := h.gl i e.symm; omega)).trans (h.bw.block i hi)⟩⟩
theorem Kp.bel (h : Kp w V lb s ts xs Aa ca Ab cb) (hb : Below V.heap.size V V') : Kp w V' lb s ts xs Aa ca Ab cb := h.only (only_of_below hb _)
/-- The row that is turned: from element k on it is as it was. -/
def Rw (V : World) (Al : Option Addr) (n : Nat) (xs : List Value) (k : Nat) : Prop := ∀ gl, Al = some ⟨gl, 0, none⟩ → ∃ cs : Array Value, Blk V gl 24 cs ∧ n * 3 ≤ cs.size ∧ ∀ j, k * 3 ≤ j → j < n * 3 → cs[j]? = xs[j]?
theorem Rw.bel {Al : Option Addr} {n k : Nat} (h : Rw V Al n xs k) (hb : Below V.heap.size V V') : Rw V' Al n xs k := fun gl e => by
  obtain ⟨cs, h1, h2⟩ := h gl e
  exact ⟨cs, h1.below hb h1.lt, h2⟩
theorem Rw.of_own {Al : Option Addr} {B n c : Nat} (h : V.ownsRow B 24 3 (.slice Al n c) n xs) : Rw V Al n xs 0 := fun gl e => by
  subst e
  rcases h.2 with ⟨h0, _⟩ | ⟨g, cap, cur, hv, hb, hg, hn, hm, hs, ht⟩
  · injection h0 with e; cases e
  · injection hv with e1 _ _
    injection e1 with e1
    injection e1 with e1 _ _
    subst e1
    refine ⟨cur, hg, by rw [hs]; exact Nat.mul_le_mul_right _ hn, fun j _ hj => ?_⟩
    rw [← ht, List.getElem?_take, if_pos hj]
    simp
theorem Rw.put {n k gl : Nat} (h : Rw V (some ⟨gl, 0, none⟩) n xs k) (u v x : Value) : Rw (((V.setCell ⟨gl, k * 3, none⟩ u).setCell ⟨gl, k * 3 + 1, none⟩ v).setCell ⟨gl, k * 3 + 2, none⟩ x) (some ⟨gl, 0, none⟩) n xs (k + 1) := fun g e => by
  obtain ⟨cs, h1, h2, h3⟩ := h gl rfl
  injection e with e
  injection e with e _ _
  subst e
  refine ⟨_, ((h1.put (k * 3) u).put (k * 3 + 1) v).put (k * 3 + 2) x, by simpa using h2, fun j hj hn => ?_⟩
  have e1 : k * 3 + 2 ≠ j := by omega
  have e2 : k * 3 + 1 ≠ j := by omega
  have e3 : k * 3 ≠ j := by omega
  rw [Array.getElem?_setIfInBounds_ne e1, Array.getElem?_setIfInBounds_ne e2, Array.getElem?_setIfInBounds_ne e3]
  exact h3 j (by omega) hn
end
set_option maxRecDepth 100000 in
set_option maxHeartbeats 4000000 in
theorem termCopies_walk (w : World) (A2 : Option Addr) (len cap : Nat) (h : Byts w A2 len) (hl : len ≤ cap ∧ cap ≤ maxLen) :
    Calls Try.prog 7 #[.slice A2 len cap] w fun e w' => e = .returned (.bool true) ∧ Below w.heap.size w w' := by
  obtain ⟨i0, hi0, hz0, hz1, hz2⟩ := info_parts term_info
  go_enter Try.func7, Try.ntmps7
  go_wp2_with fail
  refine (awake_any _).mono ?_
  rintro e w1 ⟨rfl, hb1⟩
  have hby : Byts w1 A2 len := by
    intro k hk
    obtain ⟨ad, x, e, hx, hc⟩ := h k hk
    exact ⟨ad, x, e, hx, (hb1.cell (World.block_lt_of_cell? w _ hc)).trans hc⟩
  have B1 := Lib.hid hb1
  have HB := Lib.hid hby
  clear hb1 h hby
  go_wp2_with fail
  refine (new_any A2 len cap 150 _ HB.out hl.1 hl.2 (by omega) (by omega)).mono ?_
  rintro e w2 ⟨gc, q, rfl, hgc, hcod, hq, hb2⟩
  have hgcw : w.heap.size ≤ gc := Nat.le_trans B1.out.size hgc
  have B2 := Lib.hid (below_then B1.out hb2 B1.out.size)
  have C2 := Lib.hid hcod
  clear hcod hq hb2 hgc
  go_wp2_with fail
  refine (cterms_any 2 5 gc q 0 w2 3 5 rfl rfl (by omega) (by omega) C2.out).mono ?_
  rintro e w3 ⟨ts, Al, cl, rfl, hco, hfi, hlen, hct⟩
  have hlt := hco.lt
  obtain ⟨A0, c0, xs, hv0, hown, hflat⟩ := hco
  injection hv0 with e1 _ e3
  subst e1; subst e3
  obtain ⟨hcl, hcm⟩ := own_cap hown
  have hcells := own_cells hown
  generalize hlb : (Value.slice Al ts.length cl).ownBlock = lb at hflat hlt
  have hS : Flat (fun g => some g ≠ lb) w3 ts xs := hflat.map' fun _ _ _ k => k.mono fun g hg => hg.2
  have HLB := Lib.hid hlb
  have B3 := Lib.hid (below_only B2.out hct.g B2.out.size hgcw)
  have HO := Lib.hid hown
  have HF := Lib.hid hS
  have HC := Lib.hid hcells
  have HFI := Lib.hid hfi
  have HLT := Lib.hid hlt
  have H23 : w2.heap.size ≤ w3.heap.size := hct.g.size
  have hb20 : w.heap.size ≤ w2.heap.size := B2.out.size
  have hl5 : ts.length ≤ 1000000 := by omega
  clear hlb hown hflat hS hcells hfi hlt hct C2 HB B1 B2
  go_wp2_with fail
  refine (plist_fl _ ts xs w3 Al cl HF.out HC.out hcl hcm hl5).mono ?_
  rintro e w4 ⟨Aa, ca, rfl, hta, hb4⟩
  have up : ∀ g, SN (fun g => some g ≠ lb) w3 g → some g ≠ lb := fun g hg => hg.elim id fun hg e => by have := HLT.out g e.symm; omega
  have HTA := Lib.hid (hta.mono up)
  have HF4 := Lib.hid (HF.out.bel hb4)
  have hc4 : ∀ j u, xs[j]? = some u → ∃ g k, Al = some ⟨g, k, none⟩ ∧ w4.cell? ⟨g, k + j, none⟩ = some u := fun j u hj => by
    obtain ⟨g, k, e, hc⟩ := HC.out j u hj
    exact ⟨g, k, e, (hb4.cell (World.block_lt_of_cell? w3 _ hc)).trans hc⟩
  have HC4 := Lib.hid hc4
  have HB4 := Lib.hid hb4
  have f3 : fits 3 := fn (by omega) (by omega)
  have F3 := Lib.hid f3
  clear hta up hc4 hb4 f3
  go_wp2_with fail
  refine (pderive_fl 3 F3.out _ ts xs w4 Al cl HF4.out HC4.out hcl hcm hl5).mono ?_
  rintro e w5 ⟨Ab, cb, rfl, htb, hb5⟩
  have h34 : w3.heap.size ≤ w4.heap.size := HB4.out.size
  have h45 : w4.heap.size ≤ w5.heap.size := hb5.size
  have up : ∀ g, SN (fun g => some g ≠ lb) w4 g → some g ≠ lb := fun g hg => hg.elim id fun hg e => by have := HLT.out g e.symm; omega
  have b35 := below_then HB4.out hb5 HB4.out.size
  have b1 : Blk ((w5.alloc (Obj.cells #[.int .i64 3, .int .i64 0, .slice Aa ts.length ca] 24)).alloc (Obj.cells #[.int .i64 6, .int .i64 3, .slice Ab ts.length cb] 24)) w5.heap.size 24 #[.int .i64 3, .int .i64 0, .slice Aa ts.length ca] := Blk.alloc (heap_alloc_new w5 _) _
  have b2 : Blk ((w5.alloc (Obj.cells #[.int .i64 3, .int .i64 0, .slice Aa ts.length ca] 24)).alloc (Obj.cells #[.int .i64 6, .int .i64 3, .slice Ab ts.length cb] 24)) (w5.heap.size + 1) 24 #[.int .i64 6, .int .i64 3, .slice Ab ts.length cb] := by
    have := heap_alloc_new (w5.alloc (Obj.cells #[.int .i64 3, .int .i64 0, .slice Aa ts.length ca] 24)) (Obj.cells #[.int .i64 6, .int .i64 3, .slice Ab ts.length cb] 24)
    simp only [World.size_alloc] at this
    exact this
  have bz : Below w5.heap.size w5 ((w5.alloc (Obj.cells #[.int .i64 3, .int .i64 0, .slice Aa ts.length ca] 24)).alloc (Obj.cells #[.int .i64 6, .int .i64 3, .slice Ab ts.length cb] 24)) := ((Below.refl _ _).alloc (Nat.le_refl _) _).alloc (by simp) _
  have b3z := below_then b35 bz b35.size
  have kp : Kp w ((w5.alloc (Obj.cells #[.int .i64 3, .int .i64 0, .slice Aa ts.length ca] 24)).alloc (Obj.cells #[.int .i64 6, .int .i64 3, .slice Ab ts.length cb] 24)) lb w5.heap.size ts xs Aa ca Ab cb := by
    refine ⟨b1, ((HTA.out.bel hb5).bel bz), b2, ((htb.mono up).bel bz), HF.out.bel b3z, ?_, ?_, ?_, below_then B3.out b3z B3.out.size⟩
    · intro e; have := HLT.out _ e.symm; omega
    · intro e; have := HLT.out _ e.symm; omega
    · intro g e
      have hh := HO.out.2
      rw [← HLB.out] at e
      rcases hh with ⟨h0, _⟩ | ⟨g', cap', cur, hv, hb, hg, _⟩
      · injection h0 with e1; subst e1; cases e
      · injection hv with e1; subst e1; injection e with e; subst e; exact Nat.le_trans hb20 hb
  have ho := own_same HO.out (w' := ((w5.alloc (Obj.cells #[.int .i64 3, .int .i64 0, .slice Aa ts.length ca] 24)).alloc (Obj.cells #[.int .i64 6, .int .i64 3, .slice Ab ts.length cb] 24))) (fun g _ hg => b3z.block g hg)
  have K := Lib.hid kp
  have HOV := Lib.hid ho
  clear HTA HF4 HC4 HB4 htb hb5 up b35 b1 b2 bz b3z kp ho HO HC HF B3 h34 h45 HLT
  go_upto_region 6 with (fail)
  generalize ((w5.alloc (Obj.cells #[.int .i64 3, .int .i64 0, .slice Aa ts.length ca] 24)).alloc (Obj.cells #[.int .i64 6, .int .i64 3, .slice Ab ts.length cb] 24)) = V at *
  generalize w5.heap.size = s at *
  go_cut [7] (fun v7 wx => ∃ Ao co, v7 = .slice Ao ts.length co ∧ TrS (fun g => some g ≠ lb) wx (.mk 0 0 ts) Ao co ∧ Below V.heap.size V wx)
  case first =>
    have hx := HOV.out
    have hlen3 := hx.1
    have hlbs : ∀ g, lb = some g → g < V.heap.size := fun g e => by
      rw [← HLB.out] at e
      rcases hx.2 with ⟨h0, _⟩ | ⟨g', cap', cur, hv, hb, hg, _⟩
      · injection h0 with e1; subst e1; cases e
      · injection hv with e1; subst e1; injection e with e; subst e
        exact (Array.getElem?_eq_some_iff.1 hg).1
    have HLS := Lib.hid hlbs
    clear hlbs
    rcases Al with _ | ad
    · have hn : ts = [] := by
        rcases hx.2 with ⟨_, h1⟩ | ⟨g', cap', cur, hv, _⟩
        · exact List.length_eq_zero_iff.1 h1
        · cases hv
      subst hn
      clear hx hlen3
      go_wp2_with fail
      go_meet
      exact ⟨none, 0, rfl, TrS.leaf _ _ _ _ _ _ f0 f0 (Nat.zero_le _), Below.refl _ _⟩
    · have hnews : ∀ j u, xs[j]? = some u → V.cell? (ad.add j) = some u := by
        intro j u hj
        obtain ⟨g, k, hA, hcc⟩ := own_cells hx j u hj
        injection hA with hA
        subst hA
        rw [add_at]
        exact hcc
      have hone := K.out.f.one'
      have h63 : 0 + ts.length ≤ maxLen := by unfold maxLen; omega
      have hbytes : (0 + ts.length) * 40 ≤ 140737488355328 := by omega
      have hown0 := World.ownsRow_nil V V.heap.size 24 3
      clear hx
      go_wp2_with (at_builtin; refine wpList_append_own _ rfl (.const (.slice none 0 0)) (.tmp 20) 22 rfl V.heap.size 24 i0 (.agg #[.int .i64 0, .int .i64 0, .slice none 0 0]) 3 40 Try.underlying22 hi0 hz0 hz1 hz2 rfl (by decide) (.slice none 0 0) 0 [] rfl hown0 ad ts.length cl xs rfl hlen3 hnews hone h63 hbytes (Nat.le_refl _) ?_; intro v1 w6 hown1 hg1 _; simp only [Nat.zero_add, List.nil_append] at hown1; obtain ⟨A1, c1, hv1⟩ := own_form hown1; subst hv1; have HO1 := Lib.hid hown1; have HG1 := Lib.hid hg1; clear hown1 hg1)
      go_meet
      have hb6 : RowKit.Below V.heap.size V w6 := (Below.refl _ _).grown HG1.out (Nat.le_refl _) (by simp [Value.ownBlock])
      exact ⟨A1, c1, rfl, (TrS.of_own HO1.out (K.out.f.bel hb6) f0 f0).mono (fun g k => k.elim id (fun k e => by have := HLS.out g e.symm; omega)), hb6⟩
  case rest =>
    obtain ⟨Ao, co, rfl, hto, hbv⟩ := hcut
    have R0 := Lib.hid ((Rw.of_own HOV.out).bel hbv)
    replace K := Lib.hid (K.out.bel hbv)
    have HTO := Lib.hid hto
    have hal : 0 < ts.length → ∃ gl, Al = some ⟨gl, 0, none⟩ ∧ lb = some gl := fun hp => by
      have e := HLB.out
      rcases HOV.out.2 with ⟨h0, h1⟩ | ⟨g', cap', cur, hv, _⟩
      · omega
      · injection hv with e1 _ _
        subst e1
        exact ⟨g', rfl, e.symm⟩
    have HAL := Lib.hid hal
    clear hto hbv HOV hal HLB
    generalize wc = Z at *
    go_wp2_with fail
    go_loopw [8, 9] (fun nn i wr => ∃ k q : Nat, k ≤ ts.length ∧ i = .int .i64 k ∧ nn = .int .i64 q ∧ q = 1 + nodesL (ts.take k) ∧ Kp w wr lb s ts xs Aa ca Ab cb ∧ TrS (fun g => some g ≠ lb) wr (.mk 0 0 ts) Ao co ∧ Rw wr Al ts.length xs k) (fun _ i _ => ts.length - (intOf i).toNat)
    case atStart => exact ⟨0, 1, Nat.zero_le _, rfl, rfl, by simp [nodesL_nil], K.out, HTO.out, R0.out⟩
    case round =>
      obtain ⟨k, q, hk, rfl, rfl, hq, hkp, hto, hrw⟩ := hrel
      have hsm := list_small HFI.out hlen
      have hq66 : q ≤ 66 := by have := nodesL_take_le ts k; omega
      by_cases hkl : k < ts.length
      · have x4 : decide ((k : Int) < (ts.length : Int)) = true := by simp; omega
        have x5 : decide (k < ts.length) = true := by simp; omega
        have x1 : (0 : Int) ≤ (k : Int) := by omega
        have x2 : (k : Int) < (ts.length : Int) := by omega
        obtain ⟨gl, hal, hlb⟩ := HAL.out (by omega)
        subst hal; subst hlb
        obtain ⟨cs, hbk, hcs, hrow⟩ := hrw gl rfl
        obtain ⟨A, c, htr, y0, y1, y2⟩ := hkp.f.at k hkl
        have c0 : wr.cell? ⟨gl, k * 3, none⟩ = some (.int .i64 (ts[k]).op) := (hbk.cell _).trans ((hrow _ (by omega) (by omega)).trans y0)
        have c1 : wr.cell? ⟨gl, k * 3 + 1, none⟩ = some (.int .i64 (ts[k]).val) := (hbk.cell _).trans ((hrow _ (by omega) (by omega)).trans y1)
        have c2 : wr.cell? ⟨gl, k * 3 + 2, none⟩ = some (.slice A (ts[k]).args.length c) := (hbk.cell _).trans ((hrow _ (by omega) (by omega)).trans y2)
        have hz := (HFI.out _ (List.getElem_mem hkl)).nodes
        simp only [nb] at hz
        have hN := pnodes_any ts[k] wr A c htr.tr
        have hmin : min (nodesT ts[k]) 601 = nodesT ts[k] := by omega
        rw [hmin] at hN
        have hq2 := nodesL_take hkl
        have hq' : q + nodesT ts[k] = 1 + nodesL (ts.take (k + 1)) := by omega
        have HQ := Lib.hid hq'
        have HN := Lib.hid hN
        have HK := Lib.hid hkp
        have HT := Lib.hid hto
        have HR := Lib.hid hrw
        have HBK := Lib.hid hbk
        generalize nodesT ts[k] = z at *
        generalize ts[k] = t at *
        clear hq hkp hto hrw hbk hrow y0 y1 y2 hN hmin hq2 hq' htr hsm
        have fk : fits (k : Int) := fn (by omega) (by omega)
        have FK := Lib.hid fk
        clear fk
        go_wp2_with fail
        refine HN.out.mono ?_
        rintro e w6 ⟨rfl, hb6⟩
        have HB6 := Lib.hid hb6
        clear hb6 c0 c1 c2
        go_wp2_with fail
        refine (pgarbage_any k w6 FK.out).mono ?_
        rintro e w7 ⟨rfl, hb7⟩
        have hb67 := below_then HB6.out hb7 HB6.out.size
        have HBK7 := Lib.hid (HBK.out.below hb67 HBK.out.lt)
        have HK7 := Lib.hid (HK.out.bel hb67)
        have HT7 := Lib.hid (HT.out.bel hb67)
        have HR7 := Lib.hid (HR.out.bel hb67)
        clear hb67 hb7 HB6 HBK HK HT HR
        obtain ⟨v0, q0⟩ : ∃ v, w7.cell? ⟨gl, k * 3, none⟩ = some v := ⟨_, (HBK7.out.cell _).trans (Array.getElem?_eq_getElem (by omega))⟩
        obtain ⟨v1, q1⟩ : ∃ v, w7.cell? ⟨gl, k * 3 + 1, none⟩ = some v := ⟨_, (HBK7.out.cell _).trans (Array.getElem?_eq_getElem (by omega))⟩
        obtain ⟨v2, q2⟩ : ∃ v, w7.cell? ⟨gl, k * 3 + 2, none⟩ = some v := ⟨_, (HBK7.out.cell _).trans (Array.getElem?_eq_getElem (by omega))⟩
        have g0 := HBK7.out.free (k * 3)
        have g1 := HBK7.out.free (k * 3 + 1)
        have g2 := HBK7.out.free (k * 3 + 2)
        go_wp2_with fail
        go_roundw
        case rel =>
          have hg := only_put (only_put (only_put (only_refl w7 (some gl)) (k * 3) (.int .i64 10)) (k * 3 + 1) (.int .i64 (k : Int))) (k * 3 + 2) (.slice none 0 0)
          exact ⟨k + 1, q + z, by omega, by go_num, by go_num, HQ.out, HK7.out.only hg, HT7.out.keep (fun g hS hl => hg.block g hl hS), HR7.out.put _ _ _⟩
        case measure => simp [intOf]; omega
      · have x4 : decide ((k : Int) < (ts.length : Int)) = false := by simp; omega
        have x5 : decide (k < ts.length) = false := by simp; omega
        have hkn : k = ts.length := by omega
        have hqn : q = 1 + nodesL ts := by rw [hq, hkn, List.take_length]
        clear hq hrw R0 K HTO HAL hkn
        have HKP := Lib.hid hkp
        have HTO := Lib.hid hto
        have HSM := Lib.hid hsm
        have HQN := Lib.hid hqn
        clear hkp hto hsm hqn
        have k1 : ∀ n os, Calls Try.prog 37 #[.slice Aa ts.length ca, .slice Ao ts.length co] (grow (redrawn wr n) os) fun e w'' => e = .returned (.bool true) ∧ ∃ p : Regrown, w'' = grow (redrawn wr p.d) p.os := fun n os => by
          exact Calls.regrown_of (rsame_any ts _ Aa Ao ca co ((HKP.out.ta.tr.bel (below_regrown wr n os)).sup.re f0 f0).tr (HTO.out.tr.bel (below_regrown wr n os)))
        have k2 : ∀ n os, Calls Try.prog 37 #[.slice Ab ts.length cb, .slice Ao ts.length co] (grow (redrawn wr n) os) fun e w'' => e = .returned (.bool true) ∧ ∃ p : Regrown, w'' = grow (redrawn wr p.d) p.os := fun n os => by
          exact Calls.regrown_of (rsame_any ts _ Ab Ao cb co ((HKP.out.tb.tr.bel (below_regrown wr n os)).sup.re f0 f0).tr (HTO.out.tr.bel (below_regrown wr n os)))
        have k3 : ∀ n os, Calls Try.prog 29 #[.agg #[.int .i64 3, .int .i64 0, .slice Aa ts.length ca]] (grow (redrawn wr n) os) fun e w'' => e = .returned (.int .i64 (q : Nat)) ∧ ∃ p : Regrown, w'' = grow (redrawn wr p.d) p.os := fun n os => by
          have h := pnodes_any (.mk 3 0 ts) (grow (redrawn wr n) os) Aa ca (HKP.out.ta.tr.bel (below_regrown wr n os))
          have e : min (nodesT (.mk 3 0 ts)) 601 = q := by have := HSM.out.2.2.2.1; have := HQN.out; omega
          rw [e] at h
          exact Calls.regrown_of h
        have k4 : ∀ n os, Calls Try.prog 29 #[.agg #[.int .i64 6, .int .i64 3, .slice Ab ts.length cb]] (grow (redrawn wr n) os) fun e w'' => e = .returned (.int .i64 (q : Nat)) ∧ ∃ p : Regrown, w'' = grow (redrawn wr p.d) p.os := fun n os => by
          have h := pnodes_any (.mk 6 3 ts) (grow (redrawn wr n) os) Ab cb (HKP.out.tb.tr.bel (below_regrown wr n os))
          have e : min (nodesT (.mk 6 3 ts)) 601 = q := by have := HSM.out.2.2.2.2 3; have := HQN.out; omega
          rw [e] at h
          exact Calls.regrown_of h
        have k5 : ∀ n os, Calls Try.prog 27 #[.agg #[.int .i64 3, .int .i64 0, .slice Aa ts.length ca]] (grow (redrawn wr n) os) fun e w'' => e = .returned (.bool true) ∧ ∃ p : Regrown, w'' = grow (redrawn wr p.d) p.os := fun n os => by
          have h := pvalid_any (.mk 3 0 ts) (grow (redrawn wr n) os) Aa ca (HKP.out.ta.tr.bel (below_regrown wr n os))
          rw [HSM.out.2.2.1] at h
          exact Calls.regrown_of h
        have k6 : ∀ n os, Calls Try.prog 27 #[.agg #[.int .i64 6, .int .i64 3, .slice Ab ts.length cb]] (grow (redrawn wr n) os) fun e w'' => e = .returned (.bool true) ∧ ∃ p : Regrown, w'' = grow (redrawn wr p.d) p.os := fun n os => by
          have h := pvalid_any (.mk 6 3 ts) (grow (redrawn wr n) os) Ab cb (HKP.out.tb.tr.bel (below_regrown wr n os))
          rw [HSM.out.2.1 3 (by omega)] at h
          exact Calls.regrown_of h
        have K1 := Lib.hid k1
        have K2 := Lib.hid k2
        have K3 := Lib.hid k3
        have K4 := Lib.hid k4
        have K5 := Lib.hid k5
        have K6 := Lib.hid k6
        clear k1 k2 k3 k4 k5 k6
        have a0 : wr.cell? ⟨s, 0, none⟩ = some (.int .i64 3) := HKP.out.a.cell 0
        have G0 := cell_regrown a0
        have a1 : wr.cell? ⟨s, 1, none⟩ = some (.int .i64 0) := HKP.out.a.cell 1
        have G1 := cell_regrown a1
        have a2 : wr.cell? ⟨s, 2, none⟩ = some (.slice Aa ts.length ca) := HKP.out.a.cell 2
        have G2 := cell_regrown a2
        have b0 : wr.cell? ⟨s + 1, 0, none⟩ = some (.int .i64 6) := HKP.out.b.cell 0
        have G3 := cell_regrown b0
        have b1 : wr.cell? ⟨s + 1, 1, none⟩ = some (.int .i64 3) := HKP.out.b.cell 1
        have G4 := cell_regrown b1
        have b2 : wr.cell? ⟨s + 1, 2, none⟩ = some (.slice Ab ts.length cb) := HKP.out.b.cell 2
        have G5 := cell_regrown b2
        clear a0 a1 a2 b0 b1 b2
        have hmi : min (q : Int) 601 = q := by omega
        have hm := follows_mixed
        go_upto_region 13 with (fail)
        refine wp_region_quiet_below (by assumption) (by kernel_rfl) ?_
        repeat (go_big_quiet_step (first | with_reducible exact K1.out _ _ | with_reducible exact K2.out _ _ | with_reducible exact K3.out _ _ | with_reducible exact K4.out _ _ | with_reducible exact K5.out _ _ | with_reducible exact K6.out _ _))
        refine wpQuiet_nil ?_
        intro _ hw'
        obtain ⟨⟨dq, osq⟩, hw''⟩ := hw'
        subst hw''
        go_wp2_with fail
        exact bodyPost_ret (v := .bool true) (by simp [results, Try.results7, go_sem]) rfl ⟨rfl, below_then HKP.out.bw (below_regrown wr dq osq) HKP.out.bw.size⟩
end Go.Proofs.Ytokiodjdonbipaa.termCopies
